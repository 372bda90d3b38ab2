/-
  The reference's words, its name and its form of a call, what is amiss with a call, its text.
-/
import Derived.Test.YtekgdlpicgibhabDoorV
import Derived.Lib.ItoaLen
namespace Go.Proofs.YtekgdlpicgibhabDoor.SH
open Go.RowKit Go.Proofs.YtekgdlpicgibhabDoorW.PrintWords PT

/-- A call's cells. -/
def Cl.cells (c : Cl) (A : Option Addr) (cap : Nat) : List Value :=
  [.int .i64 c.op, .int .i64 c.h, .int .i64 c.h2, .int .i64 c.off, .int .i64 c.len, .string c.path, .string c.name, .string c.name2, .slice A c.data.length cap]
theorem by_app (a b : List UInt8) : by_ a ++ by_ b = by_ (a ++ b) := by
  apply ByteArray.ext
  simp [by_]
theorem by_size (a : List UInt8) : (by_ a).size = a.length := by simp [by_, ByteArray.size]
theorem by_data (a : List UInt8) : (by_ a).data.toList = a := by simp [by_]
theorem by_nil : by_ [] = ⟨#[]⟩ := rfl

theorem itoa_le (n : Int) (h : -9223372036854775808 ≤ n ∧ n ≤ 9223372036854775807) : (Lib.itoa n).length ≤ 21 := Lib.itoa_length_le n h.1 h.2
theorem spaced_le (l : List Int) (h : ∀ n ∈ l, -9223372036854775808 ≤ n ∧ n ≤ 9223372036854775807) : (spaced (l.map Lib.itoa)).length ≤ 22 * l.length := by
  induction l with
  | nil => simp [spaced]
  | cons a r ih =>
    have h1 := itoa_le a (h a (by simp))
    have h2 := ih (fun n hn => h n (by simp [hn]))
    simp only [spaced, List.map_cons, List.flatten_cons, List.length_append, List.length_cons] at h2 ⊢
    omega
set_option maxRecDepth 100000 in
set_option maxHeartbeats 4000000 in
theorem words11 {B : Nat} (L : List Int) (g c : Nat) (w : World) (hT : Tabs B w) (hB : B ≤ w.heap.size) (hg : g < w.heap.size) (hc : ∀ j x, L[j]? = some x → w.cell? ⟨g, j, none⟩ = some (.int .i64 x))
    (hlen : L.length ≤ 1073741824) (hr : ∀ n ∈ L, -9223372036854775808 ≤ n ∧ n ≤ 9223372036854775807) :
    Calls Tryd.prog 11 #[.slice (some ⟨g, 0, none⟩) L.length c] w fun e w' => e = .returned (.string (by_ (spaced (L.map Lib.itoa)))) ∧ Below w.heap.size w w' := by
  have HT := Lib.hid hT
  have HB := Lib.hid hB
  have HC := Lib.hid hc
  have HR := Lib.hid hr
  clear hT hB hc hr
  go_enter Tryd.func11, Tryd.ntmps11
  go_wp2
  go_loopw [3, 4] (fun v i wr => ∃ (k : Nat) (S : ByteArray), k ≤ L.length ∧ i = .int .i64 k ∧ v = .string S ∧ S = by_ (spaced ((L.take k).map Lib.itoa)) ∧ Below w.heap.size w wr) (fun _ i _ => L.length - (intOf i).toNat)
  case atStart => exact ⟨0, _, Nat.zero_le _, rfl, rfl, rfl, Below.refl _ _⟩
  case round =>
    obtain ⟨k, S, hk, rfl, rfl, hS, hb⟩ := hrel
    have Hb := Lib.hid hb
    have HS := Lib.hid hS
    have hsz : S.size ≤ 22 * L.length := by
      rw [hS, by_size]
      have h := spaced_le (L.take k) (fun n hn => HR.out n (List.mem_of_mem_take hn))
      have h2 : (L.take k).length ≤ L.length := by simp; omega
      omega
    clear hb hS
    by_cases hlt : k < L.length
    · obtain ⟨x, hx⟩ : ∃ x, L[k]? = some x := ⟨L[k], by simp [hlt]⟩
      have hcell : wr.cell? ⟨g, k, none⟩ = some (.int .i64 x) := by rw [cell_below Hb.out _ hg]; exact HC.out k x hx
      have hn : -9223372036854775808 ≤ x ∧ x ≤ 9223372036854775807 := HR.out _ (List.mem_of_getElem? hx)
      obtain ⟨X, hX⟩ : ∃ X, X = by_ (Lib.itoa x) := ⟨_, rfl⟩
      have hXs : X.size ≤ 21 := by rw [hX, by_size]; exact itoa_le x hn
      have htk : S ++ ⟨#[32]⟩ ++ X = by_ (spaced ((L.take (k + 1)).map Lib.itoa)) := by
        rw [List.take_add_one, hx, HS.out, hX, show (⟨#[32]⟩ : ByteArray) = by_ [32] from rfl, by_app, by_app]
        simp [spaced_snoc]
      have Htk := Lib.hid htk
      have Hn := Lib.hid hn
      have HX := Lib.hid hX
      clear hn htk hx hX
      go_wp2_with (go_at_call 16; refine (itoa16 x _ Hn.out (HT.out.on_up HB.out Hb.out)).mono ?_; rw [← HX.out]; rintro e w' ⟨rfl, hd⟩)
      go_roundw
      case rel => exact ⟨k + 1, _, hlt, by go_num, rfl, Htk.out, below_then Hb.out Hb.out.size hd⟩
      case measure => simp [intOf]; omega
    · obtain rfl : k = L.length := by omega
      go_wp2
      go_ret
      exact ⟨by rw [HS.out, List.take_length] <;> rfl, Hb.out⟩
end Go.Proofs.YtekgdlpicgibhabDoor.SH
