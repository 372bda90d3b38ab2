/-
  What the lines' walks lean on: the tables, numerals; the program's words.
-/
import Derived.Test.YtekgdlpicgibhabDoorM
import Derived.Test.YtekgdlpicgibhabDoorShelf
import Derived.Lib.AppendIntMem
namespace Go.Proofs.YtekgdlpicgibhabDoor.SH
open Go.RowKit Go.Proofs.YtekgdlpicgibhabDoorW.PrintWords PT

/-- The tables that the code reads, whatever happens from block B on. -/
structure Tabs (B : Nat) (w : World) : Prop where
  pow : Lib.TabBelow Tryd.prog B w "internal/strconv.uint64pow10" .u64 Lib.pow10Tab
  lt : 2 < B
  nm : ∀ op : Nat, 1 ≤ op → op ≤ 10 → w.cell? ⟨2, op, none⟩ = some (.string (by_ (nameOf op)))
  fr : ∀ op : Nat, 1 ≤ op → op ≤ 10 → w.cell? ⟨1, op, none⟩ = some (.string (by_ (formR op)))
  cn : ∀ op : Nat, 1 ≤ op → op ≤ 10 → w.cell? ⟨0, 2 * op, none⟩ = some (.string (by_ (nameOf op)))
  cf : ∀ op : Nat, 1 ≤ op → op ≤ 10 → w.cell? ⟨0, 2 * op + 1, none⟩ = some (.string (by_ (formOf op)))
theorem cell_below {B : Nat} {w w1 : World} (hb : Below B w w1) (p : Addr) (h : p.block < B) : w1.cell? p = w.cell? p := World.cell?_of_block (hb.block _ h)
theorem Tabs.on {B : Nat} {w w1 : World} (h : Tabs B w) (hb : Below B w w1) : Tabs B w1 := by
  have hlt := h.lt
  refine ⟨h.pow.on hb, h.lt, fun op h1 h2 => ?_, fun op h1 h2 => ?_, fun op h1 h2 => ?_, fun op h1 h2 => ?_⟩
  · rw [cell_below hb _ hlt]; exact h.nm op h1 h2
  · rw [cell_below hb _ (show 1 < B by omega)]; exact h.fr op h1 h2
  · rw [cell_below hb _ (show 0 < B by omega)]; exact h.cn op h1 h2
  · rw [cell_below hb _ (show 0 < B by omega)]; exact h.cf op h1 h2
theorem Tabs.on_up {B : Nat} {w w1 : World} (h : Tabs B w) (hB : B ≤ w.heap.size) (hb : Below w.heap.size w w1) : Tabs B w1 := h.on (hb.mono hB)

theorem itoa16 {B : Nat} (n : Int) (w : World) (h : -9223372036854775808 ≤ n ∧ n ≤ 9223372036854775807) (hT : Tabs B w) :
    Calls Tryd.prog 16 #[.int .i64 n] w fun e w' => e = .returned (.string (by_ (Lib.itoa n))) ∧ Below w.heap.size w w' :=
  (Tryd.strconv_Itoa n h.1 h.2 w hT.pow.here).mono fun _ _ ⟨he, k, os, hw⟩ => ⟨he, by rw [hw]; exact Lib.below_grow _ w (Nat.le_refl _) k os⟩

theorem own_up {w w1 : World} {base : Nat} {e : TypeId} {size n : Nat} {v : Value} {xs : List Value} (h : w.ownsRow base e size v n xs) (hb : Below w.heap.size w w1) : w1.ownsRow base e size v n xs :=
  own_move h (fun k hk => by
    obtain ⟨cs, hcs⟩ := own_typed h k hk
    exact hb.block k (by
      rcases Nat.lt_or_ge k w.heap.size with h' | h'
      · exact h'
      · rw [Array.getElem?_eq_none h'] at hcs; cases hcs))
theorem own_lt {w : World} {base : Nat} {e : TypeId} {size n : Nat} {v : Value} {xs : List Value} (h : w.ownsRow base e size v n xs) : ∀ k, v.ownBlock = some k → k < w.heap.size := fun k hk => by
  obtain ⟨cs, hcs⟩ := own_typed h k hk
  rcases Nat.lt_or_ge k w.heap.size with h' | h'
  · exact h'
  · rw [Array.getElem?_eq_none h'] at hcs; cases hcs
/-- A word that the program writes. -/
inductive Wd
  | num (n : Int)
  | txt (s : ByteArray)
def Wd.val : Wd → Value
  | .num n => .iface 3 (.int .i64 n)
  | .txt s => .iface 9 (.string s)
noncomputable def Wd.text : Wd → ByteArray
  | .num n => by_ (Lib.itoa n)
  | .txt s => s
def Wd.ok : Wd → Prop
  | .num n => -9223372036854775808 ≤ n ∧ n ≤ 9223372036854775807
  | .txt _ => True
theorem info9 : (Tryd.prog.info? 9).map (fun i => (i.zero, i.size, i.bytes)) = some (some (.string ⟨#[]⟩), 1, 16) := by kernel_rfl
noncomputable def wordsT (L : List Wd) : List UInt8 := Lib.join (L.map fun x => x.text.data.toList) [32]

theorem as3_3 (v : Value) (w : World) : (Instr.typeAssert (.iface 3 v) 20 3 true).run Tryd.prog w = .ok (.tuple #[v, .bool true]) w := by kernel_rfl
theorem as9_3 (v : Value) (w : World) : (Instr.typeAssert (.iface 9 v) 20 3 true).run Tryd.prog w = .ok (.tuple #[.int .i64 0, .bool false]) w := by kernel_rfl
theorem as9_9 (v : Value) (w : World) : (Instr.typeAssert (.iface 9 v) 20 9 true).run Tryd.prog w = .ok (.tuple #[v, .bool true]) w := by kernel_rfl
attribute [local go_sem] as3_3 as9_3 as9_9

theorem add0 (g j : Nat) : (⟨g, 0, none⟩ : Addr).add j = ⟨g, j, none⟩ := by
  unfold Addr.add
  split <;> simp_all
theorem join17 (L : List Wd) (gb cap : Nat) (w : World) (hc : ∀ j x, (L.map Wd.text)[j]? = some x → w.cell? ⟨gb, j, none⟩ = some (.string x)) (hg : gb < w.heap.size) (hN : L.length ≤ 1073741824) (hcap : L.length ≤ cap)
    (hs : (wordsT L).length ≤ 140737488355328) :
    Calls Tryd.prog 17 #[.slice (some ⟨gb, 0, none⟩) L.length cap, .string ⟨#[32]⟩] w fun e w' => e = .returned (.string (by_ (wordsT L))) ∧ Below w.heap.size w w' := by
  have e : Lib.join ((L.map Wd.text).map (·.data.toList)) (⟨#[32]⟩ : ByteArray).data.toList = wordsT L := by simp [wordsT, List.map_map, Function.comp_def]
  have h := Tryd.strings_Join gb 0 cap (L.map Wd.text) ⟨#[32]⟩ w (fun j x hj => by rw [Nat.zero_add]; exact hc j x hj) hg (by simp; omega) (by simpa using hcap) (by rw [e]; exact hs)
  rw [e, List.length_map] at h
  exact h
set_option maxRecDepth 100000 in
set_option maxHeartbeats 4000000 in
theorem words6 {B : Nat} (L : List Wd) (g c : Nat) (w : World) (hT : Tabs B w) (hB : B ≤ w.heap.size) (hg : g < w.heap.size) (hc : ∀ j x, L[j]? = some x → w.cell? ⟨g, j, none⟩ = some x.val)
    (hlen : L.length ≤ 1073741824) (hr : ∀ x ∈ L, x.ok) (hs : (wordsT L).length ≤ 140737488355328) (hne : L ≠ []) :
    Calls Tryd.prog 6 #[.slice (some ⟨g, 0, none⟩) L.length c] w fun e w' => e = .returned (.string (by_ (wordsT L))) ∧ Below w.heap.size w w' := by
  have HT := Lib.hid hT
  have HB := Lib.hid hB
  have HC := Lib.hid hc
  have HR := Lib.hid hr
  have HS := Lib.hid hs
  have HN := Lib.hid hne
  clear hT hB hc hr hs hne
  go_enter Tryd.func6, Tryd.ntmps6
  go_wp2
  go_loopw [3, 10] (fun v i wr => ∃ k : Nat, k ≤ L.length ∧ i = .int .i64 k ∧ wr.ownsRow w.heap.size 9 1 v ((L.take k).map Wd.text).length (encs Value.string ((L.take k).map Wd.text)) ∧ Below w.heap.size w wr) (fun _ i _ => L.length - (intOf i).toNat)
  case atStart => exact ⟨0, Nat.zero_le _, rfl, by simpa [encs] using World.ownsRow_nil w w.heap.size 9 1, Below.refl _ _⟩
  case round =>
    obtain ⟨k, hk, rfl, hO, hb⟩ := hrel
    have HO := Lib.hid hO
    have Hb := Lib.hid hb
    clear hO hb
    by_cases hlt : k < L.length
    · obtain ⟨x, hx⟩ : ∃ x, L[k]? = some x := ⟨L[k], by simp [hlt]⟩
      have hcell : wr.cell? ⟨g, k, none⟩ = some x.val := by rw [cell_below Hb.out _ hg]; exact HC.out k x hx
      have htk : (L.take (k + 1)).map Wd.text = (L.take k).map Wd.text ++ [x.text] := by
        rw [List.take_add_one, hx]; simp
      have Htk := Lib.hid htk
      have Hx := Lib.hid hx
      clear htk hx
      cases x with
      | num n =>
        have hn : -9223372036854775808 ≤ n ∧ n ≤ 9223372036854775807 := HR.out _ (List.mem_of_getElem? Hx.out)
        have Hn := Lib.hid hn
        clear hn
        simp only [Wd.val] at hcell
        go_wp2_with (first | (go_at_call 16; refine (itoa16 n _ Hn.out (HT.out.on_up HB.out Hb.out)).mono ?_; rintro e w' ⟨rfl, hd⟩) | (at_builtin; refine print_append_of Value.string w.heap.size rfl (.tmp 18) (.tmp 21) 52 9 (.string ⟨#[]⟩) 16 rfl Tryd.underlying52 info9 rfl (by decide) _ ((L.take k).map Wd.text) (by_ (Lib.itoa n)) rfl rfl rfl (own_up HO.out hd) (Hb.out.trans (hd.mono Hb.out.size)) (Nat.le_trans Hb.out.size hd.size) (by simp; omega) ?_; intro v1 w1 ho hb1 _ _))
        go_roundw
        case rel => exact ⟨k + 1, hlt, by go_num, by rw [Htk.out]; exact ho, hb1⟩
        case measure => simp [intOf]; omega
      | txt s =>
        simp only [Wd.val] at hcell
        go_wp2_with (first | (at_builtin; refine print_append_of Value.string w.heap.size rfl (.tmp 26) (.tmp 28) 52 9 (.string ⟨#[]⟩) 16 rfl Tryd.underlying52 info9 rfl (by decide) _ ((L.take k).map Wd.text) s rfl rfl rfl HO.out Hb.out Hb.out.size (by simp; omega) ?_; intro v1 w1 ho hb1 _ _))
        go_roundw
        case rel => exact ⟨k + 1, hlt, by go_num, by rw [Htk.out]; exact ho, hb1⟩
        case measure => simp [intOf]; omega
    · obtain rfl : k = L.length := by omega
      have hO := HO.out
      rw [List.take_length, List.length_map] at hO
      clear HO
      have hcells := fun g' hg' => hO.cells (g := g') hg'
      have hlt := own_lt hO
      rcases hO.2 with ⟨_, e⟩ | ⟨gb, cap, cur, rfl, hgb, hh, hr⟩
      · exfalso
        cases hL : L with
        | nil => exact HN.out hL
        | cons a l => rw [hL] at e; simp at e
      have HJ := Lib.hid (join17 L gb cap wr (fun j x hj => by
        have h := hcells gb rfl j (.string x) (by simp only [encs, List.getElem?_map] at hj ⊢; rw [hj]; rfl)
        rwa [add0] at h) (hlt gb rfl) (by omega) (by have := hr.1; simpa using this) HS.out)
      clear hO hcells hh hr
      go_wp2_with (go_at_call 17; refine HJ.out.mono ?_; rintro e w' ⟨rfl, hd⟩)
      go_ret
      exact ⟨rfl, below_then Hb.out Hb.out.size hd⟩
end Go.Proofs.YtekgdlpicgibhabDoor.SH
