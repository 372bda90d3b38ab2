/-
  The text of a call (the reference's callText).
-/
import Derived.Test.YtekgdlpicgibhabDoorV2
namespace Go.Proofs.YtekgdlpicgibhabDoor.SH
open Go.RowKit Go.Proofs.YtekgdlpicgibhabDoorW.PrintWords PT

/-- A call that can be read: its numbers, the sizes of its texts. -/
structure ClIn (w : World) (c : Cl) (A : Option Addr) (cap : Nat) : Prop where
  op : -9223372036854775808 ≤ c.op ∧ c.op ≤ 9223372036854775807
  h : -9223372036854775808 ≤ c.h ∧ c.h ≤ 9223372036854775807
  h2 : -9223372036854775808 ≤ c.h2 ∧ c.h2 ≤ 9223372036854775807
  off : -9223372036854775808 ≤ c.off ∧ c.off ≤ 9223372036854775807
  len : -9223372036854775808 ≤ c.len ∧ c.len ≤ 9223372036854775807
  path : c.path.size ≤ 1048576
  name : c.name.size ≤ 1048576
  name2 : c.name2.size ≤ 1048576
  data : c.data.length ≤ 1048576
  rd : Kd.C (Kd.int .u8) w A c.data.length c.data
  cap : c.data.length ≤ cap
theorem ClIn.on {w w1 : World} {c : Cl} {A : Option Addr} {cap : Nat} (h : ClIn w c A cap) (hb : Below w.heap.size w w1) : ClIn w1 c A cap :=
  ⟨h.op, h.h, h.h2, h.off, h.len, h.path, h.name, h.name2, h.data, Kd.C_below h.rd hb, h.cap⟩
theorem cellB {w : World} {g : Nat} {cs : Array Value} {t : TypeId} {fr : Nat × Nat} (h : w.heap[g]? = some (.cells cs t fr)) (i : Nat) : w.cell? ⟨g, i, none⟩ = cs[i]? := by simp [World.cell?, h]
theorem spaced_take (f : UInt8 → List UInt8) (l : List UInt8) (k : Nat) (h : k < l.length) : spaced ((l.take (k + 1)).map f) = spaced ((l.take k).map f) ++ 32 :: f l[k] := by
  rw [List.take_add_one, List.getElem?_eq_getElem h]
  simp only [Option.toList_some, List.map_append, List.map_cons, List.map_nil]
  exact spaced_snoc _ _
theorem alloc_size (w : World) (o : Obj) : (w.alloc o).heap.size = w.heap.size + 1 := by
  show (w.heap.push o).size = _
  exact Array.size_push _
theorem strOfNums_size (l : List Int) : (strOfNums l).size = l.length := by
  unfold strOfNums
  simp only [ByteArray.size, List.size_toArray, List.length_map]
theorem textOf_le (s : ByteArray) : (textOf s).size ≤ 4 * s.size + 2 := by
  unfold textOf
  split
  · omega
  · rw [strOfNums_size]
    have := escTo_le s s.size
    simp
    omega
theorem wordOf_le {w : World} {c : Cl} {A : Option Addr} {cap : Nat} (h : ClIn w c A cap) (l : UInt8) : (wordOf c l).length ≤ 4194306 := by
  have t : ∀ s : ByteArray, s.size ≤ 1048576 → (textOf s).data.toList.length ≤ 4194306 := fun s hs => by
    have := textOf_le s
    have e : (textOf s).data.toList.length = (textOf s).size := Array.length_toList
    omega
  have i : ∀ n : Int, -9223372036854775808 ≤ n ∧ n ≤ 9223372036854775807 → (Lib.itoa n).length ≤ 4194306 := fun n hn => by have := itoa_le n hn; omega
  unfold wordOf
  repeat' split
  · exact i _ h.h
  · exact i _ h.h2
  · exact i _ h.off
  · exact i _ h.len
  · exact t _ h.path
  · exact t _ h.name
  · exact t _ h.name2
  · exact t _ (by rw [strOfNums_size]; exact h.data)
theorem spaced_le_of (l : List (List UInt8)) (M : Nat) (h : ∀ x ∈ l, x.length ≤ M) : (spaced l).length ≤ (M + 1) * l.length := by
  induction l with
  | nil => simp [spaced]
  | cons a r ih =>
    have h1 := h a (by simp)
    have h2 := ih (fun n hn => h n (by simp [hn]))
    simp only [spaced, List.map_cons, List.flatten_cons, List.length_append, List.length_cons] at h2 ⊢
    rw [Nat.mul_add]
    omega
theorem formR_len (op : Int) : (formR op).length ≤ 4 := by
  unfold formR
  repeat' split
  all_goals simp
theorem formR_mem (op : Int) (l : UInt8) (h : l ∈ formR op) : l = 112 ∨ l = 110 ∨ l = 109 ∨ l = 100 ∨ l = 104 ∨ l = 103 ∨ l = 111 ∨ l = 108 := by
  unfold formR at h
  repeat' split at h
  all_goals (simp only [List.mem_cons, List.not_mem_nil, or_false] at h; first | (rcases h with rfl | rfl | rfl | rfl <;> decide) | (rcases h with rfl | rfl | rfl <;> decide) | (rcases h with rfl | rfl <;> decide) | (subst h; decide))
theorem nameOf_len (op : Int) : (nameOf op).length ≤ 7 := by
  unfold nameOf
  repeat' split
  all_goals simp

set_option maxRecDepth 100000 in
set_option maxHeartbeats 8000000 in
theorem callText32 {B : Nat} (c : Cl) (A : Option Addr) (cap : Nat) (w : World) (hT : Tabs B w) (hB : B ≤ w.heap.size) (hc : ClIn w c A cap) (hop : opOk c) :
    Calls Tryd.prog 32 #[.agg (c.cells A cap).toArray] w fun e w' => e = .returned (.string (by_ (nameOf c.op ++ spaced ((formR c.op).map (wordOf c))))) ∧ Below w.heap.size w w' := by
  obtain ⟨h1, h10⟩ := hop
  have hf := fun o => (hT.on_up hB (below_alloc (Below.refl _ w) o)).fr c.op.toNat (by omega) (by omega)
  have hn := fun o => (hT.on_up hB (below_alloc (Below.refl _ w) o)).nm c.op.toNat (by omega) (by omega)
  rw [Int.toNat_of_nonneg (by omega)] at hf hn
  obtain ⟨Fm, hFm⟩ : ∃ Fm, Fm = formR c.op := ⟨_, rfl⟩
  have hfl := formR_len c.op
  have hmem := formR_mem c.op
  have hfm := forms_same c
  rw [← hFm] at hf hfl hmem
  obtain ⟨F, hF⟩ : ∃ F, F = by_ Fm := ⟨_, rfl⟩
  have hFs : F.size = Fm.length := by rw [hF, by_size]
  have hFx : ∀ k (h : k < F.size) (h' : k < Fm.length), F[k] = Fm[k] := fun k h h' => by subst hF; simp [by_]; rfl
  rw [← hF] at hf
  obtain ⟨Nm, hNm⟩ : ∃ Nm, Nm = by_ (nameOf c.op) := ⟨_, rfl⟩
  rw [← hNm] at hn
  have hNs : Nm.size ≤ 7 := by rw [hNm, by_size]; exact nameOf_len _
  have HT := Lib.hid hT
  have HB := Lib.hid hB
  have HC := Lib.hid hc
  have HF := Lib.hid hFm
  have HN := Lib.hid hNm
  have HM := Lib.hid hmem
  have HX := Lib.hid hFx
  rw [← hFm]
  clear hT hB hc hFm hNm hF hmem hFx hfm
  obtain ⟨op, h, h2, off, len, path, name, name2, data⟩ := c
  simp only [Cl.cells]
  simp only at h1 h10 hf hn
  go_enter Tryd.func32, Tryd.ntmps32
  go_wp2
  go_loopw [3, 5] (fun v i wr => ∃ (k : Nat) (S : ByteArray), k ≤ Fm.length ∧ i = .int .i64 k ∧ v = .string S ∧ S = by_ (nameOf op ++ spaced ((Fm.take k).map (wordOf ⟨op, h, h2, off, len, path, name, name2, data⟩))) ∧ Below (w.heap.size + 1) (w.alloc (.cells #[.int .i64 op, .int .i64 h, .int .i64 h2, .int .i64 off, .int .i64 len, .string path, .string name, .string name2, .slice A data.length cap] 25)) wr) (fun _ i _ => Fm.length - (intOf i).toNat)
  case atStart => exact ⟨0, _, Nat.zero_le _, rfl, rfl, by simpa [spaced] using HN.out, Below.refl _ _⟩
  case round =>
    obtain ⟨k, S, hk, rfl, rfl, hS, hb⟩ := hrel
    have hsz : S.size ≤ 33554432 := by
      rw [hS, by_size]
      have g1 := nameOf_len op
      have g2 := spaced_le_of ((Fm.take k).map (wordOf ⟨op, h, h2, off, len, path, name, name2, data⟩)) 4194306 (fun x hx => by
        rw [List.mem_map] at hx
        obtain ⟨l, _, rfl⟩ := hx
        exact wordOf_le HC.out l)
      have g3 : ((Fm.take k).map (wordOf ⟨op, h, h2, off, len, path, name, name2, data⟩)).length ≤ 4 := by simp; omega
      have g4 := Nat.mul_le_mul_left 4194307 g3
      simp only [List.length_append]
      omega
    have hblk : wr.heap[w.heap.size]? = some (.cells #[.int .i64 op, .int .i64 h, .int .i64 h2, .int .i64 off, .int .i64 len, .string path, .string name, .string name2, .slice A data.length cap] 25 (0, 0)) := (hb.block _ (Nat.lt_succ_self _)).trans (heap_alloc_new w _)
    have hbw : Below w.heap.size w wr := (below_alloc (Below.refl _ w) _).trans (hb.mono (Nat.le_succ _))
    have hci := HC.out.on hbw
    have Hsw := Lib.hid (show w.heap.size + 1 ≤ wr.heap.size from Nat.le_trans (Nat.le_of_eq (alloc_size w _).symm) hb.size)
    have Hbw := Lib.hid hbw
    have Hb := Lib.hid hb
    have Hci := Lib.hid hci
    have HS := Lib.hid hS
    have hxs := fun j => cellB hblk j
    have hrd := hci.rd
    clear hb hbw hS hblk hci
    by_cases hlt : k < Fm.length
    · have hx : ∀ h : k < F.size, ((F[k]'h).toNat : Int) = (Fm[k].toNat : Int) := fun h => by rw [HX.out k h hlt]
      have hlm := HM.out Fm[k] (List.getElem_mem hlt)
      obtain ⟨X, hX⟩ : ∃ X, X = by_ (wordOf ⟨op, h, h2, off, len, path, name, name2, data⟩ Fm[k]) := ⟨_, rfl⟩
      have hXs : X.size ≤ 4194306 := by rw [hX, by_size]; exact wordOf_le HC.out _
      have htk : S ++ ⟨#[32]⟩ ++ X = by_ (nameOf op ++ spaced ((Fm.take (k + 1)).map (wordOf ⟨op, h, h2, off, len, path, name, name2, data⟩))) := by
        rw [spaced_take _ _ _ hlt, HS.out, hX, show (⟨#[32]⟩ : ByteArray) = by_ [32] from rfl, by_app, by_app]
        simp only [List.append_assoc, List.singleton_append]
      have Htk := Lib.hid htk
      clear htk
      have hcv := Kd.C_string (P := Tryd.prog) (c := cap) Tryd.underlying23 Tryd.underlying5 Tryd.underlying9 hrd
      clear hrd
      obtain ⟨l, hl⟩ : ∃ l, l = Fm[k] := ⟨_, rfl⟩
      rw [← hl] at hx hlm hX
      clear hl
      rcases hlm with rfl | rfl | rfl | rfl | rfl | rfl | rfl | rfl
      · have hx' : ∀ h : k < F.size, ((F[k]'h).toNat : Int) = 112 := hx
        clear hx
        have hX' : textOf path = X := by rw [hX]; exact (by_toList _).symm
        have hr : (path).size ≤ 1048576 := Hci.out.path
        have Hr := Lib.hid hr
        clear hr hX
        go_wp2_with (go_at_call 14; refine (text8 path _ Hr.out).mono ?_; rw [hX']; rintro e w' ⟨rfl, hd⟩)
        go_roundw
        case rel => exact ⟨k + 1, _, hlt, by go_num, rfl, Htk.out, below_then Hb.out Hsw.out hd⟩
        case measure => simp [intOf]; omega
      · have hx' : ∀ h : k < F.size, ((F[k]'h).toNat : Int) = 110 := hx
        clear hx
        have hX' : textOf name = X := by rw [hX]; exact (by_toList _).symm
        have hr : (name).size ≤ 1048576 := Hci.out.name
        have Hr := Lib.hid hr
        clear hr hX
        go_wp2_with (go_at_call 14; refine (text8 name _ Hr.out).mono ?_; rw [hX']; rintro e w' ⟨rfl, hd⟩)
        go_roundw
        case rel => exact ⟨k + 1, _, hlt, by go_num, rfl, Htk.out, below_then Hb.out Hsw.out hd⟩
        case measure => simp [intOf]; omega
      · have hx' : ∀ h : k < F.size, ((F[k]'h).toNat : Int) = 109 := hx
        clear hx
        have hX' : textOf name2 = X := by rw [hX]; exact (by_toList _).symm
        have hr : (name2).size ≤ 1048576 := Hci.out.name2
        have Hr := Lib.hid hr
        clear hr hX
        go_wp2_with (go_at_call 14; refine (text8 name2 _ Hr.out).mono ?_; rw [hX']; rintro e w' ⟨rfl, hd⟩)
        go_roundw
        case rel => exact ⟨k + 1, _, hlt, by go_num, rfl, Htk.out, below_then Hb.out Hsw.out hd⟩
        case measure => simp [intOf]; omega
      · have hx' : ∀ h : k < F.size, ((F[k]'h).toNat : Int) = 100 := hx
        clear hx
        have hX' : textOf (strOfNums data) = X := by rw [hX]; exact (by_toList _).symm
        have hr : ((strOfNums data)).size ≤ 1048576 := by rw [strOfNums_size]; exact Hci.out.data
        have Hr := Lib.hid hr
        clear hr hX
        go_wp2_with (go_at_call 14; refine (text8 (strOfNums data) _ Hr.out).mono ?_; rw [hX']; rintro e w' ⟨rfl, hd⟩)
        go_roundw
        case rel => exact ⟨k + 1, _, hlt, by go_num, rfl, Htk.out, below_then Hb.out Hsw.out hd⟩
        case measure => simp [intOf]; omega
      · have hx' : ∀ h : k < F.size, ((F[k]'h).toNat : Int) = 104 := hx
        clear hx
        have hX' : by_ (Lib.itoa h) = X := by rw [hX]; rfl
        have hr := Hci.out.h
        have Hr := Lib.hid hr
        clear hr hX
        go_wp2_with (go_at_call 16; refine (itoa16 h _ Hr.out (HT.out.on_up HB.out Hbw.out)).mono ?_; rw [hX']; rintro e w' ⟨rfl, hd⟩)
        go_roundw
        case rel => exact ⟨k + 1, _, hlt, by go_num, rfl, Htk.out, below_then Hb.out Hsw.out hd⟩
        case measure => simp [intOf]; omega
      · have hx' : ∀ h : k < F.size, ((F[k]'h).toNat : Int) = 103 := hx
        clear hx
        have hX' : by_ (Lib.itoa h2) = X := by rw [hX]; rfl
        have hr := Hci.out.h2
        have Hr := Lib.hid hr
        clear hr hX
        go_wp2_with (go_at_call 16; refine (itoa16 h2 _ Hr.out (HT.out.on_up HB.out Hbw.out)).mono ?_; rw [hX']; rintro e w' ⟨rfl, hd⟩)
        go_roundw
        case rel => exact ⟨k + 1, _, hlt, by go_num, rfl, Htk.out, below_then Hb.out Hsw.out hd⟩
        case measure => simp [intOf]; omega
      · have hx' : ∀ h : k < F.size, ((F[k]'h).toNat : Int) = 111 := hx
        clear hx
        have hX' : by_ (Lib.itoa off) = X := by rw [hX]; rfl
        have hr := Hci.out.off
        have Hr := Lib.hid hr
        clear hr hX
        go_wp2_with (go_at_call 16; refine (itoa16 off _ Hr.out (HT.out.on_up HB.out Hbw.out)).mono ?_; rw [hX']; rintro e w' ⟨rfl, hd⟩)
        go_roundw
        case rel => exact ⟨k + 1, _, hlt, by go_num, rfl, Htk.out, below_then Hb.out Hsw.out hd⟩
        case measure => simp [intOf]; omega
      · have hx' : ∀ h : k < F.size, ((F[k]'h).toNat : Int) = 108 := hx
        clear hx
        have hX' : by_ (Lib.itoa len) = X := by rw [hX]; rfl
        have hr := Hci.out.len
        have Hr := Lib.hid hr
        clear hr hX
        go_wp2_with (go_at_call 16; refine (itoa16 len _ Hr.out (HT.out.on_up HB.out Hbw.out)).mono ?_; rw [hX']; rintro e w' ⟨rfl, hd⟩)
        go_roundw
        case rel => exact ⟨k + 1, _, hlt, by go_num, rfl, Htk.out, below_then Hb.out Hsw.out hd⟩
        case measure => simp [intOf]; omega
    · obtain rfl : k = Fm.length := by omega
      go_wp2
      go_ret
      exact ⟨by rw [HS.out, List.take_length] <;> rfl, Hbw.out⟩
end Go.Proofs.YtekgdlpicgibhabDoor.SH
