/-
  The book of lists that were handed out: holds answers true of what reads as it was written.
-/
import Derived.Test.YtekgdlpicgibhaaA1
import Derived.OpenShut
import Derived.SizedLaws
import Derived.BigQuiet
namespace Go.Proofs.Ytekgdlpicgibhaa.QI
open Go.RowKit Go.Proofs.YtekgdlpicgibhaaW.PrintWords Go.Proofs.Ytekgdlpicgibhaa.QQ

/-- A list that was handed out and written full. -/
structure KE where
  A : Option Addr
  c : Nat
  m : Int
  n : Nat
def cellsE (x : KE) : List Value := [.slice x.A x.n x.c, .int .i64 x.m, .int .i64 (x.n : Int)]
def kE : Kd KE := Kd.iso (Kd.raw 3) cellsE
theorem kE_mkM (w : World) (base : Nat) (ok : Nat → Prop) (x : KE) : kE.M w base ok x (cellsE x) := ⟨rfl, rfl, by
  intro u hu
  simp only [cellsE, List.mem_cons, List.not_mem_nil, or_false] at hu
  rcases hu with rfl | rfl | rfl <;> rfl⟩
theorem info86 : (Try.prog.info? 86).map (fun i => (i.zero, i.size, i.bytes)) = some (some (.agg #[.slice none 0 0, .int .i64 0, .int .i64 0]), 3, 40) := by kernel_rfl
/-- The book. -/
def BK (w : World) (b : Nat) (v : Value) (es : List KE) : Prop := kE.R 86 w b (fun _ => True) v es
theorem BK.cell {w : World} {b : Nat} {A : Option Addr} {n c : Nat} {es : List KE} (h : BK w b (.slice A n c) es) (j : Nat) (x : KE) (hx : es[j]? = some x) :
    ∃ g, A = some ⟨g, 0, none⟩ ∧ w.cell? ⟨g, j * 3, none⟩ = some (.slice x.A x.n x.c) ∧ w.cell? ⟨g, j * 3 + 1, none⟩ = some (.int .i64 x.m) ∧ w.cell? ⟨g, j * 3 + 2, none⟩ = some (.int .i64 (x.n : Int)) := by
  obtain ⟨hn, _, hC⟩ := Kd.R_reads' h
  have hj : j < es.length := (List.getElem?_eq_some_iff.1 hx).1
  obtain ⟨ad, cs, hA, _, hK, hc⟩ := Kd.C_get hC x (j : Int) (by omega) (by omega)
  simp only [Int.toNat_natCast] at hK hc
  rw [List.getD_eq_getElem?_getD, hx] at hK
  obtain ⟨rfl, _⟩ := hK
  subst hA
  obtain ⟨g, rfl⟩ := Kd.R_head h
  have e : ∀ n, Addr.add ⟨g, 0, none⟩ n = ⟨g, n, none⟩ := by
    intro n
    unfold Addr.add
    split
    · next h => rw [h]
    · simp
  have z0 := hc 0 _ rfl
  have z1 := hc 1 _ rfl
  have z2 := hc 2 _ rfl
  rw [e] at z0 z1 z2
  exact ⟨g, rfl, z0, z1, z2⟩
def Holds (w : World) (x : KE) : Prop := ReadsOf (Value.int .i64) 0 w x.A x.n (List.replicate x.n x.m)
theorem Holds.cell {w : World} {x : KE} (h : Holds w x) {j : Nat} (hj : j < x.n) : ∃ ad, x.A = some ad ∧ w.cell? (ad.add j) = some (.int .i64 x.m) := by
  obtain ⟨ad, e, hc⟩ := h.2.2 (by omega)
  refine ⟨ad, e, ?_⟩
  rw [hc j hj]
  simp [hj]

theorem holds_any {w : World} {b : Nat} {v : Value} {es : List KE} (h : BK w b v es) (hh : ∀ x ∈ es, Holds w x ∧ x.n ≤ 4096) (hl : es.length ≤ 1000000) :
    Calls Try.prog 24 #[v] w fun e w' => e = .returned (.bool true) ∧ ∃ m, w' = w.drewN m := by
  obtain ⟨A, cap, rfl⟩ := Kd.R_slice h
  have H := Lib.hid h
  have HH := Lib.hid hh
  clear h hh
  go_enter Try.func24, Try.ntmps24
  go_wp2
  go_loopw [3] (fun i wr => ∃ k m : Nat, k ≤ es.length ∧ i = .int .i64 k ∧ wr = w.drewN m) (fun i _ => es.length - (intOf i).toNat)
  case atStart => exact ⟨0, 0, Nat.zero_le _, rfl, rfl⟩
  case round =>
    obtain ⟨k, m, hk, rfl, rfl⟩ := hrel
    by_cases hlt : k < es.length
    · obtain ⟨x, hx⟩ : ∃ x, es[k]? = some x := ⟨_, List.getElem?_eq_getElem hlt⟩
      obtain ⟨g, hA, z0, z1, z2⟩ := H.out.cell k x hx
      subst hA
      obtain ⟨hX, hxn⟩ := HH.out x (List.mem_of_getElem? hx)
      obtain ⟨xA, xc, xm, xn⟩ := x
      simp only at z0 z1 z2 hxn
      have HX := Lib.hid hX
      clear hX hx
      go_wp2
      go_quiet (fail)
      go_wp2
      go_loopw [4] (fun j ws => ∃ i m' : Nat, i ≤ xn ∧ j = .int .i64 i ∧ ws = w.drewN m') (fun j _ => xn - (intOf j).toNat)
      case atStart => exact ⟨0, _, Nat.zero_le _, rfl, World.drewN_drewN ..⟩
      case round =>
        obtain ⟨i, m', hi, rfl, rfl⟩ := hrel
        by_cases hil : i < xn
        · obtain ⟨ad, hA, hc⟩ := HX.out.cell hil
          simp only at hA hc
          subst hA
          go_wp2
          go_quiet (fail)
          go_wp2
          go_roundw
          case rel => exact ⟨i + 1, _, hil, by go_num, rfl⟩
          case measure => simp [intOf]; omega
        · go_wp2
          go_roundw
          case rel => exact ⟨k + 1, _, hlt, by go_num, rfl⟩
          case measure => simp [intOf]; omega
    · go_wp2
      go_ret
      exact ⟨rfl, m, rfl⟩
end Go.Proofs.Ytekgdlpicgibhaa.QI
