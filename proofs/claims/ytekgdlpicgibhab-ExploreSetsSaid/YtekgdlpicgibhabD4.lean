/-
  A device: Flush, Crash, Write, New.
-/
import Derived.Test.YtekgdlpicgibhabD3
namespace Go.Proofs.Ytekgdlpicgibhab.EX
open Go.RowKit Go.Proofs.YtekgdlpicgibhabW.PrintWords Go.MuLone

theorem fl_any (i : Int) (w : World) : Calls Try.prog 47 #[.int .i64 i] w fun e w' => e = .returned (.bool true) ∧ w = w' := by
  go_enter Try.func47, Try.ntmps47
  go_wp2
  go_ret
  exact ⟨rfl, rfl⟩
section
variable {w : World} {b g mb m N gd n c : Nat} {vP : Value} {T : List (Int × Sl)} {D : List Int} {P : List (Int × List Int)}
theorem keepK_base {D : List Int} {P : List (Int × List Int)} {kf kf' : Nat → Bool} (h : ∀ k, k < P.length → kf k = kf' k) : ∀ k, k ≤ P.length → keepK D P kf k = keepK D P kf' k := by
  intro k
  induction k with
  | zero => intro _; rfl
  | succ k ih =>
    intro hk
    unfold keepK
    rw [ih (by omega), h k (by omega)]
set_option maxRecDepth 100000 in
set_option maxHeartbeats 1000000 in
theorem flush_any (h : Dev w 0 b g mb m (.slice (some ⟨gd, 0, none⟩) n c) vP T D P) (hD : D.length = 512 * N) (hN : N ≤ 4096) (hok : Ok N P) (hL : P.length ≤ 1048576) :
    Calls Try.prog 24 #[.pointer (some ⟨g, 0, none⟩)] w fun e w' => e = .returned (.int .i64 0) ∧ Dev w' 0 b g mb m (.slice (some ⟨gd, 0, none⟩) n c) (.slice none 0 0) [] (keepK D P (fun _ => true) P.length) [] ∧
      Only (devS g mb (.slice (some ⟨gd, 0, none⟩) n c) vP) w w' := by
  obtain ⟨z0, _, _, _, _, _, hf⟩ := h.cells
  have f0 := hf 0
  have H1 := Lib.hid (h.lock 1)
  obtain ⟨w1, hw1⟩ : ∃ w1, w.setCell ⟨g, 0, none⟩ (.int .i32 1) = w1 := ⟨_, rfl⟩
  have HO1 : Hid (Only (devS g mb (.slice (some ⟨gd, 0, none⟩) n c) vP) w w1) := by show Only _ _ _; rw [← hw1]; exact only_lock w g _
  rw [hw1] at H1
  have h1 := H1.out
  have HW := Lib.hid hw1
  have HOK := Lib.hid hok
  have HDN := Lib.hid hD
  have hset := Lib.hid (settle_any (F := 47) (caps := #[]) h1 hD hN hok hL (kf := fun _ => true) (enters_of Try.func47 (by kernel_rfl) rfl) (fun i W _ _ => by
    have e : (#[Value.int .i64 i] : Array Value) ++ #[] = #[.int .i64 i] := by simp
    rw [e]
    exact fl_any i W))
  clear h hf hw1 hok hD h1
  go_enter_defers Try.func24, Try.ntmps24
  go_wp2_with (go_at_call 41; refine (lock_free muLib ⟨g, 0, none⟩ _ z0 f0).mono ?_; rintro e w' ⟨rfl, rfl⟩; rw [HW.out])
  refine (powered_yes H1.out).mono ?_
  rintro e w2 ⟨rfl, rfl⟩
  go_wp2_with fail
  refine hset.out.mono ?_
  rintro e w3 ⟨rfl, hd3, ho3⟩
  have HD3 := Lib.hid hd3
  have HO3 := Lib.hid ho3
  obtain ⟨y0, _, _, _, _, _, yf⟩ := hd3.cells
  have yf0 := yf 0
  clear hd3 ho3 yf
  go_wp2
  refine leaves_cons (f := 42) (args := #[.pointer (some ⟨g, 0, none⟩)]) (by simp) (by simp [go_sem]) ?_
  refine (unlock_deferred muLib ⟨g, 0, none⟩ .returning _ y0 yf0).mono ?_
  rintro e u' w'' ⟨rfl, rfl, rfl⟩
  exact ⟨_, results_tmp rfl _ _ _, rfl, HD3.out.lock 0, (HO1.out.trans HO3.out (fun q hq => .inl hq)).set 0 _⟩
theorem Dev.off {lk : Int} {vd : Value} (h : Dev w lk b g mb m vd vP T D P) : Dev (w.setCell ⟨g, 5, none⟩ (.bool false)) lk b g mb m vd vP T D P :=
  h.field (fun _ => rfl) rfl h.row h.len h.row_ne h.at_ h.apart
theorem Dev.fuse {lk : Int} {vd : Value} (h : Dev w lk b g mb m vd vP T D P) : Dev (w.setCell ⟨g, 6, none⟩ (.int .i64 0)) lk b g mb m vd vP T D P :=
  h.field (fun _ => rfl) rfl h.row h.len h.row_ne h.at_ h.apart
/-- A slice of bools that reads so, below b. -/
def Bools (w : World) (b : Nat) (A : Option Addr) (ks : List Bool) : Prop := ∀ k, k < ks.length → ∃ ad, A = some ad ∧ ad.block < b ∧ w.cell? (ad.add k) = some (.bool (ks.getD k false))
theorem Bools.only {w1 : World} {A : Option Addr} {ks : List Bool} (h : Bools w b A ks) {S : Nat → Prop} (ho : Only S w w1) (hS : ∀ k, k < b → ¬ S k) : Bools w1 b A ks := fun k hk => by
  obtain ⟨ad, e, hb, hc⟩ := h k hk
  refine ⟨ad, e, hb, (World.cell?_of_block (w := w) ?_).trans hc⟩
  rw [add_block]
  have hl := World.block_lt_of_cell? w _ hc
  rw [add_block] at hl
  exact ho.block _ hl (hS _ hb)
theorem cr_any {W : World} {bx ck : Nat} {A : Option Addr} {ks : List Bool} (hb : W.cell? ⟨bx, 0, none⟩ = some (.slice A ks.length ck)) (hk : Bools W b A ks) (i : Nat) :
    Calls Try.prog 48 #[.int .i64 i, .pointer (some ⟨bx, 0, none⟩)] W fun e w' => e = .returned (.bool (ks.getD i false)) ∧ W = w' := by
  by_cases hlt : i < ks.length
  · obtain ⟨ad, rfl, _, hc⟩ := hk i hlt
    obtain ⟨y, hy⟩ : ∃ y, ks.getD i false = y := ⟨_, rfl⟩
    rw [hy] at hc ⊢
    clear hk hy
    go_enter Try.func48, Try.ntmps48
    go_wp2
    go_ret
    exact ⟨rfl, rfl⟩
  · have hd : decide ((i : Int) < (ks.length : Int)) = false := decide_eq_false (by omega)
    have e : ks.getD i false = false := by rw [List.getD_eq_getElem?_getD, List.getElem?_eq_none (by omega)]; rfl
    rw [e]
    clear hk e
    go_enter Try.func48, Try.ntmps48
    go_wp2
    go_ret
    exact ⟨rfl, rfl⟩
set_option maxRecDepth 100000 in
set_option maxHeartbeats 1000000 in
theorem crash_any {A : Option Addr} {ks : List Bool} {ck : Nat} (h : Dev w 0 b g mb m (.slice (some ⟨gd, 0, none⟩) n c) vP T D P) (hD : D.length = 512 * N) (hN : N ≤ 4096) (hok : Ok N P) (hL : P.length ≤ 1048576) (hk : Bools w b A ks) :
    Calls Try.prog 29 #[.pointer (some ⟨g, 0, none⟩), .slice A ks.length ck] w fun e w' => e = .returned (.tuple #[]) ∧ Dev w' 0 b g mb m (.slice (some ⟨gd, 0, none⟩) n c) (.slice none 0 0) [] (keepK D P (fun i => ks.getD i false) P.length) [] ∧
      Only (devS g mb (.slice (some ⟨gd, 0, none⟩) n c) vP) w w' := by
  obtain ⟨wB, hwB⟩ : ∃ wB, w.alloc (.cells #[.slice A ks.length ck] 48) = wB := ⟨_, rfl⟩
  have hbB : Below w.heap.size w wB := by rw [← hwB]; exact below_alloc (Below.refl _ _) _
  have hbx : wB.heap[w.heap.size]? = some (.cells #[.slice A ks.length ck] 48 (0, 0)) := by rw [← hwB]; exact heap_alloc_new w _
  have hdB := h.below hbB
  obtain ⟨z0, _, _, _, _, _, hf⟩ := hdB.cells
  have f0 := hf 0
  have H1 := Lib.hid (hdB.lock 1)
  have hlt := hdB.lt
  obtain ⟨w1, hw1⟩ : ∃ w1, wB.setCell ⟨g, 0, none⟩ (.int .i32 1) = w1 := ⟨_, rfl⟩
  have HO1 : Hid (Only (devS g mb (.slice (some ⟨gd, 0, none⟩) n c) vP) w w1) := by
    show Only _ _ _
    rw [← hw1]
    exact ((Only.refl _ w).then_below hbB).set 0 _
  rw [hw1] at H1
  have h1 := H1.out
  have hset := Lib.hid (settle_any (F := 48) (caps := #[.pointer (some ⟨w.heap.size, 0, none⟩)]) h1 hD hN hok hL (kf := fun i => ks.getD i false) (enters_of Try.func48 (by kernel_rfl) rfl) (fun i W _ ho => by
    have e : (#[Value.int .i64 i] : Array Value) ++ #[.pointer (some ⟨w.heap.size, 0, none⟩)] = #[.int .i64 i, .pointer (some ⟨w.heap.size, 0, none⟩)] := by simp
    rw [e]
    have hS : ∀ k, k < b → ¬ devS g mb (.slice (some ⟨gd, 0, none⟩) n c) vP k := fun k hk hs => by have := (hlt k hs).1; omega
    have hnb : ¬ devS g mb (.slice (some ⟨gd, 0, none⟩) n c) vP w.heap.size := fun hs => by
      have := (h.lt _ hs).2
      omega
    have hsz : w.heap.size < w1.heap.size := by
      rw [← hw1, ← hwB]
      simp
    have hb1 : w1.heap[w.heap.size]? = wB.heap[w.heap.size]? := by
      rw [← hw1]
      exact Below.heap_setCell _ _ _ _ (fun e => hnb (.inl e))
    refine cr_any (b := b) ((blk_cell ((ho.block _ hsz hnb).trans (hb1.trans hbx)) 0).trans rfl) ((hk.only HO1.out hS).only ho hS) i))
  have HW := Lib.hid hw1
  clear h hf hw1 hok hD h1 hbx hbB hdB hlt hk
  go_enter_defers Try.func29, Try.ntmps29
  go_wp2_with fail
  clear hwB
  refine (lock_free muLib ⟨g, 0, none⟩ _ z0 f0).mono ?_
  rintro e w' ⟨rfl, rfl⟩
  rw [HW.out]
  go_wp2_with fail
  refine hset.out.mono ?_
  rintro e w3 ⟨rfl, hd3, ho3⟩
  have HD3 := Lib.hid hd3
  have HO3 := Lib.hid ho3
  obtain ⟨_, _, _, _, y5, y6, yf⟩ := hd3.cells
  have yf5 := yf 5
  have yf6 := yf 6
  have HD5 := Lib.hid (hd3.off.fuse)
  obtain ⟨v0, _, _, _, _, _, vf⟩ := HD5.out.cells
  have vf0 := vf 0
  have HO5 : Hid (Only (devS g mb (.slice (some ⟨gd, 0, none⟩) n c) vP) w ((w3.setCell ⟨g, 5, none⟩ (.bool false)).setCell ⟨g, 6, none⟩ (.int .i64 0))) :=
    ((HO1.out.trans HO3.out (fun q hq => .inl hq)).set 5 _).set 6 _
  obtain ⟨w5, hw5⟩ : ∃ w5, (w3.setCell ⟨g, 5, none⟩ (.bool false)).setCell ⟨g, 6, none⟩ (.int .i64 0) = w5 := ⟨_, rfl⟩
  rw [hw5] at HD5 HO5 v0 vf0
  have HW5 := Lib.hid hw5
  clear hd3 ho3 yf vf hw5
  go_wp2
  rw [HW5.out]
  refine leaves_cons (f := 42) (args := #[.pointer (some ⟨g, 0, none⟩)]) (by simp) (by simp [go_sem]) ?_
  refine (unlock_deferred muLib ⟨g, 0, none⟩ .returning _ v0 vf0).mono ?_
  rintro e u' w'' ⟨rfl, rfl, rfl⟩
  exact ⟨_, results_none rfl _ _ _, rfl, HD5.out.lock 0, HO5.out.set 0 _⟩
end
end Go.Proofs.Ytekgdlpicgibhab.EX
