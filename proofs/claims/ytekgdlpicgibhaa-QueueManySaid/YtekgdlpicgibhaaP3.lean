/-
  The book of lists that were handed out: keep by its walk.
-/
import Derived.Test.YtekgdlpicgibhaaP2
namespace Go.Proofs.Ytekgdlpicgibhaa.QI
open Go.RowKit Go.Proofs.YtekgdlpicgibhaaW.PrintWords Go.Proofs.Ytekgdlpicgibhaa.QQ

theorem fill_next (xs : List Int) (m : Int) {k : Nat} (hk : k < xs.length) : (List.replicate k m ++ xs.drop k).set k m = List.replicate (k + 1) m ++ xs.drop (k + 1) := by
  rw [List.drop_eq_getElem_cons hk, List.set_append_right _ _ (by simp)]
  rw [List.length_replicate, Nat.sub_self, List.set_cons_zero, List.replicate_succ', List.append_assoc]
  rfl
/-- What keep leaves. -/
def Kept3 (w : World) (b : Nat) (v l : Value) (es : List KE) (mark : Int) (n : Nat) (e : Ending) (w' : World) : Prop :=
  ∃ v' x0 x1 x2, e = .returned v' ∧ BK w' b v' (es ++ [x0, x1, x2]) ∧ (∀ x, x ∈ [x0, x1, x2] → Holds w' x ∧ x.m = mark ∧ x.n ≤ n + 80 ∧ ∀ ad, x.A = some ad → (some ad.block = l.ownBlock ∨ w.heap.size ≤ ad.block) ∧ ad.block < w'.heap.size ∧ some ad.block ≠ v'.ownBlock) ∧
    Only (fun k => some k = l.ownBlock ∨ some k = v.ownBlock) w w' ∧ (v'.ownBlock = v.ownBlock ∨ ∃ g, v'.ownBlock = some g ∧ w.heap.size ≤ g)

theorem kE_mk2 {w : World} {base : Nat} {ok : Nat → Prop} {x : KE} {cs : List Value} (h : cs = cellsE x) : kE.M w base ok x cs := h ▸ kE_mkM w base ok x
/-- The third list, on its way. -/
def G2 (w w1 ws : World) (b' : Nat) (l v2 : Value) (k j : Nat) (mark : Int) : Prop :=
  K.R 3 ws b' (fun _ => True) v2 (List.replicate (k + j) mark) ∧ Stay (.int .i64 mark) w1 ws ∧ Only (fun i => some i = l.ownBlock) w ws ∧ (v2.ownBlock = l.ownBlock ∨ ∃ g, v2.ownBlock = some g ∧ w.heap.size ≤ g) ∧ w1.heap.size ≤ ws.heap.size
theorem only_app {w ws w4 : World} {base : Nat} {l v2 v3 : Value} {xs : List Int} {y : Int} (ho : Only (fun i => some i = l.ownBlock) w ws) (ha : App ws w4 base v2 v3 xs y) (hat : v2.ownBlock = l.ownBlock ∨ ∃ g, v2.ownBlock = some g ∧ w.heap.size ≤ g) :
    Only (fun i => some i = l.ownBlock) w w4 ∧ (v3.ownBlock = l.ownBlock ∨ ∃ g, v3.ownBlock = some g ∧ w.heap.size ≤ g) := by
  refine ⟨ho.trans (Only.of_grown ha.grown) (fun k hk => ?_), ?_⟩
  · rcases hat with e | ⟨g, e, hg⟩
    · exact .inl (by rw [← e]; exact hk)
    · rw [e] at hk; cases hk; exact .inr hg
  · rcases ha.at_ with e | ⟨g, e, hg⟩
    · rw [e]; exact hat
    · exact .inr ⟨g, e, Nat.le_trans ho.size hg⟩
theorem G2.start {w wr w1 : World} {b' k : Nat} {l v1 : Value} {mark : Int} (ho : Only (fun i => some i = l.ownBlock) w wr) (ha : App wr w1 b' l v1 (List.replicate k mark) mark) : G2 w w1 w1 b' l l k 0 mark :=
  ⟨ha.old, fun _ h => h, (only_app ho ha (.inl rfl)).1, .inl rfl, Nat.le_refl _⟩
theorem G2.next {w w1 ws w4 : World} {b' k j : Nat} {l v2 v3 : Value} {mark : Int} (h : G2 w w1 ws b' l v2 k j mark) (ha : App ws w4 b' v2 v3 (List.replicate (k + j) mark) mark) : G2 w w1 w4 b' l v3 k (j + 1) mark := by
  obtain ⟨h1, h2, h3, h4, h5⟩ := h
  obtain ⟨o1, o2⟩ := only_app h3 ha h4
  refine ⟨?_, h2.trans ha.stay, o1, o2, Nat.le_trans h5 ha.grown.size⟩
  have := ha.new
  rwa [← List.replicate_succ'] at this
/-- The book, while the three are laid. -/
def B4 (b : Nat) (v : Value) (ws w' : World) (v' : Value) (es : List KE) : Prop :=
  BK w' b v' es ∧ Only (fun k => some k = v.ownBlock) ws w' ∧ (v'.ownBlock = v.ownBlock ∨ ∃ g, v'.ownBlock = some g ∧ ws.heap.size ≤ g)
theorem B4.next {b : Nat} {v v' v1 : Value} {ws w' w2 : World} {es : List KE} {x : KE} (h : B4 b v ws w' v' es) (hR : BK w2 b v1 (es ++ [x])) (hg : w'.grownBy w2 v'.ownBlock) (hat : v1.ownBlock = v'.ownBlock ∨ ∃ g, v1.ownBlock = some g ∧ w'.heap.size ≤ g) : B4 b v ws w2 v1 (es ++ [x]) := by
  obtain ⟨h1, h2, h3⟩ := h
  refine ⟨hR, h2.trans (Only.of_grown hg) (fun k hk => ?_), ?_⟩
  · rcases h3 with e | ⟨g, e, hl⟩
    · exact .inl (by rw [← e]; exact hk)
    · rw [e] at hk; cases hk; exact .inr hl
  · rcases hat with e | ⟨g, e, hl⟩
    · rw [e]; exact h3
    · exact .inr ⟨g, e, Nat.le_trans h2.size hl⟩
theorem Holds.move {w w1 : World} {x : KE} (h : Holds w x) (hm : ∀ ad, x.A = some ad → w1.heap[ad.block]? = w.heap[ad.block]?) : Holds w1 x := by
  refine ⟨h.1, h.2.1, fun hn => ?_⟩
  obtain ⟨ad, e, hc⟩ := h.2.2 hn
  refine ⟨ad, e, fun j hj => ?_⟩
  have hb : (ad.add j).block = ad.block := by unfold Addr.add; split <;> rfl
  rw [World.cell?_of_block (w := w) (by rw [hb]; exact hm ad e)]
  exact hc j hj

theorem kept3_end {w wr w1 ws w' : World} {b b' k cap c1 c2 capv : Nat} {A A1 A2 Av : Option Addr} {v' : Value} {es : List KE} {mark : Int} (hB : BK w b (.slice Av es.length capv) es)
    (hne : ∀ j, (Value.slice Av es.length capv).ownBlock = some j → some j ≠ (Value.slice A k cap).ownBlock)
    (ho : Only (fun i => some i = (Value.slice A k cap).ownBlock) w wr) (ha : App wr w1 b' (.slice A k cap) (.slice A1 (k + 1) c1) (List.replicate k mark) mark)
    (hg : G2 w w1 ws b' (.slice A k cap) (.slice A2 (k + 80) c2) k 80 mark) (h4 : B4 b (.slice Av es.length capv) ws w' v' (es ++ [KE.mk A cap mark k] ++ [KE.mk A1 c1 mark (k + 1)] ++ [KE.mk A2 c2 mark (k + 80)]))
    (hA : ∀ ad, A = some ad → ad.block < w.heap.size) :
    Kept3 w b (.slice Av es.length capv) (.slice A k cap) es mark k (.returned v') w' := by
  obtain ⟨g1, g2, g3, g4, g5⟩ := hg
  obtain ⟨b1, b2, b3⟩ := h4
  have s1 := ho.size
  have s2 := ha.grown.size
  -- where the three lie
  have at1 := (only_app ho ha (.inl rfl)).2
  have l1 : ∀ ad, A1 = some ad → ad.block < ws.heap.size := fun ad e => by subst e; exact Nat.lt_of_lt_of_le (Kd.R_lt ha.new ad.block rfl) g5
  have l2 : ∀ ad, A2 = some ad → ad.block < ws.heap.size := fun ad e => by subst e; exact Kd.R_lt g1 ad.block rfl
  have key : ∀ ad : Addr, (some ad.block = (Value.slice A k cap).ownBlock ∨ w.heap.size ≤ ad.block) → ad.block < ws.heap.size → w'.heap[ad.block]? = ws.heap[ad.block]? := by
    intro ad h1 h2
    refine b2.block _ h2 (fun e => ?_)
    rcases h1 with h1 | h1
    · exact hne ad.block e.symm h1
    · have := hB.lt ad.block e.symm
      omega
  have away : ∀ ad : Addr, (some ad.block = (Value.slice A k cap).ownBlock ∨ w.heap.size ≤ ad.block) → ad.block < ws.heap.size → ad.block < w'.heap.size ∧ some ad.block ≠ v'.ownBlock := by
    intro ad h1 h2
    refine ⟨Nat.lt_of_lt_of_le h2 b2.size, fun e => ?_⟩
    rcases b3 with h3 | ⟨g, h3, hl⟩
    · rw [h3] at e
      rcases h1 with h1 | h1
      · exact hne ad.block e.symm h1
      · have := hB.lt ad.block e.symm
        omega
    · rw [h3] at e
      injection e with e
      omega
  have w1' : ∀ ad, A1 = some ad → some ad.block = (Value.slice A k cap).ownBlock ∨ w.heap.size ≤ ad.block := fun ad e => by
    subst e
    rcases at1 with h | ⟨g, h, hl⟩
    · exact .inl h
    · injection h with h; exact .inr (by omega)
  have w2' : ∀ ad, A2 = some ad → some ad.block = (Value.slice A k cap).ownBlock ∨ w.heap.size ≤ ad.block := fun ad e => by
    subst e
    rcases g4 with h | ⟨g, h, hl⟩
    · exact .inl h
    · injection h with h; exact .inr (by omega)
  have w0' : ∀ ad, A = some ad → some ad.block = (Value.slice A k cap).ownBlock ∨ w.heap.size ≤ ad.block := fun ad e => by subst e; exact .inl rfl
  have H0 : Holds ws (KE.mk A cap mark k) := (holds_of_R ha.old).stay g2
  have e1 : List.replicate k mark ++ [mark] = List.replicate (k + 1) mark := List.replicate_succ'.symm
  have H1 : Holds ws (KE.mk A1 c1 mark (k + 1)) := (holds_of_R (by rw [← e1]; exact ha.new)).stay g2
  have H2 : Holds ws (KE.mk A2 c2 mark (k + 80)) := holds_of_R g1
  refine ⟨v', _, _, _, rfl, by simpa [List.append_assoc] using b1, ?_, (g3.mono (fun j hj => .inl hj)).trans (b2.mono (S' := fun j => some j = (Value.slice A k cap).ownBlock ∨ some j = (Value.slice Av es.length capv).ownBlock) (fun j hj => .inr hj)) (fun j hj => .inl hj), ?_⟩
  · intro x hx
    simp only [List.mem_cons, List.not_mem_nil, or_false] at hx
    have s3 := g3.size
    rcases hx with rfl | rfl | rfl
    · exact ⟨H0.move (fun ad e => key ad (w0' ad e) (Nat.lt_of_lt_of_le (hA ad e) s3)), rfl, by show k ≤ k + 80; omega, fun ad e => ⟨w0' ad e, away ad (w0' ad e) (Nat.lt_of_lt_of_le (hA ad e) s3)⟩⟩
    · exact ⟨H1.move (fun ad e => key ad (w1' ad e) (l1 ad e)), rfl, by show k + 1 ≤ k + 80; omega, fun ad e => ⟨w1' ad e, away ad (w1' ad e) (l1 ad e)⟩⟩
    · exact ⟨H2.move (fun ad e => key ad (w2' ad e) (l2 ad e)), rfl, Nat.le_refl _, fun ad e => ⟨w2' ad e, away ad (w2' ad e) (l2 ad e)⟩⟩
  · exact b3.imp id (fun ⟨g, e, hl⟩ => ⟨g, e, Nat.le_trans g3.size hl⟩)
set_option maxHeartbeats 4000000 in
theorem keep_any {w : World} {b b' : Nat} {v l : Value} {es : List KE} {xs : List Int} (hB : BK w b v es) (hR : K.R 3 w b' (fun _ => True) l xs) (hb : b ≤ w.heap.size) (hb' : b' ≤ w.heap.size) (hl : xs.length ≤ 64) (hes : es.length ≤ 10000) (mark : Int) :
    Calls Try.prog 23 #[v, l, .int .i64 mark] w (Kept3 w b v l es mark xs.length) := by
  obtain ⟨A, cap, rfl⟩ := Kd.R_slice hR
  obtain ⟨Av, capv, rfl⟩ := Kd.R_slice hB
  have hne : Hid (∀ k, (Value.slice Av es.length capv).ownBlock = some k → some k ≠ (Value.slice A xs.length cap).ownBlock) := by
    intro k hk hk2
    obtain ⟨c1, h1⟩ := Kd.R_typed hB k hk
    obtain ⟨c2, h2⟩ := Kd.R_typed hR k hk2.symm
    exact cells_ne h1 h2 (by decide) rfl
  obtain ⟨n, hn⟩ : ∃ n, xs.length = n := ⟨_, rfl⟩
  rw [hn] at hR hl hne ⊢
  have HB := Lib.hid hB
  have HR := Lib.hid hR
  have HRw := Lib.hid hR
  have HN := Lib.hid hn
  clear hB hR hn
  go_enter Try.func23, Try.ntmps23
  go_wp2
  go_loopw [8] (fun i wr => ∃ k : Nat, k ≤ n ∧ i = .int .i64 k ∧ K.R 3 wr b' (fun _ => True) (.slice A n cap) (List.replicate k mark ++ xs.drop k) ∧ Only (fun j => some j = (Value.slice A n cap).ownBlock) w wr) (fun i _ => n - (intOf i).toNat)
  case atStart => exact ⟨0, Nat.zero_le _, rfl, by simpa using HR.out, Only.refl _ _⟩
  case round =>
    obtain ⟨k, hk, rfl, hR1, ho1⟩ := hrel
    by_cases hlt : k < n
    · have hL : (List.replicate k mark ++ xs.drop k).length = n := by rw [List.length_append, List.length_replicate, List.length_drop, HN.out]; omega
      have hC := (Kd.R_reads' hR1).2.2
      obtain ⟨ad, hA, _⟩ := hC.2.2 (by omega)
      subst hA
      obtain ⟨g, rfl⟩ := Kd.R_head hR1
      have hcell := Kd.R_cell (d := (0 : Int)) (by rw [hL]; exact hR1) (k : Int) (by omega) (by omega)
      simp only [Int.toNat_natCast] at hcell
      obtain ⟨hc1, hf1⟩ := hcell
      have hput := Kd.R_putn hR1 (k : Int) mark
      simp only [Int.toNat_natCast] at hput
      rw [fill_next xs mark (by rw [HN.out]; exact hlt)] at hput
      have hO2 : Only (fun j => some j = (Value.slice (some ⟨g, 0, none⟩) n cap).ownBlock) w (wr.setCell ⟨g, k, none⟩ (.int .i64 mark)) := ho1.trans ((Only.setCell wr _ _).mono (fun j hj => by subst hj; rfl)) (fun j hj => .inl hj)
      have HP := Lib.hid hput
      have HO := Lib.hid hO2
      clear hR1 ho1 hC hput hO2 hL
      go_wp2
      go_roundw
      case rel => exact ⟨k + 1, hlt, by go_num, HP.out, HO.out⟩
      case measure => simp [intOf]; omega
    · obtain rfl : k = n := by omega
      rw [← HN.out, List.drop_length, List.append_nil, HN.out] at hR1
      have HR1 := Lib.hid hR1
      have HO1 := Lib.hid ho1
      clear hR1 ho1 HR
      have hRl : (List.replicate k mark).length ≤ 8192 := by simp; omega
      have HRL := Lib.hid hRl
      clear hRl
      go_upto_region 7 with (first | (at_builtin; go_loud (refine wpList_append_keep b' rfl (.tmp 23) (.tmp 25) rfl (.slice A k cap) (List.replicate k mark) mark rfl rfl HR1.out (Nat.le_trans hb' HO1.out.size) HRL.out ?_); intro v1 w1 ha1; have HA1 := Lib.hid ha1; obtain ⟨A1, c1, e1⟩ := Kd.R_slice ha1.new; simp only [List.length_append, List.length_replicate, List.length_singleton] at e1; subst e1; clear ha1))
      have HG0 := Lib.hid (G2.start HO1.out HA1.out)
      go_wp2
      go_loopw [10, 11] (fun v2 i ws => ∃ j : Nat, j ≤ 80 ∧ i = .int .i64 j ∧ G2 w w1 ws b' (.slice A k cap) v2 k j mark) (fun _ i _ => 80 - (intOf i).toNat)
      case atStart => exact ⟨0, Nat.zero_le _, rfl, HG0.out⟩
      case round =>
        obtain ⟨j, hj, rfl, hg2⟩ := hrel
        obtain ⟨A2, c2, e2⟩ := Kd.R_slice hg2.1
        rw [List.length_replicate] at e2
        subst e2
        have HG := Lib.hid hg2
        clear hg2
        by_cases hj80 : j < 80
        · have HRL2 : Hid ((List.replicate (k + j) mark).length ≤ 8192) := by show (List.replicate (k + j) mark).length ≤ 8192; simp; omega
          have HSZ : Hid (b' ≤ wr.heap.size) := by
            have h1 := HG.out.2.2.1.size
            exact Nat.le_trans hb' h1
          go_wp2_with (first | (at_builtin; go_loud (refine wpList_append_keep b' rfl (.tmp 32) (.tmp 34) rfl (.slice A2 (k + j) c2) (List.replicate (k + j) mark) mark rfl rfl HG.out.1 HSZ.out HRL2.out ?_); intro v3 w4 ha3; have HA3 := Lib.hid ha3; clear ha3))
          go_roundw
          case rel => exact ⟨j + 1, hj80, by go_num, HG.out.next HA3.out⟩
          case measure => simp [intOf]; omega
        · obtain rfl : j = 80 := by omega
          have hBK : BK wr b (.slice Av es.length capv) es := HB.out.keep (fun k' hk => HG.out.2.2.1.block k' (HB.out.lt k' hk) (fun e => hne.out k' hk e))
          have hB0 : B4 b (.slice Av es.length capv) wr wr (.slice Av es.length capv) es := ⟨hBK, Only.refl _ _, .inl rfl⟩
          have H0 := Lib.hid hB0
          have H0L : Hid (b ≤ wr.heap.size) := Nat.le_trans hb HG.out.2.2.1.size
          clear hBK hB0
          go_upto_region 13 with (first | (at_builtin; go_loud (refine Kd.R_append kE (w0 := wr) b rfl (.tmp 36) (.tmp 41) 51 86 (.agg #[.slice none 0 0, .int .i64 0, .int .i64 0]) 40 rfl Try.underlying51 info86 rfl (by decide) (by decide) (.slice Av es.length capv) (es) (⟨A, cap, mark, k⟩ : KE) [.slice A (k) cap, .int .i64 mark, .int .i64 ((k : Int))] (fun _ => True) (fun _ => False) rfl rfl (kE_mk2 (by simp [cellsE])) (fun _ hk => hk.elim) (fun _ _ => trivial) H0.out.1 (Below.refl _ _) H0L.out (by skip; omega) ?_); intro v9 w9 hR9 _ hg9 hat9; have H1 := Lib.hid (H0.out.next hR9 hg9 hat9); clear hR9 hg9 hat9))
          obtain ⟨Av1, capv1, e1⟩ := Kd.R_slice H1.out.1
          simp only [List.length_append, List.length_singleton] at e1
          subst e1
          have H1L : Hid (b ≤ w9.heap.size) := Nat.le_trans H0L.out H1.out.2.1.size
          go_upto_region 14 with (first | (at_builtin; go_loud (refine Kd.R_append kE (w0 := w9) b rfl (.tmp 43) (.tmp 49) 51 86 (.agg #[.slice none 0 0, .int .i64 0, .int .i64 0]) 40 rfl Try.underlying51 info86 rfl (by decide) (by decide) (.slice Av1 (es.length + 1) capv1) (es ++ [KE.mk A cap mark k]) (⟨A1, c1, mark, k + 1⟩ : KE) [.slice A1 (k + 1) c1, .int .i64 mark, .int .i64 ((k : Int) + 1)] (fun _ => True) (fun _ => False) rfl rfl (kE_mk2 (by simp [cellsE])) (fun _ hk => hk.elim) (fun _ _ => trivial) H1.out.1 (Below.refl _ _) H1L.out (by simp; omega) ?_); intro v9 w10 hR9 _ hg9 hat9; have H2 := Lib.hid (H1.out.next hR9 hg9 hat9); clear hR9 hg9 hat9))
          obtain ⟨Av2, capv2, e2⟩ := Kd.R_slice H2.out.1
          simp only [List.length_append, List.length_singleton] at e2
          subst e2
          have H2L : Hid (b ≤ w10.heap.size) := Nat.le_trans H0L.out H2.out.2.1.size
          go_wp2_with (first | (at_builtin; go_loud (refine Kd.R_append kE (w0 := w10) b rfl (.tmp 51) (.tmp 57) 51 86 (.agg #[.slice none 0 0, .int .i64 0, .int .i64 0]) 40 rfl Try.underlying51 info86 rfl (by decide) (by decide) (.slice Av2 (es.length + 1 + 1) capv2) (es ++ [KE.mk A cap mark k] ++ [KE.mk A1 c1 mark (k + 1)]) (⟨A2, c2, mark, k + 80⟩ : KE) [.slice A2 (k + 80) c2, .int .i64 mark, .int .i64 ((k : Int) + 80)] (fun _ => True) (fun _ => False) rfl rfl (kE_mk2 (by simp [cellsE])) (fun _ hk => hk.elim) (fun _ _ => trivial) H2.out.1 (Below.refl _ _) H2L.out (by simp; omega) ?_); intro v9 w11 hR9 _ hg9 hat9; have H3 := Lib.hid (H2.out.next hR9 hg9 hat9); clear hR9 hg9 hat9))
          go_ret
          have hl0 : ∀ ad, A = some ad → ad.block < w.heap.size := fun ad e => by subst e; exact Kd.R_lt HRw.out ad.block rfl
          exact kept3_end HB.out hne.out HO1.out HA1.out HG.out H3.out hl0
end Go.Proofs.Ytekgdlpicgibhaa.QI
