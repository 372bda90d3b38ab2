/-
  A device: Write, New.
-/
import Derived.Test.YtekgdlpicgibhabD4
namespace Go.Proofs.Ytekgdlpicgibhab.EX
open Go.RowKit Go.Proofs.YtekgdlpicgibhabW.PrintWords Go.MuLone

section
variable {w : World} {b g mb m N gd n c : Nat} {vP vd : Value} {T : List (Int × Sl)} {D : List Int} {P : List (Int × List Int)}
theorem Dev.push {w5 : World} {lk bk : Int} {s : Sl} {xs : List Int} {v' : Value} (h : Dev w lk b g mb m vd vP T D P) (hg : w.grownBy w5 vP.ownBlock) (hR : Rq w5 b v' (T ++ [(bk, s)])) (hn : s.n = xs.length) (hs : Rb w b s.val xs)
    (hf : ∀ j, s.val.ownBlock = some j → vd.ownBlock ≠ some j) : Dev (w5.setCell ⟨g, 3, none⟩ v') lk b g mb m vd v' (T ++ [(bk, s)]) D (P ++ [(bk, xs)]) := by
  have far : ∀ (u : Value) (ys : List Int), Rb w b u ys → Rb w5 b u ys := fun u ys hu => hu.keep (fun j hj => hg.block j (hu.lt j hj) (fun e => by
    obtain ⟨c1, h1⟩ := Kd.R_typed hu j hj
    obtain ⟨c2, h2⟩ := Kd.R_typed h.row j e.symm
    exact cells_ne h1 h2 (by decide) rfl))
  have ho : Only (fun q => q = g) w5 (w5.setCell ⟨g, 3, none⟩ v') := Only.setCell w5 ⟨g, 3, none⟩ v'
  obtain ⟨cs, hgt⟩ := h.typ
  have hg5 : w5.heap[g]? = w.heap[g]? := hg.block g (heap_lt_of hgt) (fun e => h.row_ne e.symm)
  have nb : ∀ {v : Value} {xs : List Int} (hv : Rb w5 b v xs) k, v.ownBlock = some k → k ≠ g := fun hv k hk e => by
    obtain ⟨c1, h1⟩ := Kd.R_typed hv k hk
    exact cells_ne h1 (hg5.trans hgt) (by decide) e
  have nb2 : ∀ k, v'.ownBlock = some k → k ≠ g := fun k hk e => by
    obtain ⟨c1, h1⟩ := Kd.R_typed hR k hk
    exact cells_ne h1 (hg5.trans hgt) (by decide) e
  refine ⟨?_, h.gb, ?_, h.mbb, (far _ _ h.d).keep (fun k hk => ho.block k (Rb.lt (far _ _ h.d) k hk) (nb (far _ _ h.d) k hk)), hR.keep (fun k hk => ho.block k (Kd.R_lt hR k hk) (nb2 k hk)), by simp [h.len], fun k x p hx hp => ?_, fun k j x hx hj => ?_⟩
  · obtain ⟨s', hs'⟩ := h.blk
    exact ⟨s', heap_setCell_same w5 g 3 _ _ v' (hg5.trans hs')⟩
  · obtain ⟨es, cl, hm⟩ := h.mblk
    obtain ⟨X, hX⟩ := h.map
    refine ⟨X, ownsMap_keep (ownsMap_keep hX (hg.block mb (heap_lt_of hm) (fun e => ?_))) (Below.heap_setCell _ _ _ _ (fun e => h.g_ne e.symm))⟩
    obtain ⟨c1, h1⟩ := Kd.R_typed h.row mb e.symm
    rw [hm] at h1
    cases h1
  · have key : ∀ (x : Int × Sl) (p : Int × List Int), x.1 = p.1 ∧ x.2.n = p.2.length ∧ Rb w b x.2.val p.2 → x.1 = p.1 ∧ x.2.n = p.2.length ∧ Rb (w5.setCell ⟨g, 3, none⟩ v') b x.2.val p.2 := fun x p ⟨h1, h2, h3⟩ =>
      ⟨h1, h2, (far _ _ h3).keep (fun k hk => ho.block k (Rb.lt (far _ _ h3) k hk) (nb (far _ _ h3) k hk))⟩
    by_cases hk : k < T.length
    · rw [List.getElem?_append_left hk] at hx
      rw [List.getElem?_append_left (by rw [← h.len]; exact hk)] at hp
      exact key x p (h.at_ k x p hx hp)
    · obtain rfl : k = T.length := by have := (List.getElem?_eq_some_iff.1 hx).1; simp at this; omega
      rw [List.getElem?_append_right (Nat.le_refl _), Nat.sub_self] at hx
      rw [h.len, List.getElem?_append_right (Nat.le_refl _), Nat.sub_self] at hp
      simp at hx hp
      subst hx
      subst hp
      exact key _ _ ⟨rfl, hn, hs⟩
  · by_cases hk : k < T.length
    · rw [List.getElem?_append_left hk] at hx
      exact h.apart k j x hx hj
    · obtain rfl : k = T.length := by have := (List.getElem?_eq_some_iff.1 hx).1; simp at this; omega
      rw [List.getElem?_append_right (Nat.le_refl _), Nat.sub_self] at hx
      simp at hx
      subst hx
      exact hf j hj
set_option maxRecDepth 100000 in
set_option maxHeartbeats 2000000 in
theorem write_any {Ax : Option Addr} {cx bx : Nat} {bk : Int} {xs : List Int} (h : Dev w 0 b g mb m vd vP T D P) (hD : D.length = 512 * N) (hN : N ≤ 4096) (hb0 : 0 ≤ bk) (hb1 : bk < N) (hx : Rb w bx (.slice Ax 512 cx) xs) (hm : m ≤ 1048576) (hL : P.length ≤ 1048576) :
    Calls Try.prog 22 #[.pointer (some ⟨g, 0, none⟩), .int .i64 bk, .slice Ax 512 cx] w fun e w' => ∃ vP' T', e = .returned (.int .i64 0) ∧ Dev w' 0 b g mb (m + 1) vd vP' T' D (P ++ [(bk, xs)]) ∧ Only (devS g mb vd vP) w w' := by
  obtain ⟨z0, _, _, _, _, _, hf⟩ := h.cells
  have f0 := hf 0
  obtain ⟨_, _, A', c', _, e2⟩ := h.slices
  have H1 := Lib.hid (h.lock 1)
  have hlen : xs.length = 512 := hx.rd.cells.1.symm
  have hbs : b ≤ w.heap.size := by have := h.lt g (.inl rfl); omega
  obtain ⟨w1, hw1⟩ : ∃ w1, w.setCell ⟨g, 0, none⟩ (.int .i32 1) = w1 := ⟨_, rfl⟩
  have hsz : w1.heap.size = w.heap.size := by rw [← hw1]; simp
  have HO1 : Hid (Only (devS g mb vd vP) w w1) := by show Only _ _ _; rw [← hw1]; exact only_lock w g _
  have hx1 : Rd w1 (.slice Ax 512 cx) xs := by
    obtain ⟨cs, hgt⟩ := h.typ
    rw [← hw1]
    exact (hx.set hgt (by decide) _).rd
  rw [hw1] at H1
  have HW := Lib.hid hw1
  have HX1 := Lib.hid hx1
  have HD := Lib.hid hD
  have HE := Lib.hid e2
  have HLN := Lib.hid hlen
  have HSZ := Lib.hid hsz
  have HBS := Lib.hid hbs
  clear h hf hw1 hD hx hx1 e2 hlen hsz hbs
  go_enter_defers Try.func22, Try.ntmps22
  go_wp2_with (go_at_call 41; refine (lock_free muLib ⟨g, 0, none⟩ _ z0 f0).mono ?_; rintro e w' ⟨rfl, rfl⟩; rw [HW.out])
  refine (has_yes H1.out HD.out hN hb0 hb1).mono ?_
  rintro e w2 ⟨rfl, rfl⟩
  go_wp2_with fail
  refine (powered_yes H1.out).mono ?_
  rintro e w2 ⟨rfl, rfl⟩
  go_wp2_with fail
  refine (clone_any HX1.out (by rw [HLN.out]; decide)).mono ?_
  rintro e w3 ⟨v3, rfl, hR3, hb3⟩
  obtain ⟨A3, c3, e3⟩ := Kd.R_slice hR3
  rw [HLN.out] at e3
  subst e3
  have HD3 := Lib.hid (H1.out.below hb3)
  have HB3 := Lib.hid hb3
  have HR3 : Hid (Rb w3 b (.slice A3 512 c3) xs) := hR3.lower (by rw [HSZ.out]; exact HBS.out)
  have HF3 : Hid (∀ j, (Value.slice A3 512 c3).ownBlock = some j → vd.ownBlock ≠ some j) := fun j hj e => by
    have h1 := hR3.base j hj
    have h2 := H1.out.d.lt j e
    omega
  obtain ⟨_, _, y3, y4, _, _, yf⟩ := HD3.out.cells
  rw [HE.out] at y3
  have hTl : T.length = P.length := HD3.out.len
  have HTL := Lib.hid hTl
  have HBS3 : Hid (b ≤ w3.heap.size) := by have h1 := HBS.out; have h2 := HSZ.out; have h3 := hb3.size; show b ≤ _; omega
  have HRW : Hid (Rq w3 b (.slice A' P.length c') T) := by show Rq _ _ _ _; rw [← HE.out]; exact HD3.out.row
  have yf3 := yf 3
  have HRN : Hid (some g ≠ (Value.slice A' P.length c').ownBlock) := fun e => HD3.out.row_ne (by rw [HE.out]; exact e.symm)
  obtain ⟨cg3, hcg3⟩ := HD3.out.typ
  have HCG := Lib.hid hcg3
  have HY3 := Lib.hid y3
  have hg3 : g < w3.heap.size := HD3.out.lt g (.inl rfl) |>.2
  clear hR3 hb3 yf hTl hcg3
  go_upto_region 11 with (first | (at_builtin; go_loud ((refine Kd.R_append kQ (w0 := w3) b rfl (.tmp 31) (.tmp 35) 25 30 (.agg #[.int .i64 0, .slice none 0 0]) 32 rfl Try.underlying25 info30 rfl (by decide) (by decide) (.slice A' P.length c') T (bk, (⟨A3, 512, c3⟩ : Sl)) [.int .i64 bk, .slice A3 512 c3] (fun _ => True) (fun _ => False) rfl rfl (kQ_mk rfl) (fun _ hk => hk.elim) (fun _ _ => trivial) HRW.out (show Below b w3 w3 from ⟨rfl, rfl, rfl, Nat.le_refl _, fun _ _ => rfl⟩) HBS3.out (by rw [HTL.out]; omega) ?_; intro v5 w5 hR5 _ hg5 hat5; obtain ⟨A5, c5, e5⟩ := Kd.R_slice hR5; simp only [List.length_append, List.length_cons, List.length_nil, Nat.zero_add] at e5; rw [HTL.out] at e5; subst e5; have HG5 := Lib.hid hg5; have HR5 := Lib.hid hR5; have hgb := hg5.block g hg3 HRN.out; have q3 := (World.cell?_of_block (a := ⟨g, 3, none⟩) hgb).trans HY3.out; have qf3 : w5.frozen? ⟨g, 3, none⟩ = false := not_frozen (hgb.trans HCG.out) 3; clear hR5 hg5 hat5 hgb))))
  have hg5 : w3.grownBy w5 vP.ownBlock := by rw [HE.out]; exact HG5.out
  have hd6 : Dev (w5.setCell ⟨g, 3, none⟩ (.slice A5 (P.length + 1) c5)) 1 b g mb m vd (.slice A5 (P.length + 1) c5) (T ++ [(bk, ⟨A3, 512, c3⟩)]) D (P ++ [(bk, xs)]) := HD3.out.push hg5 HR5.out HLN.out.symm HR3.out HF3.out
  have hO6 : Only (devS g mb vd vP) w (w5.setCell ⟨g, 3, none⟩ (.slice A5 (P.length + 1) c5)) := ((HO1.out.then_below HB3.out).trans (Only.of_grown hg5) (fun q hq => .inl (.inr (.inr (.inr hq.symm))))).set 3 _
  obtain ⟨w6, hw6⟩ : ∃ w6, w5.setCell ⟨g, 3, none⟩ (.slice A5 (P.length + 1) c5) = w6 := ⟨_, rfl⟩
  rw [hw6] at hd6 hO6 ⊢
  obtain ⟨_, _, _, u4, _⟩ := hd6.cells
  obtain ⟨X0, hX0⟩ := hd6.map
  have HX0 := Lib.hid hX0
  have HD6 := Lib.hid hd6
  have HO6 := Lib.hid hO6
  have HKEY : Hid (keyOf Try.prog 3 (.int .i64 bk) = some (.int .i64 bk)) := Maps.keyOf_int_mk Try.underlying3 (Go.WalkArith.wf_i64 ⟨by omega, by omega⟩)
  have hmx : m < maxLen := by unfold maxLen; omega
  clear hg5 hd6 hO6 hX0 hw6 q3 qf3 y3 y4
  go_wp2_with (first | (at_mapUpdate; go_loud ((refine wpList_mapUpdate_own _ rfl _ _ _ 85 rfl 3 24 (Maps.int_keyed Try.underlying3) Try.underlying85 anyR mb m X0 rfl HX0.out hmx _ _ (.int .i64 bk) rfl rfl HKEY.out .nil [] rfl ?_; intro w7 ho7 hg7; have HG7 := Lib.hid hg7; have HO7 := Lib.hid ho7; clear ho7 hg7))))
  have HD7 := Lib.hid (HD6.out.maps HG7.out ⟨_, HO7.out⟩)
  have HO8 : Hid (Only (devS g mb vd vP) w w7) := HO6.out.trans (Only.of_grown HG7.out) (fun q hq => .inl (.inr (.inl (Option.some.inj hq))))
  obtain ⟨v0, _, _, _, _, _, vf⟩ := HD7.out.cells
  have vf0 := vf 0
  clear vf
  refine leaves_cons (f := 42) (args := #[.pointer (some ⟨g, 0, none⟩)]) (by simp) (by simp [go_sem]) ?_
  refine (unlock_deferred muLib ⟨g, 0, none⟩ .returning _ v0 vf0).mono ?_
  rintro e u' w'' ⟨rfl, rfl, rfl⟩
  exact ⟨_, results_tmp rfl _ _ _, _, _, rfl, HD7.out.lock 0, HO8.out.set 0 _⟩
end
end Go.Proofs.Ytekgdlpicgibhab.EX
