/-
  A device: has, powered, block; Write; New.
-/
import Derived.Test.YtekgdlpicgibhabD2
import Derived.IntWalk
import Derived.Deep.DeepCutAuto
namespace Go.Proofs.Ytekgdlpicgibhab.EX
open Go.RowKit Go.Proofs.YtekgdlpicgibhabW.PrintWords Go.MuLone

section
variable {w : World} {lk : Int} {b g mb m : Nat} {vd vP : Value} {T : List (Int × Sl)} {D : List Int} {P : List (Int × List Int)}
theorem Dev.devAt (h : Dev w lk b g mb m vd vP T D P) : DevAt w 2 g D.length := by
  obtain ⟨A, c, _, _, e, _⟩ := h.slices
  exact ⟨A, c, by rw [← e]; exact h.cells.2.1⟩
theorem has_yes (h : Dev w lk b g mb m vd vP T D P) {N : Nat} (hD : D.length = 512 * N) (hN : N ≤ 4096) {bk : Int} (h0 : 0 ≤ bk) (h1 : bk < N) :
    Calls Try.prog 43 #[.pointer (some ⟨g, 0, none⟩), .int .i64 bk] w fun e w' => e = .returned (.bool true) ∧ w = w' := by
  have hs := size_any h.devAt (by omega)
  have e : D.length / 512 = N := by omega
  rw [e] at hs
  have HS := Lib.hid hs
  clear hs h hD e
  go_enter Try.func43, Try.ntmps43
  go_wp2_with (go_at_call 34; refine HS.out.mono ?_; rintro e w' ⟨rfl, rfl⟩)
  go_ret
  exact ⟨rfl, rfl⟩
theorem powered_yes (h : Dev w lk b g mb m vd vP T D P) : Calls Try.prog 44 #[.pointer (some ⟨g, 0, none⟩)] w fun e w' => e = .returned (.bool true) ∧ w = w' := by
  obtain ⟨_, _, _, _, z5, z6, _⟩ := h.cells
  clear h
  go_enter Try.func44, Try.ntmps44
  go_wp2
  go_ret
  exact ⟨rfl, rfl⟩
theorem block_any {gd n c : Nat} (h : Dev w lk b g mb m (.slice (some ⟨gd, 0, none⟩) n c) vP T D P) {N bk : Nat} (hD : D.length = 512 * N) (hN : N ≤ 4096) (h1 : bk < N) :
    Calls Try.prog 53 #[.pointer (some ⟨g, 0, none⟩), .int .i64 bk] w fun e w' => e = .returned (.slice (some ⟨gd, 512 * bk, none⟩) 512 (c - 512 * bk)) ∧ w = w' := by
  obtain ⟨_, z2, _⟩ := h.cells
  have hn : n = D.length := (Kd.R_reads' h.d).1
  have hc : n ≤ c := (Kd.R_reads' h.d).2.1
  have hc2 : 512 * N ≤ c := by omega
  have e1 : (bk : Int) * 512 = ((512 * bk : Nat) : Int) := by omega
  have e2 : ((bk : Int) + 1) * 512 = ((512 * bk + 512 : Nat) : Int) := by omega
  clear h
  go_enter Try.func53, Try.ntmps53
  go_wp2
  go_ret
  refine ⟨?_, rfl⟩
  show Ending.returned (.slice (some ⟨gd, 512 * bk, none⟩) (512 * bk + 512 - 512 * bk) (c - 512 * bk)) = _
  rw [Nat.add_sub_cancel_left]
end
/-- copy, into a row: that row alone has turned. -/
theorem step_copy_only {P : Program} {ops : Array Oper} {o : Oper} {a : Act} {w : World} {K : Act → World → Prop} {Q : Exit → Act → World → Prop} {E : Prop} (hgd : o.guard = none) (d s : Operand) (dT sT : TypeId)
    (ho : o.op = .call { callee := .builtin .copy, args := #[d, s], argTypes := #[dT, sT] }) (elem : TypeId) (hu : P.underlying dT = some (.slice elem)) (hsz : (P.info? elem).map (·.size) = some 1)
    (dp sp : Option Addr) (dLen dCap sLen sCap : Nat) (hd : a.eval d = .slice dp dLen dCap) (hs : a.eval s = .slice sp sLen sCap)
    (g off : Nat) (cur : List Value) (t : TypeId) (hg : w.heap[g]? = some (.cells cur.toArray t (0, 0))) (cs : List Value) (hn : cs.length = Nat.min sLen dLen)
    (hpos : 0 < cs.length → dp = some ⟨g, off, none⟩ ∧ ∃ ad, sp = some ad ∧ ∀ j v, cs[j]? = some v → w.cell? (ad.add j) = some v)
    (hfit : off + cs.length ≤ cur.length) (h1 : ∀ v ∈ cs, v.oneCell' = true)
    (h : ∀ w', Hid (w'.heap[g]? = some (.cells (splice cur off cs).toArray t (0, 0))) → Hid (Only (fun k => k = g) w w') → K (a.put o.dst (goInt cs.length)) w') :
    if Region.wanted o (yielded ops a.tmps) = true then Oper.wp P o a w K Q else E := by
  have hw : Region.wanted o (yielded ops a.tmps) = true := by simp [Region.wanted, hgd]
  rw [if_pos hw]
  by_cases h0 : cs.length = 0
  · obtain rfl : cs = [] := List.eq_nil_of_length_eq_zero h0
    have hrun := run_copy_none (P := P) w dT sT o.type elem dp sp dLen dCap sLen sCap hu hsz (by simpa using hn.symm)
    unfold Oper.wp
    simp [execOp, ho, resolve, invoke, builtin, hd, hs, hrun, Result.andThen]
    exact h w (show _ = _ by simpa [splice] using hg) (Only.refl _ _)
  · obtain ⟨rfl, ad, rfl, hsrc⟩ := hpos (by omega)
    have hrun := run_copy_row (P := P) w dT sT o.type elem g off dLen dCap ad sLen sCap cur.toArray t cs hu hsz hg hn hsrc (by simpa using hfit) h1
    unfold Oper.wp
    simp [execOp, ho, resolve, invoke, builtin, hd, hs, hrun, Result.andThen]
    refine h _ (show _ = _ by simpa [splice] using setRow_heap w g _ _ t _ hg) ?_
    have hb : ∀ c', Below 0 w (w.setRow g c') := fun c' => below_setRow (Below.refl 0 w) (Nat.zero_le g) c'
    exact ⟨(hb _).os, (hb _).tape, (hb _).output, (hb _).size, fun k _ hk => setRow_other w g k _ hk⟩
theorem step_delete_own {P : Program} {ops : Array Oper} {o : Oper} {a : Act} {w : World} {K0 : Act → World → Prop} {Q : Exit → Act → World → Prop} {E : Prop} (hgd : o.guard = none) (mo x : Operand) (t k : TypeId) (hop : o.op = Op.call { callee := Callee.builtin Builtin.delete, args := #[mo, x], argTypes := #[t, k] })
    (e : TypeId) (K : Maps.Keyed P k) (ht : P.underlying t = some (.map k e)) (R : Value → Option (DataW Unit × List MemPlace)) (b n : Nat) (D : DataW Unit)
    (hm : a.eval mo = .map (some b)) (hown : w.ownsMap P k R b n D) (key : Value) (kl : Lit) (hx : a.eval x = key) (hkey : keyOf P k key = some kl)
    (hK : ∀ w', Hid (∃ X, w'.ownsMap P k R b n X) → Hid (w.grownBy w' (some b)) → K0 (a.put o.dst (.tuple #[])) w') :
    if Region.wanted o (yielded ops a.tmps) = true then Oper.wp P o a w K0 Q else E := by
  have hw : Region.wanted o (yielded ops a.tmps) = true := by simp [Region.wanted, hgd]
  rw [if_pos hw]
  obtain ⟨w', hrun, r1, r2⟩ := hown.drop K ht hkey o.type
  unfold Oper.wp
  simp [execOp, hop, resolve, invoke, builtin, hm, hx, hrun, Result.andThen]
  exact hK w' (show ∃ X, _ from ⟨_, r1⟩) (show World.grownBy _ _ _ from r2.grown)
/-- What lasts when the kept ones of the first k writes are laid. -/
def keepK (D : List Int) (P : List (Int × List Int)) (kf : Nat → Bool) : Nat → List Int
  | 0 => D
  | k + 1 => match P[k]? with
    | none => keepK D P kf k
    | some p => if kf k = true then put (keepK D P kf k) p.1.toNat p.2 else keepK D P kf k
theorem keepK_no {D : List Int} {P : List (Int × List Int)} {kf : Nat → Bool} {k : Nat} (h : kf k = false) : keepK D P kf (k + 1) = keepK D P kf k := by
  conv => lhs; unfold keepK
  split
  · rfl
  · rw [if_neg (by rw [h]; decide)]
theorem keepK_yes {D : List Int} {P : List (Int × List Int)} {kf : Nat → Bool} {k : Nat} {p : Int × List Int} (hp : P[k]? = some p) (h : kf k = true) : keepK D P kf (k + 1) = put (keepK D P kf k) p.1.toNat p.2 := by
  conv => lhs; unfold keepK
  rw [hp]
  simp only
  rw [if_pos h]
theorem keepK_len {D : List Int} {P : List (Int × List Int)} {N : Nat} (hb : D.length = 512 * N) (hok : Ok N P) (kf : Nat → Bool) (k : Nat) : (keepK D P kf k).length = 512 * N := by
  induction k with
  | zero => exact hb
  | succ k ih =>
    unfold keepK
    split
    · exact ih
    · next p hp =>
      obtain ⟨h0, h1, h2⟩ := hok p (List.mem_of_getElem? hp)
      split
      · rw [put_len h2 (by rw [ih]; omega)]; exact ih
      · exact ih
section
variable {w : World} {b g mb m : Nat} {vd vP : Value} {T : List (Int × Sl)} {D : List Int} {P : List (Int × List Int)}
/-- What lasts is turned. -/
theorem Dev.dur {w1 : World} {lk : Int} {gd n c : Nat} (h : Dev w lk b g mb m (.slice (some ⟨gd, 0, none⟩) n c) vP T D P) (ho : Only (fun k => k = gd) w w1) {D' : List Int} (hd : Rb w1 b (.slice (some ⟨gd, 0, none⟩) n c) D') :
    Dev w1 lk b g mb m (.slice (some ⟨gd, 0, none⟩) n c) vP T D' P := by
  obtain ⟨cd, hdt⟩ := Kd.R_typed h.d gd rfl
  obtain ⟨cg, hgt⟩ := h.typ
  refine ⟨?_, h.gb, ?_, h.mbb, hd, h.row.keep (fun k hk => ho.block k (Kd.R_lt h.row k hk) (fun e => ?_)), h.len, fun k x p hx hp => ?_, h.apart⟩
  · obtain ⟨s, hs⟩ := h.blk
    exact ⟨s, (ho.block g (heap_lt_of hs) (fun e => cells_ne hgt hdt (by decide) e)).trans hs⟩
  · obtain ⟨es, c', hs⟩ := h.mblk
    obtain ⟨X, hX⟩ := h.map
    refine ⟨X, ownsMap_keep hX (ho.block mb (heap_lt_of hs) (fun e => ?_))⟩
    have e' : mb = gd := e
    rw [e', hdt] at hs
    cases hs
  · obtain ⟨c1, h1⟩ := Kd.R_typed h.row k hk
    exact cells_ne h1 hdt (by decide) e
  · obtain ⟨h1, h2, h3⟩ := h.at_ k x p hx hp
    exact ⟨h1, h2, h3.keep (fun j hj => ho.block j (h3.lt j hj) (fun e => h.apart k j x hx hj (by rw [show j = gd from e]; rfl)))⟩
theorem Dev.maps {w1 : World} {lk : Int} {m' : Nat} (h : Dev w lk b g mb m vd vP T D P) (hg : w.grownBy w1 (some mb)) (hm : ∃ X, w1.ownsMap (H := Unit) Try.prog 3 anyR mb m' X) : Dev w1 lk b g mb m' vd vP T D P := by
  obtain ⟨es, cl, hmt⟩ := h.mblk
  have ne : ∀ {k : Nat} {cs : Array Value} {t : Nat}, w.heap[k]? = some (.cells cs t (0, 0)) → some k ≠ some mb := fun hk e => by
    cases e
    rw [hmt] at hk
    cases hk
  refine ⟨?_, h.gb, hm, h.mbb, h.d.keep (fun k hk => ?_), h.row.keep (fun k hk => ?_), h.len, fun k x p hx hp => ?_, h.apart⟩
  · obtain ⟨s, hs⟩ := h.blk
    exact ⟨s, (hg.block g (heap_lt_of hs) (ne hs)).trans hs⟩
  · obtain ⟨c1, h1⟩ := Kd.R_typed h.d k hk
    exact hg.block k (heap_lt_of h1) (ne h1)
  · obtain ⟨c1, h1⟩ := Kd.R_typed h.row k hk
    exact hg.block k (heap_lt_of h1) (ne h1)
  · obtain ⟨h1, h2, h3⟩ := h.at_ k x p hx hp
    refine ⟨h1, h2, h3.keep (fun j hj => ?_)⟩
    obtain ⟨c1, h4⟩ := Kd.R_typed h3 j hj
    exact hg.block j (heap_lt_of h4) (ne h4)
set_option maxRecDepth 100000 in
set_option maxHeartbeats 8000000 in
theorem settle_any {gd n c N F : Nat} {caps : Array Value} {kf : Nat → Bool} (h : Dev w 1 b g mb m (.slice (some ⟨gd, 0, none⟩) n c) vP T D P) (hD : D.length = 512 * N) (hN : N ≤ 4096) (hok : Ok N P) (hL : P.length ≤ 1048576)
    (hent : ∀ (args : Array Value) (W : World), (callFunc F args).run Try.prog W = .ok (.enter F args) W)
    (hkeep : ∀ (i : Nat) (W : World), i < P.length → Only (devS g mb (.slice (some ⟨gd, 0, none⟩) n c) vP) w W → Calls Try.prog F (#[.int .i64 i] ++ caps) W (fun e w' => e = .returned (.bool (kf i)) ∧ W = w')) :
    Calls Try.prog 46 #[.pointer (some ⟨g, 0, none⟩), .func (.func F) #[] caps] w fun e w' => e = .returned (.tuple #[]) ∧ Dev w' 1 b g mb m (.slice (some ⟨gd, 0, none⟩) n c) (.slice none 0 0) [] (keepK D P kf P.length) [] ∧
      Only (devS g mb (.slice (some ⟨gd, 0, none⟩) n c) vP) w w' := by
  obtain rfl : n = D.length := (Kd.R_reads' h.d).1
  obtain ⟨_, _, A', c', _, e2⟩ := h.slices
  obtain ⟨z0, z2, z3, z4, z5, z6, hf⟩ := h.cells
  rw [e2] at z3
  have HE := Lib.hid e2
  have H := Lib.hid h
  have HK := Lib.hid hkeep
  have HOK := Lib.hid hok
  have HDN := Lib.hid hD
  clear h hD hkeep hok e2 z0 z2 z4 z5 z6 hf
  go_enter Try.func46, Try.ntmps46
  go_wp2
  go_loopw [11] (fun i wr => ∃ k : Nat, k ≤ P.length ∧ i = .int .i64 k ∧ Dev wr 1 b g mb m (.slice (some ⟨gd, 0, none⟩) D.length c) vP T (keepK D P kf k) P ∧ Only (devS g mb (.slice (some ⟨gd, 0, none⟩) D.length c) vP) w wr) (fun i _ => P.length - (intOf i).toNat)
  case atStart => exact ⟨0, Nat.zero_le _, rfl, H.out, Only.refl _ _⟩
  case round =>
    obtain ⟨k, hk, rfl, hD1, hO⟩ := hrel
    have HD1 := Lib.hid hD1
    have HO := Lib.hid hO
    have HOWR := Lib.hid hO
    clear hD1 hO
    by_cases hlt : k < P.length
    · obtain ⟨p, hp⟩ : ∃ p, P[k]? = some p := ⟨_, List.getElem?_eq_getElem hlt⟩
      obtain ⟨x, hx⟩ : ∃ x, T[k]? = some x := ⟨_, List.getElem?_eq_getElem (by rw [HD1.out.len]; exact hlt)⟩
      obtain ⟨h1, h2, h3⟩ := HD1.out.at_ k x p hx hp
      have hrow := HD1.out.row
      rw [HE.out] at hrow
      obtain ⟨gp, e3, u0, u1⟩ := Rq.cell hrow hx
      subst e3
      obtain ⟨b0, b1, b2⟩ := HOK.out p (List.mem_of_getElem? hp)
      obtain ⟨bk, xs⟩ := p
      obtain ⟨xb, xA, xn, xc⟩ := x
      simp only at h1 h2 h3 u0 u1 b0 b1 b2
      subst h1
      subst h2
      obtain ⟨bn, rfl⟩ : ∃ bn : Nat, xb = (bn : Int) := ⟨xb.toNat, by omega⟩
      have HR := Lib.hid h3.rd
      have HB2 := Lib.hid b2
      have HRL : Hid (Rd wr (.slice xA 512 xc) xs) := by have h := HR.out; rw [← b2]; exact h
      rw [b2] at u1
      clear HR b2
      have HPk := Lib.hid hp
      clear hrow hx h3 hp
      go_upto_region 3 with fail
      obtain ⟨W6, hW6⟩ : ∃ W6, wr.alloc (.cells #[.int .i64 bn, .slice xA 512 xc] 30) = W6 := ⟨_, rfl⟩
      rw [hW6]
      have hbb : W6.heap[wr.heap.size]? = some (.cells #[.int .i64 bn, .slice xA 512 xc] 30 (0, 0)) := by subst hW6; exact heap_alloc_new wr _
      have hB6 : Below wr.heap.size wr W6 := by subst hW6; exact below_alloc (Below.refl _ _) _
      have t0 : W6.cell? ⟨wr.heap.size, 0, none⟩ = some (.int .i64 bn) := (blk_cell hbb 0).trans rfl
      have t1 : W6.cell? ⟨wr.heap.size, 1, none⟩ = some (.slice xA 512 xc) := (blk_cell hbb 1).trans rfl
      have HR6 := Lib.hid (HRL.out.below (Nat.le_refl _) hB6)
      have HD6 := Lib.hid (HD1.out.below hB6)
      have HO6 := Lib.hid (HO.out.then_below hB6)
      clear hbb hW6 hB6 u0 u1 HD1 HO HRL
      go_wp2_with fail
      refine (HK.out k W6 hlt HO6.out).mono ?_
      rintro e w7 ⟨rfl, rfl⟩
      obtain ⟨y0, y2, y3, y4, y5, y6, yf⟩ := HD6.out.cells
      clear yf y0 y2 y3 y5 y6
      obtain ⟨X0, hX0⟩ := HD6.out.map
      have HX0 := Lib.hid hX0
      have HDL : Hid ((keepK D P kf k).length = 512 * N) := keepK_len HDN.out HOK.out kf k
      have hbn : bn < N := by omega
      cases hkf : kf k with
      | false =>
        have HKN := Lib.hid (keepK_no (D := D) (P := P) hkf)
        have HKF := Lib.hid hkf
        clear hkf hX0
        have HDZ : Hid (∀ q, Dev (W6.drewN q) 1 b g mb m (.slice (some ⟨gd, 0, none⟩) D.length c) vP T (keepK D P kf (k + 1)) P) := fun q => by rw [HKN.out]; exact HD6.out.below (pw_below_drewN (Below.refl _ _) q)
        have HOZ : Hid (∀ q, Only (devS g mb (.slice (some ⟨gd, 0, none⟩) D.length c) vP) w (W6.drewN q)) := fun q => HO6.out.then_below (pw_below_drewN (Below.refl _ _) q)
        go_wp2
        have HKEY : Hid (keyOf Try.prog 3 (.int .i64 (bn : Int)) = some (.int .i64 (bn : Int))) := Maps.keyOf_int_mk Try.underlying3 (Go.WalkArith.wf_i64 ⟨by omega, by omega⟩)
        go_region_law ((refine step_delete_own (by rfl) (.tmp 29) (.tmp 31) 85 3 (by rfl) 24 (Maps.int_keyed Try.underlying3) Try.underlying85 anyR mb m X0 (by rfl) (ownsMap_keep HX0.out rfl) (.int .i64 (bn : Int)) (.int .i64 (bn : Int)) (by rfl) HKEY.out ?_; intro w9 hm9 hg9))
        all_goals
          have HD9 := Lib.hid (Dev.maps (HDZ.out _) hg9.out hm9.out)
          have HO9 : Hid (Only (devS g mb (.slice (some ⟨gd, 0, none⟩) D.length c) vP) w w9) := (HOZ.out _).trans (Only.of_grown hg9.out) (fun q hq => .inl (.inr (.inl (Option.some.inj hq))))
          clear hm9 hg9
          go_wp2
          go_roundw
          case rel => exact ⟨k + 1, hlt, by go_num, HD9.out, HO9.out⟩
          case measure => simp [intOf]; omega
      | true =>
        have HKN := Lib.hid (keepK_yes (D := D) HPk.out hkf)
        have HKF := Lib.hid hkf
        clear hkf hX0
        obtain ⟨cur, hcur, hcl, hnc, hcm, htk, hbg, _⟩ := Rb.opened HD6.out.d
        have hdl : 512 * bn + 512 ≤ D.length := by rw [HDN.out]; omega
        have HCUR := Lib.hid hcur
        have HCL := Lib.hid hcl
        have HTK := Lib.hid htk
        have hblk : Hid (∀ q, Calls Try.prog 53 #[.pointer (some ⟨g, 0, none⟩), .int .i64 bn] (W6.drewN q) fun e w' => e = .returned (.slice (some ⟨gd, 512 * bn, none⟩) 512 (c - 512 * bn)) ∧ W6.drewN q = w') := fun q => block_any (HD6.out.below (pw_below_drewN (Below.refl _ _) q)) HDL.out hN hbn
        have HSRC : Hid (∀ q, ∃ ad, xA = some ad ∧ ∀ j v, (encs byt xs)[j]? = some v → (W6.drewN q).cell? (ad.add j) = some v) := fun q => src_cells (HR6.out.drewN q) (by omega)
        have HLX : Hid ((encs byt xs).length = 512) := by show _ = _; rw [encs_length]; exact HB2.out
        clear hcur hcl htk
        go_upto_region 4 with fail
        go_cut [] (fun wx => Dev wx 1 b g mb m (.slice (some ⟨gd, 0, none⟩) D.length c) vP T (keepK D P kf (k + 1)) P ∧ Only (devS g mb (.slice (some ⟨gd, 0, none⟩) D.length c) vP) w wx ∧ wx.cell? ⟨wr.heap.size, 0, none⟩ = some (.int .i64 bn))
        case first =>
          go_region_law (first | ((refine step_copy_only (by rfl) (.tmp 22) (.tmp 24) 24 24 (by rfl) 5 Try.underlying24 isz5 (some ⟨gd, 512 * bn, none⟩) xA 512 (c - 512 * bn) 512 xc (by rfl) (by rfl) gd (512 * bn) cur 5 HCUR.out (encs byt xs) (by rw [HLX.out]; rfl) (fun _ => ⟨rfl, HSRC.out _⟩) (by rw [HLX.out, HCL.out]; omega) (by intro u hu; simp only [encs, List.mem_map] at hu; obtain ⟨_, _, rfl⟩ := hu; rfl) ?_; intro w9 hg9 ho9)) | (go_simp; go_at_call 53; refine (hblk.out _).mono ?_; rintro e w7 ⟨rfl, rfl⟩))
          all_goals
            have hbq := pw_below_drewN (Below.refl W6.heap.size W6) 1
            have hd9 : Dev w9 1 b g mb m (.slice (some ⟨gd, 0, none⟩) D.length c) vP T (keepK D P kf (k + 1)) P := by
              have e := HKN.out
              simp only [Int.toNat_natCast] at e
              rw [e]
              refine (HD6.out.below hbq).dur ho9.out (Rb.shut hg9.out (by rw [length_splice _ _ _ (by rw [HLX.out, HCL.out]; omega)]; exact HCL.out) hnc hcm (splice_put HTK.out (by rw [HDL.out, HDN.out]) (by rw [HCL.out]; exact hnc) HB2.out hdl rfl) hbg ?_)
              rw [put_len HB2.out (by rw [HDL.out, ← HDN.out]; exact hdl), HDL.out, HDN.out]
            have hx9 : Only (devS g mb (.slice (some ⟨gd, 0, none⟩) D.length c) vP) w w9 := (HO6.out.then_below hbq).trans ho9.out (fun q hq => .inl (.inr (.inr (.inl (by rw [show q = gd from hq]; rfl)))))
            have ht9 : w9.cell? ⟨wr.heap.size, 0, none⟩ = some (.int .i64 bn) := by
              refine (World.cell?_of_block (w := W6) ?_).trans t0
              exact (ho9.out.block _ (by have := World.block_lt_of_cell? W6 _ t0; exact this) (fun e => by
                have h1 := Rb.lt H.out.d gd rfl
                have h2 := HOWR.out.size
                have e' : wr.heap.size = gd := e
                omega))
            go_wp2_with fail
            go_meet
            exact ⟨hd9, hx9, ht9⟩
        case rest =>
          rename World => wx
          obtain ⟨hDX, hOX, t0⟩ := hcut
          have HDZ : Hid (∀ q, Dev (wx.drewN q) 1 b g mb m (.slice (some ⟨gd, 0, none⟩) D.length c) vP T (keepK D P kf (k + 1)) P) := fun q => hDX.below (pw_below_drewN (Below.refl _ _) q)
          have HOZ : Hid (∀ q, Only (devS g mb (.slice (some ⟨gd, 0, none⟩) D.length c) vP) w (wx.drewN q)) := fun q => hOX.then_below (pw_below_drewN (Below.refl _ _) q)
          obtain ⟨y0, y2, y3, y4, y5, y6, yf⟩ := hDX.cells
          clear yf y0 y2 y3 y5 y6
          obtain ⟨X0, hX0⟩ := hDX.map
          have HX0 := Lib.hid hX0
          clear hDX hOX hX0
          go_wp2
          have HKEY : Hid (keyOf Try.prog 3 (.int .i64 (bn : Int)) = some (.int .i64 (bn : Int))) := Maps.keyOf_int_mk Try.underlying3 (Go.WalkArith.wf_i64 ⟨by omega, by omega⟩)
          go_region_law ((refine step_delete_own (by rfl) (.tmp 29) (.tmp 31) 85 3 (by rfl) 24 (Maps.int_keyed Try.underlying3) Try.underlying85 anyR mb m X0 (by rfl) (ownsMap_keep HX0.out rfl) (.int .i64 (bn : Int)) (.int .i64 (bn : Int)) (by rfl) HKEY.out ?_; intro w9 hm9 hg9))
          all_goals
            have HD9 := Lib.hid (Dev.maps (HDZ.out _) hg9.out hm9.out)
            have HO9 : Hid (Only (devS g mb (.slice (some ⟨gd, 0, none⟩) D.length c) vP) w w9) := (HOZ.out _).trans (Only.of_grown hg9.out) (fun q hq => .inl (.inr (.inl (Option.some.inj hq))))
            clear hm9 hg9
            go_wp2
            go_roundw
            case rel => exact ⟨k + 1, hlt, by go_num, HD9.out, HO9.out⟩
            case measure => simp [intOf]; omega
    · obtain rfl : k = P.length := by omega
      obtain ⟨y0, y2, y3, y4, y5, y6, yf⟩ := HD1.out.cells
      have yf3 := yf 3
      have HE2 := Lib.hid (HD1.out.pend (vP' := .slice none 0 0) (T' := []) (P' := []) (Kd.R_nil _ _ _ _ _) rfl (fun k x p hx => by simp at hx) (fun k j x hx => by simp at hx))
      have HO2 := Lib.hid (HO.out.set 3 (.slice none 0 0))
      clear yf y0 y2 y4 y5 y6 HD1 HO
      go_wp2
      go_end0
      exact ⟨rfl, HE2.out, HO2.out⟩
end
end Go.Proofs.Ytekgdlpicgibhab.EX
