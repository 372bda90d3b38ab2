/-
  The library's Images, by its walk.
-/
import Derived.Test.YtekgdlpicgibhabE13
namespace Go.Proofs.Ytekgdlpicgibhab.EX
open Go.RowKit Go.Proofs.YtekgdlpicgibhabW.PrintWords Go.Maps
attribute [local go_sem] Oper.semAt_some

/-- The body's post; no panic is let out. -/
def postP (n : Nat) (R : Ending → World → Prop) : Exit → Act → World → Prop
  | .panic _, _, _ => False
  | .normal, a, w => bodyPostM Fence.wide n Try.prog Try.f12 R .normal a w
  | .ret, a, w => bodyPostM Fence.wide n Try.prog Try.f12 R .ret a w
  | _, _, _ => False
theorem postP_ok {n : Nat} {R : Ending → World → Prop} {e : Exit} {a : Act} {w : World} (h : postP n R e a w) : bodyPostM Fence.wide n Try.prog Try.f12 R e a w := by
  cases e with
  | normal => exact h
  | ret => exact h
  | panic c => exact h.elim
  | exit i => exact h.elim
  | goto t => exact h.elim
  | outgrown => exact h.elim
theorem ret12 {n : Nat} {R : Ending → World → Prop} {a : Act} {w : World} {v e : Value} (h : R (.returned (.tuple #[v, e])) w) (hd : a.defers = [] := by rfl) (h4 : a.tmps.getD 4 undef = v := by rfl) (h5 : a.tmps.getD 5 undef = e := by rfl) : postP n R .ret a w := by
  show LeavesInM Fence.wide n Try.prog Try.f12 a.tmps R a.defers .returning w
  rw [hd]
  subst h4
  subst h5
  exact ⟨_, results_tmp2 rfl _ _ _, h⟩
theorem Im.lower {w : World} {b b' : Nat} {v : Value} {L : List Sl} {Xs : List (List Int)} (h : Im w b v L Xs) (hb : b' ≤ b) : Im w b' v L Xs :=
  ⟨Kd.R_lower h.row hb, h.len, fun t x X hx hX => ⟨(h.at_ t x X hx hX).1, (h.at_ t x X hx hX).2.lower hb⟩, h.apart⟩
theorem zero3 (w : World) : (zeroValue 3).run Try.prog w = .ok (.int .i64 0) w := by kernel_rfl
theorem boxes3 (wr : World) :
    (((wr.alloc (.cells #[.slice none 0 0] 31)).alloc (.map #[] 0)).alloc (.cells #[.map (some (wr.heap.size + 1))] 69)).heap[wr.heap.size]? = some (.cells #[.slice none 0 0] 31 (0, 0)) ∧
    (((wr.alloc (.cells #[.slice none 0 0] 31)).alloc (.map #[] 0)).alloc (.cells #[.map (some (wr.heap.size + 1))] 69)).ownsMap Try.prog 9 (plainElem (H := Unit) Try.prog 3) (wr.heap.size + 1) 0 (.map []) ∧
    (((wr.alloc (.cells #[.slice none 0 0] 31)).alloc (.map #[] 0)).alloc (.cells #[.map (some (wr.heap.size + 1))] 69)).heap[wr.heap.size + 1 + 1]? = some (.cells #[.map (some (wr.heap.size + 1))] 69 (0, 0)) ∧
    wr.heap.size + 2 < (((wr.alloc (.cells #[.slice none 0 0] 31)).alloc (.map #[] 0)).alloc (.cells #[.map (some (wr.heap.size + 1))] 69)).heap.size := by
  refine ⟨?_, ?_, ?_, by simp⟩
  · exact (Below.heap_alloc _ _ _ (by simp; omega)).trans ((Below.heap_alloc _ _ _ (by simp)).trans (heap_alloc_new wr _))
  · have h := World.ownsMap_made (wr.alloc (.cells #[.slice none 0 0] 31)) Try.prog 9 (plainElem (H := Unit) Try.prog 3)
    rw [World.size_alloc] at h
    exact h.alloc _
  · have h := heap_alloc_new ((wr.alloc (.cells #[.slice none 0 0] 31)).alloc (.map #[] 0)) (.cells #[.map (some (wr.heap.size + 1))] 69)
    rw [World.size_alloc, World.size_alloc] at h
    exact h
set_option maxRecDepth 100000 in
set_option maxHeartbeats 4000000 in
theorem images_any {w : World} {A C : Option Addr} {n c k0 kc : Nat} {bs : List Int} {ps : List (Int × List Int)} (hx : Rd w (.slice A n c) bs) (hp : PendAt w (.slice C k0 kc) ps)
    (hn : bs.length ≤ 1048576) (hL : ps.length ≤ 1048576) (hl : ∀ p ∈ ps, p.2.length ≤ 1048576) (hb64 : ∀ p ∈ ps, -9223372036854775808 ≤ p.1 ∧ p.1 ≤ 9223372036854775807) (hby : Byts bs) (hpy : ∀ p ∈ ps, Byts p.2) :
    Calls Try.prog 12 #[.slice A n c, .slice C k0 kc] w (Out w bs ps) := by
  have HX := Lib.hid hx
  have HPE := Lib.hid hp
  obtain ⟨C1, kc1, e1, hP⟩ := hp
  cases e1
  have HP := Lib.hid hP
  have hnn := hx.cells.1
  subst hnn
  have HL := Lib.hid hl
  have HB64 := Lib.hid hb64
  have HBY := Lib.hid hby
  have HPY := Lib.hid hpy
  have hmm := @run_makeMap Try.prog
  have HMM := Lib.hid hmm
  clear hP hx hl hb64 hby hpy hmm
  refine (callsIn_wide (n := 9)).1 ?_
  refine callsIn_of_wp_marks Try.func12 rfl trivial ?_ rfl
  refine wpIn_mono (Q := postP 9 (Out w bs ps)) ?_ (fun e a W h => postP_ok h)
  refine wpIn_wide.2 ?_
  simp only [Try.ntmps12, List.size_toArray, List.length_cons, List.length_nil, Nat.reduceAdd, Nat.reduceSub, Array.replicate_succ, Array.replicate_zero, List.push_toArray, List.append_toArray, List.nil_append, List.cons_append]
  by_cases hsz : Sized bs.length
  · go_wp2_with fail
    refine (image_yes HX.out hsz).mono ?_
    rintro e w1 ⟨g, rfl, hb1, hd1⟩
    have HB1 := Lib.hid hb1
    have HD1 := Lib.hid hd1
    have HSZ := Lib.hid hsz
    clear hb1 hd1 hsz
    go_wp2
    go_loopw [23] (fun i wr => ∃ k : Nat, k ≤ ps.length ∧ i = .int .i64 k ∧ fault (bs.length / 512) (ps.take k) = none ∧ Below w1.heap.size w1 wr) (fun i _ => ps.length - (intOf i).toNat)
    case atStart => exact ⟨0, Nat.zero_le _, rfl, rfl, Below.refl _ _⟩
    case round =>
      obtain ⟨k, hk, rfl, hf, hb⟩ := hrel
      have HF := Lib.hid hf
      have HB := Lib.hid hb
      have HBw : Hid (Below w.heap.size w wr) := HB1.out.trans (hb.mono HB1.out.size)
      obtain ⟨N, hN⟩ : ∃ N, bs.length / 512 = N := ⟨_, rfl⟩
      have HNn := Lib.hid hN
      have hNl : N ≤ 4096 := by have := HSZ.out; unfold Sized at this; omega
      clear hf hb
      by_cases hlt : k < ps.length
      · obtain ⟨p, hp⟩ : ∃ p, ps[k]? = some p := ⟨_, List.getElem?_eq_getElem hlt⟩
        obtain ⟨bk, x⟩ := p
        have hmem := List.mem_of_getElem? hp
        obtain ⟨b1, b2⟩ := HB64.out _ hmem
        have hxl := HL.out _ hmem
        obtain ⟨ad, Ax, cx, rfl, had, hc0, hc1, _⟩ := HP.out k _ hp
        simp only at b1 b2 hxl hc0 hc1
        have z0 := (HBw.out.cell (p := ad.add (k * 2)) (by rw [add_block]; exact had)).trans hc0
        have z1 := (HBw.out.cell (p := ⟨(ad.add (k * 2)).block, (ad.add (k * 2)).off + 1, none⟩) (by show (ad.add (k * 2)).block < _; rw [add_block]; exact had)).trans hc1
        have HPk := Lib.hid hp
        clear hp hmem hc0 hc1 hN
        go_upto_region 7 with fail
        obtain ⟨W6, hW6⟩ : ∃ W6, wr.alloc (.cells #[.int .i64 bk, .slice Ax x.length cx] 30) = W6 := ⟨_, rfl⟩
        rw [hW6]
        have hbb : W6.heap[wr.heap.size]? = some (.cells #[.int .i64 bk, .slice Ax x.length cx] 30 (0, 0)) := by subst hW6; exact heap_alloc_new wr _
        have hB6 : Below wr.heap.size wr W6 := by subst hW6; exact below_alloc (Below.refl _ _) _
        have y0 : W6.cell? ⟨wr.heap.size, 0, none⟩ = some (.int .i64 bk) := (blk_cell hbb 0).trans rfl
        have y1 : W6.cell? ⟨wr.heap.size, 1, none⟩ = some (.slice Ax x.length cx) := (blk_cell hbb 1).trans rfl
        have HBW : Hid (Below w.heap.size w W6) := HBw.out.trans (hB6.mono HBw.out.size)
        have HB16 : Hid (Below w1.heap.size w1 W6) := HB.out.trans (hB6.mono HB.out.size)
        have hrs : Hid (∀ m, Calls Try.prog 34 #[.pointer (some ⟨g, 0, none⟩)] (W6.drewN m) fun e w' => e = .returned (.int .i64 (N : Int)) ∧ w' = W6.drewN m) := fun m => by
          have := size_any ((HD1.out.below HB16.out).below (pw_below_drewN (Below.refl _ W6) m)) (by omega)
          rw [HNn.out] at this
          exact this.mono (fun e w' h => ⟨h.1, h.2.symm⟩)
        clear hbb hB6 hW6 z0 z1
        by_cases hneg : bk < 0
        · go_wp2
          go_quiet (fail)
          go_wp2
          exact (ret12 (Out.no (errno_fault HSZ.out (fault_at (e := 52) HPk.out HF.out (by unfold fault; rw [if_pos (.inl hneg)]))) (by decide) (pw_below_drewN HBW.out _)))
        · have hge : 0 ≤ bk := by omega
          have hd0 : decide (bk < 0) = false := decide_eq_false hneg
          by_cases hbig : (N : Int) ≤ bk
          · go_wp2
            go_region_law (go_simp; go_at_call 34; refine (hrs.out _).mono ?_; rintro e w' ⟨rfl, rfl⟩)
            all_goals go_wp2
            all_goals exact (ret12 (Out.no (errno_fault HSZ.out (fault_at (e := 52) HPk.out HF.out (by unfold fault; rw [if_pos (.inr (by rw [HNn.out]; exact hbig))]))) (by decide) (pw_below_drewN HBW.out _)))
          · go_wp2
            go_region_law (go_simp; go_at_call 34; refine (hrs.out _).mono ?_; rintro e w' ⟨rfl, rfl⟩)
            all_goals
              by_cases h512 : x.length = 512
              · have HNX := Lib.hid (fault_next HPk.out HF.out hge (by rw [HNn.out]; simp only; omega) h512)
                go_wp2
                go_roundw
                case rel => exact ⟨k + 1, hlt, by go_num, HNX.out, pw_below_drewN HB16.out _⟩
                case measure => simp [intOf]; omega
              · have hne : ((x.length : Int) != 512) = true := bne_iff_ne.2 (by omega)
                go_wp2
                exact (ret12 (Out.no (errno_fault HSZ.out (fault_at (e := 53) HPk.out HF.out (by unfold fault; rw [if_neg (by rw [HNn.out]; simp only; omega), if_pos (by exact h512)]))) (by decide) (pw_below_drewN HBW.out _)))
      · obtain rfl : k = ps.length := by omega
        have hfa : fault N ps = none := by have h := HF.out; rw [List.take_length, hN] at h; exact h
        have hrs : Hid (Calls Try.prog 34 #[.pointer (some ⟨g, 0, none⟩)] wr fun e w' => e = .returned (.int .i64 (N : Int)) ∧ wr = w') := by
          have := size_any (HD1.out.below HB.out) (by omega)
          rw [hN] at this
          exact this
        have HFA := Lib.hid hfa
        clear hfa hN
        by_cases h8 : 8 < ps.length
        · have h8' : (8 : Int) < (ps.length : Int) := by omega
          go_wp2
          exact ret12 (Out.no (errno_many HSZ.out (by rw [HNn.out]; exact HFA.out) (.inl h8)) (by decide) HBw.out)
        · have hd8 : decide ((8 : Int) < (ps.length : Int)) = false := decide_eq_false (by omega)
          have he : (2 : Int) ^ ps.length = ((2 ^ ps.length : Nat) : Int) := by rw [Int.natCast_pow]; rfl
          have hS256 : 2 ^ ps.length ≤ 256 := Nat.le_trans (Nat.pow_le_pow_right (by omega) (by omega : ps.length ≤ 8)) (by decide)
          have hmb : N * 2 ^ ps.length ≤ 4096 * 256 := Nat.mul_le_mul hNl hS256
          obtain ⟨SS, hSS⟩ : ∃ SS, 2 ^ ps.length = SS := ⟨_, rfl⟩
          have HSS := Lib.hid hSS
          rw [hSS] at he hS256 hmb
          obtain ⟨M, hM⟩ : ∃ M, N * SS = M := ⟨_, rfl⟩
          have HM := Lib.hid hM
          have hmm2 : (N : Int) * (SS : Int) = (M : Int) := by rw [← hM, Int.natCast_mul]
          rw [hM] at hmb
          clear hSS hM
          by_cases hmany : 131072 < M
          · have hm2 : (131072 : Int) < (M : Int) := by omega
            go_wp2_with (go_at_call 34; refine hrs.out.mono ?_; rintro e w' ⟨rfl, rfl⟩)
            exact ret12 (Out.no (errno_many HSZ.out (by rw [HNn.out]; exact HFA.out) (.inr (by rw [HNn.out, HSS.out, HM.out]; exact hmany))) (by decide) HBw.out)
          · have hm2 : ¬ (131072 : Int) < (M : Int) := by omega
            go_upto_region 14 with (go_at_call 34; refine hrs.out.mono ?_; rintro e w' ⟨rfl, rfl⟩)
            have hmm := HMM.out
            go_upto_region 16 with fail
            have hW3b : Below wr.heap.size wr (((wr.alloc (.cells #[.slice none 0 0] 31)).alloc (.map #[] 0)).alloc (.cells #[.map (some (wr.heap.size + 1))] 69)) := below_alloc (below_alloc (below_alloc (Below.refl _ _) _) _) _
            obtain ⟨v3, v4, v5, v6⟩ := boxes3 wr
            obtain ⟨W3, hW3⟩ : ∃ W3, ((wr.alloc (.cells #[.slice none 0 0] 31)).alloc (.map #[] 0)).alloc (.cells #[.map (some (wr.heap.size + 1))] 69) = W3 := ⟨_, rfl⟩
            rw [hW3] at hW3b v3 v4 v5 v6 ⊢
            obtain ⟨B0, hB0⟩ : ∃ B0, wr.heap.size = B0 := ⟨_, rfl⟩
            rw [hB0] at v3 v4 v5 v6 ⊢
            have HV3 := Lib.hid v3
            have HV4 := Lib.hid v4
            have HV5 := Lib.hid v5
            have HV6 := Lib.hid v6
            have HW3 := Lib.hid (HBw.out.trans (hW3b.mono HBw.out.size))
            have HB0 := Lib.hid hB0
            clear hW3b v3 v4 v5 v6 hW3 hmm hrs
            go_wp2_with fail
            refine (survivors_any A C bs.length c ps.length kc W3).mono ?_
            rintro e w4 ⟨db, pb, rfl, hb4, hdb, hpb, hdk, hpk⟩
            have hix : IX w (w4.heap.size + 2) B0 (B0 + 1 + 1) (B0 + 1) db pb A C c kc bs ps 0 w4 (.slice none 0 0) [] (.map []) := by
              refine ⟨(hb4.block _ (heap_lt_of HV3.out)).trans HV3.out, (hb4.block _ (heap_lt_of HV5.out)).trans HV5.out, ?_, fun X => by simp [uniq]; rfl, Im.nil _ _, hdk, hpk, HW3.out.trans (hb4.mono HW3.out.size)⟩
              obtain ⟨es, ck, h1, h2⟩ := HV4.out
              exact ⟨es, ck, (hb4.block _ (heap_lt_of h1)).trans h1, h2⟩
            have HIX := Lib.hid hix
            have HB4 := Lib.hid hb4
            have HDB : Hid (W3.heap.size ≤ db ∧ W3.heap.size ≤ pb ∧ db < w4.heap.size ∧ pb < w4.heap.size ∧ B0 + 2 < W3.heap.size) := ⟨hdb, hpb, heap_lt_of hdk, heap_lt_of hpk, HV6.out⟩
            clear hix hb4 hdb hpb hdk hpk
            go_wp2
            have hiter := iter_any (n := 9 - 1) (pb := pb) (db := db) (A := A) (C := C) (c := c) (kc := kc) (bs := bs) (ps := ps) (N := N) (by have h1 := HSZ.out; have h2 := HNn.out; unfold Sized at h1; omega) (fault_none.1 HFA.out) (by omega) (by omega)
            refine (wpIn_wide (n := 9)).1 ?_
            refine wpIn_rangeFunc_mem (gf := 50) (lb := #[.pointer (some ⟨pb, 0, none⟩), .pointer (some ⟨db, 0, none⟩)]) rfl (enters_of Try.func50 (by kernel_rfl) rfl) hiter rfl
              (fun m W => ∃ v L D, IX w (w4.heap.size + 2) B0 (B0 + 1 + 1) (B0 + 1) db pb A C c kc bs ps m W v L D) ?hI ?hCap ?hVm ⟨_, _, _, HIX.out⟩ ?a1 ?assign ?body ?done
            case assign =>
              intro l v W K hK
              gi_wp2
              exact hK
            case hI =>
              rintro m W W' ⟨v, L, D, h⟩ ho
              have h1 := HDB.out
              have h2 := HB4.out.size
              have h3 := HB0.out
              have h4 := HBw.out.size
              have h5 := HW3.out.size
              exact ⟨v, L, D, h.only ho (fun k hk e => by unfold Lp at e; omega) (fun e => by unfold Lp at e; omega) (fun e => by unfold Lp at e; omega) (fun e => by unfold Lp at e; omega) (fun e => by unfold Lp at e; omega) (fun e => by unfold Lp at e; omega) (fun k e => by unfold Lp at e; omega)⟩
            case hCap =>
              rintro m W ⟨v, L, D, h⟩ _
              exact ⟨(blk_cell h.pbk 0).trans rfl, (blk_cell h.dbk 0).trans rfl, HX.out.below (Nat.le_refl _) h.low, HPE.out.below (Nat.le_refl _) h.low⟩
            case hVm =>
              rintro m v W0 W o hs ⟨A', c', rfl, hR⟩
              exact ⟨A', c', rfl, hR.keep (fun k hk => World.putObj_heap_other (fun e => by have := hR.base k hk; omega))⟩
            case body =>
              rintro l m v W0 W1 hm ⟨vo, L, D, h0⟩ hs ho ⟨A', c', rfl, hR⟩
              have hsz1 := HDB.out
              have hsz2 := HB4.out.size
              have hsz3 := HB0.out
              have hsz4 := HBw.out.size
              have hsz5 := HW3.out.size
              have h1 := h0.only ho (fun k hk e => by unfold Lp at e; omega) (fun e => by unfold Lp at e; omega) (fun e => by unfold Lp at e; omega) (fun e => by unfold Lp at e; omega) (fun e => by unfold Lp at e; omega) (fun e => by unfold Lp at e; omega) (fun k e => by unfold Lp at e; omega)
              have hbl : bs.length = 512 * N := by have h1 := HSZ.out; have h2 := HNn.out; unfold Sized at h1; omega
              have hok : Ok N ps := fault_none.1 HFA.out
              have hXl : (img bs ps m).length = bs.length := by rw [img_len hbl hok]; exact hbl.symm
              have hbyt : ∀ i, Byts (img bs ps i) := fun i => byts_img HBY.out HPY.out i _
              have hstl : (str (img bs ps m)).length = bs.length := by simp [str]; exact hXl
              obtain ⟨ad, rfl, _⟩ := hR.rd.cells.2 0 (by have h1 := HSZ.out; unfold Sized at h1; omega)
              have hconv : (convert 24 9 (.slice (some ad) bs.length c')).run Try.prog W1 = .ok (.string ⟨(str (img bs ps m)).toArray⟩) W1 := by
                have := run_convert_bytes_back (P := Try.prog) W1 24 9 5 ad c' (str (img bs ps m)) Try.underlying24 Try.underlying5 Try.underlying9 (fun j hj => by
                  obtain ⟨ad', e, _, hc⟩ := hR.rd.cells.2 j (by rw [← hstl]; exact hj)
                  cases e
                  rw [str_at (hbyt m) j hj]
                  exact hc)
                rw [hstl] at this
                exact this
              have hkey : keyOf Try.prog 9 (.string ⟨(str (img bs ps m)).toArray⟩) = some (.string (str (img bs ps m))) := by
                have := Go.WideMaps.keyOf_string_mk (P := Try.prog) (k := 9) Try.underlying9 (s := ⟨(str (img bs ps m)).toArray⟩) (by show (str (img bs ps m)).toArray.size ≤ maxLen; rw [List.size_toArray, hstl]; unfold maxLen; omega)
                exact this
              have hat0 := h1.at_ (str (img bs ps m))
              obtain ⟨Av, cv, ev⟩ := Kd.R_slice h1.im.row
              subst ev
              have c0 : W1.cell? ⟨B0 + 1 + 1, 0, none⟩ = some (.map (some (B0 + 1))) := (blk_cell h1.box 0).trans rfl
              have H1 := Lib.hid h1
              have H0' := Lib.hid h0
              have HRi := Lib.hid (hR.lower hs)
              have HR0 := Lib.hid hR
              have HBYT := Lib.hid hbyt
              have HXL := Lib.hid hXl
              have HKEY := Lib.hid hkey
              have HAT := Lib.hid hat0
              have HOk := Lib.hid hok
              clear h1 h0 hR hbyt hXl hok hbl hstl hat0 hsz3 hsz4 hsz5
              by_cases hmem : img bs ps m ∈ uniq (img bs ps) m
              · have hat1 : Hid (D.atKey (.string (str (img bs ps m))) (.lit (.int .i64 0)) = .lit (.int .i64 1)) := by
                  have h := HAT.out
                  rw [if_pos ((uniq_map_mem HBYT.out).2 hmem)] at h
                  exact h
                have HST := Lib.hid (H1.out.stay hmem)
                clear hmem hkey
                gi_wp2_with (gi_at_lookup; refine wpListIn_lookup_own_int _ rfl _ _ 69 rfl 9 3 .i64 (string_keyed Try.underlying9) Try.underlying69 Try.underlying3 (zero3 _) (B0 + 1) m _ rfl H1.out.map _ _ rfl HKEY.out ?_; intro cc hat hwc; obtain rfl : cc = 1 := (by rw [hat1.out] at hat; cases hat; rfl); clear hat hwc)
                exact ⟨⟨_, _, _, HST.out⟩, rfl, rfl⟩
              · have hat1 : Hid (D.atKey (.string (str (img bs ps m))) (.lit (.int .i64 0)) = .lit (.int .i64 0)) := by
                  have h := HAT.out
                  rw [if_neg (fun h2 => hmem ((uniq_map_mem HBYT.out).1 h2))] at h
                  exact h
                have HMEM := Lib.hid hmem
                have hLs : L.length ≤ 256 := by have h1 := H1.out.im.len; have h2 := uniq_len (img bs ps) m; have h3 := HSS.out; omega
                have hm256 : m < maxLen := by have h3 := HSS.out; unfold maxLen; omega
                have HM256 := Lib.hid hm256
                obtain ⟨i0, hi, hz0, hz1, hz2⟩ := info_parts info24
                have HSW : Hid (w4.heap.size + 2 ≤ W1.heap.size) := by have := ho.size; show _ ≤ _; omega
                have HNE : Hid (B0 < w4.heap.size + 2 ∧ B0 + 1 < w4.heap.size + 2) := by show _ ∧ _; omega
                clear hmem hkey hm256
                gi_wp2_with (first
                  | (gi_at_lookup; refine wpListIn_lookup_own_int _ rfl _ _ 69 rfl 9 3 .i64 (string_keyed Try.underlying9) Try.underlying69 Try.underlying3 (zero3 _) (B0 + 1) m _ rfl H1.out.map _ _ rfl HKEY.out ?_; intro cc hat hwc; obtain rfl : cc = 0 := (by rw [hat1.out] at hat; cases hat; rfl); clear hat hwc)
                  | (gi_at_mapUpdate; go_loud (refine wpListIn_mapUpdate_own _ rfl _ _ _ 69 rfl 9 3 (string_keyed Try.underlying9) Try.underlying69 _ (B0 + 1) m _ rfl H1.out.map HM256.out _ _ _ rfl rfl HKEY.out _ [] (plainElem_int Try.underlying3 (by decide)) ?_; intro W2 hmap2 hg2; have HMAP2 := Lib.hid hmap2; have HG2 := Lib.hid hg2; have c2 : W2.cell? ⟨B0, 0, none⟩ = some (.slice Av L.length cv) := (hg2.cell (a := ⟨B0, 0, none⟩) ((blk_cell H1.out.out 0).trans rfl) (fun e => by simp at e)); clear hmap2 hg2))
                  | (gi_at_builtin; go_loud (refine wpListIn_append_own_at _ rfl (.tmp 68) (.tmp 70) 31 rfl (w4.heap.size + 2) 24 i0 (.slice none 0 0) 1 24 Try.underlying31 hi hz0 hz1 hz2 rfl (by decide) (.slice Av L.length cv) L.length (L.map Sl.val) rfl (H1.out.rv_alloc HNE.out.2 HG2.out _) ⟨W2.heap.size, 0, none⟩ 1 1 [.slice (some ad) bs.length c'] rfl rfl (cell_one_new _ _ _) (by intro u hu; rw [List.mem_singleton.1 hu]; rfl) (by unfold maxLen; omega) (by omega) (by have h1 := HG2.out.size; have h2 := HSW.out; simp only [World.size_alloc]; omega) ?_; intro v3 W3' ho3 hg3 hz3 hat3; clear hz3 hat3; obtain ⟨g3, cp3, rfl⟩ := ownsRow_succ ho3; have HO3 := Lib.hid ho3; have HG3 := Lib.hid hg3; have d3 := H1.out.out2 HNE.out.1 HG2.out hg3; have D3 := Lib.hid d3; have c3 : W3'.cell? ⟨B0, 0, none⟩ = some (.slice Av L.length cv) := (blk_cell d3 0).trans rfl; have f3 : W3'.frozen? ⟨B0, 0, none⟩ = false := not_frozen d3; clear ho3 hg3 d3)))
                have hfr : ∀ (t g : Nat) (x : Sl), L[t]? = some x → x.val.ownBlock = some g → (Sl.mk (some ad) bs.length c').val.ownBlock ≠ some g := fun t g x hx hg e => by
                  have q1 := H0'.out.im.lt hx g hg
                  have q2 := HR0.out.base g e
                  omega
                have hp1 := HDB.out
                have hp2 := HB4.out.size
                have hp3 := HB0.out
                have hp4 := HBw.out.size
                have hp5 := HW3.out.size
                have HFIN := H1.out.added (s := ⟨some ad, bs.length, c'⟩) ⟨HNE.out.1, by omega, HNE.out.2, by omega, by omega⟩ ⟨by omega, by omega, by omega⟩ HRi.out HXL.out.symm hfr HMEM.out HMAP2.out HG2.out HO3.out HG3.out
                refine ⟨⟨_, _, _, HFIN⟩, ?_, ?_⟩
                all_goals exact far_end HG2.out HG3.out (Kd.R_base H1.out.im.row) (by omega) (by have := HSW.out; omega) (by omega) (by omega)
            case done =>
              rintro W ⟨v, L, D, h⟩ hs hK
              have H := Lib.hid h
              have HK := Lib.hid hK
              have c0 : W.cell? ⟨B0, 0, none⟩ = some v := (blk_cell h.out 0).trans rfl
              obtain ⟨Av, cv, ev⟩ := Kd.R_slice h.im.row
              subst ev
              have hlp : Hid (w.heap.size ≤ w4.heap.size) := by
                have h2 := HB4.out.size
                have h5 := HW3.out.size
                exact Nat.le_trans h5 h2
              clear h hK
              go_wp2
              have he0 : errno bs.length ps = 0 := errno_ok HSZ.out (by rw [HNn.out]; exact HFA.out) (by rw [HNn.out, HSS.out, HM.out]; omega)
              refine ⟨by simp, .inl ⟨_, _, rfl, run_takeDeferred HK.out, ?_⟩⟩
              refine ⟨_, results_tmp2 rfl _ _ _, .slice Av L.length cv, L, by rw [he0]; rfl, ?_, ?_⟩
              · unfold images
                rw [if_pos he0]
                exact (H.out.im.only (only_putObj (l0 := w4.heap.size) W _ (.inl rfl)) (fun k hk e => by unfold Lp at e; omega)).lower (by have := hlp.out; omega)
              · exact H.out.low.trans ((only_putObj (l0 := w4.heap.size) W _ (.inl rfl)).below H.out.low.size (fun k e => by unfold Lp at e; have := hlp.out; omega))
  · go_wp2_with fail
    refine (image_no hsz (by omega)).mono ?_
    rintro e w1 ⟨rfl, rfl⟩
    go_wp2
    exact (ret12 (Out.no (errno_51 hsz) (by decide) (Below.refl _ _)))
end Go.Proofs.Ytekgdlpicgibhab.EX
