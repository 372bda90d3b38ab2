/-
  The text of a word, as program and reference write it: the walks of play.run and play.Text.
-/
import Derived.Test.YtekgdlpicgibhabDoorProg
import Derived.Test.YtekgdlpicgibhabDoorP2
import Derived.WalkKit
import Derived.Lib.Hide
import Derived.Laws.RangeAny
import Derived.Laws.RangeString
import Derived.BigQuiet
import Derived.Deep.RegionLaw
import Derived.Deep.QuietTactic
namespace Go.Proofs.YtekgdlpicgibhabDoor.PT
open Go.RowKit Go.Proofs.YtekgdlpicgibhabDoorW.PrintWords Go.Proofs.YtekgdlpicgibhabDoor.PWorldShows

def bareB (c : Int) : Bool := decide ((97 ≤ c ∧ c ≤ 122) ∨ (65 ≤ c ∧ c ≤ 90) ∨ (48 ≤ c ∧ c ≤ 57) ∨ c = 95 ∨ c = 46 ∨ c = 45 ∨ c = 47)

theorem play_bare_f (c : Int) : play_bare.f 3 c = some (bareB c) := by
  simp only [play_bare.f, play_bare.j0, play_bare.j1, bareB]
  repeat' split
  all_goals simp_all
  all_goals first | omega | (constructor <;> intros <;> omega) | (rw [Bool.eq_iff_iff]; simp; omega)
theorem ref_bare_f (c : Int) : annexref21_bare.f c = some (bareB c) := by
  simp only [annexref21_bare.f, bareB]
  repeat' split
  all_goals simp_all
  all_goals first | omega | (constructor <;> intros <;> omega) | (rw [Bool.eq_iff_iff]; simp; omega)
theorem bare49 (c : Int) (w : World) : Calls Tryd.prog 30 #[.int .i32 c] w fun e w' => e = .returned (.bool (bareB c)) ∧ Drawn0 w w' :=
  play_bare.calls 3 c _ w (play_bare_f c)
theorem bare31 (c : Int) (w : World) : Calls Tryd.prog 21 #[.int .u8 c] w fun e w' => e = .returned (.bool (bareB c)) ∧ Drawn0 w w' :=
  annexref21_bare.calls c _ w (ref_bare_f c)

/-- All bytes from p on, below n, are of bare words. -/
def BareTo (s : ByteArray) (n : Nat) : Prop := ∀ j (h : j < s.size), j < n → bareB ((s[j]'h).toNat : Int) = true

/-- What run answers: the whole length just where all are bare. -/
def RunPost (s : ByteArray) (w : World) (e : Ending) (w' : World) : Prop :=
  ∃ n : Int, e = .returned (.int .i64 n) ∧ (n = s.size ↔ BareTo s s.size) ∧ Below w.heap.size w w'

theorem iter_below (w : World) (s : ByteArray) (pos n : Nat) : Below w.heap.size w ((w.drewN n).iter s pos) :=
  below_alloc (pw_below_drewN (Below.refl _ _) n) _

theorem iter_drewN (w : World) (s : ByteArray) (pos n m : Nat) : ((w.drewN n).iter s pos).drewN m = (w.drewN (n + m)).iter s pos := by
  have h : ∀ u : World, (u.iter s pos).drewN m = (u.drewN m).iter s pos := fun u => by
    simp only [World.iter, World.alloc, World.drewN]
  rw [h, World.drewN_drewN]

theorem dec_lo {s : ByteArray} {pos : Nat} (h : pos < s.size) (hb : bareB ((Utf8.decode s pos).1 : Int) = true) : (Utf8.decode s pos).2 = 1 ∧ bareB ((s[pos]'h).toNat : Int) = true := by
  by_cases ha : (s[pos]'h).toNat < 128
  · rw [decode_ascii s pos h ha] at hb ⊢
    exact ⟨rfl, hb⟩
  · have := (decode_high s pos h (by omega)).1
    exfalso
    simp [bareB] at hb
    omega
theorem dec_hi {s : ByteArray} {pos : Nat} (h : pos < s.size) (hb : bareB ((Utf8.decode s pos).1 : Int) = false) : bareB ((s[pos]'h).toNat : Int) = false := by
  by_cases ha : (s[pos]'h).toNat < 128
  · rw [decode_ascii s pos h ha] at hb
    exact hb
  · simp [bareB]
    omega
theorem bareTo_step {s : ByteArray} {pos : Nat} (h : BareTo s pos) (hp : pos < s.size) (hb : bareB ((s[pos]'hp).toNat : Int) = true) : BareTo s (pos + 1) := fun j hj hlt => by
  by_cases e : j = pos
  · subst e; exact hb
  · exact h j hj (by omega)

theorem run_post_no {s : ByteArray} {w w' : World} {pos : Nat} (hp : pos < s.size) (hb : bareB ((s[pos]'hp).toNat : Int) = false) (h : Below w.heap.size w w') : RunPost s w (.returned (.int .i64 (pos : Int))) w' :=
  ⟨pos, rfl, ⟨fun e => by omega, fun hB => by have := hB pos hp hp; rw [hb] at this; cases this⟩, h⟩

set_option maxRecDepth 100000 in
theorem run30 (s : ByteArray) (w : World) (_hs : s.size ≤ 9223372036854775807) :
    Calls Tryd.prog 19 #[.string s] w (RunPost s w) := by
  go_enter Tryd.func19, Tryd.ntmps19
  go_wp2
  go_loopw [3] (fun _ w' => ∃ pos n : Nat, w' = (w.drewN n).iter s pos ∧ pos ≤ s.size ∧ BareTo s pos) (fun _ w' => s.size - w'.iterPos w.heap.size)
  case atStart => exact ⟨0, 0, rfl, Nat.zero_le _, fun _ _ h => absurd h (Nat.not_lt_zero _)⟩
  case round =>
    obtain ⟨pos, n, rfl, hle, hB⟩ := hrel
    have HB := Lib.hid hB
    clear hB
    have Hle := Lib.hid hle
    clear hle
    by_cases hp : pos < s.size
    · have hnx : ∀ ty, (Instr.next (.pointer (some ⟨w.heap.size, 0, none⟩)) true ty).run Tryd.prog ((w.drewN n).iter s pos) = _ := fun ty => run_next_any (w.drewN n) s pos ty hp
      cases hb : bareB ((Utf8.decode s pos).1 : Int) with
      | true =>
        have h1 := dec_lo hp hb
        have H1 := Lib.hid h1
        clear h1
        go_wp2_with (go_at_call 30; refine (bare49 _ _).mono ?_; rintro e w' ⟨rfl, hd⟩)
        obtain ⟨m, rfl⟩ := hd.out
        go_roundw
        case rel => exact ⟨pos + 1, n + m, by rw [iter_drewN, H1.out.1], hp, bareTo_step HB.out hp H1.out.2⟩
        case measure =>
          rw [iter_drewN, H1.out.1]
          have e : ∀ (u v : World) (q : Nat), (v.iter s q).iterPos v.heap.size = q := fun u v q => by simp [World.iterPos, World.iter_heap]
          have e1 := e w (w.drewN (n + m)) (pos + 1)
          have e2 := e w (w.drewN n) pos
          have e3 : (w.drewN (n + m)).heap.size = w.heap.size := rfl
          have e4 : (w.drewN n).heap.size = w.heap.size := rfl
          rw [e3] at e1
          rw [e4] at e2
          rw [e1, e2]
          omega
      | false =>
        have h1 := dec_hi hp hb
        have H1 := Lib.hid h1
        clear h1
        go_wp2_with (go_at_call 30; refine (bare49 _ _).mono ?_; rintro e w' ⟨rfl, hd⟩)
        obtain ⟨m, rfl⟩ := hd.out
        go_ret
        exact run_post_no hp H1.out (by rw [iter_drewN]; exact iter_below _ _ _ _)
    · have hnx : ∀ ty, (Instr.next (.pointer (some ⟨w.heap.size, 0, none⟩)) true ty).run Tryd.prog ((w.drewN n).iter s pos) = _ := fun ty => run_next_end (w.drewN n) s pos ty hp
      go_wp2
      go_ret
      have := Hle.out
      have e : pos = s.size := by omega
      exact ⟨s.size, rfl, ⟨fun _ => by have h := HB.out; rwa [e] at h, fun _ => rfl⟩, iter_below _ _ _ _⟩

def hexS : ByteArray := ⟨#[48, 49, 50, 51, 52, 53, 54, 55, 56, 57, 97, 98, 99, 100, 101, 102]⟩
def hexd (c : Int) : Int := bt hexS c
def escB (c : Int) : List Int := if c = 34 ∨ c = 92 then [92, c] else if c < 32 ∨ 126 < c then [92, 120, hexd (c / 16), hexd (c % 16)] else [c]
def escTo (s : ByteArray) : Nat → List Int
  | 0 => [34]
  | k + 1 => escTo s k ++ escB (bt s k)
theorem escB_le (c : Int) : (escB c).length ≤ 4 := by
  unfold escB
  split
  · simp
  · split <;> simp
theorem escTo_le (s : ByteArray) (k : Nat) : (escTo s k).length ≤ 1 + 4 * k := by
  induction k with
  | zero => simp [escTo]
  | succ k ih => have := escB_le (bt s k); simp only [escTo, List.length_append]; omega
def Plain (s : ByteArray) : Prop := s.size ≠ 0 ∧ BareTo s s.size
noncomputable def textOf (s : ByteArray) : ByteArray := @ite _ (Plain s) (Classical.propDecidable _) s (strOfNums (escTo s s.size ++ [34]))

theorem info5 : (Tryd.prog.info? 5).map (fun i => (i.zero, i.size, i.bytes)) = some (some (.int .u8 0), 1, 1) := by kernel_rfl

/-- append of some bytes that lie in a new block -/
theorem app_row {P : Program} {ops : Array Oper} {rest : List Oper} {o : Oper} {a : Act} {Q : Exit → Act → World → Prop} {w0 W : World} (base : Nat) (hgd : o.guard = none) (s x : Operand) (t e : TypeId)
    (ho : o.op = .call { callee := .builtin .append, args := #[s, x], argTypes := #[t, t] })
    (ht : P.underlying t = some (.slice e)) (hinfo : (P.info? e).map (fun i => (i.zero, i.size, i.bytes)) = some (some (.int .u8 0), 1, 1))
    (v : Value) (xs : List Int) (news : List Int) (m : Nat) (cs : Array Value) (hs : a.eval s = v) (hx : a.eval x = .slice (some ⟨W.heap.size, 0, none⟩) m m) (hm : m = news.length) (hcs : cs = (nums .u8 news).toArray)
    (HO : W.ownsRow base e 1 v xs.length (nums .u8 xs)) (HB : Below base w0 W) (hbase : base ≤ W.heap.size) (hl : xs.length + news.length ≤ 140737488355328)
    (h : ∀ v1 w1, w1.ownsRow base e 1 v1 (xs ++ news).length (nums .u8 (xs ++ news)) → Below base w0 w1 → wpList P ops Q rest (a.put o.dst v1) w1) :
    wpList P ops Q (o :: rest) a (W.alloc (.cells cs e)) := by
  obtain ⟨i0, hi, hz0, hz1, hz2⟩ := info_parts hinfo
  subst hcs
  subst hm
  refine wpList_append_own (W.alloc (.cells (nums .u8 news).toArray e)) hgd s x t ho base e i0 (.int .u8 0) 1 1 ht hi hz0 hz1 hz2 rfl (by decide) v xs.length (nums .u8 xs) hs (HO.alloc _) ⟨W.heap.size, 0, none⟩ news.length news.length (nums .u8 news) hx (by rw [nums_length]; omega)
    (World.news_of_block (cs := (nums .u8 news).toArray) (t := e) (fr := (0, 0)) (heap_alloc_new W _)) ?_ (by simp only [maxLen]; omega) (by omega) (by simp; omega) ?_
  · intro u hu
    simp only [nums, List.mem_map] at hu
    obtain ⟨x, _, rfl⟩ := hu
    rfl
  · intro v1 w1 hown hg _
    refine h v1 w1 (by rw [nums_append, List.length_append]; exact hown) ((HB.alloc hbase _).grown hg (by simp; omega) (own_base HO))

theorem run30_no (s : ByteArray) (w : World) (hs : s.size ≤ 9223372036854775807) (hB : ¬ BareTo s s.size) :
    Calls Tryd.prog 19 #[.string s] w fun e w' => ∃ n : Int, e = .returned (.int .i64 n) ∧ (n == (s.size : Int)) = false ∧ Below w.heap.size w w' :=
  (run30 s w hs).mono fun _ _ ⟨n, he, hn, hb⟩ => ⟨n, he, beq_eq_false_iff_ne.2 (fun e => hB (hn.1 e)), hb⟩
theorem run30_yes (s : ByteArray) (w : World) (hs : s.size ≤ 9223372036854775807) (hB : BareTo s s.size) :
    Calls Tryd.prog 19 #[.string s] w fun e w' => e = .returned (.int .i64 (s.size : Int)) ∧ Below w.heap.size w w' :=
  (run30 s w hs).mono fun _ _ ⟨n, he, hn, hb⟩ => ⟨by rw [he, hn.2 hB], hb⟩
theorem toList_len (s : ByteArray) : s.toList.length = s.size := by
  rw [ByteArray.toList_eq]
  rfl
theorem empty_of {s : ByteArray} (h : s.size = 0) : s.toList.isEmpty = true := by
  have := toList_len s
  cases e : s.toList with
  | nil => rfl
  | cons a l => rw [e] at this; simp at this; omega
theorem not_empty_of {s : ByteArray} (h : ¬ s.size = 0) : s.toList.isEmpty = false := by
  have := toList_len s
  cases e : s.toList with
  | nil => rw [e] at this; simp at this; omega
  | cons a l => rfl

/-- The same as a step of a region that draws. -/
theorem app_step {P : Program} {ops : Array Oper} {o : Oper} {a : Act} {Q : Exit → Act → World → Prop} {K : Act → World → Prop} {E : Prop} {w0 W : World} (base : Nat) (hw : Region.wanted o (yielded ops a.tmps) = true) (s x : Operand) (t e : TypeId)
    (ho : o.op = .call { callee := .builtin .append, args := #[s, x], argTypes := #[t, t] })
    (ht : P.underlying t = some (.slice e)) (hinfo : (P.info? e).map (fun i => (i.zero, i.size, i.bytes)) = some (some (.int .u8 0), 1, 1))
    (v : Value) (xs : List Int) (news : List Int) (m : Nat) (cs : Array Value) (hs : a.eval s = v) (hx : a.eval x = .slice (some ⟨W.heap.size, 0, none⟩) m m) (hm : m = news.length) (hcs : cs = (nums .u8 news).toArray)
    (HO : W.ownsRow base e 1 v xs.length (nums .u8 xs)) (HB : Below base w0 W) (hbase : base ≤ W.heap.size) (hl : xs.length + news.length ≤ 140737488355328)
    (h : ∀ v1 w1, w1.ownsRow base e 1 v1 (xs ++ news).length (nums .u8 (xs ++ news)) → Below base w0 w1 → K (a.put o.dst v1) w1) :
    if Region.wanted o (yielded ops a.tmps) = true then Oper.wp P o a (W.alloc (.cells cs e)) K Q else E := by
  rw [if_pos hw]
  obtain ⟨i0, hi, hz0, hz1, hz2⟩ := info_parts hinfo
  subst hcs
  subst hm
  refine wp_append_own (W.alloc (.cells (nums .u8 news).toArray e)) s x t ho base e i0 (.int .u8 0) 1 1 ht hi hz0 hz1 hz2 rfl (by decide) v xs.length (nums .u8 xs) hs (HO.alloc _) ⟨W.heap.size, 0, none⟩ news.length news.length (nums .u8 news) hx (by rw [nums_length]; omega)
    (World.news_of_block (cs := (nums .u8 news).toArray) (t := e) (fr := (0, 0)) (heap_alloc_new W _)) ?_ (by simp only [maxLen]; omega) (by omega) (by simp; omega) ?_
  · intro u hu
    simp only [nums, List.mem_map] at hu
    obtain ⟨x, _, rfl⟩ := hu
    rfl
  · intro v1 w1 hown hg _
    refine h v1 w1 (by rw [nums_append, List.length_append]; exact hown) ((HB.alloc hbase _).grown hg (by simp; omega) (own_base HO))

/-- What a round of either Text carries. -/
structure Row (s : ByteArray) (w wr : World) (k : Nat) (v : Value) : Prop where
  own : wr.ownsRow w.heap.size 5 1 v (escTo s k).length (nums .u8 (escTo s k))
  bel : Below w.heap.size w wr
theorem row_start (s : ByteArray) {w W : World} (hb : Below w.heap.size w W) : Row s w (W.alloc (.cells #[.int .u8 34] 5)) 0 (.slice (some ⟨W.heap.size, 0, none⟩) 1 1) :=
  ⟨own_lit W w.heap.size 5 .u8 [34] hb.size (by simp), below_alloc hb _⟩
theorem Row.step {s : ByteArray} {w w1 : World} {k : Nat} {v1 : Value} {news : List Int} (hn : escB (bt s k) = news)
    (h : w1.ownsRow w.heap.size 5 1 v1 (escTo s k ++ news).length (nums .u8 (escTo s k ++ news))) (hb : Below w.heap.size w w1) : Row s w w1 (k + 1) v1 := by
  subst hn
  exact ⟨h, hb⟩
theorem Row.size {s : ByteArray} {w wr : World} {k : Nat} {v : Value} (h : Row s w wr k v) : w.heap.size ≤ wr.heap.size := h.bel.size
theorem Row.drew {s : ByteArray} {w wr : World} {k : Nat} {v : Value} (h : Row s w wr k v) : Row s w wr.drew k v := ⟨h.own, below_drew h.bel⟩
theorem hexd_at (x : Int) : ∀ h : x.toNat < hexS.size, ((hexS[x.toNat]'h).toNat : Int) = hexd x := fun h => bt_at hexS x h
theorem hexd_walk (x : Int) : ∀ h : x.toNat < (⟨#[48, 49, 50, 51, 52, 53, 54, 55, 56, 57, 97, 98, 99, 100, 101, 102]⟩ : ByteArray).size, (((⟨#[48, 49, 50, 51, 52, 53, 54, 55, 56, 57, 97, 98, 99, 100, 101, 102]⟩ : ByteArray)[x.toNat]'h).toNat : Int) = hexd x := hexd_at x
theorem and15 (c : Int) (h0 : 0 ≤ c) (h1 : c ≤ 255) : bits .and .u8 c 15 = c % 16 := by
  have h : ∀ f : Fin 256, bits .and .u8 (f.val : Int) 15 = (f.val : Int) % 16 := by decide +kernel
  have := h ⟨c.toNat, by omega⟩
  rwa [show ((c.toNat : Nat) : Int) = c by omega] at this
theorem esc_q {c : Int} (h : c = 34 ∨ c = 92) : escB c = [92, c] := if_pos h
theorem esc_x {c : Int} (_h1 : c ≠ 34) (_h2 : c ≠ 92) (h : c < 32 ∨ 126 < c) : escB c = [92, 120, hexd (c / 16), hexd (c % 16)] := by rw [escB, if_neg (by omega), if_pos h]
theorem esc_p {c : Int} (_h1 : c ≠ 34) (_h2 : c ≠ 92) (h3 : 32 ≤ c) (h4 : c ≤ 126) : escB c = [c] := by rw [escB, if_neg (by omega), if_neg (by omega)]

set_option maxRecDepth 100000 in
set_option maxHeartbeats 1000000 in
theorem text7_empty (s : ByteArray) (w : World) (hs : s.size ≤ 1048576) (hP : ¬ Plain s) (h0 : s.size = 0) :
    Calls Tryd.prog 9 #[.string s] w fun e w' => e = .returned (.string (textOf s)) ∧ Below w.heap.size w w' := by
  have hfin : textOf s = strOfNums (escTo s s.size ++ [34]) := by simp [textOf, hP]
  have Hfin := Lib.hid hfin
  clear hfin
  have hne := empty_of h0
  clear h0 hP
  go_enter Tryd.func9, Tryd.ntmps9
  go_wp2
  go_loopw [3, 19] (fun v i wr => ∃ k : Nat, k ≤ s.size ∧ i = .int .i64 k ∧ Row s w wr k v) (fun _ i _ => s.size - (intOf i).toNat)
  case atStart => exact ⟨0, Nat.zero_le _, rfl, row_start s (Below.refl _ _)⟩
  case round =>
    obtain ⟨k, hk, rfl, hR⟩ := hrel
    have HR := Lib.hid hR
    clear hR
    have hel := escTo_le s k
    by_cases hlt : k < s.size
    · have hx : ∀ h : k < s.size, ((s[k]'h).toNat : Int) = bt s (k : Int) := fun h => bt_at s k (by simpa using h)
      obtain ⟨hb0, hb1⟩ := bt_range s k
      have hcs : bt s k = 34 ∨ (bt s k ≠ 34 ∧ bt s k = 92) ∨ (bt s k ≠ 34 ∧ bt s k ≠ 92 ∧ bt s k < 32) ∨ (bt s k ≠ 34 ∧ bt s k ≠ 92 ∧ 126 < bt s k) ∨ (bt s k ≠ 34 ∧ bt s k ≠ 92 ∧ 32 ≤ bt s k ∧ bt s k ≤ 126) := by omega
      rcases hcs with hc | hc | hc | hc | hc
      · have c1 : (bt s k == 34) = true := beq_iff_eq.2 hc
        have HE := Lib.hid (esc_q (.inl hc))
        clear hc
        go_wp2_with (at_builtin; refine app_row w.heap.size rfl (.tmp 36) (.tmp 38) 23 5 rfl Tryd.underlying23 info5 _ (escTo s k) [92, bt s k] 2 _ rfl rfl rfl rfl HR.out.own HR.out.bel HR.out.size (by simp; omega) ?_; intro v1 w1 ho hb)
        go_roundw
        case rel => exact ⟨k + 1, hlt, by go_num, Row.step HE.out ho hb⟩
        case measure => simp [intOf]; omega
      · have c1 : (bt s k == 34) = false := beq_eq_false_iff_ne.2 hc.1
        have c2 : (bt s k == 92) = true := beq_iff_eq.2 hc.2
        have HE := Lib.hid (esc_q (.inr hc.2))
        clear hc
        go_wp2_with (at_builtin; refine app_row w.heap.size rfl (.tmp 36) (.tmp 38) 23 5 rfl Tryd.underlying23 info5 _ (escTo s k) [92, bt s k] 2 _ rfl rfl rfl rfl HR.out.own HR.out.bel HR.out.size (by simp; omega) ?_; intro v1 w1 ho hb)
        go_roundw
        case rel => exact ⟨k + 1, hlt, by go_num, Row.step HE.out ho hb⟩
        case measure => simp [intOf]; omega
      · have c1 : (bt s k == 34) = false := beq_eq_false_iff_ne.2 hc.1
        have c2 : (bt s k == 92) = false := beq_eq_false_iff_ne.2 hc.2.1
        have c3 := hc.2.2
        have HE := Lib.hid (esc_x hc.1 hc.2.1 (.inl hc.2.2))
        clear hc
        have i1 : 0 ≤ bt s k / 16 := by omega
        have i2 : bt s k / 16 < 16 := by omega
        have i3 : 0 ≤ bt s k % 16 := by omega
        have i4 : bt s k % 16 < 16 := by omega
        have e15 := and15 (bt s k) hb0 hb1
        have x1 := hexd_walk (bt s k / 16)
        have x2 := hexd_walk (bt s k % 16)
        go_wp2
        go_region_law (refine app_step w.heap.size rfl (.tmp 47) (.tmp 54) 23 5 rfl Tryd.underlying23 info5 _ (escTo s k) [92, 120, hexd (bt s k / 16), hexd (bt s k % 16)] 4 _ rfl rfl rfl rfl HR.out.drew.own HR.out.drew.bel HR.out.drew.size (by simp; omega) ?_; intro v1 w1 ho hb)
        all_goals go_wp2
        all_goals
          go_roundw
          case rel => exact ⟨k + 1, hlt, by go_num, Row.step HE.out ho hb⟩
          case measure => simp [intOf]; omega
      · have c1 : (bt s k == 34) = false := beq_eq_false_iff_ne.2 hc.1
        have c2 : (bt s k == 92) = false := beq_eq_false_iff_ne.2 hc.2.1
        have c3 := hc.2.2
        have HE := Lib.hid (esc_x hc.1 hc.2.1 (.inr hc.2.2))
        clear hc
        have i1 : 0 ≤ bt s k / 16 := by omega
        have i2 : bt s k / 16 < 16 := by omega
        have i3 : 0 ≤ bt s k % 16 := by omega
        have i4 : bt s k % 16 < 16 := by omega
        have e15 := and15 (bt s k) hb0 hb1
        have x1 := hexd_walk (bt s k / 16)
        have x2 := hexd_walk (bt s k % 16)
        go_wp2
        go_region_law (refine app_step w.heap.size rfl (.tmp 47) (.tmp 54) 23 5 rfl Tryd.underlying23 info5 _ (escTo s k) [92, 120, hexd (bt s k / 16), hexd (bt s k % 16)] 4 _ rfl rfl rfl rfl HR.out.drew.own HR.out.drew.bel HR.out.drew.size (by simp; omega) ?_; intro v1 w1 ho hb)
        all_goals go_wp2
        all_goals
          go_roundw
          case rel => exact ⟨k + 1, hlt, by go_num, Row.step HE.out ho hb⟩
          case measure => simp [intOf]; omega
      · have c1 : (bt s k == 34) = false := beq_eq_false_iff_ne.2 hc.1
        have c2 : (bt s k == 92) = false := beq_eq_false_iff_ne.2 hc.2.1
        have c3 := hc.2.2.1
        have c4 := hc.2.2.2
        have HE := Lib.hid (esc_p hc.1 hc.2.1 hc.2.2.1 hc.2.2.2)
        clear hc
        go_wp2_with (at_builtin; refine app_row w.heap.size rfl (.tmp 25) (.tmp 27) 23 5 rfl Tryd.underlying23 info5 _ (escTo s k) [bt s k] 1 _ rfl rfl rfl rfl HR.out.own HR.out.bel HR.out.size (by simp; omega) ?_; intro v1 w1 ho hb)
        go_roundw
        case rel => exact ⟨k + 1, hlt, by go_num, Row.step HE.out ho hb⟩
        case measure => simp [intOf]; omega
    · obtain rfl : k = s.size := by omega
      go_wp2_with (at_builtin; refine app_row w.heap.size rfl (.tmp 57) (.tmp 58) 23 5 rfl Tryd.underlying23 info5 _ (escTo s s.size) [34] 1 _ rfl rfl rfl rfl HR.out.own HR.out.bel HR.out.size (by simp; omega) ?_; intro v1 w1 ho hb; have hcv := own_string (P := Tryd.prog) Tryd.underlying23 Tryd.underlying5 Tryd.underlying9 ho)
      go_ret
      exact ⟨by rw [Hfin.out] <;> rfl, hb⟩

set_option maxRecDepth 100000 in
set_option maxHeartbeats 1000000 in
theorem text7_not (s : ByteArray) (w : World) (hs : s.size ≤ 1048576) (hP : ¬ Plain s) (h0 : ¬ s.size = 0) :
    Calls Tryd.prog 9 #[.string s] w fun e w' => e = .returned (.string (textOf s)) ∧ Below w.heap.size w w' := by
  have hfin : textOf s = strOfNums (escTo s s.size ++ [34]) := by simp [textOf, hP]
  have Hfin := Lib.hid hfin
  clear hfin
  have hne := not_empty_of h0
  have hB : ¬ BareTo s s.size := fun h => hP ⟨h0, h⟩
  clear h0 hP
  go_enter Tryd.func9, Tryd.ntmps9
  go_wp2_with (go_at_call 19; refine (run30_no _ _ (by omega) hB).mono ?_; rintro e w' ⟨n, rfl, hn, hb⟩)
  go_loopw [3, 19] (fun v i wr => ∃ k : Nat, k ≤ s.size ∧ i = .int .i64 k ∧ Row s w wr k v) (fun _ i _ => s.size - (intOf i).toNat)
  case atStart => exact ⟨0, Nat.zero_le _, rfl, row_start s hb⟩
  case round =>
    obtain ⟨k, hk, rfl, hR⟩ := hrel
    have HR := Lib.hid hR
    clear hR hn hb
    have hel := escTo_le s k
    by_cases hlt : k < s.size
    · have hx : ∀ h : k < s.size, ((s[k]'h).toNat : Int) = bt s (k : Int) := fun h => bt_at s k (by simpa using h)
      obtain ⟨hb0, hb1⟩ := bt_range s k
      have hcs : bt s k = 34 ∨ (bt s k ≠ 34 ∧ bt s k = 92) ∨ (bt s k ≠ 34 ∧ bt s k ≠ 92 ∧ bt s k < 32) ∨ (bt s k ≠ 34 ∧ bt s k ≠ 92 ∧ 126 < bt s k) ∨ (bt s k ≠ 34 ∧ bt s k ≠ 92 ∧ 32 ≤ bt s k ∧ bt s k ≤ 126) := by omega
      rcases hcs with hc | hc | hc | hc | hc
      · have c1 : (bt s k == 34) = true := beq_iff_eq.2 hc
        have HE := Lib.hid (esc_q (.inl hc))
        clear hc
        go_wp2_with (at_builtin; refine app_row w.heap.size rfl (.tmp 36) (.tmp 38) 23 5 rfl Tryd.underlying23 info5 _ (escTo s k) [92, bt s k] 2 _ rfl rfl rfl rfl HR.out.own HR.out.bel HR.out.size (by simp; omega) ?_; intro v1 w1 ho hb)
        go_roundw
        case rel => exact ⟨k + 1, hlt, by go_num, Row.step HE.out ho hb⟩
        case measure => simp [intOf]; omega
      · have c1 : (bt s k == 34) = false := beq_eq_false_iff_ne.2 hc.1
        have c2 : (bt s k == 92) = true := beq_iff_eq.2 hc.2
        have HE := Lib.hid (esc_q (.inr hc.2))
        clear hc
        go_wp2_with (at_builtin; refine app_row w.heap.size rfl (.tmp 36) (.tmp 38) 23 5 rfl Tryd.underlying23 info5 _ (escTo s k) [92, bt s k] 2 _ rfl rfl rfl rfl HR.out.own HR.out.bel HR.out.size (by simp; omega) ?_; intro v1 w1 ho hb)
        go_roundw
        case rel => exact ⟨k + 1, hlt, by go_num, Row.step HE.out ho hb⟩
        case measure => simp [intOf]; omega
      · have c1 : (bt s k == 34) = false := beq_eq_false_iff_ne.2 hc.1
        have c2 : (bt s k == 92) = false := beq_eq_false_iff_ne.2 hc.2.1
        have c3 := hc.2.2
        have HE := Lib.hid (esc_x hc.1 hc.2.1 (.inl hc.2.2))
        clear hc
        have i1 : 0 ≤ bt s k / 16 := by omega
        have i2 : bt s k / 16 < 16 := by omega
        have i3 : 0 ≤ bt s k % 16 := by omega
        have i4 : bt s k % 16 < 16 := by omega
        have e15 := and15 (bt s k) hb0 hb1
        have x1 := hexd_walk (bt s k / 16)
        have x2 := hexd_walk (bt s k % 16)
        go_wp2
        go_region_law (refine app_step w.heap.size rfl (.tmp 47) (.tmp 54) 23 5 rfl Tryd.underlying23 info5 _ (escTo s k) [92, 120, hexd (bt s k / 16), hexd (bt s k % 16)] 4 _ rfl rfl rfl rfl HR.out.drew.own HR.out.drew.bel HR.out.drew.size (by simp; omega) ?_; intro v1 w1 ho hb)
        all_goals go_wp2
        all_goals
          go_roundw
          case rel => exact ⟨k + 1, hlt, by go_num, Row.step HE.out ho hb⟩
          case measure => simp [intOf]; omega
      · have c1 : (bt s k == 34) = false := beq_eq_false_iff_ne.2 hc.1
        have c2 : (bt s k == 92) = false := beq_eq_false_iff_ne.2 hc.2.1
        have c3 := hc.2.2
        have HE := Lib.hid (esc_x hc.1 hc.2.1 (.inr hc.2.2))
        clear hc
        have i1 : 0 ≤ bt s k / 16 := by omega
        have i2 : bt s k / 16 < 16 := by omega
        have i3 : 0 ≤ bt s k % 16 := by omega
        have i4 : bt s k % 16 < 16 := by omega
        have e15 := and15 (bt s k) hb0 hb1
        have x1 := hexd_walk (bt s k / 16)
        have x2 := hexd_walk (bt s k % 16)
        go_wp2
        go_region_law (refine app_step w.heap.size rfl (.tmp 47) (.tmp 54) 23 5 rfl Tryd.underlying23 info5 _ (escTo s k) [92, 120, hexd (bt s k / 16), hexd (bt s k % 16)] 4 _ rfl rfl rfl rfl HR.out.drew.own HR.out.drew.bel HR.out.drew.size (by simp; omega) ?_; intro v1 w1 ho hb)
        all_goals go_wp2
        all_goals
          go_roundw
          case rel => exact ⟨k + 1, hlt, by go_num, Row.step HE.out ho hb⟩
          case measure => simp [intOf]; omega
      · have c1 : (bt s k == 34) = false := beq_eq_false_iff_ne.2 hc.1
        have c2 : (bt s k == 92) = false := beq_eq_false_iff_ne.2 hc.2.1
        have c3 := hc.2.2.1
        have c4 := hc.2.2.2
        have HE := Lib.hid (esc_p hc.1 hc.2.1 hc.2.2.1 hc.2.2.2)
        clear hc
        go_wp2_with (at_builtin; refine app_row w.heap.size rfl (.tmp 25) (.tmp 27) 23 5 rfl Tryd.underlying23 info5 _ (escTo s k) [bt s k] 1 _ rfl rfl rfl rfl HR.out.own HR.out.bel HR.out.size (by simp; omega) ?_; intro v1 w1 ho hb)
        go_roundw
        case rel => exact ⟨k + 1, hlt, by go_num, Row.step HE.out ho hb⟩
        case measure => simp [intOf]; omega
    · obtain rfl : k = s.size := by omega
      go_wp2_with (at_builtin; refine app_row w.heap.size rfl (.tmp 57) (.tmp 58) 23 5 rfl Tryd.underlying23 info5 _ (escTo s s.size) [34] 1 _ rfl rfl rfl rfl HR.out.own HR.out.bel HR.out.size (by simp; omega) ?_; intro v1 w1 ho hb; have hcv := own_string (P := Tryd.prog) Tryd.underlying23 Tryd.underlying5 Tryd.underlying9 ho)
      go_ret
      exact ⟨by rw [Hfin.out] <;> rfl, hb⟩

theorem text7_plain (s : ByteArray) (w : World) (hs : s.size ≤ 1048576) (hP : Plain s) :
    Calls Tryd.prog 9 #[.string s] w fun e w' => e = .returned (.string (textOf s)) ∧ Below w.heap.size w w' := by
  have hfin : textOf s = s := by simp [textOf, hP]
  have Hfin := Lib.hid hfin
  clear hfin
  have hne := not_empty_of hP.1
  have hB := hP.2
  clear hP
  have ht : ((s.size : Int) == (s.size : Int)) = true := by simp
  go_enter Tryd.func9, Tryd.ntmps9
  go_wp2_with (go_at_call 19; refine (run30_yes _ _ (by omega) hB).mono ?_; rintro e w' ⟨rfl, hb⟩)
  go_ret
  exact ⟨by rw [Hfin.out] <;> rfl, hb⟩
theorem text7 (s : ByteArray) (w : World) (hs : s.size ≤ 1048576) :
    Calls Tryd.prog 9 #[.string s] w fun e w' => e = .returned (.string (textOf s)) ∧ Below w.heap.size w w' := by
  by_cases hP : Plain s
  · exact text7_plain s w hs hP
  · by_cases h0 : s.size = 0
    · exact text7_empty s w hs hP h0
    · exact text7_not s w hs hP h0
end Go.Proofs.YtekgdlpicgibhabDoor.PT
