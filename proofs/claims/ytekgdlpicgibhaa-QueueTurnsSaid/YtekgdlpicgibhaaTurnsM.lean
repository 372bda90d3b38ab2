/-
  QueueTurns as data: what waits, in the statement's own books, and the queue. No program.
-/
import Derived.Test.YtekgdlpicgibhaaM
namespace Go.Proofs.Ytekgdlpicgibhaa.Turns
open Go.Proofs.Ytekgdlpicgibhaa.QQ

/-- One that waits: whose, which, how many Pops there may be. -/
structure It where
  c : Nat
  v : Int
  left : Int
def dec (x : It) : It := { x with left := x.left - 1 }

/-- How far client c stands from nx, of n. -/
def dist (n nx c : Nat) : Nat := if nx ≤ c then c - nx else c + n - nx
def up (f : Nat → Nat) (c : Nat) : Nat → Nat := fun d => if d = c then f d + 1 else f d
/-- cnt of each client stand ahead: everyone's Left is enough. -/
def LeftOk (n nx : Nat) : (Nat → Nat) → List It → Prop
  | _, [] => True
  | cnt, x :: xs => (cnt x.c * n + dist n nx x.c + 1 : Nat) ≤ x.left ∧ LeftOk n nx (up cnt x.c) xs

structure Inv (n : Nat) (W : List It) (q : QM Int) : Prop where
  len : q.rows.length = n
  tot : q.total = W.length
  rng : ∀ x, x ∈ W → x.c < n
  row : ∀ c, c < n → q.row c = (W.filter fun x => x.c = c).map (·.v)
  left : LeftOk n q.next (fun _ => 0) W
  small : ∀ x, x ∈ W → x.left ≤ 4224

theorem inv_start (n p : Nat) : Inv n [] (QM.empty n p) where
  len := by simp [QM.empty]
  tot := rfl
  rng := by simp
  row := fun c _ => by rw [QM.empty_row]; rfl
  left := trivial
  small := by simp

/-- how many of W are of client c -/
def num (W : List It) (c : Nat) : Nat := (W.filter fun x => x.c = c).length
theorem inv_num {n : Nat} {W : List It} {q : QM Int} (h : Inv n W q) {c : Nat} (hc : c < n) : (q.row c).length = num W c := by
  rw [h.row c hc, List.length_map]; rfl

theorem leftOk_snoc {n nx : Nat} {W : List It} {cnt : Nat → Nat} {x : It} (h : LeftOk n nx cnt W) (hx : ((cnt x.c + num W x.c) * n + dist n nx x.c + 1 : Nat) ≤ x.left) : LeftOk n nx cnt (W ++ [x]) := by
  induction W generalizing cnt with
  | nil => exact ⟨by simpa [num] using hx, trivial⟩
  | cons y W ih =>
    refine ⟨h.1, ih h.2 ?_⟩
    have e : up cnt y.c x.c + num W x.c = cnt x.c + num (y :: W) x.c := by
      unfold up num
      by_cases e : y.c = x.c
      · rw [if_pos e.symm, List.filter_cons_of_pos (by simpa using e)]; simp; omega
      · rw [if_neg (Ne.symm e), List.filter_cons_of_neg (by simpa using e)]
    rw [e]
    exact hx
theorem dist_lt {n nx c : Nat} (h1 : nx < n) (h2 : c < n) : dist n nx c < n := by unfold dist; split <;> omega

theorem inv_push {n : Nat} {W : List It} {q : QM Int} (hw : q.Wf) (h : Inv n W q) {c : Nat} (hc : c < n) {v : Int} (hr : num W c < q.places) :
    Inv n (W ++ [⟨c, v, ((num W c + 1) * n : Nat)⟩]) (q.pushed c v) := by
  have hcl : c < q.rows.length := by rw [h.len]; exact hc
  have hnx : q.next < n := by rw [← h.len]; exact hw.nx
  have hn64 : n ≤ 64 := by rw [← h.len]; exact hw.n2
  refine ⟨by rw [QM.pushed, QM.setRow_len]; exact h.len, by show q.total + 1 = _; rw [h.tot]; simp, ?_, fun d hd => ?_, ?_, ?_⟩
  · intro x hx
    rcases List.mem_append.1 hx with hx | hx
    · exact h.rng x hx
    · obtain rfl := List.mem_singleton.1 hx; exact hc
  · rw [QM.pushed, QM.setRow_row _ _ _ _ _ _ hcl, List.filter_append, List.map_append]
    by_cases e : d = c
    · subst e; rw [if_pos rfl, h.row d hd]; simp
    · rw [if_neg e, h.row d hd]; simp [Ne.symm e]
  · refine leftOk_snoc h.left ?_
    have hd := dist_lt hnx hc
    show ((0 + num W c) * n + dist n q.next c + 1 : Nat) ≤ (((num W c + 1) * n : Nat) : Int)
    rw [Nat.zero_add, Nat.succ_mul]
    omega
  · intro x hx
    rcases List.mem_append.1 hx with hx | hx
    · exact h.small x hx
    · obtain rfl := List.mem_singleton.1 hx
      have : (num W c + 1) * n ≤ 64 * 64 := Nat.mul_le_mul (by have := hw.p2; omega) hn64
      show (((num W c + 1) * n : Nat) : Int) ≤ 4224
      omega

/-- What the loop behind a Pop asks of the rest (f: has it been found). -/
def Okk (d : Nat) (v : Int) : Bool → List It → Prop
  | _, [] => True
  | true, y :: ys => 0 < y.left - 1 ∧ Okk d v true ys
  | false, y :: ys => if y.c = d then y.v = v ∧ Okk d v true ys else 0 < y.left - 1 ∧ Okk d v false ys
/-- What the loop lays behind what it has. -/
def out (d : Nat) : Bool → List It → List It
  | _, [] => []
  | true, y :: ys => dec y :: out d true ys
  | false, y :: ys => if y.c = d then out d true ys else dec y :: out d false ys

theorem filter_out_true (d c : Nat) (ys : List It) : ((out d true ys).filter fun x => x.c = c).map (·.v) = (ys.filter fun x => x.c = c).map (·.v) := by
  induction ys with
  | nil => rfl
  | cons y ys ih =>
    rw [out]
    by_cases e : y.c = c
    · rw [List.filter_cons_of_pos (by show decide (y.c = c) = true; exact decide_eq_true e), List.filter_cons_of_pos (by simpa using e), List.map_cons, List.map_cons, ih]; rfl
    · rw [List.filter_cons_of_neg (by show ¬ decide (y.c = c) = true; simpa using e), List.filter_cons_of_neg (by simpa using e), ih]
theorem filter_out_other (d c : Nat) (hne : c ≠ d) (ys : List It) : ((out d false ys).filter fun x => x.c = c).map (·.v) = (ys.filter fun x => x.c = c).map (·.v) := by
  induction ys with
  | nil => rfl
  | cons y ys ih =>
    rw [out]
    by_cases ed : y.c = d
    · rw [if_pos ed, filter_out_true, List.filter_cons_of_neg (by simp; omega)]
    · rw [if_neg ed]
      by_cases e : y.c = c
      · rw [List.filter_cons_of_pos (by show decide (y.c = c) = true; exact decide_eq_true e), List.filter_cons_of_pos (by simpa using e), List.map_cons, List.map_cons, ih]; rfl
      · rw [List.filter_cons_of_neg (by show ¬ decide (y.c = c) = true; simpa using e), List.filter_cons_of_neg (by simpa using e), ih]
theorem filter_out_self (d : Nat) (ys : List It) : ((out d false ys).filter fun x => x.c = d).map (·.v) = ((ys.filter fun x => x.c = d).map (·.v)).tail := by
  induction ys with
  | nil => rfl
  | cons y ys ih =>
    rw [out]
    by_cases ed : y.c = d
    · rw [if_pos ed, filter_out_true, List.filter_cons_of_pos (by simpa using ed)]; rfl
    · rw [if_neg ed, List.filter_cons_of_neg (by show ¬ decide (y.c = d) = true; simpa using ed), List.filter_cons_of_neg (by simpa using ed), ih]
theorem out_true_len (d : Nat) (ys : List It) : (out d true ys).length = ys.length := by
  induction ys with
  | nil => rfl
  | cons y ys ih => simp [out, ih]
theorem out_len (d : Nat) (ys : List It) (h : ∃ y, y ∈ ys ∧ y.c = d) : (out d false ys).length + 1 = ys.length := by
  induction ys with
  | nil => obtain ⟨y, hy, _⟩ := h; cases hy
  | cons y ys ih =>
    rw [out]
    by_cases ed : y.c = d
    · rw [if_pos ed, out_true_len]; rfl
    · rw [if_neg ed]
      obtain ⟨z, hz, hc⟩ := h
      rcases List.mem_cons.1 hz with rfl | hz
      · exact absurd hc ed
      · have := ih ⟨z, hz, hc⟩
        simp; omega
theorem out_mem (d : Nat) : ∀ (f : Bool) (ys : List It) (x : It), x ∈ out d f ys → ∃ y, y ∈ ys ∧ x = dec y := by
  intro f ys
  induction ys generalizing f with
  | nil => intro x hx; cases f <;> cases hx
  | cons y ys ih =>
    intro x hx
    cases f with
    | true =>
      rw [out] at hx
      rcases List.mem_cons.1 hx with rfl | hx
      · exact ⟨y, by simp, rfl⟩
      · obtain ⟨z, hz, e⟩ := ih true x hx
        exact ⟨z, by simp [hz], e⟩
    | false =>
      rw [out] at hx
      split at hx
      · obtain ⟨z, hz, e⟩ := ih true x hx
        exact ⟨z, by simp [hz], e⟩
      · rcases List.mem_cons.1 hx with rfl | hx
        · exact ⟨y, by simp, rfl⟩
        · obtain ⟨z, hz, e⟩ := ih false x hx
          exact ⟨z, by simp [hz], e⟩

/-- The numbers of one Pop: d stands j from nx; whatever waits stands no nearer. -/
structure Hop (n nx d j : Nat) : Prop where
  hn : 0 < n
  hnx : nx < n
  hd : d < n
  hj : dist n nx d = j
theorem hop_other {n nx d j c : Nat} (h : Hop n nx d j) (hc : c < n) (hne : c ≠ d) (hle : j ≤ dist n nx c) : dist n ((d + 1) % n) c + 1 ≤ dist n nx c := by
  obtain ⟨h1, h2, h3, h4⟩ := h
  have e : (d + 1) % n = if d + 1 = n then 0 else d + 1 := by
    split
    · next e => rw [e, Nat.mod_self]
    · exact Nat.mod_eq_of_lt (by omega)
  rw [e]
  unfold dist at *
  split at h4 <;> split at hle <;> (repeat' split) <;> omega
theorem mod_succ_lt {n d : Nat} (h : 0 < n) : (d + 1) % n < n := Nat.mod_lt _ h
theorem leftOk_true {n nx d j : Nat} (h : Hop n nx d j) (v : Int) {ys : List It} {cnt cnt' : Nat → Nat} (h1 : ∀ c, c ≠ d → cnt' c = cnt c) (h2 : cnt' d + 1 = cnt d) (hr : ∀ y, y ∈ ys → y.c < n ∧ j ≤ dist n nx y.c) (hl : LeftOk n nx cnt ys) :
    Okk d v true ys ∧ LeftOk n ((d + 1) % n) cnt' (out d true ys) := by
  induction ys generalizing cnt cnt' with
  | nil => exact ⟨trivial, trivial⟩
  | cons y ys ih =>
    obtain ⟨hl1, hl2⟩ := hl
    obtain ⟨hy1, hy2⟩ := hr y (by simp)
    have hrest := ih (cnt := up cnt y.c) (cnt' := up cnt' y.c) (by
      intro c hc
      unfold up
      rw [h1 c hc]) (by
      unfold up
      split <;> omega) (fun z hz => hr z (by simp [hz])) hl2
    rw [out]
    by_cases e : y.c = d
    · have e1 : cnt y.c * n = cnt' d * n + n := by rw [e, ← h2, Nat.succ_mul]
      have hd2 := dist_lt (mod_succ_lt (d := d) h.hn) h.hd
      have hn := h.hn
      refine ⟨⟨by omega, hrest.1⟩, ?_, hrest.2⟩
      show ((cnt' (dec y).c * n + dist n ((d + 1) % n) (dec y).c + 1 : Nat) : Int) ≤ y.left - 1
      have e2 : (dec y).c = d := e
      rw [e2]
      omega
    · have e1 := h1 _ e
      have hd2 := hop_other h hy1 e hy2
      refine ⟨⟨by omega, hrest.1⟩, ?_, hrest.2⟩
      show ((cnt' y.c * n + dist n ((d + 1) % n) y.c + 1 : Nat) : Int) ≤ y.left - 1
      rw [e1]
      omega
theorem leftOk_false {n nx d j : Nat} (h : Hop n nx d j) (v : Int) {ys : List It} {cnt : Nat → Nat} (h2 : cnt d = 0) (hr : ∀ y, y ∈ ys → y.c < n ∧ j ≤ dist n nx y.c) (hv : ∀ x xs, (ys.filter fun x => x.c = d).map (·.v) = x :: xs → x = v) (hl : LeftOk n nx cnt ys) :
    Okk d v false ys ∧ LeftOk n ((d + 1) % n) cnt (out d false ys) := by
  induction ys generalizing cnt with
  | nil => exact ⟨trivial, trivial⟩
  | cons y ys ih =>
    obtain ⟨hl1, hl2⟩ := hl
    obtain ⟨hy1, hy2⟩ := hr y (by simp)
    rw [out, Okk]
    by_cases e : y.c = d
    · rw [if_pos e, if_pos e]
      have hrest := leftOk_true h v (cnt := up cnt y.c) (cnt' := cnt) (by
        intro c hc
        unfold up
        rw [if_neg (by omega)]) (by
        unfold up
        rw [if_pos e.symm]) (fun z hz => hr z (by simp [hz])) hl2
      refine ⟨⟨hv y.v _ (by rw [List.filter_cons_of_pos (by simpa using e)]; rfl), hrest.1⟩, hrest.2⟩
    · rw [if_neg e, if_neg e]
      have hrest := ih (cnt := up cnt y.c) (by
        unfold up
        rw [if_neg (Ne.symm e)]
        exact h2) (fun z hz => hr z (by simp [hz])) (fun x xs hx => hv x xs (by rw [List.filter_cons_of_neg (by simpa using e)]; exact hx)) hl2
      have hd2 := hop_other h hy1 e hy2
      refine ⟨⟨by omega, hrest.1⟩, ?_, hrest.2⟩
      show ((cnt y.c * n + dist n ((d + 1) % n) y.c + 1 : Nat) : Int) ≤ y.left - 1
      omega

/-- A Pop where something waits. -/
theorem inv_pop {n : Nat} {W : List It} {q : QM Int} (hw : q.Wf) (h : Inv n W q) (hW : W ≠ []) :
    ∃ d v, d < n ∧ q.pop = (some (d, v), q.popped d) ∧ Okk d v false W ∧ Inv n (out d false W) (q.popped d) ∧ ∃ y, y ∈ W ∧ y.c = d := by
  have htot : 0 < q.total := by
    rw [h.tot]
    rcases W with _ | ⟨a, b⟩
    · exact absurd rfl hW
    · simp
  rcases q.pop_cases hw with ⟨hp, _, _⟩ | ⟨j, x, xs, _, hj, hat, hx, hemp, hp⟩
  · exfalso
    obtain ⟨c, x, xs, _, _, hp2⟩ := QM.pop_pos hw htot
    rw [hp] at hp2
    cases hp2
  · have hnx : q.next < n := by rw [← h.len]; exact hw.nx
    have hjn : j < n := by rw [← h.len]; exact hj
    have hdn : q.at_ j < n := by rw [← h.len]; exact hat
    have eat : ∀ i, i < n → q.at_ i = if q.next + i < n then q.next + i else q.next + i - n := by
      intro i hi
      unfold QM.at_
      rw [h.len]
      split
      · exact Nat.mod_eq_of_lt (by omega)
      · rw [Nat.mod_eq_sub_mod (by omega)]; exact Nat.mod_eq_of_lt (by omega)
    have hhop : Hop n q.next (q.at_ j) j := by
      refine ⟨by omega, hnx, hdn, ?_⟩
      rw [eat j hjn]
      unfold dist
      split <;> split <;> omega
    have hr : ∀ y, y ∈ W → y.c < n ∧ j ≤ dist n q.next y.c := by
      intro y hy
      have hyc := h.rng y hy
      refine ⟨hyc, ?_⟩
      rcases Nat.lt_or_ge (dist n q.next y.c) j with hlt | hge
      · exfalso
        have e := hemp _ hlt
        have ey : q.at_ (dist n q.next y.c) = y.c := by
          rw [eat _ (by omega)]
          unfold dist
          split <;> split <;> omega
        rw [ey, h.row _ hyc] at e
        have hmem : y ∈ W.filter fun x => x.c = y.c := List.mem_filter.2 ⟨hy, by simp⟩
        rw [List.map_eq_nil_iff] at e
        rw [e] at hmem
        cases hmem
      · exact hge
    obtain ⟨ok, lo⟩ := leftOk_false hhop x (cnt := fun _ => 0) rfl hr (by
      intro a b hab
      rw [← h.row _ hdn, hx] at hab
      cases hab
      rfl) h.left
    have hex : ∃ y, y ∈ W ∧ y.c = q.at_ j := by
      have e := h.row _ hdn
      rw [hx] at e
      cases hf : W.filter fun x => x.c = q.at_ j with
      | nil => rw [hf] at e; cases e
      | cons a b =>
        have : a ∈ W.filter fun x => x.c = q.at_ j := by rw [hf]; simp
        obtain ⟨h1, h2⟩ := List.mem_filter.1 this
        exact ⟨a, h1, by simpa using h2⟩
    refine ⟨q.at_ j, x, hdn, hp, ok, ⟨by rw [QM.popped, QM.setRow_len]; exact h.len, ?_, ?_, fun c hc => ?_, ?_, ?_⟩, hex⟩
    · show q.total - 1 = _
      have := out_len (q.at_ j) W hex
      rw [h.tot]
      omega
    · intro z hz
      obtain ⟨y, hy, rfl⟩ := out_mem _ _ _ _ hz
      exact h.rng y hy
    · rw [QM.popped, QM.setRow_row _ _ _ _ _ _ hat]
      by_cases e : c = q.at_ j
      · rw [if_pos e, e, filter_out_self, h.row _ hdn]
      · rw [if_neg e, filter_out_other _ _ e, h.row c hc]
    · show LeftOk n ((q.at_ j + 1) % q.rows.length) _ _
      rw [h.len]
      exact lo
    · intro z hz
      obtain ⟨y, hy, rfl⟩ := out_mem _ _ _ _ hz
      have := h.small y hy
      show y.left - 1 ≤ 4224
      omega
theorem inv_none {n : Nat} {q : QM Int} (hw : q.Wf) (h : Inv n [] q) : q.pop = (none, q) := QM.pop_zero hw (by rw [h.tot]; rfl)
end Go.Proofs.Ytekgdlpicgibhaa.Turns
