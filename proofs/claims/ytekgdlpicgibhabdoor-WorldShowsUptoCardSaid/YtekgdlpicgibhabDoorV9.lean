/-
  Results and events as data; a row of words that was just made.
-/
import Derived.Test.YtekgdlpicgibhabDoorV8
import Derived.Deep.RegionHeld3
namespace Go.Proofs.YtekgdlpicgibhabDoor.SH
open Go.RowKit Go.Proofs.YtekgdlpicgibhabDoorW.PrintWords PT PWorldShows

/-- A row of a list. -/
structure Ln where
  name : ByteArray
  id : Int
  kind : Int
/-- A result. -/
structure Rs where
  call : Int
  op : Int
  status : Int
  handle : Int
  aid : Int
  akind : Int
  asize : Int
  achange : Int
  data : List Int
  list : List Ln
  more : Bool
def Rs.cells (r : Rs) (A : Option Addr) (c : Nat) (L : Option Addr) (d : Nat) : List Value :=
  [.int .i64 r.call, .int .i64 r.op, .int .i64 r.status, .int .i64 r.handle, .int .i64 r.aid, .int .i64 r.akind, .int .i64 r.asize, .int .i64 r.achange, .slice A r.data.length c, .slice L r.list.length d, .bool r.more]
def IntR (n : Int) : Prop := -9223372036854775808 ≤ n ∧ n ≤ 9223372036854775807
/-- The list lies there. -/
structure ListIn (w : World) (L : Option Addr) (d : Nat) (l : List Ln) : Prop where
  at_ : 0 < l.length → ∃ ad : Addr, L = some ad ∧ ∀ (k : Nat) x, l[k]? = some x → w.cell? (ad.add (k * 3)) = some (.string x.name) ∧ w.cell? ⟨(ad.add (k * 3)).block, (ad.add (k * 3)).off + 1, none⟩ = some (.int .i64 x.id) ∧ w.cell? ⟨(ad.add (k * 3)).block, (ad.add (k * 3)).off + 2, none⟩ = some (.int .i64 x.kind)
  cap : l.length ≤ d
  len : l.length ≤ 1048576
  ok : ∀ x ∈ l, x.name.size ≤ 1048576 ∧ IntR x.id ∧ IntR x.kind
theorem cell_on {w w1 : World} (hb : Below w.heap.size w w1) {p : Addr} {v : Value} (h : w.cell? p = some v) : w1.cell? p = some v :=
  (cell_below hb p (World.block_lt_of_cell? w p h)).trans h
theorem ListIn.on {w w1 : World} {L : Option Addr} {d : Nat} {l : List Ln} (h : ListIn w L d l) (hb : Below w.heap.size w w1) : ListIn w1 L d l :=
  ⟨fun hp => by
    obtain ⟨ad, e, hc⟩ := h.at_ hp
    exact ⟨ad, e, fun k x hx => ⟨cell_on hb (hc k x hx).1, cell_on hb (hc k x hx).2.1, cell_on hb (hc k x hx).2.2⟩⟩, h.cap, h.len, h.ok⟩
structure RsIn (w : World) (r : Rs) (A : Option Addr) (c : Nat) (L : Option Addr) (d : Nat) : Prop where
  call : IntR r.call
  op : IntR r.op
  status : IntR r.status
  handle : IntR r.handle
  aid : IntR r.aid
  akind : IntR r.akind
  asize : IntR r.asize
  achange : IntR r.achange
  dlen : r.data.length ≤ 1048576
  rd : Kd.C (Kd.int .u8) w A r.data.length r.data
  list : ListIn w L d r.list
theorem RsIn.on {w w1 : World} {r : Rs} {A : Option Addr} {c : Nat} {L : Option Addr} {d : Nat} (h : RsIn w r A c L d) (hb : Below w.heap.size w w1) : RsIn w1 r A c L d :=
  ⟨h.call, h.op, h.status, h.handle, h.aid, h.akind, h.asize, h.achange, h.dlen, Kd.C_below h.rd hb, h.list.on hb⟩
def moreI (b : Bool) : Int := if b then 1 else 0
/-- The words of a list's rows. -/
noncomputable def rowW (l : List Ln) : List Wd := l.flatMap fun x => [.txt (textOf x.name), .num x.id, .num x.kind]
/-- The words of a returned call. -/
noncomputable def retHead (a : Int) (r : Rs) : List Wd :=
  [.txt (by_ [114, 101, 116, 117, 114, 110, 101, 100]), .num a, .num r.call, .num r.op, .num r.status, .num r.handle, .num r.aid, .num r.akind, .num r.asize, .num r.achange, .num (moreI r.more), .txt (textOf (strOfNums r.data))]
/-- The reference's text of a result. -/
noncomputable def resText (r : Rs) : List UInt8 :=
  spaced (([r.call, r.op, r.status, r.handle, r.aid, r.akind, r.asize, r.achange, moreI r.more].map Lib.itoa) ++ [(textOf (strOfNums r.data)).data.toList] ++ (rowW r.list).map fun x => x.text.data.toList)
theorem spaced_app (a b : List (List UInt8)) : spaced (a ++ b) = spaced a ++ spaced b := by simp [spaced]
theorem wordsT_cons (x : Wd) (L : List Wd) : wordsT (x :: L) = x.text.data.toList ++ spaced (L.map fun y => y.text.data.toList) := by
  unfold wordsT
  rw [List.map_cons, join_spaced]
theorem ret_text (a : Int) (r : Rs) : wordsT (retHead a r ++ rowW r.list) = [114, 101, 116, 117, 114, 110, 101, 100] ++ spaced [Lib.itoa a] ++ resText r := by
  show wordsT (.txt (by_ [114, 101, 116, 117, 114, 110, 101, 100]) :: _) = _
  rw [wordsT_cons]
  simp [resText, Wd.text, by_data, spaced]
theorem itoa_le22 (n : Int) (h : IntR n) : (Lib.itoa n).length ≤ 22 := Nat.le_trans (itoa_le n h) (by omega)
/-- The cells of a row that was just made. -/
theorem cells_new {W w : World} {cs : Array Value} {t : TypeId} (hb : Below (W.alloc (.cells cs t)).heap.size (W.alloc (.cells cs t)) w) (j : Nat) (v : Value) (h : cs[j]? = some v) : w.cell? ⟨W.heap.size, j, none⟩ = some v :=
  cell_on hb ((cellB (Go.heap_alloc_new W (.cells cs t)) j).trans h)
/-- words of a row that was just made -/
theorem words_new {B : Nat} (L : List Wd) (W : World) (cs : Array Value) (t : TypeId) (n c : Nat) (hcs : cs = (L.map Wd.val).toArray) (hn : n = L.length) (hT : Tabs B W) (hB : B ≤ W.heap.size)
    (hlen : L.length ≤ 1073741824) (hr : ∀ x ∈ L, x.ok) (hs : (wordsT L).length ≤ 140737488355328) (hne : L ≠ []) :
    Calls Tryd.prog 6 #[.slice (some ⟨W.heap.size, 0, none⟩) n c] (W.alloc (.cells cs t)) fun e w' => e = .returned (.string (by_ (wordsT L))) ∧ Below W.heap.size W w' := by
  subst hn hcs
  have hA := below_alloc (Below.refl W.heap.size W) (.cells (L.map Wd.val).toArray t)
  refine (words6 (B := B) L W.heap.size c _ (hT.on_up hB hA) (Nat.le_trans hB hA.size) (by rw [alloc_size]; omega) (fun j x hx => cells_new (Below.refl _ _) j x.val (by simp [hx])) hlen hr hs hne).mono ?_
  rintro e w' ⟨rfl, hb⟩
  exact ⟨rfl, below_then hA hA.size hb⟩
/-- numbers of a row that was made a while ago -/
theorem nums_later {B : Nat} (L : List Int) (W w : World) (cs : Array Value) (t : TypeId) (n c : Nat) (hcs : cs = (L.map fun x => Value.int .i64 x).toArray) (hn : n = L.length) (hb : Below (W.alloc (.cells cs t)).heap.size (W.alloc (.cells cs t)) w) (hT : Tabs B W) (hB : B ≤ W.heap.size)
    (hlen : L.length ≤ 1073741824) (hr : ∀ x ∈ L, IntR x) :
    Calls Tryd.prog 11 #[.slice (some ⟨W.heap.size, 0, none⟩) n c] w fun e w' => e = .returned (.string (by_ (spaced (L.map Lib.itoa)))) ∧ Below w.heap.size w w' := by
  subst hn hcs
  have hA := below_alloc (Below.refl W.heap.size W) (.cells (L.map fun x => Value.int .i64 x).toArray t)
  have hA2 := below_then hA hA.size hb
  exact words11 (B := B) L W.heap.size c _ (hT.on_up hB hA2) (Nat.le_trans hB hA2.size) (Nat.lt_of_lt_of_le (by rw [alloc_size]; omega) hb.size) (fun j x hx => cells_new hb j _ (by simp [hx])) hlen hr
theorem nums_new {B : Nat} (L : List Int) (W : World) (cs : Array Value) (t : TypeId) (n c : Nat) (hcs : cs = (L.map fun x => Value.int .i64 x).toArray) (hn : n = L.length) (hT : Tabs B W) (hB : B ≤ W.heap.size)
    (hlen : L.length ≤ 1073741824) (hr : ∀ x ∈ L, IntR x) :
    Calls Tryd.prog 11 #[.slice (some ⟨W.heap.size, 0, none⟩) n c] (W.alloc (.cells cs t)) fun e w' => e = .returned (.string (by_ (spaced (L.map Lib.itoa)))) ∧ Below W.heap.size W w' := by
  have hA := below_alloc (Below.refl W.heap.size W) (.cells cs t)
  refine (nums_later L W _ cs t n c hcs hn (Below.refl _ _) hT hB hlen hr).mono ?_
  rintro e w' ⟨rfl, hb⟩
  exact ⟨rfl, below_then hA hA.size hb⟩
theorem info20 : (Tryd.prog.info? 20).map (fun i => (i.zero, i.size, i.bytes)) = some (some .nilIface, 1, 16) := by kernel_rfl
/-- append of some words that lie in a new block, as a step of a region that draws -/
theorem app_wd_step {P : Program} {ops : Array Oper} {o : Oper} {a : Act} {Q : Exit → Act → World → Prop} {K : Act → World → Prop} {E : Prop} {w0 W : World} (base : Nat) (hw : Region.wanted o (yielded ops a.tmps) = true) (s x : Operand) (t e : TypeId)
    (ho : o.op = .call { callee := .builtin .append, args := #[s, x], argTypes := #[t, t] })
    (ht : P.underlying t = some (.slice e)) (hinfo : (P.info? e).map (fun i => (i.zero, i.size, i.bytes)) = some (some .nilIface, 1, 16))
    (v : Value) (xs : List Wd) (news : List Wd) (m : Nat) (cs : Array Value) (hs : a.eval s = v) (hx : a.eval x = .slice (some ⟨W.heap.size, 0, none⟩) m m) (hm : m = news.length) (hcs : cs = (encs Wd.val news).toArray)
    (HO : W.ownsRow base e 1 v xs.length (encs Wd.val xs)) (HB : Below base w0 W) (hbase : base ≤ W.heap.size) (hl : xs.length + news.length ≤ 1073741824)
    (h : ∀ v1 w1, w1.ownsRow base e 1 v1 (xs ++ news).length (encs Wd.val (xs ++ news)) → Below base w0 w1 → (W.alloc (.cells cs e)).grownBy w1 v.ownBlock → K (a.put o.dst v1) w1) :
    if Region.wanted o (yielded ops a.tmps) = true then Oper.wp P o a (W.alloc (.cells cs e)) K Q else E := by
  rw [if_pos hw]
  obtain ⟨i0, hi, hz0, hz1, hz2⟩ := info_parts hinfo
  subst hcs
  subst hm
  refine wp_append_own (W.alloc (.cells (encs Wd.val news).toArray e)) s x t ho base e i0 .nilIface 1 16 ht hi hz0 hz1 hz2 rfl (by decide) v xs.length (encs Wd.val xs) hs (HO.alloc _) ⟨W.heap.size, 0, none⟩ news.length news.length (encs Wd.val news) hx (by simp [encs])
    (World.news_of_block (cs := (encs Wd.val news).toArray) (t := e) (fr := (0, 0)) (Go.heap_alloc_new W _)) ?_ (by simp only [maxLen]; omega) (by omega) (by simp; omega) ?_
  · intro u hu
    simp only [encs, List.mem_map] at hu
    obtain ⟨x, _, rfl⟩ := hu
    cases x <;> rfl
  · intro v1 w1 hown hg _
    refine h v1 w1 (by simpa [encs, List.map_append, List.length_append] using hown) ((HB.alloc hbase _).grown hg (by simp; omega) (own_base HO)) hg
/-- A block that is younger than a row is as it was behind an append to that row. -/
theorem cell_app {wr W w1 : World} {base n size : Nat} {e : TypeId} {v : Value} {xs : List Value} (ho : wr.ownsRow base e size v n xs) (hg : W.grownBy w1 v.ownBlock) {j : Nat} {u : Value} (h : W.cell? ⟨wr.heap.size, j, none⟩ = some u) : w1.cell? ⟨wr.heap.size, j, none⟩ = some u :=
  (World.cell?_of_block (hg.block wr.heap.size (World.block_lt_of_cell? W _ h) (fun e => by have := own_lt ho _ e.symm; omega))).trans h
theorem rowW_snoc (l : List Ln) (k : Nat) (x : Ln) (h : l[k]? = some x) : rowW (l.take (k + 1)) = rowW (l.take k) ++ [.txt (textOf x.name), .num x.id, .num x.kind] := by
  unfold rowW
  rw [List.take_add_one, h]
  simp
theorem rowW_len (l : List Ln) : (rowW l).length = 3 * l.length := by
  unfold rowW
  induction l with
  | nil => rfl
  | cons a l ih => simp only [List.flatMap_cons, List.length_append, ih]; simp; omega
theorem spaced_len_le (L : List (List UInt8)) (M : Nat) (h : ∀ x ∈ L, x.length ≤ M) : (spaced L).length ≤ (M + 1) * L.length := spaced_le_of L M h
theorem rowW_ok {l : List Ln} (h : ∀ x ∈ l, x.name.size ≤ 1048576 ∧ IntR x.id ∧ IntR x.kind) : ∀ y ∈ rowW l, y.ok ∧ y.text.data.toList.length ≤ 4194306 := by
  intro y hy
  simp only [rowW, List.mem_flatMap] at hy
  obtain ⟨x, hx, hy⟩ := hy
  obtain ⟨h1, h2, h3⟩ := h x hx
  have ht := textOf_le x.name
  simp only [List.mem_cons, List.not_mem_nil, or_false] at hy
  rcases hy with rfl | rfl | rfl
  · exact ⟨trivial, by show (textOf x.name).data.size ≤ _; exact Nat.le_trans ht (by omega)⟩
  · exact ⟨h2, by simp only [Wd.text, by_data]; exact Nat.le_trans (itoa_le22 _ h2) (by omega)⟩
  · exact ⟨h3, by simp only [Wd.text, by_data]; exact Nat.le_trans (itoa_le22 _ h3) (by omega)⟩
theorem txt_ok (s : ByteArray) (hs : s.size ≤ 4194306) : (Wd.txt s).ok ∧ (Wd.txt s).text.data.toList.length ≤ 4194306 := ⟨trivial, hs⟩
theorem num_ok (n : Int) (h : IntR n) : (Wd.num n).ok ∧ (Wd.num n).text.data.toList.length ≤ 4194306 :=
  ⟨h, by simp only [Wd.text, by_data]; exact Nat.le_trans (itoa_le22 _ h) (by omega)⟩
theorem retHead_ok {w : World} {a : Int} {r : Rs} {A : Option Addr} {c : Nat} {L : Option Addr} {d : Nat} (h : RsIn w r A c L d) (ha : IntR a) : ∀ y ∈ retHead a r, y.ok ∧ y.text.data.toList.length ≤ 4194306 := by
  intro y hy
  have hd := h.dlen
  have ht := textOf_le (strOfNums r.data)
  rw [strOfNums_size] at ht
  have hm : IntR (moreI r.more) := by unfold moreI IntR; split <;> omega
  simp only [retHead, List.mem_cons, List.not_mem_nil, or_false] at hy
  rcases hy with rfl | rfl | rfl | rfl | rfl | rfl | rfl | rfl | rfl | rfl | rfl | rfl
  · exact txt_ok _ (by show (8 : Nat) ≤ _; omega)
  · exact num_ok _ ha
  · exact num_ok _ h.call
  · exact num_ok _ h.op
  · exact num_ok _ h.status
  · exact num_ok _ h.handle
  · exact num_ok _ h.aid
  · exact num_ok _ h.akind
  · exact num_ok _ h.asize
  · exact num_ok _ h.achange
  · exact num_ok _ hm
  · exact txt_ok _ (by omega)
/-- However many words: their text is no longer than a slice may be. -/
theorem words_le {L : List Wd} (h : ∀ y ∈ L, y.ok ∧ y.text.data.toList.length ≤ 4194306) (hL : L.length ≤ 4000000) : (wordsT L).length ≤ 140737488355328 := by
  cases L with
  | nil => simp [wordsT, Lib.join]
  | cons x l =>
    rw [wordsT_cons, List.length_append]
    have h1 := (h x (by simp)).2
    have h2 := spaced_le_of (l.map fun y => y.text.data.toList) 4194306 (fun z hz => by
      rw [List.mem_map] at hz
      obtain ⟨y, hy, rfl⟩ := hz
      exact (h y (by simp [hy])).2)
    rw [List.length_map] at h2
    have h3 : (4194306 + 1) * l.length ≤ 4194307 * 4000000 := Nat.mul_le_mul_left _ (by simp at hL; omega)
    omega
end Go.Proofs.YtekgdlpicgibhabDoor.SH
