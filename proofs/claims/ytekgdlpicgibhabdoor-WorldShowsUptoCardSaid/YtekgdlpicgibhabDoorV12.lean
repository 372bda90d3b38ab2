/-
  Events as data, and their lines.
-/
import Derived.Test.YtekgdlpicgibhabDoorV11
namespace Go.Proofs.YtekgdlpicgibhabDoor.SH
open Go.RowKit Go.Proofs.YtekgdlpicgibhabDoorW.PrintWords PT PWorldShows

/-- An event. -/
structure Ev where
  kind : Int
  a : Int
  k : Int
  m : Int
  code : Int
  call : Cl
  res : Rs
  hn : Int
  hi : Int
  he : Int
  hp : ByteArray
  kcl : Int
  kseq : Int
  kst : Int
  kdata : List Int
  fno : Int
  fto : Int
  fdata : List Int
/-- Where its lists lie. -/
structure At where
  A1 : Option Addr
  c1 : Nat
  A2 : Option Addr
  c2 : Nat
  A3 : Option Addr
  c3 : Nat
  A4 : Option Addr
  c4 : Nat
  A5 : Option Addr
  c5 : Nat
def Ev.cells (e : Ev) (p : At) : List Value :=
  [.int .i64 e.kind, .int .i64 e.a, .int .i64 e.k, .int .i64 e.m, .int .i64 e.code, .int .i64 e.call.op, .int .i64 e.call.h, .int .i64 e.call.h2, .int .i64 e.call.off, .int .i64 e.call.len, .string e.call.path, .string e.call.name, .string e.call.name2, .slice p.A1 e.call.data.length p.c1, .int .i64 e.res.call, .int .i64 e.res.op, .int .i64 e.res.status, .int .i64 e.res.handle, .int .i64 e.res.aid, .int .i64 e.res.akind, .int .i64 e.res.asize, .int .i64 e.res.achange, .slice p.A2 e.res.data.length p.c2, .slice p.A3 e.res.list.length p.c3, .bool e.res.more, .int .i64 e.hn, .int .i64 e.hi, .int .i64 e.he, .string e.hp, .int .i64 e.kcl, .int .i64 e.kseq, .int .i64 e.kst, .slice p.A4 e.kdata.length p.c4, .int .i64 e.fno, .int .i64 e.fto, .slice p.A5 e.fdata.length p.c5]
theorem Ev.cells_app (e : Ev) (p : At) : e.cells p = [.int .i64 e.kind, .int .i64 e.a, .int .i64 e.k, .int .i64 e.m, .int .i64 e.code] ++ e.call.cells p.A1 p.c1 ++ (e.res.cells p.A2 p.c2 p.A3 p.c3 ++
  [.int .i64 e.hn, .int .i64 e.hi, .int .i64 e.he, .string e.hp, .int .i64 e.kcl, .int .i64 e.kseq, .int .i64 e.kst, .slice p.A4 e.kdata.length p.c4, .int .i64 e.fno, .int .i64 e.fto, .slice p.A5 e.fdata.length p.c5]) := by
  simp only [Ev.cells, Cl.cells, Rs.cells, List.cons_append, List.nil_append]
/-- Bytes in memory. -/
structure BsIn (w : World) (l : List Int) (A : Option Addr) (c : Nat) : Prop where
  bytes : Bytes l
  len : l.length ≤ 1048576
  rd : Kd.C (Kd.int .u8) w A l.length l
  cap : l.length ≤ c
theorem BsIn.on {w w1 : World} {l : List Int} {A : Option Addr} {c : Nat} (h : BsIn w l A c) (hb : Below w.heap.size w w1) : BsIn w1 l A c := ⟨h.bytes, h.len, Kd.C_below h.rd hb, h.cap⟩
structure EvIn (w : World) (e : Ev) (p : At) : Prop where
  a : IntR e.a
  k : IntR e.k
  m : IntR e.m
  code : IntR e.code
  call : ClIn w e.call p.A1 p.c1
  cb : bytesOf (strOfNums e.call.data) = e.call.data
  res : RsIn w e.res p.A2 p.c2 p.A3 p.c3
  hn : IntR e.hn
  hi : IntR e.hi
  he : IntR e.he
  hp : e.hp.size ≤ 1048576
  kcl : IntR e.kcl
  kseq : IntR e.kseq
  kst : IntR e.kst
  kdata : BsIn w e.kdata p.A4 p.c4
  fno : IntR e.fno
  fto : IntR e.fto
  fdata : BsIn w e.fdata p.A5 p.c5
theorem EvIn.on {w w1 : World} {e : Ev} {p : At} (h : EvIn w e p) (hb : Below w.heap.size w w1) : EvIn w1 e p :=
  ⟨h.a, h.k, h.m, h.code, h.call.on hb, h.cb, h.res.on hb, h.hn, h.hi, h.he, h.hp, h.kcl, h.kseq, h.kst, h.kdata.on hb, h.fno, h.fto, h.fdata.on hb⟩
theorem callB_le (c : Cl) : (callB c).length ≤ 1048576 := by
  by_cases h : okC c ∧ (textC c).length ≤ 1048576
  · rw [callB_yes h]; exact h.2
  · rw [callB_no h]; simp
noncomputable def ev1 (e : Ev) : List Wd := [.txt (by_ [114, 101, 102, 117, 115, 101, 100]), .num e.a, .num e.k, .num e.code]
theorem ev1_ok {w : World} {e : Ev} {p : At} (h : EvIn w e p) : ∀ y ∈ ev1 e, y.ok ∧ y.text.data.toList.length ≤ 4194306 := by
  intro y hy
  simp only [ev1, List.mem_cons, List.not_mem_nil, or_false] at hy
  rcases hy with rfl | rfl | rfl | rfl
  · exact txt_ok _ (by show (7 : Nat) ≤ _; omega)
  · exact num_ok _ h.a
  · exact num_ok _ h.k
  · exact num_ok _ h.code
noncomputable def ev2 (e : Ev) : List Wd := [.txt (by_ [115, 116, 97, 114, 116, 101, 100]), .num e.a, .num e.k, .txt (by_ (callB e.call))]
theorem ev2_ok {w : World} {e : Ev} {p : At} (h : EvIn w e p) : ∀ y ∈ ev2 e, y.ok ∧ y.text.data.toList.length ≤ 4194306 := by
  intro y hy
  simp only [ev2, List.mem_cons, List.not_mem_nil, or_false] at hy
  rcases hy with rfl | rfl | rfl | rfl
  · exact txt_ok _ (by show (7 : Nat) ≤ _; omega)
  · exact num_ok _ h.a
  · exact num_ok _ h.k
  · exact txt_ok _ (by rw [by_size]; exact Nat.le_trans (callB_le _) (by omega))
noncomputable def ev3 (e : Ev) : List Wd := [.txt (by_ [115, 101, 110, 116]), .num e.a, .num e.k]
theorem ev3_ok {w : World} {e : Ev} {p : At} (h : EvIn w e p) : ∀ y ∈ ev3 e, y.ok ∧ y.text.data.toList.length ≤ 4194306 := by
  intro y hy
  simp only [ev3, List.mem_cons, List.not_mem_nil, or_false] at hy
  rcases hy with rfl | rfl | rfl
  · exact txt_ok _ (by show (4 : Nat) ≤ _; omega)
  · exact num_ok _ h.a
  · exact num_ok _ h.k
noncomputable def ev4 (e : Ev) : List Wd := [.txt (by_ [115, 101, 114, 118, 101, 100]), .num e.k]
theorem ev4_ok {w : World} {e : Ev} {p : At} (h : EvIn w e p) : ∀ y ∈ ev4 e, y.ok ∧ y.text.data.toList.length ≤ 4194306 := by
  intro y hy
  simp only [ev4, List.mem_cons, List.not_mem_nil, or_false] at hy
  rcases hy with rfl | rfl
  · exact txt_ok _ (by show (6 : Nat) ≤ _; omega)
  · exact num_ok _ h.k
noncomputable def ev5 (e : Ev) : List Wd := retHead e.a e.res ++ rowW e.res.list
theorem ev5_ok {w : World} {e : Ev} {p : At} (h : EvIn w e p) : ∀ y ∈ ev5 e, y.ok ∧ y.text.data.toList.length ≤ 4194306 := fun y hy => (List.mem_append.1 hy).elim (retHead_ok h.res h.a y) (rowW_ok h.res.list.ok y)
noncomputable def ev6 (e : Ev) : List Wd := [.txt (by_ [104, 97, 110, 100, 108, 101]), .num e.a, .num e.hn, .num e.hi, .num e.he, .txt (textOf e.hp)]
theorem ev6_ok {w : World} {e : Ev} {p : At} (h : EvIn w e p) : ∀ y ∈ ev6 e, y.ok ∧ y.text.data.toList.length ≤ 4194306 := by
  intro y hy
  simp only [ev6, List.mem_cons, List.not_mem_nil, or_false] at hy
  rcases hy with rfl | rfl | rfl | rfl | rfl | rfl
  · exact txt_ok _ (by show (6 : Nat) ≤ _; omega)
  · exact num_ok _ h.a
  · exact num_ok _ h.hn
  · exact num_ok _ h.hi
  · exact num_ok _ h.he
  · exact txt_ok _ (by have h1 := textOf_le e.hp; have h2 := h.hp; omega)
noncomputable def ev7 (e : Ev) : List Wd := [.txt (by_ [100, 111, 119, 110]), .num e.code, .num e.k, .num e.m]
theorem ev7_ok {w : World} {e : Ev} {p : At} (h : EvIn w e p) : ∀ y ∈ ev7 e, y.ok ∧ y.text.data.toList.length ≤ 4194306 := by
  intro y hy
  simp only [ev7, List.mem_cons, List.not_mem_nil, or_false] at hy
  rcases hy with rfl | rfl | rfl | rfl
  · exact txt_ok _ (by show (4 : Nat) ≤ _; omega)
  · exact num_ok _ h.code
  · exact num_ok _ h.k
  · exact num_ok _ h.m
noncomputable def ev8 (e : Ev) : List Wd := [.txt (by_ [117, 112]), .num e.k]
theorem ev8_ok {w : World} {e : Ev} {p : At} (h : EvIn w e p) : ∀ y ∈ ev8 e, y.ok ∧ y.text.data.toList.length ≤ 4194306 := by
  intro y hy
  simp only [ev8, List.mem_cons, List.not_mem_nil, or_false] at hy
  rcases hy with rfl | rfl
  · exact txt_ok _ (by show (2 : Nat) ≤ _; omega)
  · exact num_ok _ h.k
noncomputable def ev9 (e : Ev) : List Wd := [.txt (by_ [115, 101, 114, 118, 101, 114]), .num e.a, .num e.k, .num e.m]
theorem ev9_ok {w : World} {e : Ev} {p : At} (h : EvIn w e p) : ∀ y ∈ ev9 e, y.ok ∧ y.text.data.toList.length ≤ 4194306 := by
  intro y hy
  simp only [ev9, List.mem_cons, List.not_mem_nil, or_false] at hy
  rcases hy with rfl | rfl | rfl | rfl
  · exact txt_ok _ (by show (6 : Nat) ≤ _; omega)
  · exact num_ok _ h.a
  · exact num_ok _ h.k
  · exact num_ok _ h.m
noncomputable def ev10 (e : Ev) : List Wd := [.txt (by_ [107, 101, 112, 116]), .num e.kcl, .num e.kseq, .num e.kst, .txt (hexW e.kdata)]
theorem ev10_ok {w : World} {e : Ev} {p : At} (h : EvIn w e p) : ∀ y ∈ ev10 e, y.ok ∧ y.text.data.toList.length ≤ 4194306 := by
  intro y hy
  simp only [ev10, List.mem_cons, List.not_mem_nil, or_false] at hy
  rcases hy with rfl | rfl | rfl | rfl | rfl
  · exact txt_ok _ (by show (4 : Nat) ≤ _; omega)
  · exact num_ok _ h.kcl
  · exact num_ok _ h.kseq
  · exact num_ok _ h.kst
  · exact txt_ok _ (by have h1 := hexW_le e.kdata; have h2 := h.kdata.len; omega)
noncomputable def ev11 (e : Ev) : List Wd := [.txt (by_ [109, 97, 114, 107]), .num e.a, .num e.k, .num e.m]
theorem ev11_ok {w : World} {e : Ev} {p : At} (h : EvIn w e p) : ∀ y ∈ ev11 e, y.ok ∧ y.text.data.toList.length ≤ 4194306 := by
  intro y hy
  simp only [ev11, List.mem_cons, List.not_mem_nil, or_false] at hy
  rcases hy with rfl | rfl | rfl | rfl
  · exact txt_ok _ (by show (4 : Nat) ≤ _; omega)
  · exact num_ok _ h.a
  · exact num_ok _ h.k
  · exact num_ok _ h.m
noncomputable def ev12 (e : Ev) : List Wd := [.txt (by_ [102, 108, 105, 103, 104, 116]), .num e.fno, .num e.fto, .txt (hexW e.fdata)]
theorem ev12_ok {w : World} {e : Ev} {p : At} (h : EvIn w e p) : ∀ y ∈ ev12 e, y.ok ∧ y.text.data.toList.length ≤ 4194306 := by
  intro y hy
  simp only [ev12, List.mem_cons, List.not_mem_nil, or_false] at hy
  rcases hy with rfl | rfl | rfl | rfl
  · exact txt_ok _ (by show (6 : Nat) ≤ _; omega)
  · exact num_ok _ h.fno
  · exact num_ok _ h.fto
  · exact txt_ok _ (by have h1 := hexW_le e.fdata; have h2 := h.fdata.len; omega)
/-- An event's line. -/
noncomputable def evT (e : Ev) : ByteArray :=
  if e.kind = 1 then by_ (wordsT (ev1 e)) else if e.kind = 2 then by_ (wordsT (ev2 e)) else if e.kind = 3 then by_ (wordsT (ev3 e)) else if e.kind = 4 then by_ (wordsT (ev4 e)) else if e.kind = 5 then by_ (wordsT (ev5 e)) else if e.kind = 6 then by_ (wordsT (ev6 e)) else if e.kind = 7 then by_ (wordsT (ev7 e)) else if e.kind = 8 then by_ (wordsT (ev8 e)) else if e.kind = 9 then by_ (wordsT (ev9 e)) else if e.kind = 10 then by_ (wordsT (ev10 e)) else if e.kind = 11 then by_ (wordsT (ev11 e)) else if e.kind = 12 then by_ (wordsT (ev12 e)) else ⟨#[]⟩
/-- words of a row that was made a while ago -/
theorem words_later {B : Nat} (L : List Wd) (W w : World) (cs : Array Value) (t : TypeId) (n c : Nat) (hcs : cs = (L.map Wd.val).toArray) (hn : n = L.length) (hb : Below (W.alloc (.cells cs t)).heap.size (W.alloc (.cells cs t)) w) (hT : Tabs B W) (hB : B ≤ W.heap.size)
    (hlen : L.length ≤ 4000000) (hr : ∀ y ∈ L, y.ok ∧ y.text.data.toList.length ≤ 4194306) (hne : L ≠ []) :
    Calls Tryd.prog 6 #[.slice (some ⟨W.heap.size, 0, none⟩) n c] w fun e w' => e = .returned (.string (by_ (wordsT L))) ∧ Below w.heap.size w w' := by
  subst hn hcs
  have hA := below_alloc (Below.refl W.heap.size W) (.cells (L.map Wd.val).toArray t)
  have hA2 := below_then hA hA.size hb
  exact words6 (B := B) L W.heap.size c _ (hT.on_up hB hA2) (Nat.le_trans hB hA2.size) (Nat.lt_of_lt_of_le (by rw [alloc_size]; omega) hb.size) (fun j x hx => cells_new hb j x.val (by simp [hx])) (by omega) (fun y hy => (hr y hy).1) (words_le hr hlen) hne
theorem range_mid {w : World} {g : Nat} {cs pre mid post : List Value} {t : TypeId} {fr : Nat × Nat} (h : w.heap[g]? = some (.cells cs.toArray t fr)) (e : cs = pre ++ mid ++ post) : w.rangeAt g pre.length mid := fun j v hv => by
  rw [cellB h, e]
  have hj : j < mid.length := by
    rcases Nat.lt_or_ge j mid.length with h' | h'
    · exact h'
    · rw [List.getElem?_eq_none h'] at hv; cases hv
  simp only [List.getElem?_toArray]
  rw [List.getElem?_append_left (by simp; omega), List.getElem?_append_right (by omega)]
  simpa using hv
theorem range_call {w : World} {g : Nat} {e : Ev} {p : At} {t : TypeId} {fr : Nat × Nat} (h : w.heap[g]? = some (.cells (e.cells p).toArray t fr)) : w.rangeAt g 5 (e.call.cells p.A1 p.c1) := by
  have h2 := range_mid (pre := [.int .i64 e.kind, .int .i64 e.a, .int .i64 e.k, .int .i64 e.m, .int .i64 e.code]) (mid := e.call.cells p.A1 p.c1) (post := e.res.cells p.A2 p.c2 p.A3 p.c3 ++ [.int .i64 e.hn, .int .i64 e.hi, .int .i64 e.he, .string e.hp, .int .i64 e.kcl, .int .i64 e.kseq, .int .i64 e.kst, .slice p.A4 e.kdata.length p.c4, .int .i64 e.fno, .int .i64 e.fto, .slice p.A5 e.fdata.length p.c5]) h (Ev.cells_app e p)
  exact h2
theorem range_res {w : World} {g : Nat} {e : Ev} {p : At} {t : TypeId} {fr : Nat × Nat} (h : w.heap[g]? = some (.cells (e.cells p).toArray t fr)) : w.rangeAt g 14 (e.res.cells p.A2 p.c2 p.A3 p.c3) := by
  have h2 := range_mid (pre := [.int .i64 e.kind, .int .i64 e.a, .int .i64 e.k, .int .i64 e.m, .int .i64 e.code] ++ e.call.cells p.A1 p.c1) (mid := e.res.cells p.A2 p.c2 p.A3 p.c3) (post := [.int .i64 e.hn, .int .i64 e.hi, .int .i64 e.he, .string e.hp, .int .i64 e.kcl, .int .i64 e.kseq, .int .i64 e.kst, .slice p.A4 e.kdata.length p.c4, .int .i64 e.fno, .int .i64 e.fto, .slice p.A5 e.fdata.length p.c5]) h (by rw [Ev.cells_app]; simp only [List.append_assoc])
  exact h2
theorem chain1 {wr w1 w2 : World} {o : Obj} (h1 : Below wr.heap.size wr w1) (h2 : Below (w1.alloc o).heap.size (w1.alloc o) w2) : Below wr.heap.size wr w2 :=
  below_then (below_then h1 h1.size (below_alloc (Below.refl w1.heap.size w1) o)) (Nat.le_trans h1.size (by rw [alloc_size]; omega)) h2
theorem by_len (l : List UInt8) : (by_ l).size = l.length := by_size l
end Go.Proofs.YtekgdlpicgibhabDoor.SH
