/-
  The lines of events as data: calls, results, words.
-/
import Derived.Test.YtekgdlpicgibhabDoorT2
import Derived.Lib.ItoaNum
import Derived.Lib.Join
namespace Go.Proofs.YtekgdlpicgibhabDoor.SH
open Go.RowKit Go.Proofs.YtekgdlpicgibhabDoorW.PrintWords PT

/-- A call. -/
structure Cl where
  op : Int
  h : Int
  h2 : Int
  off : Int
  len : Int
  path : ByteArray
  name : ByteArray
  name2 : ByteArray
  data : List Int
def by_ (l : List UInt8) : ByteArray := ⟨l.toArray⟩
theorem by_toList (s : ByteArray) : by_ s.data.toList = s := by cases s; rfl
/-- Its name, the letters of its words (the program's). -/
def nameOf (op : Int) : List UInt8 :=
  if op = 1 then [108, 111, 111, 107, 117, 112] else if op = 2 then [103, 101, 116, 97, 116, 116, 114] else if op = 3 then [114, 101, 97, 100] else if op = 4 then [119, 114, 105, 116, 101]
  else if op = 5 then [99, 114, 101, 97, 116, 101] else if op = 6 then [114, 101, 109, 111, 118, 101] else if op = 7 then [109, 107, 100, 105, 114] else if op = 8 then [114, 109, 100, 105, 114]
  else if op = 9 then [114, 101, 110, 97, 109, 101] else [114, 101, 97, 100, 100, 105, 114]
def formOf (op : Int) : List UInt8 :=
  if op = 1 then [112] else if op = 2 then [104] else if op = 3 then [104, 111, 108] else if op = 4 then [104, 111, 100] else if op = 9 then [104, 110, 105, 50] else if op = 10 then [104, 110, 108] else [104, 110]
/-- The reference's letters. -/
def formR (op : Int) : List UInt8 :=
  if op = 1 then [112] else if op = 2 then [104] else if op = 3 then [104, 111, 108] else if op = 4 then [104, 111, 100] else if op = 9 then [104, 110, 103, 109] else if op = 10 then [104, 110, 108] else [104, 110]
/-- The word that a letter stands for. -/
noncomputable def wordOf (c : Cl) (l : UInt8) : List UInt8 :=
  if l = 104 then Lib.itoa c.h else if l = 105 ∨ l = 103 then Lib.itoa c.h2 else if l = 111 then Lib.itoa c.off else if l = 108 then Lib.itoa c.len
  else if l = 112 then (textOf c.path).data.toList else if l = 110 then (textOf c.name).data.toList else if l = 50 ∨ l = 109 then (textOf c.name2).data.toList else (textOf (strOfNums c.data)).data.toList
/-- Words with a space ahead of each. -/
def spaced (ws : List (List UInt8)) : List UInt8 := (ws.map fun w => 32 :: w).flatten
theorem spaced_snoc (ws : List (List UInt8)) (w : List UInt8) : spaced (ws ++ [w]) = spaced ws ++ 32 :: w := by simp [spaced]
theorem join_spaced (w : List UInt8) (ws : List (List UInt8)) : Lib.join (w :: ws) [32] = w ++ spaced ws := by
  induction ws generalizing w with
  | nil => simp [Lib.join, spaced]
  | cons x r ih =>
    have h := ih x
    unfold Lib.join at h ⊢
    rw [List.intercalate_cons_cons, h]
    simp [spaced]
/-- A call with the fields that the letters stand for, the others empty. -/
def fill (c : Cl) (ls : List UInt8) : Cl where
  op := c.op
  h := if 104 ∈ ls then c.h else 0
  h2 := if 105 ∈ ls then c.h2 else 0
  off := if 111 ∈ ls then c.off else 0
  len := if 108 ∈ ls then c.len else 0
  path := if 112 ∈ ls then c.path else ⟨#[]⟩
  name := if 110 ∈ ls then c.name else ⟨#[]⟩
  name2 := if 50 ∈ ls then c.name2 else ⟨#[]⟩
  data := if 100 ∈ ls then c.data else []
def numOk (n : Int) : Prop := 0 ≤ n ∧ n ≤ 1073741824
instance (n : Int) : Decidable (numOk n) := by unfold numOk; infer_instance
def smallC (c : Cl) : Prop := numOk c.h ∧ numOk c.h2 ∧ numOk c.off ∧ numOk c.len
instance (c : Cl) : Decidable (smallC c) := by unfold smallC; infer_instance
def opOk (c : Cl) : Prop := 1 ≤ c.op ∧ c.op ≤ 10
/-- The call's text. -/
noncomputable def textC (c : Cl) : List UInt8 := nameOf c.op ++ spaced ((formOf c.op).map (wordOf c))
theorem forms_same (c : Cl) (op : Int) : (formR op).map (wordOf c) = (formOf op).map (wordOf c) := by
  unfold formR formOf
  repeat' split
  all_goals simp [wordOf]
/-- Is a field empty that has no letter? (The reference's question.) -/
def spareFree (c : Cl) (ls : List UInt8) : Prop :=
  (112 ∈ ls ∨ c.path.toList = []) ∧ (110 ∈ ls ∨ c.name.toList = []) ∧ (109 ∈ ls ∨ c.name2.toList = []) ∧ (100 ∈ ls ∨ c.data = []) ∧ (104 ∈ ls ∨ c.h = 0) ∧ (103 ∈ ls ∨ c.h2 = 0) ∧ (111 ∈ ls ∨ c.off = 0) ∧ (108 ∈ ls ∨ c.len = 0)
theorem ba_empty {s : ByteArray} (h : s.toList = []) : s = ⟨#[]⟩ := by
  rw [ByteArray.toList_eq] at h
  cases s with
  | mk d => cases d; simp at h; subst h; rfl
theorem letters (op : Int) : (103 ∈ formR op ↔ 105 ∈ formOf op) ∧ (109 ∈ formR op ↔ 50 ∈ formOf op) ∧ (112 ∈ formR op ↔ 112 ∈ formOf op) ∧ (110 ∈ formR op ↔ 110 ∈ formOf op) ∧ (100 ∈ formR op ↔ 100 ∈ formOf op) ∧
    (104 ∈ formR op ↔ 104 ∈ formOf op) ∧ (111 ∈ formR op ↔ 111 ∈ formOf op) ∧ (108 ∈ formR op ↔ 108 ∈ formOf op) := by
  unfold formR formOf
  repeat' split
  all_goals decide
theorem spare_fill (c : Cl) : spareFree c (formR c.op) ↔ c = fill c (formOf c.op) := by
  obtain ⟨l1, l2, l3, l4, l5, l6, l7, l8⟩ := letters c.op
  unfold spareFree
  rw [l1, l2, l3, l4, l5, l6, l7, l8]
  constructor
  · rintro ⟨h1, h2, h3, h4, h5, h6, h7, h8⟩
    obtain ⟨op, h, h2', off, len, path, name, name2, data⟩ := c
    simp only [fill, Cl.mk.injEq, true_and]
    simp only at h1 h2 h3 h4 h5 h6 h7 h8
    refine ⟨?_, ?_, ?_, ?_, ?_, ?_, ?_, ?_⟩
    · split; rfl; next hn => exact h5.resolve_left hn
    · split; rfl; next hn => exact h6.resolve_left hn
    · split; rfl; next hn => exact h7.resolve_left hn
    · split; rfl; next hn => exact h8.resolve_left hn
    · split; rfl; next hn => exact ba_empty (h1.resolve_left hn)
    · split; rfl; next hn => exact ba_empty (h2.resolve_left hn)
    · split; rfl; next hn => exact ba_empty (h3.resolve_left hn)
    · split; rfl; next hn => exact h4.resolve_left hn
  · intro e
    have e1 := congrArg Cl.path e
    have e2 := congrArg Cl.name e
    have e3 := congrArg Cl.name2 e
    have e4 := congrArg Cl.data e
    have e5 := congrArg Cl.h e
    have e6 := congrArg Cl.h2 e
    have e7 := congrArg Cl.off e
    have e8 := congrArg Cl.len e
    simp only [fill] at e1 e2 e3 e4 e5 e6 e7 e8
    have emp : (⟨#[]⟩ : ByteArray).toList = [] := by rw [ByteArray.toList_eq]
    refine ⟨?_, ?_, ?_, ?_, ?_, ?_, ?_, ?_⟩
    · by_cases hm : 112 ∈ formOf c.op
      · exact .inl hm
      · rw [if_neg hm] at e1; rw [e1]; exact .inr emp
    · by_cases hm : 110 ∈ formOf c.op
      · exact .inl hm
      · rw [if_neg hm] at e2; rw [e2]; exact .inr emp
    · by_cases hm : 50 ∈ formOf c.op
      · exact .inl hm
      · rw [if_neg hm] at e3; rw [e3]; exact .inr emp
    · by_cases hm : 100 ∈ formOf c.op
      · exact .inl hm
      · rw [if_neg hm] at e4; exact .inr e4
    · by_cases hm : 104 ∈ formOf c.op
      · exact .inl hm
      · rw [if_neg hm] at e5; exact .inr e5
    · by_cases hm : 105 ∈ formOf c.op
      · exact .inl hm
      · rw [if_neg hm] at e6; exact .inr e6
    · by_cases hm : 111 ∈ formOf c.op
      · exact .inl hm
      · rw [if_neg hm] at e7; exact .inr e7
    · by_cases hm : 108 ∈ formOf c.op
      · exact .inl hm
      · rw [if_neg hm] at e8; exact .inr e8
/-- Is the call written? -/
def okC (c : Cl) : Prop := opOk c ∧ c = fill c (formOf c.op) ∧ smallC c
noncomputable def callB (c : Cl) : List UInt8 := @ite _ (okC c ∧ (textC c).length ≤ 1048576) (Classical.propDecidable _) (textC c) [63]
end Go.Proofs.YtekgdlpicgibhabDoor.SH
