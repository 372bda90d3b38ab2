/-
  No cell of these rows narrows 'for every input' (looked for: loops, veiled, ifaces, maps, wideKeys, modest, calm, conditions, laid).
  DERIVED. THE GIVEN ROWS OF THIS SEAT. 8 by the template 'for every input the law returns true; each argument reads behind the call as it read before'; 0 by the template 'total and deterministic' (their statements: YtekgdlpicgibhaaTotals.lean).
  GIVEN WITH THE SEED: the statements are not yours to turn. If you find one false, say at which input.
  Laid BY PROGRAM, IN A SANDBOX (cutbox-rows.mjs): the forced cells as the released guide's own fill.sh prints them over the translation 58dd5249cfcf5eed… (all of the seat's roots in one cut). By AI agents, Wed Nov 11 2026. No macro, syntax, notation, axiom, sorry.
-/
import Derived.Test.YtekgdlpicgibhaaChecked
import GoSem.Claim
import GoSem.ClaimJoined
import GoSem.ClaimMapViews
import Derived.JoinedTies
import Derived.KernelRfl
namespace Go.Proofs.Ytekgdlpicgibhaa
/- THE CELL 'sum', in the pinned program and in every row, IS THE sha256 OF THE DUMP (.gsa) THAT YtekgdlpicgibhaaProg.lean LOADS. Nothing in Lean hashes anything: it is a label: what it is worth is what the hold of that sum in a sandbox is worth. -/
noncomputable def Try.pinned : Pinned := { name := "ytekgdlpicgibhaa", sum := "58dd5249cfcf5eed9041dfac82751b1083793f816675af9e9c51fbb970cff090", checked := Try.checked }
namespace Rows
def none {H : Type} : Left H := { results := [], args := [] }

/-- 'annexlaw14.QueueTexts': WHATEVER THE INPUT: true; the input reads as it did. -/
def queueTextsSpec : ChangeSpec := { name := "queueTexts", fn := fun _ => fun
  | [d1, d2] => { results := [.lit (.bool true)], args := [d1, d2] }
  | _ => none }
def queueTextsRow : OpenClaim := { program := "ytekgdlpicgibhaa", sum := "58dd5249cfcf5eed9041dfac82751b1083793f816675af9e9c51fbb970cff090", func := "annex/annexlaw14.QueueTexts", spec := "queueTexts", apart := false }
def QueueTextsSaid : Prop := queueTextsRow.holds Try.pinned (OpenSpec.ofChange queueTextsSpec)

/-- ITS FALSE NEIGHBOUR: 'it returns false'. Refute it at one input. -/
def queueTextsWrong : ChangeSpec := { name := "queueTexts", fn := fun _ => fun
  | [d1, d2] => { results := [.lit (.bool false)], args := [d1, d2] }
  | _ => none }
def QueueTextsWrongFalsely : Prop := queueTextsRow.holds Try.pinned (OpenSpec.ofChange queueTextsWrong)

/-- 'annexlaw14.QueueNews': WHATEVER THE INPUT: true; the input reads as it did. -/
def queueNewsSpec : ChangeSpec := { name := "queueNews", fn := fun _ => fun
  | [d1, d2] => { results := [.lit (.bool true)], args := [d1, d2] }
  | _ => none }
def queueNewsRow : OpenClaim := { program := "ytekgdlpicgibhaa", sum := "58dd5249cfcf5eed9041dfac82751b1083793f816675af9e9c51fbb970cff090", func := "annex/annexlaw14.QueueNews", spec := "queueNews", apart := false }
def QueueNewsSaid : Prop := queueNewsRow.holds Try.pinned (OpenSpec.ofChange queueNewsSpec)

/-- ITS FALSE NEIGHBOUR: 'it returns false'. Refute it at one input. -/
def queueNewsWrong : ChangeSpec := { name := "queueNews", fn := fun _ => fun
  | [d1, d2] => { results := [.lit (.bool false)], args := [d1, d2] }
  | _ => none }
def QueueNewsWrongFalsely : Prop := queueNewsRow.holds Try.pinned (OpenSpec.ofChange queueNewsWrong)

/-- 'annexlaw14.QueueTurns': WHATEVER THE INPUT: true; the input reads as it did. -/
def queueTurnsSpec : ChangeSpec := { name := "queueTurns", fn := fun _ => fun
  | [d1, d2, d3] => { results := [.lit (.bool true)], args := [d1, d2, d3] }
  | _ => none }
def queueTurnsRow : OpenClaim := { program := "ytekgdlpicgibhaa", sum := "58dd5249cfcf5eed9041dfac82751b1083793f816675af9e9c51fbb970cff090", func := "annex/annexlaw14.QueueTurns", spec := "queueTurns", apart := false }
def QueueTurnsSaid : Prop := queueTurnsRow.holds Try.pinned (OpenSpec.ofChange queueTurnsSpec)

/-- ITS FALSE NEIGHBOUR: 'it returns false'. Refute it at one input. -/
def queueTurnsWrong : ChangeSpec := { name := "queueTurns", fn := fun _ => fun
  | [d1, d2, d3] => { results := [.lit (.bool false)], args := [d1, d2, d3] }
  | _ => none }
def QueueTurnsWrongFalsely : Prop := queueTurnsRow.holds Try.pinned (OpenSpec.ofChange queueTurnsWrong)

/-- 'annexlaw14.QueueShares': WHATEVER THE INPUT: true; the input reads as it did. -/
def queueSharesSpec : ChangeSpec := { name := "queueShares", fn := fun _ => fun
  | [d1, d2, d3] => { results := [.lit (.bool true)], args := [d1, d2, d3] }
  | _ => none }
def queueSharesRow : OpenClaim := { program := "ytekgdlpicgibhaa", sum := "58dd5249cfcf5eed9041dfac82751b1083793f816675af9e9c51fbb970cff090", func := "annex/annexlaw14.QueueShares", spec := "queueShares", apart := false }
def QueueSharesSaid : Prop := queueSharesRow.holds Try.pinned (OpenSpec.ofChange queueSharesSpec)

/-- ITS FALSE NEIGHBOUR: 'it returns false'. Refute it at one input. -/
def queueSharesWrong : ChangeSpec := { name := "queueShares", fn := fun _ => fun
  | [d1, d2, d3] => { results := [.lit (.bool false)], args := [d1, d2, d3] }
  | _ => none }
def QueueSharesWrongFalsely : Prop := queueSharesRow.holds Try.pinned (OpenSpec.ofChange queueSharesWrong)

/-- 'annexlaw14.QueuePlays': WHATEVER THE INPUT: true; the input reads as it did. -/
def queuePlaysSpec : ChangeSpec := { name := "queuePlays", fn := fun _ => fun
  | [d] => { results := [.lit (.bool true)], args := [d] }
  | _ => none }
def queuePlaysRow : OpenClaim := { program := "ytekgdlpicgibhaa", sum := "58dd5249cfcf5eed9041dfac82751b1083793f816675af9e9c51fbb970cff090", func := "annex/annexlaw14.QueuePlays", spec := "queuePlays", apart := false }
def QueuePlaysSaid : Prop := queuePlaysRow.holds Try.pinned (OpenSpec.ofChange queuePlaysSpec)

/-- ITS FALSE NEIGHBOUR: 'it returns false'. Refute it at one input. -/
def queuePlaysWrong : ChangeSpec := { name := "queuePlays", fn := fun _ => fun
  | [d] => { results := [.lit (.bool false)], args := [d] }
  | _ => none }
def QueuePlaysWrongFalsely : Prop := queuePlaysRow.holds Try.pinned (OpenSpec.ofChange queuePlaysWrong)

/-- 'annexlaw14.QueueLooks': WHATEVER THE INPUT: true; the input reads as it did. -/
def queueLooksSpec : ChangeSpec := { name := "queueLooks", fn := fun _ => fun
  | [d1, d2, d3, d4] => { results := [.lit (.bool true)], args := [d1, d2, d3, d4] }
  | _ => none }
def queueLooksRow : OpenClaim := { program := "ytekgdlpicgibhaa", sum := "58dd5249cfcf5eed9041dfac82751b1083793f816675af9e9c51fbb970cff090", func := "annex/annexlaw14.QueueLooks", spec := "queueLooks", apart := false }
def QueueLooksSaid : Prop := queueLooksRow.holds Try.pinned (OpenSpec.ofChange queueLooksSpec)

/-- ITS FALSE NEIGHBOUR: 'it returns false'. Refute it at one input. -/
def queueLooksWrong : ChangeSpec := { name := "queueLooks", fn := fun _ => fun
  | [d1, d2, d3, d4] => { results := [.lit (.bool false)], args := [d1, d2, d3, d4] }
  | _ => none }
def QueueLooksWrongFalsely : Prop := queueLooksRow.holds Try.pinned (OpenSpec.ofChange queueLooksWrong)

/-- 'annexlaw14.QueueOwns': WHATEVER THE INPUT: true; the input reads as it did. -/
def queueOwnsSpec : ChangeSpec := { name := "queueOwns", fn := fun _ => fun
  | [d1, d2, d3] => { results := [.lit (.bool true)], args := [d1, d2, d3] }
  | _ => none }
def queueOwnsRow : OpenClaim := { program := "ytekgdlpicgibhaa", sum := "58dd5249cfcf5eed9041dfac82751b1083793f816675af9e9c51fbb970cff090", func := "annex/annexlaw14.QueueOwns", spec := "queueOwns", apart := false }
def QueueOwnsSaid : Prop := queueOwnsRow.holds Try.pinned (OpenSpec.ofChange queueOwnsSpec)

/-- ITS FALSE NEIGHBOUR: 'it returns false'. Refute it at one input. -/
def queueOwnsWrong : ChangeSpec := { name := "queueOwns", fn := fun _ => fun
  | [d1, d2, d3] => { results := [.lit (.bool false)], args := [d1, d2, d3] }
  | _ => none }
def QueueOwnsWrongFalsely : Prop := queueOwnsRow.holds Try.pinned (OpenSpec.ofChange queueOwnsWrong)

/-- 'annexlaw14.QueueMany': WHATEVER THE INPUT: true; the input reads as it did. -/
def queueManySpec : ChangeSpec := { name := "queueMany", fn := fun _ => fun
  | [d1, d2, d3, d4] => { results := [.lit (.bool true)], args := [d1, d2, d3, d4] }
  | _ => none }
def queueManyRow : OpenClaim := { program := "ytekgdlpicgibhaa", sum := "58dd5249cfcf5eed9041dfac82751b1083793f816675af9e9c51fbb970cff090", func := "annex/annexlaw14.QueueMany", spec := "queueMany", apart := false }
def QueueManySaid : Prop := queueManyRow.holds Try.pinned (OpenSpec.ofChange queueManySpec)

/-- ITS FALSE NEIGHBOUR: 'it returns false'. Refute it at one input. -/
def queueManyWrong : ChangeSpec := { name := "queueMany", fn := fun _ => fun
  | [d1, d2, d3, d4] => { results := [.lit (.bool false)], args := [d1, d2, d3, d4] }
  | _ => none }
def QueueManyWrongFalsely : Prop := queueManyRow.holds Try.pinned (OpenSpec.ofChange queueManyWrong)

/- THE SECOND FORM. 'bulk': how many values and letters a reading holds, each counted each time it is reached (what is shared counts as often as it is met; a slice's spare places count too). A statement '..UptoSaid' is the law's where the arguments, and the package variables that the reading takes, are together of bulk at most 1048576: NARROWER than '..Said'. Prove '..Said' where nothing that the law and all that it calls make is longer than what came in: it says more and counts as full. Else prove '..UptoSaid'. A law counts once. -/
mutual
def uptoBulk {H : Type} : DataW H → Nat
  | .lit (.string bytes) => bytes.length + 1
  | .lit _ => 1
  | .nil => 1
  | .ptr d => uptoBulk d + 1
  | .slice elems spare => uptoBulkAll elems + uptoBulkAll spare + 1
  | .agg parts => uptoBulkAll parts + 1
  | .iface _ d => uptoBulk d + 1
  | .map entries => uptoBulkEntries entries + 1
  | .held _ => 1
def uptoBulkAll {H : Type} : List (DataW H) → Nat
  | [] => 0
  | d :: r => uptoBulk d + uptoBulkAll r
def uptoBulkEntries {H : Type} : List (Lit × DataW H) → Nat
  | [] => 0
  | x :: r => uptoBulkEntry x + uptoBulkEntries r
def uptoBulkEntry {H : Type} : Lit × DataW H → Nat
  | (.string bytes, d) => bytes.length + uptoBulk d + 1
  | (_, d) => uptoBulk d + 1
 end
def uptoSmall : (H : Type) → List (DataW H) → Bool := fun _ ds => decide (uptoBulkAll ds ≤ 1048576)
def OpenSpec.upto (s : _root_.Go.ChangeSpec) : _root_.Go.OpenSpec := { _root_.Go.OpenSpec.ofChange s with cond := some uptoSmall }

/-- 'annexlaw14.QueueTexts', WHERE WHAT IT READS IS OF BULK AT MOST 1048576: true; the input reads as it did. -/
def queueTextsUptoRow : OpenClaim := { program := "ytekgdlpicgibhaa", sum := "58dd5249cfcf5eed9041dfac82751b1083793f816675af9e9c51fbb970cff090", func := "annex/annexlaw14.QueueTexts", spec := "queueTexts", apart := false, narrowed := true }
def QueueTextsUptoSaid : Prop := queueTextsUptoRow.holds Try.pinned (OpenSpec.upto queueTextsSpec)

/-- 'annexlaw14.QueueNews', WHERE WHAT IT READS IS OF BULK AT MOST 1048576: true; the input reads as it did. -/
def queueNewsUptoRow : OpenClaim := { program := "ytekgdlpicgibhaa", sum := "58dd5249cfcf5eed9041dfac82751b1083793f816675af9e9c51fbb970cff090", func := "annex/annexlaw14.QueueNews", spec := "queueNews", apart := false, narrowed := true }
def QueueNewsUptoSaid : Prop := queueNewsUptoRow.holds Try.pinned (OpenSpec.upto queueNewsSpec)

/-- 'annexlaw14.QueueTurns', WHERE WHAT IT READS IS OF BULK AT MOST 1048576: true; the input reads as it did. -/
def queueTurnsUptoRow : OpenClaim := { program := "ytekgdlpicgibhaa", sum := "58dd5249cfcf5eed9041dfac82751b1083793f816675af9e9c51fbb970cff090", func := "annex/annexlaw14.QueueTurns", spec := "queueTurns", apart := false, narrowed := true }
def QueueTurnsUptoSaid : Prop := queueTurnsUptoRow.holds Try.pinned (OpenSpec.upto queueTurnsSpec)

/-- 'annexlaw14.QueueShares', WHERE WHAT IT READS IS OF BULK AT MOST 1048576: true; the input reads as it did. -/
def queueSharesUptoRow : OpenClaim := { program := "ytekgdlpicgibhaa", sum := "58dd5249cfcf5eed9041dfac82751b1083793f816675af9e9c51fbb970cff090", func := "annex/annexlaw14.QueueShares", spec := "queueShares", apart := false, narrowed := true }
def QueueSharesUptoSaid : Prop := queueSharesUptoRow.holds Try.pinned (OpenSpec.upto queueSharesSpec)

/-- 'annexlaw14.QueuePlays', WHERE WHAT IT READS IS OF BULK AT MOST 1048576: true; the input reads as it did. -/
def queuePlaysUptoRow : OpenClaim := { program := "ytekgdlpicgibhaa", sum := "58dd5249cfcf5eed9041dfac82751b1083793f816675af9e9c51fbb970cff090", func := "annex/annexlaw14.QueuePlays", spec := "queuePlays", apart := false, narrowed := true }
def QueuePlaysUptoSaid : Prop := queuePlaysUptoRow.holds Try.pinned (OpenSpec.upto queuePlaysSpec)

/-- 'annexlaw14.QueueLooks', WHERE WHAT IT READS IS OF BULK AT MOST 1048576: true; the input reads as it did. -/
def queueLooksUptoRow : OpenClaim := { program := "ytekgdlpicgibhaa", sum := "58dd5249cfcf5eed9041dfac82751b1083793f816675af9e9c51fbb970cff090", func := "annex/annexlaw14.QueueLooks", spec := "queueLooks", apart := false, narrowed := true }
def QueueLooksUptoSaid : Prop := queueLooksUptoRow.holds Try.pinned (OpenSpec.upto queueLooksSpec)

/-- 'annexlaw14.QueueOwns', WHERE WHAT IT READS IS OF BULK AT MOST 1048576: true; the input reads as it did. -/
def queueOwnsUptoRow : OpenClaim := { program := "ytekgdlpicgibhaa", sum := "58dd5249cfcf5eed9041dfac82751b1083793f816675af9e9c51fbb970cff090", func := "annex/annexlaw14.QueueOwns", spec := "queueOwns", apart := false, narrowed := true }
def QueueOwnsUptoSaid : Prop := queueOwnsUptoRow.holds Try.pinned (OpenSpec.upto queueOwnsSpec)

/-- 'annexlaw14.QueueMany', WHERE WHAT IT READS IS OF BULK AT MOST 1048576: true; the input reads as it did. -/
def queueManyUptoRow : OpenClaim := { program := "ytekgdlpicgibhaa", sum := "58dd5249cfcf5eed9041dfac82751b1083793f816675af9e9c51fbb970cff090", func := "annex/annexlaw14.QueueMany", spec := "queueMany", apart := false, narrowed := true }
def QueueManyUptoSaid : Prop := queueManyUptoRow.holds Try.pinned (OpenSpec.upto queueManySpec)

end Rows
end Go.Proofs.Ytekgdlpicgibhaa
