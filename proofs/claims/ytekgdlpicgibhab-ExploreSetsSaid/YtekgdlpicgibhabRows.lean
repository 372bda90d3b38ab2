/-
  No cell of these rows narrows 'for every input' (looked for: loops, veiled, ifaces, maps, wideKeys, modest, calm, conditions, laid).
  DERIVED. THE GIVEN ROWS OF THIS SEAT. 4 by the template 'for every input the law returns true; each argument reads behind the call as it read before'; 0 by the template 'total and deterministic' (their statements: YtekgdlpicgibhabTotals.lean).
  GIVEN WITH THE SEED: the statements are not yours to turn. If you find one false, say at which input.
  Laid BY PROGRAM, IN A SANDBOX (cutbox-rows.mjs): the forced cells as the released guide's own fill.sh prints them over the translation 823b31939de4cab0… (all of the seat's roots in one cut). By AI agents, Wed Nov 11 2026. No macro, syntax, notation, axiom, sorry.
-/
import Derived.Test.YtekgdlpicgibhabChecked
import GoSem.Claim
import GoSem.ClaimJoined
import GoSem.ClaimMapViews
import Derived.JoinedTies
import Derived.KernelRfl
namespace Go.Proofs.Ytekgdlpicgibhab
/- THE CELL 'sum', in the pinned program and in every row, IS THE sha256 OF THE DUMP (.gsa) THAT YtekgdlpicgibhabProg.lean LOADS. Nothing in Lean hashes anything: it is a label: what it is worth is what the hold of that sum in a sandbox is worth. -/
noncomputable def Try.pinned : Pinned := { name := "ytekgdlpicgibhab", sum := "823b31939de4cab0e4636beeeaeca0b5a805b95be8299c685de142efcf19d73e", checked := Try.checked }
namespace Rows
def none {H : Type} : Left H := { results := [], args := [] }

/-- 'annexlaw21.PlayTexts': WHATEVER THE INPUT: true; the input reads as it did. -/
def playTextsSpec : ChangeSpec := { name := "playTexts", fn := fun _ => fun
  | [d] => { results := [.lit (.bool true)], args := [d] }
  | _ => none }
def playTextsRow : OpenClaim := { program := "ytekgdlpicgibhab", sum := "823b31939de4cab0e4636beeeaeca0b5a805b95be8299c685de142efcf19d73e", func := "annex/annexlaw21.PlayTexts", spec := "playTexts", apart := false }
def PlayTextsSaid : Prop := playTextsRow.holds Try.pinned (OpenSpec.ofChange playTextsSpec)

/-- ITS FALSE NEIGHBOUR: 'it returns false'. Refute it at one input. -/
def playTextsWrong : ChangeSpec := { name := "playTexts", fn := fun _ => fun
  | [d] => { results := [.lit (.bool false)], args := [d] }
  | _ => none }
def PlayTextsWrongFalsely : Prop := playTextsRow.holds Try.pinned (OpenSpec.ofChange playTextsWrong)

/-- 'annexlaw26.ExploreImages': WHATEVER THE INPUT: true; the input reads as it did. -/
def exploreImagesSpec : ChangeSpec := { name := "exploreImages", fn := fun _ => fun
  | [d1, d2] => { results := [.lit (.bool true)], args := [d1, d2] }
  | _ => none }
def exploreImagesRow : OpenClaim := { program := "ytekgdlpicgibhab", sum := "823b31939de4cab0e4636beeeaeca0b5a805b95be8299c685de142efcf19d73e", func := "annex/annexlaw26.ExploreImages", spec := "exploreImages", unfollowed := true, recurses := true, apart := false }
def ExploreImagesSaid : Prop := exploreImagesRow.holds Try.pinned (OpenSpec.ofChange exploreImagesSpec)

/-- ITS FALSE NEIGHBOUR: 'it returns false'. Refute it at one input. -/
def exploreImagesWrong : ChangeSpec := { name := "exploreImages", fn := fun _ => fun
  | [d1, d2] => { results := [.lit (.bool false)], args := [d1, d2] }
  | _ => none }
def ExploreImagesWrongFalsely : Prop := exploreImagesRow.holds Try.pinned (OpenSpec.ofChange exploreImagesWrong)

/-- 'annexlaw26.ExploreOwns': WHATEVER THE INPUT: true; the input reads as it did. -/
def exploreOwnsSpec : ChangeSpec := { name := "exploreOwns", fn := fun _ => fun
  | [d1, d2, d3] => { results := [.lit (.bool true)], args := [d1, d2, d3] }
  | _ => none }
def exploreOwnsRow : OpenClaim := { program := "ytekgdlpicgibhab", sum := "823b31939de4cab0e4636beeeaeca0b5a805b95be8299c685de142efcf19d73e", func := "annex/annexlaw26.ExploreOwns", spec := "exploreOwns", unfollowed := true, recurses := true, apart := false }
def ExploreOwnsSaid : Prop := exploreOwnsRow.holds Try.pinned (OpenSpec.ofChange exploreOwnsSpec)

/-- ITS FALSE NEIGHBOUR: 'it returns false'. Refute it at one input. -/
def exploreOwnsWrong : ChangeSpec := { name := "exploreOwns", fn := fun _ => fun
  | [d1, d2, d3] => { results := [.lit (.bool false)], args := [d1, d2, d3] }
  | _ => none }
def ExploreOwnsWrongFalsely : Prop := exploreOwnsRow.holds Try.pinned (OpenSpec.ofChange exploreOwnsWrong)

/-- 'annexlaw26.ExploreSets': WHATEVER THE INPUT: true; the input reads as it did. -/
def exploreSetsSpec : ChangeSpec := { name := "exploreSets", fn := fun _ => fun
  | [d1, d2, d3] => { results := [.lit (.bool true)], args := [d1, d2, d3] }
  | _ => none }
def exploreSetsRow : OpenClaim := { program := "ytekgdlpicgibhab", sum := "823b31939de4cab0e4636beeeaeca0b5a805b95be8299c685de142efcf19d73e", func := "annex/annexlaw26.ExploreSets", spec := "exploreSets", inPlace := ["(*internal/sync.Mutex).Lock", "internal/race.Disable", "sync/atomic.CompareAndSwapInt32", "internal/race.Enable", "internal/race.Acquire", "(*internal/sync.Mutex).lockSlow", "internal/sync.runtime_canSpin", "internal/sync.runtime_doSpin", "internal/sync.throw", "internal/sync.runtime_nanotime", "internal/sync.runtime_SemacquireMutex", "sync/atomic.AddInt32", "(*internal/sync.Mutex).Unlock", "internal/race.ReleaseMerge", "(*internal/sync.Mutex).unlockSlow", "internal/sync.fatal", "internal/sync.runtime_Semrelease"], unfollowed := true, recurses := true, apart := false }
def ExploreSetsSaid : Prop := exploreSetsRow.holds Try.pinned (OpenSpec.ofChange exploreSetsSpec)

/-- ITS FALSE NEIGHBOUR: 'it returns false'. Refute it at one input. -/
def exploreSetsWrong : ChangeSpec := { name := "exploreSets", fn := fun _ => fun
  | [d1, d2, d3] => { results := [.lit (.bool false)], args := [d1, d2, d3] }
  | _ => none }
def ExploreSetsWrongFalsely : Prop := exploreSetsRow.holds Try.pinned (OpenSpec.ofChange exploreSetsWrong)

/- THE SECOND FORM. 'bulk': how many values and letters a reading holds, each counted each time it is reached (what is shared counts as often as it is met; a slice's spare places count too). A statement '..UptoSaid' is the law's where the arguments, and the package variables that the reading takes, are together of bulk at most 1048576: NARROWER than '..Said'. Prove '..Said' where nothing that the law and all that it calls make is longer than what came in: it says more and counts as full. Else prove '..UptoSaid'. A law counts once. -/
mutual
def uptoBulk {H : Type} : DataW H → Nat
  | .lit (.string bytes) => bytes.length + 1
  | .lit _ => 1
  | .nil => 1
  | .ptr d => uptoBulk d + 1
  | .slice elems spare => uptoBulkAll elems + uptoBulkAll spare + 1
  | .agg parts => uptoBulkAll parts + 1
  | .iface _ d => uptoBulk d + 1
  | .map entries => uptoBulkEntries entries + 1
  | .held _ => 1
def uptoBulkAll {H : Type} : List (DataW H) → Nat
  | [] => 0
  | d :: r => uptoBulk d + uptoBulkAll r
def uptoBulkEntries {H : Type} : List (Lit × DataW H) → Nat
  | [] => 0
  | x :: r => uptoBulkEntry x + uptoBulkEntries r
def uptoBulkEntry {H : Type} : Lit × DataW H → Nat
  | (.string bytes, d) => bytes.length + uptoBulk d + 1
  | (_, d) => uptoBulk d + 1
 end
def uptoSmall : (H : Type) → List (DataW H) → Bool := fun _ ds => decide (uptoBulkAll ds ≤ 1048576)
def OpenSpec.upto (s : _root_.Go.ChangeSpec) : _root_.Go.OpenSpec := { _root_.Go.OpenSpec.ofChange s with cond := some uptoSmall }

/-- 'annexlaw21.PlayTexts', WHERE WHAT IT READS IS OF BULK AT MOST 1048576: true; the input reads as it did. -/
def playTextsUptoRow : OpenClaim := { program := "ytekgdlpicgibhab", sum := "823b31939de4cab0e4636beeeaeca0b5a805b95be8299c685de142efcf19d73e", func := "annex/annexlaw21.PlayTexts", spec := "playTexts", apart := false, narrowed := true }
def PlayTextsUptoSaid : Prop := playTextsUptoRow.holds Try.pinned (OpenSpec.upto playTextsSpec)

/-- 'annexlaw26.ExploreImages', WHERE WHAT IT READS IS OF BULK AT MOST 1048576: true; the input reads as it did. -/
def exploreImagesUptoRow : OpenClaim := { program := "ytekgdlpicgibhab", sum := "823b31939de4cab0e4636beeeaeca0b5a805b95be8299c685de142efcf19d73e", func := "annex/annexlaw26.ExploreImages", spec := "exploreImages", unfollowed := true, recurses := true, apart := false, narrowed := true }
def ExploreImagesUptoSaid : Prop := exploreImagesUptoRow.holds Try.pinned (OpenSpec.upto exploreImagesSpec)

/-- 'annexlaw26.ExploreOwns', WHERE WHAT IT READS IS OF BULK AT MOST 1048576: true; the input reads as it did. -/
def exploreOwnsUptoRow : OpenClaim := { program := "ytekgdlpicgibhab", sum := "823b31939de4cab0e4636beeeaeca0b5a805b95be8299c685de142efcf19d73e", func := "annex/annexlaw26.ExploreOwns", spec := "exploreOwns", unfollowed := true, recurses := true, apart := false, narrowed := true }
def ExploreOwnsUptoSaid : Prop := exploreOwnsUptoRow.holds Try.pinned (OpenSpec.upto exploreOwnsSpec)

/-- 'annexlaw26.ExploreSets', WHERE WHAT IT READS IS OF BULK AT MOST 1048576: true; the input reads as it did. -/
def exploreSetsUptoRow : OpenClaim := { program := "ytekgdlpicgibhab", sum := "823b31939de4cab0e4636beeeaeca0b5a805b95be8299c685de142efcf19d73e", func := "annex/annexlaw26.ExploreSets", spec := "exploreSets", inPlace := ["(*internal/sync.Mutex).Lock", "internal/race.Disable", "sync/atomic.CompareAndSwapInt32", "internal/race.Enable", "internal/race.Acquire", "(*internal/sync.Mutex).lockSlow", "internal/sync.runtime_canSpin", "internal/sync.runtime_doSpin", "internal/sync.throw", "internal/sync.runtime_nanotime", "internal/sync.runtime_SemacquireMutex", "sync/atomic.AddInt32", "(*internal/sync.Mutex).Unlock", "internal/race.ReleaseMerge", "(*internal/sync.Mutex).unlockSlow", "internal/sync.fatal", "internal/sync.runtime_Semrelease"], unfollowed := true, recurses := true, apart := false, narrowed := true }
def ExploreSetsUptoSaid : Prop := exploreSetsUptoRow.holds Try.pinned (OpenSpec.upto exploreSetsSpec)

end Rows
end Go.Proofs.Ytekgdlpicgibhab
