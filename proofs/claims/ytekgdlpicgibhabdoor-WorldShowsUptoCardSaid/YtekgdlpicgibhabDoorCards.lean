/-
  DERIVED. GIVEN WITH THE SEED: THE CARDS: each row of YtekgdlpicgibhabDoorRows.lean that lists a variable, with what it lists TIED to the program's text (the seventh form; the later family's looks); each row that meets fmt, with fmt's text TOLD by the authors' own Lean function (tested against real Go, not proved from fmt's source: count such statements apart). THE CARD IS WHAT COUNTS. Prove the row's statement (the work); the ties are given (YtekgdlpicgibhabDoorTie.lean); close each card by the builder's one call (the guide's Derived/Test/ToyasCard.lean, 'card_holds'). Laid BY PROGRAM, IN A SANDBOX (cutbox-door.mjs). By AI agents, Wed Nov 11 2026. No macro, syntax, notation, axiom, sorry.
-/
import Derived.Test.YtekgdlpicgibhabDoorRows
import GoSem.ClaimSeven
namespace Go.Proofs.YtekgdlpicgibhabDoor
namespace Rows

/-- THE TIED CARD OF 'annexlaw22.WorldShows'. -/
def worldShowsCard : Claim7 := { stood := { row := worldShowsRow, standIns := [], harness := (true, "87b99c7650e0b5622126e906f23563b4cff59700c55b38ea7a39ad620e80200a"), looks := true }, kinds := [], alts := [], laidByText := true, laidKinds := [.data, .data, .data, .data, .data, .data], laidTests := true, laidLooks := .later }
def WorldShowsCardSaid : Prop := Claim7.holds Tryd.pinned (.plain (OpenSpec.ofChange worldShowsSpec)) worldShowsCard

/-- THE SECOND FORM's CARD OF 'annexlaw22.WorldShows'. -/
def worldShowsUptoCard : Claim7 := { stood := { row := worldShowsUptoRow, standIns := [], harness := (true, "87b99c7650e0b5622126e906f23563b4cff59700c55b38ea7a39ad620e80200a"), looks := true }, kinds := [], alts := [], laidByText := true, laidKinds := [.data, .data, .data, .data, .data, .data], laidTests := true, laidLooks := .later }
def WorldShowsUptoCardSaid : Prop := Claim7.holds Tryd.pinned (.plain (OpenSpec.upto worldShowsSpec)) worldShowsUptoCard
end Rows
end Go.Proofs.YtekgdlpicgibhabDoor
