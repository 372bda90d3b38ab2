/-
  Proved: every event's line is the document's (WorldShows), where the argument and the listed tables are of bulk at most 1048576. A tied card: the listed tables start as the program's text lays them.
-/
import Derived.Test.YtekgdlpicgibhabDoorV16
import Derived.Test.YtekgdlpicgibhabDoorClose
import Derived.Test.YtekgdlpicgibhabDoorCards
import Derived.Test.YtekgdlpicgibhabDoorTie
import Derived.ProofKit
import Derived.OpenShut
import Derived.JoinedCond
import Derived.Deep.DeepHandedRow
namespace Go.Proofs.YtekgdlpicgibhabDoor.Shows
open Go.ChangeShapes Go.WideShapes Go.ChangeAt Go.RowKit Go.Proofs.YtekgdlpicgibhabDoorW.PrintWords SH
theorem laidOut : laidOutB Tryd.prog = true := by kernel_rfl
theorem own : ownKnob Tryd.prog.godebug = none := by kernel_rfl
theorem small {H : Type} {ds : List (DataW H)} (hk : Rows.uptoSmall H ds = true) : ∀ d ∈ ds, Rows.uptoBulk d ≤ 1048576 := fun _ hd => Nat.le_trans (bulk_mem hd) (of_decide_eq_true hk)
set_option maxRecDepth 100000 in
theorem contract (H : Type) (enc : TypeId × Value → H) (W : World) (base : Nat) (args : Array Value) (ds gs : List (DataW H)) (before : List MemPlace)
    (hval : ∀ (j : Nat) t v, Tryd.f3.params[j]? = some t → args[j]? = some v → Value.okWide Tryd.prog W .any base t v)
    (hW : DataW.Whole enc Tryd.prog Tryd.f3.params.toList Rows.worldShowsSpec.vars false W args.toList ds gs before) (hL : laidMetH Tryd.prog Rows.worldShowsUptoRow.laid W) (hk : Rows.uptoSmall H (ds ++ gs) = true) :
    Calls Tryd.prog 3 args W fun e W' => ∃ v, e = .returned v ∧ Rows.worldShowsSpec.post enc Tryd.prog Tryd.f3 false true false false W args v W' := by
  have hW' := hW
  obtain ⟨p, q, hA0, hV, rfl, hfz, hnd⟩ := hW
  have hA : DataW.TrodAll enc Tryd.prog W 0 (fun _ => true) true Tryd.f3.params.toList args.toList ds p := hA0
  rw [Tryd.params3] at hA hval
  obtain ⟨v0, vs0, d0, ds0, p0, q0, hargs, rfl, rfl, h0, r0⟩ := trodAll_cons hA
  obtain ⟨rfl, rfl, rfl⟩ := trodAll_nil r0
  obtain rfl : args = #[v0] := by cases args; simp_all
  obtain ⟨rfl, rfl⟩ := trodVars_none hV
  obtain ⟨cs, rfl, hsz⟩ := okWide_struct Tryd.underlying38 (hval 0 38 v0 rfl rfl)
  obtain ⟨f0, e0⟩ := h0
  have e0' : DataW.trod enc Tryd.prog W 0 (fun _ => true) true f0 38 cs.toList = some (d0, p0) := e0
  clear hA0
  simp only [List.append_nil] at hW' hk
  have s0 := small hk d0 (by simp)
  obtain ⟨ev, at_, hcs, hin⟩ := read_ev e0' s0
  obtain rfl : cs = (ev.cells at_).toArray := by rw [← hcs]
  refine (law3 (B := W.heap.size) ev at_ W (tabs hL) (Nat.le_refl _) hin).mono fun e W' ⟨he, hg⟩ => ?_
  subst he
  exact ⟨_, rfl, YtekgdlpicgibhabDoorClose.post_true laidOut (by rfl) Tryd.underlying4 rfl (by kernel_rfl) hW' rfl hg⟩
/-- The witness' argument. -/
def wArgs : Array Value := #[.agg (upEv.cells upAt).toArray]
/-- A WORLD FOR THE WITNESS: the settled one, the listed tables as their initialisers lay them. -/
noncomputable def laidWorld (os : Os) : World :=
  { World.holding Tryd.prog os ⟨#[], #[], []⟩ with heap := (((((((World.holding Tryd.prog os ⟨#[], #[], []⟩).heap.modify 0 fun | .cells _ t frozen => .cells #[.string ⟨#[]⟩, .string ⟨#[]⟩, .string ⟨#[108, 111, 111, 107, 117, 112]⟩, .string ⟨#[112]⟩, .string ⟨#[103, 101, 116, 97, 116, 116, 114]⟩, .string ⟨#[104]⟩, .string ⟨#[114, 101, 97, 100]⟩, .string ⟨#[104, 111, 108]⟩, .string ⟨#[119, 114, 105, 116, 101]⟩, .string ⟨#[104, 111, 100]⟩, .string ⟨#[99, 114, 101, 97, 116, 101]⟩, .string ⟨#[104, 110]⟩, .string ⟨#[114, 101, 109, 111, 118, 101]⟩, .string ⟨#[104, 110]⟩, .string ⟨#[109, 107, 100, 105, 114]⟩, .string ⟨#[104, 110]⟩, .string ⟨#[114, 109, 100, 105, 114]⟩, .string ⟨#[104, 110]⟩, .string ⟨#[114, 101, 110, 97, 109, 101]⟩, .string ⟨#[104, 110, 105, 50]⟩, .string ⟨#[114, 101, 97, 100, 100, 105, 114]⟩, .string ⟨#[104, 110, 108]⟩] t frozen | o => o).modify 1 fun | .cells _ t frozen => .cells #[.string ⟨#[]⟩, .string ⟨#[112]⟩, .string ⟨#[104]⟩, .string ⟨#[104, 111, 108]⟩, .string ⟨#[104, 111, 100]⟩, .string ⟨#[104, 110]⟩, .string ⟨#[104, 110]⟩, .string ⟨#[104, 110]⟩, .string ⟨#[104, 110]⟩, .string ⟨#[104, 110, 103, 109]⟩, .string ⟨#[104, 110, 108]⟩] t frozen | o => o).modify 2 fun | .cells _ t frozen => .cells #[.string ⟨#[]⟩, .string ⟨#[108, 111, 111, 107, 117, 112]⟩, .string ⟨#[103, 101, 116, 97, 116, 116, 114]⟩, .string ⟨#[114, 101, 97, 100]⟩, .string ⟨#[119, 114, 105, 116, 101]⟩, .string ⟨#[99, 114, 101, 97, 116, 101]⟩, .string ⟨#[114, 101, 109, 111, 118, 101]⟩, .string ⟨#[109, 107, 100, 105, 114]⟩, .string ⟨#[114, 109, 100, 105, 114]⟩, .string ⟨#[114, 101, 110, 97, 109, 101]⟩, .string ⟨#[114, 101, 97, 100, 100, 105, 114]⟩] t frozen | o => o).modify 3 fun | .cells _ t frozen => .cells #[.int .u64 1, .int .u64 10, .int .u64 100, .int .u64 1000, .int .u64 10000, .int .u64 100000, .int .u64 1000000, .int .u64 10000000, .int .u64 100000000, .int .u64 1000000000, .int .u64 10000000000, .int .u64 100000000000, .int .u64 1000000000000, .int .u64 10000000000000, .int .u64 100000000000000, .int .u64 1000000000000000, .int .u64 10000000000000000, .int .u64 100000000000000000, .int .u64 1000000000000000000, .int .u64 10000000000000000000] t frozen | o => o).modify 5 fun | .cells _ t frozen => .cells #[.int .u8 0, .int .u8 1, .int .u8 28, .int .u8 2, .int .u8 29, .int .u8 14, .int .u8 24, .int .u8 3, .int .u8 30, .int .u8 22, .int .u8 20, .int .u8 15, .int .u8 25, .int .u8 17, .int .u8 4, .int .u8 8, .int .u8 31, .int .u8 27, .int .u8 13, .int .u8 23, .int .u8 21, .int .u8 19, .int .u8 16, .int .u8 7, .int .u8 26, .int .u8 12, .int .u8 18, .int .u8 6, .int .u8 11, .int .u8 5, .int .u8 10, .int .u8 9] t frozen | o => o).modify 6 fun | .cells _ t frozen => .cells #[.int .u8 0, .int .u8 1, .int .u8 56, .int .u8 2, .int .u8 57, .int .u8 49, .int .u8 28, .int .u8 3, .int .u8 61, .int .u8 58, .int .u8 42, .int .u8 50, .int .u8 38, .int .u8 29, .int .u8 17, .int .u8 4, .int .u8 62, .int .u8 47, .int .u8 59, .int .u8 36, .int .u8 45, .int .u8 43, .int .u8 51, .int .u8 22, .int .u8 53, .int .u8 39, .int .u8 33, .int .u8 30, .int .u8 24, .int .u8 18, .int .u8 12, .int .u8 5, .int .u8 63, .int .u8 55, .int .u8 48, .int .u8 27, .int .u8 60, .int .u8 41, .int .u8 37, .int .u8 16, .int .u8 46, .int .u8 35, .int .u8 44, .int .u8 21, .int .u8 52, .int .u8 32, .int .u8 23, .int .u8 11, .int .u8 54, .int .u8 26, .int .u8 40, .int .u8 15, .int .u8 34, .int .u8 20, .int .u8 31, .int .u8 10, .int .u8 25, .int .u8 14, .int .u8 19, .int .u8 9, .int .u8 13, .int .u8 8, .int .u8 7, .int .u8 6] t frozen | o => o) }
theorem laid_met (os : Os) : laidMet Tryd.prog Rows.worldShowsUptoRow.laid ((laidWorld os).forCall (fun _ _ => 0) ⟨#[], wArgs, []⟩).memory :=
  laidMet_of_run' 8 (by kernel_rfl) (by kernel_rfl)
theorem reads (os : Os) {H : Type} (enc : TypeId × Value → H) : ∃ places, DataW.whole enc Tryd.prog ((laidWorld os).forCall (fun _ _ => 0) ⟨#[], wArgs, []⟩).memory Tryd.f3.params.toList Rows.worldShowsSpec.vars false (wArgs : Array Value).toList 8 = some ([.agg [.lit (.int .i64 8), .lit (.int .i64 0), .lit (.int .i64 2), .lit (.int .i64 0), .lit (.int .i64 0), .agg [.lit (.int .i64 0), .lit (.int .i64 0), .lit (.int .i64 0), .lit (.int .i64 0), .lit (.int .i64 0), .lit (.string []), .lit (.string []), .lit (.string []), .nil], .agg [.lit (.int .i64 0), .lit (.int .i64 0), .lit (.int .i64 0), .lit (.int .i64 0), .agg [.lit (.int .i64 0), .lit (.int .i64 0), .lit (.int .i64 0), .lit (.int .i64 0)], .nil, .nil, .lit (.bool false)], .agg [.lit (.int .i64 0), .lit (.int .i64 0), .lit (.int .i64 0), .lit (.string [])], .agg [.lit (.int .i64 0), .lit (.int .i64 0), .lit (.int .i64 0), .nil], .agg [.lit (.int .i64 0), .lit (.int .i64 0), .nil]]], [], places) :=
  ⟨[], by kernel_rfl⟩
set_option maxRecDepth 100000 in
theorem lifted (os : Os) (started : os.Started) (H : Type) (enc : TypeId × Value → H) (F : Stop.Interp) :
    ReturnsInHanded {} Tryd.checked os 3 .any ((Rows.OpenSpec.upto Rows.worldShowsSpec).preRow enc Tryd.prog Tryd.f3 Rows.worldShowsUptoRow.domain false Rows.worldShowsUptoRow.laid) (((Rows.OpenSpec.upto Rows.worldShowsSpec).at F).post enc Tryd.prog Tryd.f3 false true false false) := by
  obtain ⟨places, hx⟩ := reads os enc
  refine returnsInHanded_of_row (C := Tryd.checked) (s := Rows.OpenSpec.upto Rows.worldShowsSpec) own started (by kernel_rfl) Tryd.func3
    (witness_row_at (enc := enc) (C := Tryd.checked) false (laidWorld os) wArgs rfl (by kernel_rfl) (by kernel_rfl) (by kernel_rfl)
      (OpenSpec.preRow_of_cond 8 hx (by kernel_rfl) (fun k hk => by cases hk; kernel_rfl) (by kernel_rfl) (laid_met os))) ?_
  intro W base args ds gs before hval hW _ hcond _ hL _ _
  exact contract H enc W base args ds gs before hval hW hL (hcond _ rfl)
theorem saidUpto : Rows.WorldShowsUptoSaid :=
  OpenClaim.holds_of_cond 3 Tryd.f3 rfl rfl rfl rfl rfl rfl rfl ⟨rfl, rfl, rfl, rfl, rfl⟩ rfl rfl rfl rfl rfl (by kernel_rfl) Tryd.func3 (by kernel_rfl)
    (of_decide_eq_true (by kernel_rfl)) (by unfold Func.isWrapper; first | (rw [if_pos (by decide +kernel)]; kernel_rfl) | (rw [if_neg (by decide +kernel)]; exact ⟨rfl, rfl⟩))
    (fun os started H enc _ F => by rw [OpenClaim.pre_eq_preRow]; exact lifted os started H enc F)
/-- No parameter wants a stand-in; the program's own looks are on: what the card asks. -/
theorem plain (f : FuncId) (fn : Func) (hf : Tryd.pinned.checked.prog.funcNamed "annex/annexlaw22.WorldShows" = some f) (hfn : Tryd.pinned.checked.prog.funcs[f]? = some fn) :
    true = Tryd.pinned.checked.prog.looks [] ∧ ∀ (j : Nat) t, fn.params[j]? = some t → Tryd.pinned.checked.prog.wantsStandIn t = false := by
  obtain rfl : f = 3 := Option.some.inj ((show Tryd.prog.funcNamed "annex/annexlaw22.WorldShows" = some 3 by kernel_rfl).symm.trans hf) |>.symm
  obtain rfl : fn = Tryd.f3 := (Option.some.inj (Tryd.func3.symm.trans hfn)).symm
  refine ⟨by kernel_rfl, fun j t ht => ?_⟩
  rw [Tryd.params3] at ht
  obtain rfl : t = 38 := by simpa using Array.mem_of_getElem? ht
  exact (show Tryd.prog.wantsStandIn 38 = false by kernel_rfl)
/-- The card. -/
theorem proved : Rows.WorldShowsUptoCardSaid :=
  Claim7.holds_tied_plain_at .later [] _ _ _ _ saidUpto (fun _ h => by cases h) (by kernel_rfl) (fun _ h => by cases h) worldShowsUpto_row_tie rfl ⟨rfl, rfl⟩ (by kernel_rfl) rfl plain (by kernel_rfl)
#print axioms proved
end Go.Proofs.YtekgdlpicgibhabDoor.Shows
