/-
  The law inlaylaw24.TrialPhases returns true for every input, and each argument reads behind the call as it read before: an update begins exactly in the phase Idle, and where sectors are written no image runs.
  Conditions: the package variable inlay/trial.boots holds, when the call begins, what the program's text lays there (the card ties it); no other narrowing.
-/
import Derived.Test.YtddgmlbbipakeaaDoorW12
import Derived.SevenTiedAt
namespace Go.Proofs.YtddgmlbbipakeaaDoor
open Go.RowKit Go.ChangeShapes Go.WideShapes V
set_option maxRecDepth 100000
set_option maxHeartbeats 8000000
theorem trialPhases_step (os : Os) (started : os.Started) (H : Type) (enc : TypeId × Value → H) (F : Stop.Interp) :
    ReturnsInHanded {} Tryd.checked os 9 .any ((OpenSpec.ofChange Rows.trialPhasesSpec).preRow enc Tryd.prog Tryd.f9 Rows.trialPhasesRow.domain false Rows.trialPhasesRow.laid) (((OpenSpec.ofChange Rows.trialPhasesSpec).at F).post enc Tryd.prog Tryd.f9 false true false false) := by
  refine law_step (C := Tryd.checked) (fn := Tryd.f9) (s := OpenSpec.ofChange Rows.trialPhasesSpec) (F := F) (tb := 4) Γt own started (by kernel_rfl) Tryd.func9 laidOut (by kernel_rfl) (by kernel_rfl) (by kernel_rfl) Tryd.underlying4 rfl ?_
    (row_witness (World.doorLaid Tryd.prog 200 os) #[.agg #[.int .u8 0, .int .u8 0, .int .u8 0, .int .u8 0, .int .u8 0, .int .u8 0, .int .u8 0, .int .u8 0], .agg #[.int .i64 0, .int .i64 0, .int .i64 0, .int .i64 0, .bool false, .int .i64 0, .int .i64 0, .slice none 0 0, .slice none 0 0, .slice none 0 0, .slice none 0 0]] rfl (by kernel_rfl) (by kernel_rfl) (by kernel_rfl) (by kernel_rfl) (by kernel_rfl) (door_met os _)) boots_glob ?_
  · intro ds hl
    obtain ⟨d1, d2, rfl⟩ := list_len2 hl
    rfl
  · intro W vs ds hl ht hk
    obtain ⟨d1, d2, rfl⟩ := list_len2 hl
    obtain ⟨p, hp⟩ := pk_of d2
    have ht' : Tup E0 (fun _ => False) W [W8.v ⟨iOf (nthD (ptsD d1) 0), iOf (nthD (ptsD d1) 1), iOf (nthD (ptsD d1) 2), iOf (nthD (ptsD d1) 3), iOf (nthD (ptsD d1) 4), iOf (nthD (ptsD d1) 5), iOf (nthD (ptsD d1) 6), iOf (nthD (ptsD d1) 7)⟩, svV Tryd.prog 37 d2] vs := ht
    obtain ⟨⟨a0, a1, a2, a3, a4, a5, a6, a7, _⟩, _⟩ := ht'.facts
    have := phases_law ⟨iOf (nthD (ptsD d1) 0), iOf (nthD (ptsD d1) 1), iOf (nthD (ptsD d1) 2), iOf (nthD (ptsD d1) 3), iOf (nthD (ptsD d1) 4), iOf (nthD (ptsD d1) 5), iOf (nthD (ptsD d1) 6), iOf (nthD (ptsD d1) 7)⟩ p ⟨(u8_iff a0).1, (u8_iff a0).2, (u8_iff a1).1, (u8_iff a1).2, (u8_iff a2).1, (u8_iff a2).2, (u8_iff a3).1, (u8_iff a3).2, (u8_iff a4).1, (u8_iff a4).2, (u8_iff a5).1, (u8_iff a5).2, (u8_iff a6).1, (u8_iff a6).2, (u8_iff a7).1, (u8_iff a7).2⟩
    rw [← hp] at this
    exact this
theorem trialPhases_said : Rows.TrialPhasesSaid :=
  OpenClaim.holds_of_cond 9 Tryd.f9 rfl rfl rfl rfl rfl rfl rfl ⟨rfl, rfl, rfl, rfl, rfl⟩ rfl rfl rfl rfl rfl (by kernel_rfl) Tryd.func9 (by kernel_rfl)
    (of_decide_eq_true (by kernel_rfl)) (by unfold Func.isWrapper; first | (rw [if_pos (by decide +kernel)]; kernel_rfl) | (rw [if_neg (by decide +kernel)]; exact ⟨rfl, rfl⟩))
    (fun os started H enc _ F => by rw [OpenClaim.pre_eq_preRow]; exact trialPhases_step os started H enc F)
theorem trialPhases_plain (f : FuncId) (fn : Func) (hf : Tryd.pinned.checked.prog.funcNamed "inlay/inlaylaw24.TrialPhases" = some f) (hfn : Tryd.pinned.checked.prog.funcs[f]? = some fn) :
    false = Tryd.pinned.checked.prog.looks [] ∧ ∀ (j : Nat) t, fn.params[j]? = some t → Tryd.pinned.checked.prog.wantsStandIn t = false := by
  obtain rfl : f = 9 := Option.some.inj ((show Tryd.prog.funcNamed "inlay/inlaylaw24.TrialPhases" = some 9 by kernel_rfl).symm.trans hf) |>.symm
  obtain rfl : fn = Tryd.f9 := (Option.some.inj (Tryd.func9.symm.trans hfn)).symm
  refine ⟨by kernel_rfl, fun j t ht => ?_⟩
  have hall : Tryd.f9.params.all (fun t => !(Tryd.prog.wantsStandIn t)) = true := by kernel_rfl
  have := (Array.all_eq_true_iff_forall_mem.1 hall) t (Array.mem_of_getElem? ht)
  have h2 : Tryd.prog.wantsStandIn t = false := by simpa using this
  exact h2
/-- The card. -/
theorem trialPhases_card : Rows.TrialPhasesCardSaid :=
  Claim7.holds_tied_plain_at .later [] _ _ _ _ trialPhases_said (fun _ h => by cases h) (by kernel_rfl) (fun _ h => by cases h) trialPhases_row_tie rfl ⟨rfl, rfl⟩ (by kernel_rfl) rfl trialPhases_plain (by kernel_rfl)
end Go.Proofs.YtddgmlbbipakeaaDoor
