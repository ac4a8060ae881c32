/-
  Joined texts: Z2: The law inlaylaw27.TrustThreshold returns true for every input, and each argument reads behind the call as it read before: a release is accepted exactly if enough holders of keys of the role have signed it; it is allowed then.
  Conditions: the package variables that the row lists hold, when the call begins, what the program's text lays there (the card ties them); no other narrowing.
-/
import Derived.Test.YtokaegeediokoaaGreatDoorQC
import Derived.Test.YtokaegeediokoaaGreatDoorQE
import Derived.SevenTiedAt
section
namespace Go.Proofs.YtokaegeediokoaaGreatDoor
open Go.RowKit Go.ChangeShapes Go.WideShapes V
set_option maxRecDepth 100000
set_option maxHeartbeats 8000000
theorem trustThreshold_step (os : Os) (started : os.Started) (H : Type) (enc : TypeId × Value → H) (F : Stop.Interp) :
    ReturnsInHanded {} Tryz.checked os 4 .any ((OpenSpec.ofChange Rows.trustThresholdSpec).preRow enc Tryz.prog Tryz.f4 Rows.trustThresholdRow.domain false Rows.trustThresholdRow.laid) (((OpenSpec.ofChange Rows.trustThresholdSpec).at F).post enc Tryz.prog Tryz.f4 false true false false) := by
  refine law_step (C := Tryz.checked) (fn := Tryz.f4) (s := OpenSpec.ofChange Rows.trustThresholdSpec) (F := F) (tb := 4) Γh own started (by kernel_rfl) Tryz.func4 laidOut (by kernel_rfl) (by kernel_rfl) (by kernel_rfl) Tryz.underlying4 rfl ?_
    (row_witness (World.laidAll Tryz.prog os tabs_laid) #[.agg #[.int .u8 0, .int .u8 0, .int .u8 0, .int .u8 0], .int .u8 0, .int .u8 0] (World.laidAll_os _ _ _) (by kernel_rfl) (by kernel_rfl) (by kernel_rfl) (by kernel_rfl) (by kernel_rfl) (door_met os _)) tabs_glob ?_
  · intro ds hl
    obtain ⟨d1, d2, d3, rfl⟩ := list_len3 hl
    rfl
  · intro W vs ds hl ht hk
    obtain ⟨d1, d2, d3, rfl⟩ := list_len3 hl
    refine Fun.facts fun hf => ?_
    show Fun _ _ _ [.agg [.int .u8 (iOf (nthD (ptsD d1) 0)), .int .u8 (iOf (nthD (ptsD d1) 1)), .int .u8 (iOf (nthD (ptsD d1) 2)), .int .u8 (iOf (nthD (ptsD d1) 3))], .int .u8 (iOf d2), .int .u8 (iOf d3)] _
    obtain ⟨⟨h1, h2, h3, h4, _⟩, h5, h6, _⟩ := hf
    rw [u8Of_i _ h1, u8Of_i _ h2, u8Of_i _ h3, u8Of_i _ h4, u8Of_i _ h5, u8Of_i _ h6]
    exact threshold_law _ _ _ _ _ _
theorem trustThreshold_said : Rows.TrustThresholdSaid :=
  OpenClaim.holds_of_cond 4 Tryz.f4 rfl rfl rfl rfl rfl rfl rfl ⟨rfl, rfl, rfl, rfl, rfl⟩ rfl rfl rfl rfl rfl (by kernel_rfl) Tryz.func4 (by kernel_rfl)
    (of_decide_eq_true (by kernel_rfl)) (by unfold Func.isWrapper; first | (rw [if_pos (by decide +kernel)]; kernel_rfl) | (rw [if_neg (by decide +kernel)]; exact ⟨rfl, rfl⟩))
    (fun os started H enc _ F => by rw [OpenClaim.pre_eq_preRow]; exact trustThreshold_step os started H enc F)
theorem trustThreshold_plain (f : FuncId) (fn : Func) (hf : Tryz.pinned.checked.prog.funcNamed "inlay/inlaylaw27.TrustThreshold" = some f) (hfn : Tryz.pinned.checked.prog.funcs[f]? = some fn) :
    false = Tryz.pinned.checked.prog.looks [] ∧ ∀ (j : Nat) t, fn.params[j]? = some t → Tryz.pinned.checked.prog.wantsStandIn t = false := by
  obtain rfl : f = 4 := Option.some.inj ((show Tryz.prog.funcNamed "inlay/inlaylaw27.TrustThreshold" = some 4 by kernel_rfl).symm.trans hf) |>.symm
  obtain rfl : fn = Tryz.f4 := (Option.some.inj (Tryz.func4.symm.trans hfn)).symm
  refine ⟨by kernel_rfl, fun j t ht => ?_⟩
  have hall : Tryz.f4.params.all (fun t => !(Tryz.prog.wantsStandIn t)) = true := by kernel_rfl
  have := (Array.all_eq_true_iff_forall_mem.1 hall) t (Array.mem_of_getElem? ht)
  have h2 : Tryz.prog.wantsStandIn t = false := by simpa using this
  exact h2
theorem trustThreshold_card : Rows.TrustThresholdCardSaid :=
  Claim7.holds_tied_plain_at .later [] _ _ _ _ trustThreshold_said (fun _ h => by cases h) (by kernel_rfl) (fun _ h => by cases h) trustThreshold_row_tie rfl ⟨rfl, rfl⟩ (by kernel_rfl) rfl trustThreshold_plain (by kernel_rfl)
end Go.Proofs.YtokaegeediokoaaGreatDoor
end
