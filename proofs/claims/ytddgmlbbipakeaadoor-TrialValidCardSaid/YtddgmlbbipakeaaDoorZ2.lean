/-
  The law inlaylaw24.TrialValid returns true for every input, and each argument reads behind the call as it read before: Valid agrees with the definition.
  Conditions: the package variable inlay/trial.boots holds, when the call begins, what the program's text lays there (the card ties it); no other narrowing.
-/
import Derived.Test.YtddgmlbbipakeaaDoorW12
import Derived.SevenTiedAt
namespace Go.Proofs.YtddgmlbbipakeaaDoor
open Go.RowKit Go.ChangeShapes Go.WideShapes V
set_option maxRecDepth 100000
set_option maxHeartbeats 8000000
theorem trialValid_step (os : Os) (started : os.Started) (H : Type) (enc : TypeId × Value → H) (F : Stop.Interp) :
    ReturnsInHanded {} Tryd.checked os 4 .any ((OpenSpec.ofChange Rows.trialValidSpec).preRow enc Tryd.prog Tryd.f4 Rows.trialValidRow.domain false Rows.trialValidRow.laid) (((OpenSpec.ofChange Rows.trialValidSpec).at F).post enc Tryd.prog Tryd.f4 false true false false) := by
  refine law_step (C := Tryd.checked) (fn := Tryd.f4) (s := OpenSpec.ofChange Rows.trialValidSpec) (F := F) (tb := 4) Γt own started (by kernel_rfl) Tryd.func4 laidOut (by kernel_rfl) (by kernel_rfl) (by kernel_rfl) Tryd.underlying4 rfl ?_
    (row_witness (World.doorLaid Tryd.prog 200 os) #[.agg #[.int .i64 0, .int .i64 0, .int .i64 0, .int .i64 0, .int .i64 0, .int .i64 0, .int .i64 0, .int .i64 0, .int .i64 0], .agg #[.int .u8 0, .int .u8 0, .int .u8 0, .int .u8 0, .int .u8 0, .int .u8 0, .int .u8 0, .int .u8 0], .agg #[.int .i32 0, .int .i32 0]] rfl (by kernel_rfl) (by kernel_rfl) (by kernel_rfl) (by kernel_rfl) (by kernel_rfl) (door_met os _)) boots_glob ?_
  · intro ds hl
    obtain ⟨d1, d2, d3, rfl⟩ := list_len3 hl
    rfl
  · intro W vs ds hl ht hk
    obtain ⟨d1, d2, d3, rfl⟩ := list_len3 hl
    have ht' : Tup E0 (fun _ => False) W [S9.v ⟨iOf (nthD (ptsD d1) 0), iOf (nthD (ptsD d1) 1), iOf (nthD (ptsD d1) 2), iOf (nthD (ptsD d1) 3), iOf (nthD (ptsD d1) 4), iOf (nthD (ptsD d1) 5), iOf (nthD (ptsD d1) 6), iOf (nthD (ptsD d1) 7), iOf (nthD (ptsD d1) 8)⟩, W8.v ⟨iOf (nthD (ptsD d2) 0), iOf (nthD (ptsD d2) 1), iOf (nthD (ptsD d2) 2), iOf (nthD (ptsD d2) 3), iOf (nthD (ptsD d2) 4), iOf (nthD (ptsD d2) 5), iOf (nthD (ptsD d2) 6), iOf (nthD (ptsD d2) 7)⟩, .agg [.int .i32 (iOf (nthD (ptsD d3) 0)), .int .i32 (iOf (nthD (ptsD d3) 1))]] vs := ht
    obtain ⟨_, ⟨a0, a1, a2, a3, a4, a5, a6, a7, _⟩, ⟨b0, b1, _⟩, _⟩ := ht'.facts
    exact valids_law ⟨_, _, _, _, _, _, _, _, _⟩ ⟨iOf (nthD (ptsD d2) 0), iOf (nthD (ptsD d2) 1), iOf (nthD (ptsD d2) 2), iOf (nthD (ptsD d2) 3), iOf (nthD (ptsD d2) 4), iOf (nthD (ptsD d2) 5), iOf (nthD (ptsD d2) 6), iOf (nthD (ptsD d2) 7)⟩ ⟨(u8_iff a0).1, (u8_iff a0).2, (u8_iff a1).1, (u8_iff a1).2, (u8_iff a2).1, (u8_iff a2).2, (u8_iff a3).1, (u8_iff a3).2, (u8_iff a4).1, (u8_iff a4).2, (u8_iff a5).1, (u8_iff a5).2, (u8_iff a6).1, (u8_iff a6).2, (u8_iff a7).1, (u8_iff a7).2⟩ _ _ (i32_iff b0) (i32_iff b1)
theorem trialValid_said : Rows.TrialValidSaid :=
  OpenClaim.holds_of_cond 4 Tryd.f4 rfl rfl rfl rfl rfl rfl rfl ⟨rfl, rfl, rfl, rfl, rfl⟩ rfl rfl rfl rfl rfl (by kernel_rfl) Tryd.func4 (by kernel_rfl)
    (of_decide_eq_true (by kernel_rfl)) (by unfold Func.isWrapper; first | (rw [if_pos (by decide +kernel)]; kernel_rfl) | (rw [if_neg (by decide +kernel)]; exact ⟨rfl, rfl⟩))
    (fun os started H enc _ F => by rw [OpenClaim.pre_eq_preRow]; exact trialValid_step os started H enc F)
theorem trialValid_plain (f : FuncId) (fn : Func) (hf : Tryd.pinned.checked.prog.funcNamed "inlay/inlaylaw24.TrialValid" = some f) (hfn : Tryd.pinned.checked.prog.funcs[f]? = some fn) :
    false = Tryd.pinned.checked.prog.looks [] ∧ ∀ (j : Nat) t, fn.params[j]? = some t → Tryd.pinned.checked.prog.wantsStandIn t = false := by
  obtain rfl : f = 4 := Option.some.inj ((show Tryd.prog.funcNamed "inlay/inlaylaw24.TrialValid" = some 4 by kernel_rfl).symm.trans hf) |>.symm
  obtain rfl : fn = Tryd.f4 := (Option.some.inj (Tryd.func4.symm.trans hfn)).symm
  refine ⟨by kernel_rfl, fun j t ht => ?_⟩
  have hall : Tryd.f4.params.all (fun t => !(Tryd.prog.wantsStandIn t)) = true := by kernel_rfl
  have := (Array.all_eq_true_iff_forall_mem.1 hall) t (Array.mem_of_getElem? ht)
  have h2 : Tryd.prog.wantsStandIn t = false := by simpa using this
  exact h2
/-- The card. -/
theorem trialValid_card : Rows.TrialValidCardSaid :=
  Claim7.holds_tied_plain_at .later [] _ _ _ _ trialValid_said (fun _ h => by cases h) (by kernel_rfl) (fun _ h => by cases h) trialValid_row_tie rfl ⟨rfl, rfl⟩ (by kernel_rfl) rfl trialValid_plain (by kernel_rfl)
end Go.Proofs.YtddgmlbbipakeaaDoor
