/-
  The law inlaylaw02.InstTargets returns true for every input, and each argument reads behind the call as it read before: Target gives the address that the instruction names.
  Conditions: the package variables math/bits.deBruijn32tab, math/bits.deBruijn64tab and internal/strconv.uint64pow10 hold, when the call begins, what the program's text lays there (the card ties them); no other narrowing.
-/
import Derived.Test.YtgpggoejkkhceaaDoorIZ
import Derived.Test.YtgpggoejkkhceaaDoorIM
import Derived.SevenTiedAt
namespace Go.Proofs.YtgpggoejkkhceaaDoor
open Go.RowKit Go.ChangeShapes Go.WideShapes V
set_option maxRecDepth 100000
set_option maxHeartbeats 8000000
theorem instTargets_step (os : Os) (started : os.Started) (H : Type) (enc : TypeId × Value → H) (F : Stop.Interp) :
    ReturnsInHanded {} Tryd.checked os 6 .any ((OpenSpec.ofChange Rows.instTargetsSpec).preRow enc Tryd.prog Tryd.f6 Rows.instTargetsRow.domain false Rows.instTargetsRow.laid) (((OpenSpec.ofChange Rows.instTargetsSpec).at F).post enc Tryd.prog Tryd.f6 false true false false) := by
  refine law_step (C := Tryd.checked) (fn := Tryd.f6) (s := OpenSpec.ofChange Rows.instTargetsSpec) (F := F) (tb := 4) Γp own started (by kernel_rfl) Tryd.func6 laidOut (by kernel_rfl) (by kernel_rfl) (by kernel_rfl) Tryd.underlying4 rfl ?_
    (row_witness (World.doorLaid Tryd.prog 300 os) #[.int .i32 0, .int .u8 0, .int .u16 0] rfl (by kernel_rfl) (by kernel_rfl) (by kernel_rfl) (by kernel_rfl) (by kernel_rfl) (door_met os _)) tabs_glob ?_
  · intro ds hl
    obtain ⟨d1, d2, d3, rfl⟩ := list_len3 hl
    rfl
  · intro W vs ds hl ht hk
    obtain ⟨d1, d2, d3, rfl⟩ := list_len3 hl
    have ht' : Tup E0 (fun _ => False) W [.int .i32 (iOf d1), .int .u8 (iOf d2), .int .u16 (iOf d3)] vs := ht
    obtain ⟨a0, a1, a2, _⟩ := ht'.facts
    exact targets_law _ _ _ (i32_iff a0) (u8_iff a1) (u16_iff a2)
theorem instTargets_said : Rows.InstTargetsSaid :=
  OpenClaim.holds_of_cond 6 Tryd.f6 rfl rfl rfl rfl rfl rfl rfl ⟨rfl, rfl, rfl, rfl, rfl⟩ rfl rfl rfl rfl rfl (by kernel_rfl) Tryd.func6 (by kernel_rfl)
    (of_decide_eq_true (by kernel_rfl)) (by unfold Func.isWrapper; first | (rw [if_pos (by decide +kernel)]; kernel_rfl) | (rw [if_neg (by decide +kernel)]; exact ⟨rfl, rfl⟩))
    (fun os started H enc _ F => by rw [OpenClaim.pre_eq_preRow]; exact instTargets_step os started H enc F)
theorem instTargets_plain (f : FuncId) (fn : Func) (hf : Tryd.pinned.checked.prog.funcNamed "inlay/inlaylaw02.InstTargets" = some f) (hfn : Tryd.pinned.checked.prog.funcs[f]? = some fn) :
    false = Tryd.pinned.checked.prog.looks [] ∧ ∀ (j : Nat) t, fn.params[j]? = some t → Tryd.pinned.checked.prog.wantsStandIn t = false := by
  obtain rfl : f = 6 := Option.some.inj ((show Tryd.prog.funcNamed "inlay/inlaylaw02.InstTargets" = some 6 by kernel_rfl).symm.trans hf) |>.symm
  obtain rfl : fn = Tryd.f6 := (Option.some.inj (Tryd.func6.symm.trans hfn)).symm
  refine ⟨by kernel_rfl, fun j t ht => ?_⟩
  have hall : Tryd.f6.params.all (fun t => !(Tryd.prog.wantsStandIn t)) = true := by kernel_rfl
  have := (Array.all_eq_true_iff_forall_mem.1 hall) t (Array.mem_of_getElem? ht)
  have h2 : Tryd.prog.wantsStandIn t = false := by simpa using this
  exact h2
/-- The card. -/
theorem instTargets_card : Rows.InstTargetsCardSaid :=
  Claim7.holds_tied_plain_at .later [] _ _ _ _ instTargets_said (fun _ h => by cases h) (by kernel_rfl) (fun _ h => by cases h) instTargets_row_tie rfl ⟨rfl, rfl⟩ (by kernel_rfl) rfl instTargets_plain (by kernel_rfl)
end Go.Proofs.YtgpggoejkkhceaaDoor
