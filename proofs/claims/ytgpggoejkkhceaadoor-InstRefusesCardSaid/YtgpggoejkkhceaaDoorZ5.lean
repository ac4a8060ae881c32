/-
  The law inlaylaw02.InstRefuses returns true for every input, and each argument reads behind the call as it read before: what cannot be encoded is refused.
  Conditions: the package variables math/bits.deBruijn32tab, math/bits.deBruijn64tab and internal/strconv.uint64pow10 hold, when the call begins, what the program's text lays there (the card ties them); no other narrowing.
-/
import Derived.Test.YtgpggoejkkhceaaDoorIZ
import Derived.Test.YtgpggoejkkhceaaDoorIN
import Derived.SevenTiedAt
namespace Go.Proofs.YtgpggoejkkhceaaDoor
open Go.RowKit Go.ChangeShapes Go.WideShapes V
set_option maxRecDepth 100000
set_option maxHeartbeats 8000000
theorem instRefuses_step (os : Os) (started : os.Started) (H : Type) (enc : TypeId × Value → H) (F : Stop.Interp) :
    ReturnsInHanded {} Tryd.checked os 7 .any ((OpenSpec.ofChange Rows.instRefusesSpec).preRow enc Tryd.prog Tryd.f7 Rows.instRefusesRow.domain false Rows.instRefusesRow.laid) (((OpenSpec.ofChange Rows.instRefusesSpec).at F).post enc Tryd.prog Tryd.f7 false true false false) := by
  refine law_step (C := Tryd.checked) (fn := Tryd.f7) (s := OpenSpec.ofChange Rows.instRefusesSpec) (F := F) (tb := 4) Γp own started (by kernel_rfl) Tryd.func7 laidOut (by kernel_rfl) (by kernel_rfl) (by kernel_rfl) Tryd.underlying4 rfl ?_
    (row_witness (World.doorLaid Tryd.prog 300 os) #[.agg #[.int .u8 0, .int .u8 0, .int .u8 0, .int .u8 0], .int .u16 0, .agg #[.int .i16 0, .int .i16 0]] rfl (by kernel_rfl) (by kernel_rfl) (by kernel_rfl) (by kernel_rfl) (by kernel_rfl) (door_met os _)) tabs_glob ?_
  · intro ds hl
    obtain ⟨d1, d2, d3, rfl⟩ := list_len3 hl
    rfl
  · intro W vs ds hl ht hk
    obtain ⟨d1, d2, d3, rfl⟩ := list_len3 hl
    have ht' : Tup E0 (fun _ => False) W [raw4 (iOf (nthD (ptsD d1) 0)) (iOf (nthD (ptsD d1) 1)) (iOf (nthD (ptsD d1) 2)) (iOf (nthD (ptsD d1) 3)), .int .u16 (iOf d2), .agg [.int .i16 (iOf (nthD (ptsD d3) 0)), .int .i16 (iOf (nthD (ptsD d3) 1))]] vs := ht
    obtain ⟨_, a1, ⟨_, b1, _⟩, _⟩ := ht'.facts
    exact refuses_law _ _ _ _ _ _ _ (u16_iff a1) (i16_iff b1)
theorem instRefuses_said : Rows.InstRefusesSaid :=
  OpenClaim.holds_of_cond 7 Tryd.f7 rfl rfl rfl rfl rfl rfl rfl ⟨rfl, rfl, rfl, rfl, rfl⟩ rfl rfl rfl rfl rfl (by kernel_rfl) Tryd.func7 (by kernel_rfl)
    (of_decide_eq_true (by kernel_rfl)) (by unfold Func.isWrapper; first | (rw [if_pos (by decide +kernel)]; kernel_rfl) | (rw [if_neg (by decide +kernel)]; exact ⟨rfl, rfl⟩))
    (fun os started H enc _ F => by rw [OpenClaim.pre_eq_preRow]; exact instRefuses_step os started H enc F)
theorem instRefuses_plain (f : FuncId) (fn : Func) (hf : Tryd.pinned.checked.prog.funcNamed "inlay/inlaylaw02.InstRefuses" = some f) (hfn : Tryd.pinned.checked.prog.funcs[f]? = some fn) :
    false = Tryd.pinned.checked.prog.looks [] ∧ ∀ (j : Nat) t, fn.params[j]? = some t → Tryd.pinned.checked.prog.wantsStandIn t = false := by
  obtain rfl : f = 7 := Option.some.inj ((show Tryd.prog.funcNamed "inlay/inlaylaw02.InstRefuses" = some 7 by kernel_rfl).symm.trans hf) |>.symm
  obtain rfl : fn = Tryd.f7 := (Option.some.inj (Tryd.func7.symm.trans hfn)).symm
  refine ⟨by kernel_rfl, fun j t ht => ?_⟩
  have hall : Tryd.f7.params.all (fun t => !(Tryd.prog.wantsStandIn t)) = true := by kernel_rfl
  have := (Array.all_eq_true_iff_forall_mem.1 hall) t (Array.mem_of_getElem? ht)
  have h2 : Tryd.prog.wantsStandIn t = false := by simpa using this
  exact h2
/-- The card. -/
theorem instRefuses_card : Rows.InstRefusesCardSaid :=
  Claim7.holds_tied_plain_at .later [] _ _ _ _ instRefuses_said (fun _ h => by cases h) (by kernel_rfl) (fun _ h => by cases h) instRefuses_row_tie rfl ⟨rfl, rfl⟩ (by kernel_rfl) rfl instRefuses_plain (by kernel_rfl)
end Go.Proofs.YtgpggoejkkhceaaDoor
