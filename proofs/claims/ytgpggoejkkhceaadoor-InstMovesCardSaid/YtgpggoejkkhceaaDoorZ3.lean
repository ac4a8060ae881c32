/-
  The law inlaylaw02.InstMoves returns true for every input, and each argument reads behind the call as it read before: moving an instruction to another place keeps its target, and a word that is no branch is kept.
  Conditions: the package variables math/bits.deBruijn32tab, math/bits.deBruijn64tab and internal/strconv.uint64pow10 hold, when the call begins, what the program's text lays there (the card ties them); no other narrowing.
-/
import Derived.Test.YtgpggoejkkhceaaDoorIZ
import Derived.Test.YtgpggoejkkhceaaDoorIN
import Derived.SevenTiedAt
namespace Go.Proofs.YtgpggoejkkhceaaDoor
open Go.RowKit Go.ChangeShapes Go.WideShapes V
set_option maxRecDepth 100000
set_option maxHeartbeats 8000000
theorem instMoves_step (os : Os) (started : os.Started) (H : Type) (enc : TypeId × Value → H) (F : Stop.Interp) :
    ReturnsInHanded {} Tryd.checked os 5 .any ((OpenSpec.ofChange Rows.instMovesSpec).preRow enc Tryd.prog Tryd.f5 Rows.instMovesRow.domain false Rows.instMovesRow.laid) (((OpenSpec.ofChange Rows.instMovesSpec).at F).post enc Tryd.prog Tryd.f5 false true false false) := by
  refine law_step (C := Tryd.checked) (fn := Tryd.f5) (s := OpenSpec.ofChange Rows.instMovesSpec) (F := F) (tb := 4) Γp own started (by kernel_rfl) Tryd.func5 laidOut (by kernel_rfl) (by kernel_rfl) (by kernel_rfl) Tryd.underlying4 rfl ?_
    (row_witness (World.doorLaid Tryd.prog 300 os) #[.int .u32 0, .agg #[.int .u8 0, .int .u8 0, .int .u8 0, .int .u8 0], .agg #[.int .u16 0, .int .u16 0]] rfl (by kernel_rfl) (by kernel_rfl) (by kernel_rfl) (by kernel_rfl) (by kernel_rfl) (door_met os _)) tabs_glob ?_
  · intro ds hl
    obtain ⟨d1, d2, d3, rfl⟩ := list_len3 hl
    rfl
  · intro W vs ds hl ht hk
    obtain ⟨d1, d2, d3, rfl⟩ := list_len3 hl
    have ht' : Tup E0 (fun _ => False) W [.int .u32 (iOf d1), raw4 (iOf (nthD (ptsD d2) 0)) (iOf (nthD (ptsD d2) 1)) (iOf (nthD (ptsD d2) 2)) (iOf (nthD (ptsD d2) 3)), .agg [.int .u16 (iOf (nthD (ptsD d3) 0)), .int .u16 (iOf (nthD (ptsD d3) 1))]] vs := ht
    obtain ⟨a0, _, ⟨b0, b1, _⟩, _⟩ := ht'.facts
    exact moves_law _ _ _ _ _ _ _ (u32_iff a0) (u16_iff b0) (u16_iff b1)
theorem instMoves_said : Rows.InstMovesSaid :=
  OpenClaim.holds_of_cond 5 Tryd.f5 rfl rfl rfl rfl rfl rfl rfl ⟨rfl, rfl, rfl, rfl, rfl⟩ rfl rfl rfl rfl rfl (by kernel_rfl) Tryd.func5 (by kernel_rfl)
    (of_decide_eq_true (by kernel_rfl)) (by unfold Func.isWrapper; first | (rw [if_pos (by decide +kernel)]; kernel_rfl) | (rw [if_neg (by decide +kernel)]; exact ⟨rfl, rfl⟩))
    (fun os started H enc _ F => by rw [OpenClaim.pre_eq_preRow]; exact instMoves_step os started H enc F)
theorem instMoves_plain (f : FuncId) (fn : Func) (hf : Tryd.pinned.checked.prog.funcNamed "inlay/inlaylaw02.InstMoves" = some f) (hfn : Tryd.pinned.checked.prog.funcs[f]? = some fn) :
    false = Tryd.pinned.checked.prog.looks [] ∧ ∀ (j : Nat) t, fn.params[j]? = some t → Tryd.pinned.checked.prog.wantsStandIn t = false := by
  obtain rfl : f = 5 := Option.some.inj ((show Tryd.prog.funcNamed "inlay/inlaylaw02.InstMoves" = some 5 by kernel_rfl).symm.trans hf) |>.symm
  obtain rfl : fn = Tryd.f5 := (Option.some.inj (Tryd.func5.symm.trans hfn)).symm
  refine ⟨by kernel_rfl, fun j t ht => ?_⟩
  have hall : Tryd.f5.params.all (fun t => !(Tryd.prog.wantsStandIn t)) = true := by kernel_rfl
  have := (Array.all_eq_true_iff_forall_mem.1 hall) t (Array.mem_of_getElem? ht)
  have h2 : Tryd.prog.wantsStandIn t = false := by simpa using this
  exact h2
/-- The card. -/
theorem instMoves_card : Rows.InstMovesCardSaid :=
  Claim7.holds_tied_plain_at .later [] _ _ _ _ instMoves_said (fun _ h => by cases h) (by kernel_rfl) (fun _ h => by cases h) instMoves_row_tie rfl ⟨rfl, rfl⟩ (by kernel_rfl) rfl instMoves_plain (by kernel_rfl)
end Go.Proofs.YtgpggoejkkhceaaDoor
