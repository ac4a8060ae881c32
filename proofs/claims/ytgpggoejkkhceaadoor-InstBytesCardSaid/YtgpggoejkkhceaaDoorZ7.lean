/-
  The law inlaylaw02.InstBytes returns true for every input, and each argument reads behind the call as it read before: Words and Bytes are inverse, the words stand in big endian, and a length that is no multiple of 4 is refused.
  Conditions: the package variables math/bits.deBruijn32tab, math/bits.deBruijn64tab and internal/strconv.uint64pow10 hold, when the call begins, what the program's text lays there (the card ties them); no other narrowing.
-/
import Derived.Test.YtgpggoejkkhceaaDoorIZ
import Derived.Test.YtgpggoejkkhceaaDoorIP
import Derived.SevenTiedAt
namespace Go.Proofs.YtgpggoejkkhceaaDoor
open Go.RowKit Go.ChangeShapes Go.WideShapes V
set_option maxRecDepth 100000
set_option maxHeartbeats 8000000
theorem instBytes_step (os : Os) (started : os.Started) (H : Type) (enc : TypeId × Value → H) (F : Stop.Interp) :
    ReturnsInHanded {} Tryd.checked os 8 .any ((OpenSpec.ofChange Rows.instBytesSpec).preRow enc Tryd.prog Tryd.f8 Rows.instBytesRow.domain false Rows.instBytesRow.laid) (((OpenSpec.ofChange Rows.instBytesSpec).at F).post enc Tryd.prog Tryd.f8 false true false false) := by
  refine law_step (C := Tryd.checked) (fn := Tryd.f8) (s := OpenSpec.ofChange Rows.instBytesSpec) (F := F) (tb := 4) Γp own started (by kernel_rfl) Tryd.func8 laidOut (by kernel_rfl) (by kernel_rfl) (by kernel_rfl) Tryd.underlying4 rfl ?_
    (row_witness (World.doorLaid Tryd.prog 300 os) #[.slice none 0 0, .slice none 0 0] rfl (by kernel_rfl) (by kernel_rfl) (by kernel_rfl) (by kernel_rfl) (by kernel_rfl) (door_met os _)) tabs_glob ?_
  · intro ds hl
    obtain ⟨d1, d2, rfl⟩ := list_len2 hl
    rfl
  · intro W vs ds hl ht hk
    obtain ⟨d1, d2, rfl⟩ := list_len2 hl
    have ht' : Tup E0 (fun _ => False) W [.ro (.u8 ((eOf d1).map u8Of)), .ro (.ints .u32 ((eOf d2).map iOf))] vs := ht
    obtain ⟨_, ⟨_, b0⟩, _⟩ := ht'.facts
    refine bytes_law _ _ fun w hw => ?_
    obtain ⟨i, hi, rfl⟩ := List.mem_iff_getElem.1 hw
    have b1 := u32_iff (b0 i hi)
    rw [List.getD_eq_getElem?_getD, List.getElem?_eq_getElem hi] at b1
    exact b1
theorem instBytes_said : Rows.InstBytesSaid :=
  OpenClaim.holds_of_cond 8 Tryd.f8 rfl rfl rfl rfl rfl rfl rfl ⟨rfl, rfl, rfl, rfl, rfl⟩ rfl rfl rfl rfl rfl (by kernel_rfl) Tryd.func8 (by kernel_rfl)
    (of_decide_eq_true (by kernel_rfl)) (by unfold Func.isWrapper; first | (rw [if_pos (by decide +kernel)]; kernel_rfl) | (rw [if_neg (by decide +kernel)]; exact ⟨rfl, rfl⟩))
    (fun os started H enc _ F => by rw [OpenClaim.pre_eq_preRow]; exact instBytes_step os started H enc F)
theorem instBytes_plain (f : FuncId) (fn : Func) (hf : Tryd.pinned.checked.prog.funcNamed "inlay/inlaylaw02.InstBytes" = some f) (hfn : Tryd.pinned.checked.prog.funcs[f]? = some fn) :
    false = Tryd.pinned.checked.prog.looks [] ∧ ∀ (j : Nat) t, fn.params[j]? = some t → Tryd.pinned.checked.prog.wantsStandIn t = false := by
  obtain rfl : f = 8 := Option.some.inj ((show Tryd.prog.funcNamed "inlay/inlaylaw02.InstBytes" = some 8 by kernel_rfl).symm.trans hf) |>.symm
  obtain rfl : fn = Tryd.f8 := (Option.some.inj (Tryd.func8.symm.trans hfn)).symm
  refine ⟨by kernel_rfl, fun j t ht => ?_⟩
  have hall : Tryd.f8.params.all (fun t => !(Tryd.prog.wantsStandIn t)) = true := by kernel_rfl
  have := (Array.all_eq_true_iff_forall_mem.1 hall) t (Array.mem_of_getElem? ht)
  have h2 : Tryd.prog.wantsStandIn t = false := by simpa using this
  exact h2
/-- The card. -/
theorem instBytes_card : Rows.InstBytesCardSaid :=
  Claim7.holds_tied_plain_at .later [] _ _ _ _ instBytes_said (fun _ h => by cases h) (by kernel_rfl) (fun _ h => by cases h) instBytes_row_tie rfl ⟨rfl, rfl⟩ (by kernel_rfl) rfl instBytes_plain (by kernel_rfl)
end Go.Proofs.YtgpggoejkkhceaaDoor
