/-
  Joined texts: Z7: The law inlaylaw23.SettingsParts returns true for every input, and each argument reads behind the call as it read before: doing two lists of rules one after the other is doing the whole list; if the first one does not fit, the whole does not.
  Conditions: the package variables that the row lists hold, when the call begins, what the program's text lays there (the card ties them); no other narrowing.
-/
import Derived.Test.YtpbgihhfcdggkaaGreatDoorQE
import Derived.SevenTiedAt
section
namespace Go.Proofs.YtpbgihhfcdggkaaGreatDoor
open Go.RowKit Go.ChangeShapes Go.WideShapes V
set_option maxRecDepth 100000
set_option maxHeartbeats 8000000
theorem settingsParts_step (os : Os) (started : os.Started) (H : Type) (enc : TypeId × Value → H) (F : Stop.Interp) :
    ReturnsInHanded {} Tryz.checked os 9 .any ((OpenSpec.ofChange Rows.settingsPartsSpec).preRow enc Tryz.prog Tryz.f9 Rows.settingsPartsRow.domain false Rows.settingsPartsRow.laid) (((OpenSpec.ofChange Rows.settingsPartsSpec).at F).post enc Tryz.prog Tryz.f9 false true false false) := by
  refine law_step2 (C := Tryz.checked) (fn := Tryz.f9) (s := OpenSpec.ofChange Rows.settingsPartsSpec) (F := F) (tb := 4) Γw own started (by kernel_rfl) Tryz.func9 laidOut (by kernel_rfl) (by kernel_rfl) (by kernel_rfl) Tryz.underlying4 rfl ?_
    (row_witness (World.laidAll Tryz.prog os tabs_laid) #[.agg #[.int .u16 0, .slice none 0 0, .slice none 0 0], .slice none 0 0, .int .u8 0] (World.laidAll_os _ _ _) (by kernel_rfl) (by kernel_rfl) (by kernel_rfl) (by kernel_rfl) (by kernel_rfl) (door_met os _)) tabs_glob ?_
  · intro ds hl
    obtain ⟨d1, d2, d3, rfl⟩ := list_len3 hl
    rfl
  · intro W vs ds hl ht hk
    obtain ⟨d1, d2, d3, rfl⟩ := list_len3 hl
    refine Fun.facts fun hf => ?_
    show Fun _ _ _ [rawSV d1, .ro (quadsSV (eOf d2)), .int .u8 (iOf d3)] _
    obtain ⟨⟨h1, ⟨_, h2⟩, ⟨_, h3⟩, _⟩, ⟨_, h4⟩, h5, _⟩ := hf
    rw [rawSV_eq, quadsSV_eq]
    exact parts_spec _ (raw_ok _ h1 h2 h3) _ (quads_ok _ h4) _ (u8_lt h5)
theorem settingsParts_said : Rows.SettingsPartsSaid :=
  OpenClaim.holds_of_cond 9 Tryz.f9 rfl rfl rfl rfl rfl rfl rfl ⟨rfl, rfl, rfl, rfl, rfl⟩ rfl rfl rfl rfl rfl (by kernel_rfl) Tryz.func9 (by kernel_rfl)
    (of_decide_eq_true (by kernel_rfl)) (by unfold Func.isWrapper; first | (rw [if_pos (by decide +kernel)]; kernel_rfl) | (rw [if_neg (by decide +kernel)]; exact ⟨rfl, rfl⟩))
    (fun os started H enc _ F => by rw [OpenClaim.pre_eq_preRow]; exact settingsParts_step os started H enc F)
theorem settingsParts_plain (f : FuncId) (fn : Func) (hf : Tryz.pinned.checked.prog.funcNamed "inlay/inlaylaw23.SettingsParts" = some f) (hfn : Tryz.pinned.checked.prog.funcs[f]? = some fn) :
    true = Tryz.pinned.checked.prog.looks [] ∧ ∀ (j : Nat) t, fn.params[j]? = some t → Tryz.pinned.checked.prog.wantsStandIn t = false := by
  obtain rfl : f = 9 := Option.some.inj ((show Tryz.prog.funcNamed "inlay/inlaylaw23.SettingsParts" = some 9 by kernel_rfl).symm.trans hf) |>.symm
  obtain rfl : fn = Tryz.f9 := (Option.some.inj (Tryz.func9.symm.trans hfn)).symm
  refine ⟨by kernel_rfl, fun j t ht => ?_⟩
  have hall : Tryz.f9.params.all (fun t => !(Tryz.prog.wantsStandIn t)) = true := by kernel_rfl
  have := (Array.all_eq_true_iff_forall_mem.1 hall) t (Array.mem_of_getElem? ht)
  have h2 : Tryz.prog.wantsStandIn t = false := by simpa using this
  exact h2
theorem settingsParts_card : Rows.SettingsPartsCardSaid :=
  Claim7.holds_tied_plain_at .later [] _ _ _ _ settingsParts_said (fun _ h => by cases h) (by kernel_rfl) (fun _ h => by cases h) settingsParts_row_tie rfl ⟨rfl, rfl⟩ (by kernel_rfl) rfl settingsParts_plain (by kernel_rfl)
end Go.Proofs.YtpbgihhfcdggkaaGreatDoor
end
