/-
  Joined texts: Z4: The law inlaylaw23.SettingsBack returns true for every input, and each argument reads behind the call as it read before: going back after going forward restores the settings, whatever the version was.
  Conditions: the package variables that the row lists hold, when the call begins, what the program's text lays there (the card ties them); no other narrowing.
-/
import Derived.Test.YtpbgihhfcdggkaaGreatDoorQE
import Derived.SevenTiedAt
section
namespace Go.Proofs.YtpbgihhfcdggkaaGreatDoor
open Go.RowKit Go.ChangeShapes Go.WideShapes V
set_option maxRecDepth 100000
set_option maxHeartbeats 8000000
theorem settingsBack_step (os : Os) (started : os.Started) (H : Type) (enc : TypeId × Value → H) (F : Stop.Interp) :
    ReturnsInHanded {} Tryz.checked os 6 .any ((OpenSpec.ofChange Rows.settingsBackSpec).preRow enc Tryz.prog Tryz.f6 Rows.settingsBackRow.domain false Rows.settingsBackRow.laid) (((OpenSpec.ofChange Rows.settingsBackSpec).at F).post enc Tryz.prog Tryz.f6 false true false false) := by
  refine law_step2 (C := Tryz.checked) (fn := Tryz.f6) (s := OpenSpec.ofChange Rows.settingsBackSpec) (F := F) (tb := 4) Γw own started (by kernel_rfl) Tryz.func6 laidOut (by kernel_rfl) (by kernel_rfl) (by kernel_rfl) Tryz.underlying4 rfl ?_
    (row_witness (World.laidAll Tryz.prog os tabs_laid) #[.agg #[.int .u16 0, .slice none 0 0, .slice none 0 0], .slice none 0 0, .int .u16 0] (World.laidAll_os _ _ _) (by kernel_rfl) (by kernel_rfl) (by kernel_rfl) (by kernel_rfl) (by kernel_rfl) (door_met os _)) tabs_glob ?_
  · intro ds hl
    obtain ⟨d1, d2, d3, rfl⟩ := list_len3 hl
    rfl
  · intro W vs ds hl ht hk
    obtain ⟨d1, d2, d3, rfl⟩ := list_len3 hl
    refine Fun.facts fun hf => ?_
    show Fun _ _ _ [rawSV d1, .ro (quadsSV (eOf d2)), .int .u16 (iOf d3)] _
    obtain ⟨⟨h1, ⟨_, h2⟩, ⟨_, h3⟩, _⟩, ⟨_, h4⟩, h5, _⟩ := hf
    rw [rawSV_eq, quadsSV_eq]
    exact back_spec _ (raw_ok _ h1 h2 h3) _ (quads_ok _ h4) _ (u16_lt h5)
theorem settingsBack_said : Rows.SettingsBackSaid :=
  OpenClaim.holds_of_cond 6 Tryz.f6 rfl rfl rfl rfl rfl rfl rfl ⟨rfl, rfl, rfl, rfl, rfl⟩ rfl rfl rfl rfl rfl (by kernel_rfl) Tryz.func6 (by kernel_rfl)
    (of_decide_eq_true (by kernel_rfl)) (by unfold Func.isWrapper; first | (rw [if_pos (by decide +kernel)]; kernel_rfl) | (rw [if_neg (by decide +kernel)]; exact ⟨rfl, rfl⟩))
    (fun os started H enc _ F => by rw [OpenClaim.pre_eq_preRow]; exact settingsBack_step os started H enc F)
theorem settingsBack_plain (f : FuncId) (fn : Func) (hf : Tryz.pinned.checked.prog.funcNamed "inlay/inlaylaw23.SettingsBack" = some f) (hfn : Tryz.pinned.checked.prog.funcs[f]? = some fn) :
    true = Tryz.pinned.checked.prog.looks [] ∧ ∀ (j : Nat) t, fn.params[j]? = some t → Tryz.pinned.checked.prog.wantsStandIn t = false := by
  obtain rfl : f = 6 := Option.some.inj ((show Tryz.prog.funcNamed "inlay/inlaylaw23.SettingsBack" = some 6 by kernel_rfl).symm.trans hf) |>.symm
  obtain rfl : fn = Tryz.f6 := (Option.some.inj (Tryz.func6.symm.trans hfn)).symm
  refine ⟨by kernel_rfl, fun j t ht => ?_⟩
  have hall : Tryz.f6.params.all (fun t => !(Tryz.prog.wantsStandIn t)) = true := by kernel_rfl
  have := (Array.all_eq_true_iff_forall_mem.1 hall) t (Array.mem_of_getElem? ht)
  have h2 : Tryz.prog.wantsStandIn t = false := by simpa using this
  exact h2
theorem settingsBack_card : Rows.SettingsBackCardSaid :=
  Claim7.holds_tied_plain_at .later [] _ _ _ _ settingsBack_said (fun _ h => by cases h) (by kernel_rfl) (fun _ h => by cases h) settingsBack_row_tie rfl ⟨rfl, rfl⟩ (by kernel_rfl) rfl settingsBack_plain (by kernel_rfl)
end Go.Proofs.YtpbgihhfcdggkaaGreatDoor
end
