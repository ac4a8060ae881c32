/-
  Joined texts: SZc: Settings: the law Others.
  Z6: The law inlaylaw23.SettingsOthers returns true for every input, and each argument reads behind the call as it read before: a value whose name no rule has is unchanged, forwards; and if it is changed, or removed, after that, it is so after going back, too, while all other values are restored.
  Conditions: the package variables that the row lists hold, when the call begins, what the program's text lays there (the card ties them); no other narrowing.
-/
import Derived.Test.YtpbgihhfcdggkaaGreatDoorQE
import Derived.Test.YtpbgihhfcdggkaaGreatDoorQC
import Derived.SevenTiedAt
section
namespace Go.Proofs.YtpbgihhfcdggkaaGreatDoor
open Go.RowKit V
set_option maxRecDepth 100000
set_option maxHeartbeats 4000000
set_option linter.unusedSimpArgs false
set_option linter.unusedVariables false
attribute [local irreducible] V.Sat V.DSat V.SatP V.ASat V.AOp
theorem getB_same {s t : SetL} {n : Nm} (h1 : getV t.vals n = getV s.vals n) (h2 : hasV t.vals n = hasV s.vals n) : getB t n = getB s n := by
  unfold getB
  rw [h1, h2]
section
variable {a b : TypeId} {p q : Value}
theorem oth_spec (x : Raw) (hx : RawOk x) (L : List Quad) (hL : ∀ q ∈ L, QuadOk q) (w : Int × Int) (hw : PairOk w) : Fun Tryz.prog (Γs a b p q) 8 [x.v, .ro (quadE L), .agg [.int .u8 w.1, .int .u8 w.2]] (.bool true) := by
  have hup := sanity_spec (a := a) (b := b) (p := p) (q := q)
  have hM := Fun.weak (Γ := Γs a b p q) (made_spec x hx)
  have hs := made_ok' x hx
  have hp0 : pureE (quadE L) := fun _ _ => by simp [pureL, pureS, pureE]
  have hp1 := pur_pair x.vals
  have hp2 := pur_pair x.kept
  generalize madeS x = s at hM hs
  have hnv := hs.nv
  have hnk := hs.nk
  have hF := Fun.weak (Γ := Γs a b p q) (fit_spec s hs.valid.rise (by omega) (by omega) L hL 8 (by decide))
  have hr := fit_ok s L hL 8
  obtain ⟨t, hrun⟩ : ∃ t, runL doS s (fitN s L 8) = some t := fitS_run _ s
  generalize fitN s L 8 = R at hF hr hrun
  obtain ⟨⟨w0, w1⟩, ⟨w2, w3⟩⟩ := hw
  have hC := Fun.weak (Γ := Γs a b p q) (call_spec w.1 w0 w1)
  obtain ⟨c1, c2⟩ := call_ok w.1 w0
  generalize callN w.1 = n at hC c1 c2
  have hlen := hr.len
  have hpr := pur_rule R
  have q1 := pur_val s.vals
  have q2 := pur_val s.kept
  refine Fun.mk 8 Tryz.func8 rfl Tryz.ntmps8 rfl rfl fun T w0 => ?_
  repeat' (first
    | ((with_reducible apply Sat.run (X := X64)); exact rfl; (first | exact True.intro | (exact phi) | skip))
    | ((with_reducible apply Sat.drawn); kernel_rfl)
    | ((with_reducible apply DSat.run (X := X64)); exact rfl; (first | exact True.intro | (exact phi) | skip))
    | ((with_reducible apply DSat.fin); kernel_rfl)
    | ((with_reducible apply Sat.call0 (hup)); exact rfl; exact rfl; kernel_rfl; exact rfl)
    | ((with_reducible apply Sat.call (hM)); exact rfl; exact rfl; kernel_rfl; (exact cnvX); exact rfl)
    | ((with_reducible apply DSat.call (hF)); exact rfl; exact rfl; kernel_rfl; (exact cnvX); exact rfl)
    | ((with_reducible apply DSat.callR (hC)); exact rfl; exact rfl; exact rfl; kernel_rfl; (exact cnvX); exact rfl) | fail)
  apply Sat.loop (α := Nat) (fun x => x ≤ R.length ∧ ∀ i, i < x → (R.getD i r00).name ≠ n ∧ (R.getD i r00).to ≠ n) (fun x => R.length - x) 0 (fun x => [(11, .int .i64 (x : Int))]) (fun _ => []) [] [] 0
  · intro x; exact rfl
  · intro x; exact rfl
  · exact rfl
  · exact rfl
  · ((repeat' (first | exact AllP.nil | with_reducible refine AllP.cons ?_ ?_)) <;> first | exact rfl | exact trivial | exact Int.natCast_add_one _ | exact ⟨rfl, rfl⟩ | exact ⟨rfl, rfl, rfl⟩ | exact ⟨rfl, rfl, rfl, rfl⟩ | exact ⟨rfl, .inl rfl⟩ | exact ⟨rfl, .inr rfl⟩ | exact pur | (intro _; exact rfl) | (intro _; exact trivial) | (intro _; exact pur) | first | exact pur_val _ | exact pur_rule _ | exact hp0 | exact hp1 | exact hp2 | (intro _ _; simp [pureL, pureS, pureE]; done))
  · exact ⟨Nat.zero_le _, fun i hi => by omega⟩
  · rintro i ⟨i1, i2⟩
    by_cases hi : i < R.length
    · have hcc : (bif decide ((R.getD (i : Int).toNat r00).name = n) then true else decide ((R.getD (i : Int).toNat r00).to = n)) = (decide ((R.getD i r00).name = n) || decide ((R.getD i r00).to = n)) := by
        rw [Int.toNat_natCast]
        cases decide ((R.getD i r00).name = n) <;> rfl
      repeat' (first
        | ((with_reducible apply Sat.run (X := X64)); exact rfl; (first | exact True.intro | (exact phi) | skip))
        | ((with_reducible apply Sat.cond_pt); exact rfl; (try dsimp only [V.EV.sub, V.EV.len]); first | assumption | omega)
        | ((with_reducible apply Sat.cond); exact rfl; all_goals intro h) | fail)
      · (refine Sat.fin (Sat.end1 rfl rfl rfl True.intro (.refl _ purX) (by first | exact .inl rfl | exact .inr rfl) (fun _ h => h)) ?_; rfl)
      · have h' : (bif decide ((R.getD (i : Int).toNat r00).name = n) then true else decide ((R.getD (i : Int).toNat r00).to = n)) = false := h
        rw [hcc, Bool.or_eq_false_iff, decide_eq_false_iff_not, decide_eq_false_iff_not] at h'
        refine Sat.back (i + 1) [] rfl ?_ ?_ ?_
        · ((repeat' (first | exact AllP.nil | with_reducible refine AllP.cons ?_ ?_)) <;> first | exact rfl | exact trivial | exact Int.natCast_add_one _ | exact ⟨rfl, rfl⟩ | exact ⟨rfl, rfl, rfl⟩ | exact ⟨rfl, rfl, rfl, rfl⟩ | exact ⟨rfl, .inl rfl⟩ | exact ⟨rfl, .inr rfl⟩ | exact pur | (intro _; exact rfl) | (intro _; exact trivial) | (intro _; exact pur) | first | exact pur_val _ | exact pur_rule _ | exact hp0 | exact hp1 | exact hp2 | (intro _ _; simp [pureL, pureS, pureE]; done))
        · refine ⟨hi, fun j hj => ?_⟩
          rcases Nat.lt_succ_iff_lt_or_eq.1 hj with h1 | rfl
          · exact i2 j h1
          · exact h'
        · omega
    · have hiR : i = R.length := by omega
      subst hiR
      have hno : ∀ r ∈ R, r.name ≠ n ∧ (r.kind = 1 → r.to ≠ n) := fun r hm => by
        obtain ⟨j, hj, e⟩ := List.mem_iff_getElem.1 hm
        have := i2 j hj
        rw [List.getD_eq_getElem?_getD, List.getElem?_eq_getElem hj, Option.getD_some, e] at this
        exact ⟨this.1, fun _ => this.2⟩
      obtain ⟨_, bv, _⟩ := back_law hs.valid hnv hnk R hr.right hr.len hrun 7 (by decide) (by decide)
      have hn0 : n ≠ [] := nmB_ne c1
      by_cases hev : w.2.tmod 2 = 0
      · obtain ⟨o1, o2, o3, o4⟩ := others_law hs.valid callT (by decide) hs.names hnk R hr.right hr.names hr.len hrun n c2 c1 hno (some [110, 101, 119]) (fun y hy => by cases hy; decide)
        have h1 := Fun.weak (Γ := Γs a b p q) (Fwd_spec s R 7 (by omega))
        rw [o1] at h1
        have g1 := Fun.weak (Γ := Γs a b p q) (Get_spec s n hs.valid.rise (by omega))
        have g2 := Fun.weak (Γ := Γs a b p q) (Get_spec (verS 7 t) n bv.rise (by have := bv.few; omega))
        rw [getB_same (s := s) (t := verS 7 t) o2 o3] at g2
        have u1 := Fun.weak (Γ := Γs a b p q) (Out_spec (verS 7 t).vals n bv.rise (by have := bv.few; omega))
        have u2 := Fun.weak (Γ := Γs a b p q) (Out_spec s.vals n hs.valid.rise (by omega))
        have h2 := Fun.weak (Γ := Γs a b p q) (Bck_spec (modS n (some [110, 101, 119]) (verS 7 t)) R s.version (by omega))
        rw [o4] at h2
        have h3 := Fun.weak (Γ := Γs a b p q) (same_spec (modS n (some [110, 101, 119]) s) (modS n (some [110, 101, 119]) s))
        rw [(sameS_iff _ _).2 rfl] at h3
        have y1 := Fun.weak (Γ := Γs a b p q) (Into_yes (delV (verS 7 t).vals n) ⟨n, [110, 101, 119]⟩ hn0 (Nat.le_trans (List.length_filter_le ..) (by have := bv.few; omega)))
        have y2 := Fun.weak (Γ := Γs a b p q) (Into_yes (delV s.vals n) ⟨n, [110, 101, 119]⟩ hn0 (Nat.le_trans (List.length_filter_le ..) (by omega)))
        have q3 := pur_val (delV s.vals n)
        have q4 := pur_val (delV (verS 7 t).vals n)
        have q7 := pur_val (insV (delV s.vals n) ⟨n, [110, 101, 119]⟩)
        have q8 := pur_val (insV (delV (verS 7 t).vals n) ⟨n, [110, 101, 119]⟩)
        have q5 := pur_val (verS 7 t).kept
        have q6 := pur_val (verS 7 t).vals
        repeat' (first
          | ((with_reducible apply Sat.run (X := X64)); exact rfl; (first | exact True.intro | (exact phi) | skip))
          | ((with_reducible apply Sat.cond_f); exact rfl)
          | ((with_reducible apply Sat.cond_pt); exact rfl; (try dsimp only [V.EV.sub, V.EV.len]); first | assumption | omega)
          | ((with_reducible apply Sat.cond_pf); exact rfl; (try dsimp only [V.EV.sub, V.EV.len]); first | assumption | omega)
          | ((with_reducible apply Sat.cond); exact rfl; all_goals intro h)
          | ((with_reducible apply Sat.call (h1)); exact rfl; exact rfl; kernel_rfl; (exact cnvX); exact rfl)
          | ((with_reducible apply Sat.callR (g1)); exact rfl; exact rfl; exact rfl; kernel_rfl; (exact cnvX); exact rfl)
          | ((with_reducible apply Sat.callR (g2)); exact rfl; exact rfl; exact rfl; kernel_rfl; (exact cnvX); exact rfl)
          | ((with_reducible apply Sat.call (u1)); exact rfl; exact rfl; kernel_rfl; (exact cnvX); exact rfl)
          | ((with_reducible apply Sat.call (u2)); exact rfl; exact rfl; kernel_rfl; (exact cnvX); exact rfl)
          | ((with_reducible apply Sat.call (y1)); exact rfl; exact rfl; kernel_rfl; (exact cnvX); exact rfl)
          | ((with_reducible apply Sat.call (y2)); exact rfl; exact rfl; kernel_rfl; (exact cnvX); exact rfl)
          | ((with_reducible apply Sat.call (h2)); exact rfl; exact rfl; kernel_rfl; (exact cnvX); exact rfl)
          | ((with_reducible apply Sat.callG1 (h3)); exact rfl; exact rfl; exact rfl; exact rfl; kernel_rfl; (intro hG; (exact cnvX)); exact rfl) | fail)
        · exfalso
          simp at h
        · (refine Sat.fin (Sat.end1 rfl rfl rfl True.intro (.refl _ purX) (by first | exact .inl rfl | exact .inr rfl) (fun _ h => h)) ?_; (simp))
      · obtain ⟨o1, o2, o3, o4⟩ := others_law hs.valid callT (by decide) hs.names hnk R hr.right hr.names hr.len hrun n c2 c1 hno none (fun y hy => by cases hy)
        have h1 := Fun.weak (Γ := Γs a b p q) (Fwd_spec s R 7 (by omega))
        rw [o1] at h1
        have g1 := Fun.weak (Γ := Γs a b p q) (Get_spec s n hs.valid.rise (by omega))
        have g2 := Fun.weak (Γ := Γs a b p q) (Get_spec (verS 7 t) n bv.rise (by have := bv.few; omega))
        rw [getB_same (s := s) (t := verS 7 t) o2 o3] at g2
        have u1 := Fun.weak (Γ := Γs a b p q) (Out_spec (verS 7 t).vals n bv.rise (by have := bv.few; omega))
        have u2 := Fun.weak (Γ := Γs a b p q) (Out_spec s.vals n hs.valid.rise (by omega))
        have h2 := Fun.weak (Γ := Γs a b p q) (Bck_spec (modS n none (verS 7 t)) R s.version (by omega))
        rw [o4] at h2
        have h3 := Fun.weak (Γ := Γs a b p q) (same_spec (modS n none s) (modS n none s))
        rw [(sameS_iff _ _).2 rfl] at h3
        have q3 := pur_val (delV s.vals n)
        have q4 := pur_val (delV (verS 7 t).vals n)
        have q5 := pur_val (verS 7 t).kept
        have q6 := pur_val (verS 7 t).vals
        repeat' (first
          | ((with_reducible apply Sat.run (X := X64)); exact rfl; (first | exact True.intro | (exact phi) | skip))
          | ((with_reducible apply Sat.cond_f); exact rfl)
          | ((with_reducible apply Sat.cond_pf); exact rfl; (try dsimp only [V.EV.sub, V.EV.len]); first | assumption | omega)
          | ((with_reducible apply Sat.cond); exact rfl; all_goals intro h)
          | ((with_reducible apply Sat.call (h1)); exact rfl; exact rfl; kernel_rfl; (exact cnvX); exact rfl)
          | ((with_reducible apply Sat.callR (g1)); exact rfl; exact rfl; exact rfl; kernel_rfl; (exact cnvX); exact rfl)
          | ((with_reducible apply Sat.callR (g2)); exact rfl; exact rfl; exact rfl; kernel_rfl; (exact cnvX); exact rfl)
          | ((with_reducible apply Sat.call (u1)); exact rfl; exact rfl; kernel_rfl; (exact cnvX); exact rfl)
          | ((with_reducible apply Sat.call (u2)); exact rfl; exact rfl; kernel_rfl; (exact cnvX); exact rfl)
          | ((with_reducible apply Sat.call (h2)); exact rfl; exact rfl; kernel_rfl; (exact cnvX); exact rfl)
          | ((with_reducible apply Sat.callG1 (h3)); exact rfl; exact rfl; exact rfl; exact rfl; kernel_rfl; (intro hG; (exact cnvX)); exact rfl) | fail)
        · exfalso
          simp at h
        · (refine Sat.fin (Sat.end1 rfl rfl rfl True.intro (.refl _ purX) (by first | exact .inl rfl | exact .inr rfl) (fun _ h => h)) ?_; (simp))
end
end Go.Proofs.YtpbgihhfcdggkaaGreatDoor
end
section
namespace Go.Proofs.YtpbgihhfcdggkaaGreatDoor
open Go.RowKit Go.ChangeShapes Go.WideShapes V
set_option maxRecDepth 100000
set_option maxHeartbeats 8000000
theorem settingsOthers_step (os : Os) (started : os.Started) (H : Type) (enc : TypeId × Value → H) (F : Stop.Interp) :
    ReturnsInHanded {} Tryz.checked os 8 .any ((OpenSpec.ofChange Rows.settingsOthersSpec).preRow enc Tryz.prog Tryz.f8 Rows.settingsOthersRow.domain false Rows.settingsOthersRow.laid) (((OpenSpec.ofChange Rows.settingsOthersSpec).at F).post enc Tryz.prog Tryz.f8 false true false false) := by
  refine law_step2 (C := Tryz.checked) (fn := Tryz.f8) (s := OpenSpec.ofChange Rows.settingsOthersSpec) (F := F) (tb := 4) Γw own started (by kernel_rfl) Tryz.func8 laidOut (by kernel_rfl) (by kernel_rfl) (by kernel_rfl) Tryz.underlying4 rfl ?_
    (row_witness (World.laidAll Tryz.prog os tabs_laid) #[.agg #[.int .u16 0, .slice none 0 0, .slice none 0 0], .slice none 0 0, .agg #[.int .u8 0, .int .u8 0]] (World.laidAll_os _ _ _) (by kernel_rfl) (by kernel_rfl) (by kernel_rfl) (by kernel_rfl) (by kernel_rfl) (door_met os _)) tabs_glob ?_
  · intro ds hl
    obtain ⟨d1, d2, d3, rfl⟩ := list_len3 hl
    rfl
  · intro W vs ds hl ht hk
    obtain ⟨d1, d2, d3, rfl⟩ := list_len3 hl
    refine Fun.facts fun hf => ?_
    show Fun _ _ _ [rawSV d1, .ro (quadsSV (eOf d2)), .agg [.int .u8 (iOf (nthD (ptsD d3) 0)), .int .u8 (iOf (nthD (ptsD d3) 1))]] _
    obtain ⟨⟨h1, ⟨_, h2⟩, ⟨_, h3⟩, _⟩, ⟨_, h4⟩, ⟨k1, k2, _⟩, _⟩ := hf
    rw [rawSV_eq, quadsSV_eq]
    exact oth_spec _ (raw_ok _ h1 h2 h3) _ (quads_ok _ h4) (pairD d3) ⟨u8_lt k1, u8_lt k2⟩
theorem settingsOthers_said : Rows.SettingsOthersSaid :=
  OpenClaim.holds_of_cond 8 Tryz.f8 rfl rfl rfl rfl rfl rfl rfl ⟨rfl, rfl, rfl, rfl, rfl⟩ rfl rfl rfl rfl rfl (by kernel_rfl) Tryz.func8 (by kernel_rfl)
    (of_decide_eq_true (by kernel_rfl)) (by unfold Func.isWrapper; first | (rw [if_pos (by decide +kernel)]; kernel_rfl) | (rw [if_neg (by decide +kernel)]; exact ⟨rfl, rfl⟩))
    (fun os started H enc _ F => by rw [OpenClaim.pre_eq_preRow]; exact settingsOthers_step os started H enc F)
theorem settingsOthers_plain (f : FuncId) (fn : Func) (hf : Tryz.pinned.checked.prog.funcNamed "inlay/inlaylaw23.SettingsOthers" = some f) (hfn : Tryz.pinned.checked.prog.funcs[f]? = some fn) :
    true = Tryz.pinned.checked.prog.looks [] ∧ ∀ (j : Nat) t, fn.params[j]? = some t → Tryz.pinned.checked.prog.wantsStandIn t = false := by
  obtain rfl : f = 8 := Option.some.inj ((show Tryz.prog.funcNamed "inlay/inlaylaw23.SettingsOthers" = some 8 by kernel_rfl).symm.trans hf) |>.symm
  obtain rfl : fn = Tryz.f8 := (Option.some.inj (Tryz.func8.symm.trans hfn)).symm
  refine ⟨by kernel_rfl, fun j t ht => ?_⟩
  have hall : Tryz.f8.params.all (fun t => !(Tryz.prog.wantsStandIn t)) = true := by kernel_rfl
  have := (Array.all_eq_true_iff_forall_mem.1 hall) t (Array.mem_of_getElem? ht)
  have h2 : Tryz.prog.wantsStandIn t = false := by simpa using this
  exact h2
theorem settingsOthers_card : Rows.SettingsOthersCardSaid :=
  Claim7.holds_tied_plain_at .later [] _ _ _ _ settingsOthers_said (fun _ h => by cases h) (by kernel_rfl) (fun _ h => by cases h) settingsOthers_row_tie rfl ⟨rfl, rfl⟩ (by kernel_rfl) rfl settingsOthers_plain (by kernel_rfl)
end Go.Proofs.YtpbgihhfcdggkaaGreatDoor
end
