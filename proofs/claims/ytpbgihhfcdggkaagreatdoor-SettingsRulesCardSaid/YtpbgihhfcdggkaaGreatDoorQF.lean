/-
  Joined texts: SZb: Settings: the law Rules.
  Z5: The law inlaylaw23.SettingsRules returns true for every input, and each argument reads behind the call as it read before: after a Rename, the value stands under its new name alone; after a Put, it is there; after a Drop, it is not; what was there before is kept last, or nothing.
  Conditions: the package variables that the row lists hold, when the call begins, what the program's text lays there (the card ties them); no other narrowing.
-/
import Derived.Test.YtpbgihhfcdggkaaGreatDoorQE
import Derived.Test.YtpbgihhfcdggkaaGreatDoorQC
import Derived.SevenTiedAt
section
namespace Go.Proofs.YtpbgihhfcdggkaaGreatDoor
open Go.RowKit V
set_option maxRecDepth 100000
set_option maxHeartbeats 4000000
set_option linter.unusedSimpArgs false
set_option linter.unusedVariables false
attribute [local irreducible] V.Sat V.DSat V.SatP V.ASat V.AOp
theorem fwd1 {s : SetL} (hs : SetOk s) {r : RuleL} (hr : rightR r = true) : (doS s r = none → fwdS s [r] s.version = (zeroS, 231)) ∧ ∀ t, doS s r = some t → fwdS s [r] s.version = (verS s.version t, 0) := by
  have h1 : ¬ (validS s = false ∨ ¬ (0 ≤ s.version ∧ s.version ≤ 60000)) := by
    rw [(validS_iff s).2 hs.valid]
    have := hs.valid.ver
    simp
    omega
  have h2 : ¬ ¬ (([r] : List RuleL).all rightR = true ∧ ([r] : List RuleL).length ≤ 8) := by simp [hr]
  have hnv := hs.nv
  have hnk := hs.nk
  refine ⟨fun h => ?_, fun t h => ?_⟩
  · unfold fwdS migS
    rw [if_neg h1, if_neg h2, runL, h]
  · obtain ⟨l1, l2, _⟩ := doS_len r h
    unfold fwdS migS
    rw [if_neg h1, if_neg h2, runL, h]
    dsimp only [runL]
    rw [if_neg (by omega)]
theorem getB_yes {s : SetL} {n : Nm} (h : hasV s.vals n = true) : getB s n = ((getV s.vals n).val, 0) := by unfold getB; rw [if_pos h]
theorem getB_no {s : SetL} {n : Nm} (h : hasV s.vals n = false) : getB s n = ([], 231) := by unfold getB; rw [if_neg (by rw [h]; simp)]
section
variable {a b : TypeId} {p q : Value}
theorem rlaw_spec (x : Raw) (hx : RawOk x) (y : Quad) (hy : QuadOk y) : Fun Tryz.prog (Γs a b p q) 7 [x.v, .agg (quadP y)] (.bool true) := by
  have hup := sanity_spec (a := a) (b := b) (p := p) (q := q)
  have hM := Fun.weak (Γ := Γs a b p q) (made_spec x hx)
  have hs := made_ok' x hx
  have hp1 := pur_pair x.vals
  have hp2 := pur_pair x.kept
  generalize madeS x = s at hM hs
  have hR := Fun.weak (Γ := Γs a b p q) (rule_spec y hy)
  have hr := ruleN_ok y hy
  generalize ruleN y = r at hR hr
  have hnv := hs.nv
  have hnk := hs.nk
  have hok := (rightR_ok hr).1
  obtain ⟨f1, f2⟩ := fwd1 hs hr
  have hF := gx2 (litF 1 (3 + 1) [ruleP r]) (Fun.weak (Γ := Γs a b p q) (Fwd_spec s [r] s.version (by simp))) (fun i hi => match i, hi with | 0, _ => rfl)
  have hpl : pureE (.g 1 (3 + 1) (litF 1 (3 + 1) [ruleP r])) := pure_lit1 _ (by simp [pureL, pureS, pureE])
  have g1 := Fun.weak (Γ := Γs a b p q) (Get_spec s r.name hs.valid.rise (by omega))
  have q1 := pur_val s.vals
  have q2 := pur_val s.kept
  refine Fun.mk 8 Tryz.func7 rfl Tryz.ntmps7 rfl rfl fun T w0 => ?_
  by_cases k1 : r.kind = 1
  · have g2 := Fun.weak (Γ := Γs a b p q) (Get_spec s r.to hs.valid.rise (by omega))
    rcases ren_law (s := s) r hr k1 with ⟨hn, hd⟩ | ⟨hA, hB, l, hd, l1, l2, l3, l4⟩
    · rw [f1 hd] at hF
      repeat' (first
        | ((with_reducible apply Sat.run (X := X64)); exact rfl; (first | exact True.intro | (exact phi) | skip))
        | ((with_reducible apply Sat.drawn); kernel_rfl)
        | ((with_reducible apply DSat.run (X := X64)); exact rfl; (first | exact True.intro | (exact phi) | skip))
        | ((with_reducible apply DSat.fin); kernel_rfl)
        | ((with_reducible apply Sat.call0 (hup)); exact rfl; exact rfl; kernel_rfl; exact rfl)
        | ((with_reducible apply DSat.call (hM)); exact rfl; exact rfl; kernel_rfl; (exact cnvX); exact rfl)
        | ((with_reducible apply DSat.callR (hR)); exact rfl; exact rfl; exact rfl; kernel_rfl; (exact cnvX); exact rfl)
        | ((with_reducible apply Sat.callR (g1)); exact rfl; exact rfl; exact rfl; kernel_rfl; (exact cnvX); exact rfl) | fail)
      refine Sat.freezeR true 4 rfl ?_ ?_
      · (repeat' (first | exact AllP.nil | with_reducible refine AllP.cons ?_ ?_)) <;> first | exact rfl | exact hpl | exact trivial | exact ⟨rfl, rfl, rfl, rfl⟩ | exact .inl ⟨rfl, rfl, rfl⟩ | exact pur_val _ | exact pur_pair _
      have hc : (bif decide ((getB s r.name).2 ≠ 0) then true else decide ((getB s r.to).2 = 0)) = true := by
        cases hA : hasV s.vals r.name with
        | false => rw [getB_no hA]; rfl
        | true =>
          cases hB : hasV s.vals r.to with
          | false => exact absurd ⟨hA, hB⟩ hn
          | true => rw [getB_yes hA, getB_yes hB]; rfl
      repeat' (first
        | (rw [hc])
        | ((with_reducible apply Sat.run (X := X64)); exact rfl; (first | exact True.intro | (exact phi) | skip))
        | ((with_reducible apply Sat.cond_t); exact rfl)
        | ((with_reducible apply Sat.cond_pt); exact rfl; (try dsimp only [V.EV.sub, V.EV.len]); first | assumption | omega)
        | ((with_reducible apply Sat.call (hF)); exact rfl; exact rfl; kernel_rfl; (exact cnvX); exact rfl)
        | ((with_reducible apply Sat.callR (g2)); exact rfl; exact rfl; exact rfl; kernel_rfl; (exact cnvX); exact rfl) | fail)
      (refine Sat.fin (Sat.end1 rfl rfl rfl True.intro (.refl _ purX) (by first | exact .inl rfl | exact .inr rfl) (fun _ h => h)) ?_; (simp))
    · rw [f2 _ hd] at hF
      have e3 : l.length = s.vals.length := l4 hs.valid.rise
      have hrl : Rising l := do_rise (s := s) hs.valid.rise r hd
      have g3 := Fun.weak (Γ := Γs a b p q) (Get_spec (verS s.version ⟨s.version, l, s.kept⟩) r.name hrl (by show l.length ≤ _; omega))
      have g4 := Fun.weak (Γ := Γs a b p q) (Get_spec (verS s.version ⟨s.version, l, s.kept⟩) r.to hrl (by show l.length ≤ _; omega))
      rw [getB_yes hA] at g1
      rw [getB_no hB] at g2
      rw [getB_no (s := verS s.version ⟨s.version, l, s.kept⟩) l1] at g3
      rw [getB_yes (s := verS s.version ⟨s.version, l, s.kept⟩) l2] at g4
      have e4 : (getV (verS s.version ⟨s.version, l, s.kept⟩).vals r.to).val = (getV s.vals r.name).val := l3
      rw [e4] at g4
      have q3 := pur_val l
      repeat' (first
        | ((with_reducible apply Sat.run (X := X64)); exact rfl; (first | exact True.intro | (exact phi) | skip))
        | ((with_reducible apply Sat.drawn); kernel_rfl)
        | ((with_reducible apply DSat.run (X := X64)); exact rfl; (first | exact True.intro | (exact phi) | skip))
        | ((with_reducible apply DSat.fin); kernel_rfl)
        | ((with_reducible apply Sat.call0 (hup)); exact rfl; exact rfl; kernel_rfl; exact rfl)
        | ((with_reducible apply DSat.call (hM)); exact rfl; exact rfl; kernel_rfl; (exact cnvX); exact rfl)
        | ((with_reducible apply DSat.callR (hR)); exact rfl; exact rfl; exact rfl; kernel_rfl; (exact cnvX); exact rfl)
        | ((with_reducible apply Sat.callR (g1)); exact rfl; exact rfl; exact rfl; kernel_rfl; (exact cnvX); exact rfl) | fail)
      refine Sat.freezeR true 4 rfl ?_ ?_
      · (repeat' (first | exact AllP.nil | with_reducible refine AllP.cons ?_ ?_)) <;> first | exact rfl | exact hpl | exact trivial | exact ⟨rfl, rfl, rfl, rfl⟩ | exact .inl ⟨rfl, rfl, rfl⟩ | exact pur_val _ | exact pur_pair _
      repeat' (first
        | ((with_reducible apply Sat.run (X := X64)); exact rfl; (first | exact True.intro | (exact phi) | skip))
        | ((with_reducible apply Sat.cond_f); exact rfl)
        | ((with_reducible apply Sat.cond_pt); exact rfl; (try dsimp only [V.EV.sub, V.EV.len]); first | assumption | omega)
        | ((with_reducible apply Sat.call (hF)); exact rfl; exact rfl; kernel_rfl; (exact cnvX); exact rfl)
        | ((with_reducible apply Sat.callR (g2)); exact rfl; exact rfl; exact rfl; kernel_rfl; (exact cnvX); exact rfl)
        | ((with_reducible apply Sat.callR (g3)); exact rfl; exact rfl; exact rfl; kernel_rfl; (exact cnvX); exact rfl)
        | ((with_reducible apply Sat.callR (g4)); exact rfl; exact rfl; exact rfl; kernel_rfl; (exact cnvX); exact rfl) | fail)
      (refine Sat.fin (Sat.end1 rfl rfl rfl True.intro (.refl _ purX) (by first | exact .inl rfl | exact .inr rfl) (fun _ h => h)) ?_; (simp [verS, e3, EV.len]))
  · obtain ⟨l, hd, l1, l2⟩ := put_law (s := s) r k1
    rw [f2 _ hd] at hF
    have hrl : Rising l := do_rise (s := s) hs.valid.rise r hd
    have hll := (doS_len (s := s) r hd).1
    have hlen : l.length ≤ s.vals.length + 1 := hll
    have hK : ∃ A : SetL, A = verS s.version ⟨s.version, l, s.kept ++ [getV s.vals r.name]⟩ := ⟨_, rfl⟩
    obtain ⟨A, hA0⟩ := hK
    have a1 : A.vals = l := by rw [hA0]; rfl
    have hkl : A.kept.length = s.kept.length + 1 := by rw [hA0]; simp [verS]
    have eK : A.kept.getD ((A.kept.length : Int) - 1).toNat v00 = getV s.vals r.name := by
      have e0 : A.kept = s.kept ++ [getV s.vals r.name] := by rw [hA0]; rfl
      rw [hkl, e0, show (((s.kept.length + 1 : Nat) : Int) - 1).toNat = s.kept.length by omega, List.getD_eq_getElem?_getD, List.getElem?_append_right (Nat.le_refl _), Nat.sub_self]
      rfl
    rw [← hA0] at hF
    dsimp only at hF
    have g3 := Fun.weak (Γ := Γs a b p q) (Get_spec A r.name (by rw [a1]; exact hrl) (by rw [a1]; omega))
    rw [← a1] at l1 l2
    have q3 := pur_val A.vals
    have q4 := pur_val A.kept
    clear hA0
    cases hA : hasV s.vals r.name with
    | true =>
      rw [getB_yes hA] at g1
      have hw : getV s.vals r.name = ⟨r.name, (getV s.vals r.name).val⟩ := by have h9 := (getV_yes _ _ hA).2; generalize getV s.vals r.name = w at h9 ⊢; cases w; cases h9; rfl
      repeat' (first
        | ((with_reducible apply Sat.run (X := X64)); exact rfl; (first | exact True.intro | (exact phi) | skip))
        | ((with_reducible apply Sat.drawn); kernel_rfl)
        | ((with_reducible apply DSat.run (X := X64)); exact rfl; (first | exact True.intro | (exact phi) | skip))
        | ((with_reducible apply DSat.fin); kernel_rfl)
        | ((with_reducible apply Sat.call0 (hup)); exact rfl; exact rfl; kernel_rfl; exact rfl)
        | ((with_reducible apply DSat.call (hM)); exact rfl; exact rfl; kernel_rfl; (exact cnvX); exact rfl)
        | ((with_reducible apply DSat.callR (hR)); exact rfl; exact rfl; exact rfl; kernel_rfl; (exact cnvX); exact rfl)
        | ((with_reducible apply Sat.callR (g1)); exact rfl; exact rfl; exact rfl; kernel_rfl; (exact cnvX); exact rfl) | fail)
      refine Sat.freezeR true 4 rfl ?_ ?_
      · (repeat' (first | exact AllP.nil | with_reducible refine AllP.cons ?_ ?_)) <;> first | exact rfl | exact hpl | exact trivial | exact ⟨rfl, rfl, rfl, rfl⟩ | exact .inl ⟨rfl, rfl, rfl⟩ | exact pur_val _ | exact pur_pair _
      by_cases k2 : r.kind = 2
      · rw [getB_yes (s := A) (l1.trans (decide_eq_true k2))] at g3
        repeat' (first
          | ((with_reducible apply Sat.run (X := X64)); exact rfl; (first | exact True.intro | (exact phi) | skip))
          | ((with_reducible apply Sat.cond_t); exact rfl)
          | ((with_reducible apply Sat.cond_pf); exact rfl; (try dsimp only [V.EV.sub, V.EV.len]); first | assumption | omega)
          | ((with_reducible apply Sat.cond); exact rfl; all_goals intro h)
          | ((with_reducible apply Sat.call (hF)); exact rfl; exact rfl; kernel_rfl; (exact cnvX); exact rfl)
          | ((with_reducible apply Sat.callR (g3)); exact rfl; exact rfl; exact rfl; kernel_rfl; (exact cnvX); exact rfl) | fail)
        · exfalso
          have h' : (bif !(decide ((A.kept.getD ((A.kept.length : Int) - 1).toNat v00).name = r.name) && (decide ((A.kept.getD ((A.kept.length : Int) - 1).toNat v00).val = (getV s.vals r.name).val) && true)) then true else decide ((0 : Int) = 0) != decide (r.kind = 2)) = true := h
          rw [eK] at h'
          generalize getV s.vals r.name = w at h' hw
          rw [hw] at h'
          simp [k2] at h'
        · trace_state
          (refine Sat.fin (Sat.end1 rfl rfl rfl True.intro (.refl _ purX) (by first | exact .inl rfl | exact .inr rfl) (fun _ h => h)) ?_; (simp [k2, l2]))
      · rw [getB_no (s := A) (l1.trans (decide_eq_false k2))] at g3
        repeat' (first
          | ((with_reducible apply Sat.run (X := X64)); exact rfl; (first | exact True.intro | (exact phi) | skip))
          | ((with_reducible apply Sat.cond_t); exact rfl)
          | ((with_reducible apply Sat.cond_pf); exact rfl; (try dsimp only [V.EV.sub, V.EV.len]); first | assumption | omega)
          | ((with_reducible apply Sat.cond); exact rfl; all_goals intro h)
          | ((with_reducible apply Sat.call (hF)); exact rfl; exact rfl; kernel_rfl; (exact cnvX); exact rfl)
          | ((with_reducible apply Sat.callR (g3)); exact rfl; exact rfl; exact rfl; kernel_rfl; (exact cnvX); exact rfl) | fail)
        · exfalso
          have h' : (bif !(decide ((A.kept.getD ((A.kept.length : Int) - 1).toNat v00).name = r.name) && (decide ((A.kept.getD ((A.kept.length : Int) - 1).toNat v00).val = (getV s.vals r.name).val) && true)) then true else decide ((231 : Int) = 0) != decide (r.kind = 2)) = true := h
          rw [eK] at h'
          generalize getV s.vals r.name = w at h' hw
          rw [hw] at h'
          simp [k2] at h'
        · trace_state
          (refine Sat.fin (Sat.end1 rfl rfl rfl True.intro (.refl _ purX) (by first | exact .inl rfl | exact .inr rfl) (fun _ h => h)) ?_; (simp [k2, l2]))
    | false =>
      rw [getB_no hA] at g1
      have hw := getV_no _ _ hA
      repeat' (first
        | ((with_reducible apply Sat.run (X := X64)); exact rfl; (first | exact True.intro | (exact phi) | skip))
        | ((with_reducible apply Sat.drawn); kernel_rfl)
        | ((with_reducible apply DSat.run (X := X64)); exact rfl; (first | exact True.intro | (exact phi) | skip))
        | ((with_reducible apply DSat.fin); kernel_rfl)
        | ((with_reducible apply Sat.call0 (hup)); exact rfl; exact rfl; kernel_rfl; exact rfl)
        | ((with_reducible apply DSat.call (hM)); exact rfl; exact rfl; kernel_rfl; (exact cnvX); exact rfl)
        | ((with_reducible apply DSat.callR (hR)); exact rfl; exact rfl; exact rfl; kernel_rfl; (exact cnvX); exact rfl)
        | ((with_reducible apply Sat.callR (g1)); exact rfl; exact rfl; exact rfl; kernel_rfl; (exact cnvX); exact rfl) | fail)
      refine Sat.freezeR true 4 rfl ?_ ?_
      · (repeat' (first | exact AllP.nil | with_reducible refine AllP.cons ?_ ?_)) <;> first | exact rfl | exact hpl | exact trivial | exact ⟨rfl, rfl, rfl, rfl⟩ | exact .inl ⟨rfl, rfl, rfl⟩ | exact pur_val _ | exact pur_pair _
      by_cases k2 : r.kind = 2
      · rw [getB_yes (s := A) (l1.trans (decide_eq_true k2))] at g3
        repeat' (first
          | ((with_reducible apply Sat.run (X := X64)); exact rfl; (first | exact True.intro | (exact phi) | skip))
          | ((with_reducible apply Sat.cond_f); exact rfl)
          | ((with_reducible apply Sat.cond_pf); exact rfl; (try dsimp only [V.EV.sub, V.EV.len]); first | assumption | omega)
          | ((with_reducible apply Sat.cond); exact rfl; all_goals intro h)
          | ((with_reducible apply Sat.call (hF)); exact rfl; exact rfl; kernel_rfl; (exact cnvX); exact rfl)
          | ((with_reducible apply Sat.callR (g3)); exact rfl; exact rfl; exact rfl; kernel_rfl; (exact cnvX); exact rfl) | fail)
        · exfalso
          have h' : (bif !(decide ((A.kept.getD ((A.kept.length : Int) - 1).toNat v00).name = ([] : Nm)) && (decide ((A.kept.getD ((A.kept.length : Int) - 1).toNat v00).val = ([] : Nm)) && true)) then true else decide ((0 : Int) = 0) != decide (r.kind = 2)) = true := h
          rw [eK] at h'
          generalize getV s.vals r.name = w at h' hw
          rw [hw] at h'
          simp [k2] at h'
        · trace_state
          (refine Sat.fin (Sat.end1 rfl rfl rfl True.intro (.refl _ purX) (by first | exact .inl rfl | exact .inr rfl) (fun _ h => h)) ?_; (simp [k2, l2]))
      · rw [getB_no (s := A) (l1.trans (decide_eq_false k2))] at g3
        repeat' (first
          | ((with_reducible apply Sat.run (X := X64)); exact rfl; (first | exact True.intro | (exact phi) | skip))
          | ((with_reducible apply Sat.cond_f); exact rfl)
          | ((with_reducible apply Sat.cond_pf); exact rfl; (try dsimp only [V.EV.sub, V.EV.len]); first | assumption | omega)
          | ((with_reducible apply Sat.cond); exact rfl; all_goals intro h)
          | ((with_reducible apply Sat.call (hF)); exact rfl; exact rfl; kernel_rfl; (exact cnvX); exact rfl)
          | ((with_reducible apply Sat.callR (g3)); exact rfl; exact rfl; exact rfl; kernel_rfl; (exact cnvX); exact rfl) | fail)
        · exfalso
          have h' : (bif !(decide ((A.kept.getD ((A.kept.length : Int) - 1).toNat v00).name = ([] : Nm)) && (decide ((A.kept.getD ((A.kept.length : Int) - 1).toNat v00).val = ([] : Nm)) && true)) then true else decide ((231 : Int) = 0) != decide (r.kind = 2)) = true := h
          rw [eK] at h'
          generalize getV s.vals r.name = w at h' hw
          rw [hw] at h'
          simp [k2] at h'
        · trace_state
          (refine Sat.fin (Sat.end1 rfl rfl rfl True.intro (.refl _ purX) (by first | exact .inl rfl | exact .inr rfl) (fun _ h => h)) ?_; (simp [k2, l2]))
end
end Go.Proofs.YtpbgihhfcdggkaaGreatDoor
end
section
namespace Go.Proofs.YtpbgihhfcdggkaaGreatDoor
open Go.RowKit Go.ChangeShapes Go.WideShapes V
set_option maxRecDepth 100000
set_option maxHeartbeats 8000000
theorem settingsRules_step (os : Os) (started : os.Started) (H : Type) (enc : TypeId × Value → H) (F : Stop.Interp) :
    ReturnsInHanded {} Tryz.checked os 7 .any ((OpenSpec.ofChange Rows.settingsRulesSpec).preRow enc Tryz.prog Tryz.f7 Rows.settingsRulesRow.domain false Rows.settingsRulesRow.laid) (((OpenSpec.ofChange Rows.settingsRulesSpec).at F).post enc Tryz.prog Tryz.f7 false true false false) := by
  refine law_step2 (C := Tryz.checked) (fn := Tryz.f7) (s := OpenSpec.ofChange Rows.settingsRulesSpec) (F := F) (tb := 4) Γw own started (by kernel_rfl) Tryz.func7 laidOut (by kernel_rfl) (by kernel_rfl) (by kernel_rfl) Tryz.underlying4 rfl ?_
    (row_witness (World.laidAll Tryz.prog os tabs_laid) #[.agg #[.int .u16 0, .slice none 0 0, .slice none 0 0], .agg #[.int .u8 0, .int .u8 0, .int .u8 0, .int .u8 0]] (World.laidAll_os _ _ _) (by kernel_rfl) (by kernel_rfl) (by kernel_rfl) (by kernel_rfl) (by kernel_rfl) (door_met os _)) tabs_glob ?_
  · intro ds hl
    obtain ⟨d1, d2, rfl⟩ := list_len2 hl
    rfl
  · intro W vs ds hl ht hk
    obtain ⟨d1, d2, rfl⟩ := list_len2 hl
    refine Fun.facts fun hf => ?_
    show Fun _ _ _ [rawSV d1, .agg [.int .u8 (iOf (nthD (ptsD d2) 0)), .int .u8 (iOf (nthD (ptsD d2) 1)), .int .u8 (iOf (nthD (ptsD d2) 2)), .int .u8 (iOf (nthD (ptsD d2) 3))]] _
    obtain ⟨⟨h1, ⟨_, h2⟩, ⟨_, h3⟩, _⟩, ⟨k1, k2, k3, k4, _⟩, _⟩ := hf
    rw [rawSV_eq]
    exact rlaw_spec _ (raw_ok _ h1 h2 h3) (quadD d2) ⟨u8_lt k1, u8_lt k2, u8_lt k3, u8_lt k4⟩
theorem settingsRules_said : Rows.SettingsRulesSaid :=
  OpenClaim.holds_of_cond 7 Tryz.f7 rfl rfl rfl rfl rfl rfl rfl ⟨rfl, rfl, rfl, rfl, rfl⟩ rfl rfl rfl rfl rfl (by kernel_rfl) Tryz.func7 (by kernel_rfl)
    (of_decide_eq_true (by kernel_rfl)) (by unfold Func.isWrapper; first | (rw [if_pos (by decide +kernel)]; kernel_rfl) | (rw [if_neg (by decide +kernel)]; exact ⟨rfl, rfl⟩))
    (fun os started H enc _ F => by rw [OpenClaim.pre_eq_preRow]; exact settingsRules_step os started H enc F)
theorem settingsRules_plain (f : FuncId) (fn : Func) (hf : Tryz.pinned.checked.prog.funcNamed "inlay/inlaylaw23.SettingsRules" = some f) (hfn : Tryz.pinned.checked.prog.funcs[f]? = some fn) :
    true = Tryz.pinned.checked.prog.looks [] ∧ ∀ (j : Nat) t, fn.params[j]? = some t → Tryz.pinned.checked.prog.wantsStandIn t = false := by
  obtain rfl : f = 7 := Option.some.inj ((show Tryz.prog.funcNamed "inlay/inlaylaw23.SettingsRules" = some 7 by kernel_rfl).symm.trans hf) |>.symm
  obtain rfl : fn = Tryz.f7 := (Option.some.inj (Tryz.func7.symm.trans hfn)).symm
  refine ⟨by kernel_rfl, fun j t ht => ?_⟩
  have hall : Tryz.f7.params.all (fun t => !(Tryz.prog.wantsStandIn t)) = true := by kernel_rfl
  have := (Array.all_eq_true_iff_forall_mem.1 hall) t (Array.mem_of_getElem? ht)
  have h2 : Tryz.prog.wantsStandIn t = false := by simpa using this
  exact h2
theorem settingsRules_card : Rows.SettingsRulesCardSaid :=
  Claim7.holds_tied_plain_at .later [] _ _ _ _ settingsRules_said (fun _ h => by cases h) (by kernel_rfl) (fun _ h => by cases h) settingsRules_row_tie rfl ⟨rfl, rfl⟩ (by kernel_rfl) rfl settingsRules_plain (by kernel_rfl)
end Go.Proofs.YtpbgihhfcdggkaaGreatDoor
end
