/-
  Joined texts: SN: Settings, the reference: check, Forward, Back.
  SO: Settings, the reference: Forward, Back.
  Cu: The engine: in a region that draws its order, a call by the contract of a function whose result is a new row of one's own.
  SZg: Settings: the law MatchesReference.
  Z1: The law inlaylaw23.SettingsMatchesReference returns true for every input, and each argument reads behind the call as it read before: Forward, Back and Get agree with the reference implementation, for right rules that fit or not, and one arbitrary rule.
  Conditions: the package variables that the row lists hold, when the call begins, what the program's text lays there (the card ties them); no other narrowing.
-/
import Derived.Test.YtpbgihhfcdggkaaGreatDoorQD
import Derived.Test.YtpbgihhfcdggkaaGreatDoorQE
import Derived.Test.YtpbgihhfcdggkaaGreatDoorQC
import Derived.SevenTiedAt
section
namespace Go.Proofs.YtpbgihhfcdggkaaGreatDoor
open Go.RowKit V
set_option maxRecDepth 100000
set_option maxHeartbeats 4000000
set_option linter.unusedSimpArgs false
set_option linter.unusedVariables false
attribute [local irreducible] V.Sat V.DSat V.SatP V.ASat V.AOp
def chkS (s : SetL) (L : List RuleL) (v : Int) : Int := if validS s = false ∨ ¬ (0 ≤ v ∧ v ≤ 60000) then 1 else if ¬ (L.all rightR = true ∧ L.length ≤ 8) then 230 else 0
theorem chk_spec (s : SetL) (L : List RuleL) (v : Int) (hL : L.length ≤ 1000000) : Fun Tryz.prog [] 38 [s.v, .ro (ruleE L), .int .i64 v] (.int .i64 (chkS s L v)) := by
  have h1 := ValidR_spec s
  have h2 := in_spec (Γ := []) v 0 60000
  have hpl := pur_rule L
  refine Fun.mk 6 Tryz.func38 rfl Tryz.ntmps38 rfl rfl fun T w0 => ?_
  by_cases hb : validS s = false ∨ ¬ (0 ≤ v ∧ v ≤ 60000)
  · have hc : (bif !validS s then true else !inB v 0 60000) = true := by
      rcases hb with h | h
      · rw [h]; rfl
      · have : inB v 0 60000 = false := by unfold inB; simp; omega
        rw [this]; cases validS s <;> rfl
    repeat' (first
        | ((with_reducible apply Sat.run (X := X64)); exact rfl; (first | exact True.intro | (exact phi) | skip))
        | ((with_reducible apply Sat.drawn); kernel_rfl)
        | ((with_reducible apply DSat.run (X := X64)); exact rfl; (first | exact True.intro | (exact phi) | skip))
        | ((with_reducible apply DSat.fin); kernel_rfl)
        | ((with_reducible apply Sat.cond_t); exact rfl)
        | ((with_reducible apply Sat.cond_f); exact rfl)
        | ((with_reducible apply Sat.cond_pt); exact rfl; (try dsimp only [V.EV.sub, V.EV.len]); first | assumption | omega)
        | ((with_reducible apply Sat.cond_pf); exact rfl; (try dsimp only [V.EV.sub, V.EV.len]); first | assumption | omega)
        | ((with_reducible apply Sat.cond_p); exact rfl; all_goals intro h)
        | ((with_reducible apply Sat.cond); exact rfl; all_goals intro h)
        | ((with_reducible refine (?_ : AllP _)); ((repeat' (first | exact AllP.nil | with_reducible refine AllP.cons ?_ ?_)) <;> (first | (intro hq; exact hq) | (dsimp only [V.EV.len]; omega) | (intro hq; dsimp only [V.EV.len]; omega) | (intro hq; exact absurd hq (by decide)))))
        | ((with_reducible apply Sat.callR (h1)); exact rfl; exact rfl; exact rfl; kernel_rfl; (exact cnvX); exact rfl)
        | ((with_reducible apply DSat.callR (h1)); exact rfl; exact rfl; exact rfl; kernel_rfl; (exact cnvX); exact rfl)
        | ((with_reducible apply Sat.callG1 (h2)); exact rfl; exact rfl; exact rfl; exact rfl; kernel_rfl; (intro hG; (exact cnvX)); exact rfl)
        | ((with_reducible apply DSat.callG1 (h2)); exact rfl; exact rfl; exact rfl; exact rfl; kernel_rfl; (intro hG; (exact cnvX)); exact rfl) | fail)
    · (refine Sat.fin (Sat.end1 rfl rfl rfl True.intro (.refl _ purX) (by first | exact .inl rfl | exact .inr rfl) (fun _ h => h)) ?_; (unfold chkS; rw [if_pos hb]))
    · exfalso
      have q := hc.symm.trans ‹_›
      cases q
  · have hc : (bif !validS s then true else !inB v 0 60000) = false := by
      simp only [not_or, Decidable.not_not, Bool.not_eq_false] at hb
      rw [hb.1]
      have : inB v 0 60000 = true := by unfold inB; simp; omega
      rw [this]; rfl
    repeat' (first
        | ((with_reducible apply Sat.run (X := X64)); exact rfl; (first | exact True.intro | (exact phi) | skip))
        | ((with_reducible apply Sat.drawn); kernel_rfl)
        | ((with_reducible apply DSat.run (X := X64)); exact rfl; (first | exact True.intro | (exact phi) | skip))
        | ((with_reducible apply DSat.fin); kernel_rfl)
        | ((with_reducible apply Sat.cond_t); exact rfl)
        | ((with_reducible apply Sat.cond_f); exact rfl)
        | ((with_reducible apply Sat.cond_pt); exact rfl; (try dsimp only [V.EV.sub, V.EV.len]); first | assumption | omega)
        | ((with_reducible apply Sat.cond_pf); exact rfl; (try dsimp only [V.EV.sub, V.EV.len]); first | assumption | omega)
        | ((with_reducible apply Sat.cond_p); exact rfl; all_goals intro h)
        | ((with_reducible apply Sat.cond); exact rfl; all_goals intro h)
        | ((with_reducible refine (?_ : AllP _)); ((repeat' (first | exact AllP.nil | with_reducible refine AllP.cons ?_ ?_)) <;> (first | (intro hq; exact hq) | (dsimp only [V.EV.len]; omega) | (intro hq; dsimp only [V.EV.len]; omega) | (intro hq; exact absurd hq (by decide)))))
        | ((with_reducible apply Sat.callR (h1)); exact rfl; exact rfl; exact rfl; kernel_rfl; (exact cnvX); exact rfl)
        | ((with_reducible apply DSat.callR (h1)); exact rfl; exact rfl; exact rfl; kernel_rfl; (exact cnvX); exact rfl)
        | ((with_reducible apply Sat.callG1 (h2)); exact rfl; exact rfl; exact rfl; exact rfl; kernel_rfl; (intro hG; (exact cnvX)); exact rfl)
        | ((with_reducible apply DSat.callG1 (h2)); exact rfl; exact rfl; exact rfl; exact rfl; kernel_rfl; (intro hG; (exact cnvX)); exact rfl) | fail)
    · exfalso
      have q := hc.symm.trans ‹_›
      cases q
    · clear h
      have hv1 : validS s = true ∧ 0 ≤ v ∧ v ≤ 60000 := by
        simp only [not_or, Decidable.not_not, Bool.not_eq_false] at hb
        exact hb
      by_cases hall : L.all rightR = true ∧ L.length ≤ 8
      · have ha := (all_iff L rightR r00).1 hall.1
        apply Sat.loop (α := Nat) (fun x => x ≤ L.length) (fun x => L.length - x) 0 (fun x => [(7, .int .i64 (x : Int))]) (fun _ => []) [] [] 0
        · intro x; exact rfl
        · intro x; exact rfl
        · exact rfl
        · exact rfl
        · ((repeat' (first | exact AllP.nil | with_reducible refine AllP.cons ?_ ?_)) <;> first | exact rfl | exact trivial | exact Int.natCast_add_one _ | exact ⟨rfl, rfl⟩ | exact ⟨rfl, rfl, rfl⟩ | exact ⟨rfl, rfl, rfl, rfl⟩ | exact ⟨rfl, .inl rfl⟩ | exact ⟨rfl, .inr rfl⟩ | exact pur | (intro _; exact rfl) | (intro _; exact trivial) | (intro _; exact pur) | first | exact hpl | exact pur_val _ | (intro _ _; simp [pureL, pureS, pureE]; done))
        · exact Nat.zero_le _
        · intro x x1
          by_cases hx : x < L.length
          · have h3 := RR_spec (L.getD (x : Int).toNat r00)
            rw [Int.toNat_natCast, ha x hx] at h3
            rw [← Int.toNat_natCast x] at h3
            have hc8 : decide ((8 : Int) ≤ (x : Int)) = false := decide_eq_false (by omega)
            repeat' (first
                | ((with_reducible apply Sat.run (X := X64)); exact rfl; (first | exact True.intro | (exact phi) | skip))
                | ((with_reducible apply Sat.drawn); kernel_rfl)
                | ((with_reducible apply DSat.run (X := X64)); exact rfl; (first | exact True.intro | (exact phi) | skip))
                | ((with_reducible apply DSat.fin); kernel_rfl)
                | ((with_reducible apply Sat.cond_t); exact rfl)
                | ((with_reducible apply Sat.cond_f); exact rfl)
                | ((with_reducible apply Sat.cond_pt); exact rfl; (try dsimp only [V.EV.sub, V.EV.len]); first | assumption | omega)
                | ((with_reducible apply Sat.cond_pf); exact rfl; (try dsimp only [V.EV.sub, V.EV.len]); first | assumption | omega)
                | ((with_reducible apply Sat.cond_p); exact rfl; all_goals intro h)
                | ((with_reducible apply Sat.cond); exact rfl; all_goals intro h)
                | ((with_reducible refine (?_ : AllP _)); ((repeat' (first | exact AllP.nil | with_reducible refine AllP.cons ?_ ?_)) <;> (first | (intro hq; exact hq) | (dsimp only [V.EV.len]; omega) | (intro hq; dsimp only [V.EV.len]; omega) | (intro hq; exact absurd hq (by decide)))))
                | ((with_reducible apply Sat.callG1 (h3)); exact rfl; exact rfl; exact rfl; exact rfl; kernel_rfl; (intro hG; (exact cnvX)); exact rfl)
                | ((with_reducible apply DSat.callG1 (h3)); exact rfl; exact rfl; exact rfl; exact rfl; kernel_rfl; (intro hG; (exact cnvX)); exact rfl) | fail)
            · exfalso
              have q : (bif decide ((8 : Int) ≤ (x : Int)) then true else !true) = true := ‹_›
              rw [hc8] at q
              cases q
            · refine Sat.back (x + 1) [] rfl ?_ ?_ ?_
              · ((repeat' (first | exact AllP.nil | with_reducible refine AllP.cons ?_ ?_)) <;> first | exact rfl | exact trivial | exact Int.natCast_add_one _ | exact ⟨rfl, rfl⟩ | exact ⟨rfl, rfl, rfl⟩ | exact ⟨rfl, rfl, rfl, rfl⟩ | exact ⟨rfl, .inl rfl⟩ | exact ⟨rfl, .inr rfl⟩ | exact pur | (intro _; exact rfl) | (intro _; exact trivial) | (intro _; exact pur) | first | exact hpl | exact pur_val _ | (intro _ _; simp [pureL, pureS, pureE]; done))
              · exact hx
              · omega
          · repeat' (first
                | ((with_reducible apply Sat.run (X := X64)); exact rfl; (first | exact True.intro | (exact phi) | skip))
                | ((with_reducible apply Sat.drawn); kernel_rfl)
                | ((with_reducible apply DSat.run (X := X64)); exact rfl; (first | exact True.intro | (exact phi) | skip))
                | ((with_reducible apply DSat.fin); kernel_rfl)
                | ((with_reducible apply Sat.cond_t); exact rfl)
                | ((with_reducible apply Sat.cond_f); exact rfl)
                | ((with_reducible apply Sat.cond_pt); exact rfl; (try dsimp only [V.EV.sub, V.EV.len]); first | assumption | omega)
                | ((with_reducible apply Sat.cond_pf); exact rfl; (try dsimp only [V.EV.sub, V.EV.len]); first | assumption | omega)
                | ((with_reducible apply Sat.cond_p); exact rfl; all_goals intro h)
                | ((with_reducible apply Sat.cond); exact rfl; all_goals intro h)
                | ((with_reducible refine (?_ : AllP _)); ((repeat' (first | exact AllP.nil | with_reducible refine AllP.cons ?_ ?_)) <;> (first | (intro hq; exact hq) | (dsimp only [V.EV.len]; omega) | (intro hq; dsimp only [V.EV.len]; omega) | (intro hq; exact absurd hq (by decide))))) | fail)
            (refine Sat.fin (Sat.end1 rfl rfl rfl True.intro (.refl _ purX) (by first | exact .inl rfl | exact .inr rfl) (fun _ h => h)) ?_; (unfold chkS; rw [if_neg hb, if_neg (not_not_intro hall)]))
      · have hbad : ¬ ∀ i, i < L.length → (rightR (L.getD i r00) && decide (i < 8)) = true := fun q => hall ⟨(all_iff L rightR r00).2 fun i hi => ((Bool.and_eq_true _ _).mp (q i hi)).1, by
          rcases Nat.lt_or_ge 8 L.length with h8 | h8
          · have := q 8 h8
            rw [decide_eq_false (show ¬ 8 < 8 by omega), Bool.and_false] at this
            cases this
          · exact h8⟩
        obtain ⟨x0, hx1, hx2, hx3⟩ := first_bad (p := fun i => rightR (L.getD i r00) && decide (i < 8)) hbad
        apply Sat.loop (α := Nat) (fun x => x ≤ x0) (fun x => L.length - x) 0 (fun x => [(7, .int .i64 (x : Int))]) (fun _ => []) [] [] 0
        · intro x; exact rfl
        · intro x; exact rfl
        · exact rfl
        · exact rfl
        · ((repeat' (first | exact AllP.nil | with_reducible refine AllP.cons ?_ ?_)) <;> first | exact rfl | exact trivial | exact Int.natCast_add_one _ | exact ⟨rfl, rfl⟩ | exact ⟨rfl, rfl, rfl⟩ | exact ⟨rfl, rfl, rfl, rfl⟩ | exact ⟨rfl, .inl rfl⟩ | exact ⟨rfl, .inr rfl⟩ | exact pur | (intro _; exact rfl) | (intro _; exact trivial) | (intro _; exact pur) | first | exact hpl | exact pur_val _ | (intro _ _; simp [pureL, pureS, pureE]; done))
        · exact Nat.zero_le _
        · intro x x1
          have hx : x < L.length := by omega
          have h3 := RR_spec (L.getD (x : Int).toNat r00)
          have hcc : (bif decide ((8 : Int) ≤ (x : Int)) then true else !rightR (L.getD (x : Int).toNat r00)) = !(rightR (L.getD x r00) && decide (x < 8)) := by
            rw [Int.toNat_natCast]
            by_cases q : x < 8
            · rw [decide_eq_false (show ¬ (8 : Int) ≤ (x : Int) by omega), decide_eq_true q, Bool.and_true]; rfl
            · rw [decide_eq_true (show (8 : Int) ≤ (x : Int) by omega), decide_eq_false q, Bool.and_false]; rfl
          repeat' (first
              | ((with_reducible apply Sat.run (X := X64)); exact rfl; (first | exact True.intro | (exact phi) | skip))
              | ((with_reducible apply Sat.drawn); kernel_rfl)
              | ((with_reducible apply DSat.run (X := X64)); exact rfl; (first | exact True.intro | (exact phi) | skip))
              | ((with_reducible apply DSat.fin); kernel_rfl)
              | ((with_reducible apply Sat.cond_t); exact rfl)
              | ((with_reducible apply Sat.cond_f); exact rfl)
              | ((with_reducible apply Sat.cond_pt); exact rfl; (try dsimp only [V.EV.sub, V.EV.len]); first | assumption | omega)
              | ((with_reducible apply Sat.cond_pf); exact rfl; (try dsimp only [V.EV.sub, V.EV.len]); first | assumption | omega)
              | ((with_reducible apply Sat.cond_p); exact rfl; all_goals intro h)
              | ((with_reducible apply Sat.cond); exact rfl; all_goals intro h)
              | ((with_reducible refine (?_ : AllP _)); ((repeat' (first | exact AllP.nil | with_reducible refine AllP.cons ?_ ?_)) <;> (first | (intro hq; exact hq) | (dsimp only [V.EV.len]; omega) | (intro hq; dsimp only [V.EV.len]; omega) | (intro hq; exact absurd hq (by decide)))))
              | ((with_reducible apply Sat.callG1 (h3)); exact rfl; exact rfl; exact rfl; exact rfl; kernel_rfl; (intro hG; (exact cnvX)); exact rfl)
              | ((with_reducible apply DSat.callG1 (h3)); exact rfl; exact rfl; exact rfl; exact rfl; kernel_rfl; (intro hG; (exact cnvX)); exact rfl) | fail)
          · (refine Sat.fin (Sat.end1 rfl rfl rfl True.intro (.refl _ purX) (by first | exact .inl rfl | exact .inr rfl) (fun _ h => h)) ?_; (unfold chkS; rw [if_neg hb, if_pos hall]))
          · have q : (bif decide ((8 : Int) ≤ (x : Int)) then true else !rightR (L.getD (x : Int).toNat r00)) = false := ‹_›
            rw [hcc] at q
            refine Sat.back (x + 1) [] rfl ?_ ?_ ?_
            · ((repeat' (first | exact AllP.nil | with_reducible refine AllP.cons ?_ ?_)) <;> first | exact rfl | exact trivial | exact Int.natCast_add_one _ | exact ⟨rfl, rfl⟩ | exact ⟨rfl, rfl, rfl⟩ | exact ⟨rfl, rfl, rfl, rfl⟩ | exact ⟨rfl, .inl rfl⟩ | exact ⟨rfl, .inr rfl⟩ | exact pur | (intro _; exact rfl) | (intro _; exact trivial) | (intro _; exact pur) | first | exact hpl | exact pur_val _ | (intro _ _; simp [pureL, pureS, pureE]; done))
            · show x + 1 ≤ x0
              rcases Nat.lt_or_eq_of_le x1 with h | h
              · exact h
              · subst h
                rw [hx2] at q
                cases q
            · omega
end Go.Proofs.YtpbgihhfcdggkaaGreatDoor
end
section
namespace Go.Proofs.YtpbgihhfcdggkaaGreatDoor
open Go.RowKit V
set_option maxRecDepth 100000
set_option maxHeartbeats 4000000
set_option linter.unusedSimpArgs false
set_option linter.unusedVariables false
attribute [local irreducible] V.Sat V.DSat V.SatP V.ASat V.AOp
theorem all_ok (L M : List RuleL) (hm : ∀ r, r ∈ M → r ∈ L) (hall : ∀ i, i < L.length → rightR (L.getD i r00) = true) : ∀ i, i < M.length → RuleOk (M.getD i r00) := fun i hi => by
  have hm : M.getD i r00 ∈ L := by
    rw [List.getD_eq_getElem?_getD, List.getElem?_eq_getElem hi]
    exact hm _ (List.getElem_mem hi)
  obtain ⟨j, hj, hje⟩ := List.mem_iff_getElem.1 hm
  have := hall j hj
  rw [List.getD_eq_getElem?_getD, List.getElem?_eq_getElem hj, Option.getD_some, hje] at this
  exact (rightR_ok this).1
theorem ref_do (s : SetL) (L : List RuleL) (v : Int) (hL : L.length ≤ 1000000) : Fun Tryz.prog [] 16 [s.v, .ro (ruleE L), .int .i64 v] (.tup [(fwdS s L v).1.v, .int .i64 (fwdS s L v).2]) := by
  have hpl := pur_rule L
  have h1 := chk_spec s L v hL
  unfold fwdS migS
  refine Fun.mk 7 Tryz.func16 rfl Tryz.ntmps16 rfl rfl fun T w0 => ?_
  by_cases hb : validS s = false ∨ ¬ (0 ≤ v ∧ v ≤ 60000)
  · rw [show chkS s L v = 1 by unfold chkS; rw [if_pos hb]] at h1
    rw [if_pos hb]
    repeat' (first
      | ((with_reducible apply Sat.run (X := X64)); exact rfl; (first | exact True.intro | (exact phi) | skip))
      | ((with_reducible apply Sat.cond_t); exact rfl)
      | ((with_reducible apply Sat.callR (h1)); exact rfl; exact rfl; exact rfl; kernel_rfl; (exact cnvX); exact rfl) | fail)
    refine Sat.fin (Sat.end2 rfl rfl rfl rfl True.intro True.intro (by apply Conv.agg; exact cnvX) (.refl _ trivial) (.inl rfl) (fun _ h => h)) rfl
  · rw [if_neg hb]
    by_cases hall : ¬ (L.all rightR = true ∧ L.length ≤ 8)
    · rw [show chkS s L v = 230 by unfold chkS; rw [if_neg hb, if_pos hall]] at h1
      rw [if_pos hall]
      repeat' (first
        | ((with_reducible apply Sat.run (X := X64)); exact rfl; (first | exact True.intro | (exact phi) | skip))
        | ((with_reducible apply Sat.cond_t); exact rfl)
        | ((with_reducible apply Sat.callR (h1)); exact rfl; exact rfl; exact rfl; kernel_rfl; (exact cnvX); exact rfl) | fail)
      refine Sat.fin (Sat.end2 rfl rfl rfl rfl True.intro True.intro (by apply Conv.agg; exact cnvX) (.refl _ trivial) (.inl rfl) (fun _ h => h)) rfl
    · rw [show chkS s L v = 0 by unfold chkS; rw [if_neg hb, if_neg hall]] at h1
      rw [if_neg hall]
      simp only [not_or, Decidable.not_not, Bool.not_eq_false] at hb hall
      have hs := (validS_iff s).1 hb.1
      have ha := (all_iff L rightR r00).1 hall.1
      have hL2 : (L).length = L.length := by simp
      have hok : ∀ i, i < (L).length → RuleOk ((L).getD i r00) := all_ok L (L) (fun r hr => by simpa using hr) ha
      have hway : Way doS s (L) 0 s := ⟨Nat.zero_le _, rfl, hs.rise, by have := hs.few; omega, by have := hs.few; omega⟩
      repeat' (first
        | ((with_reducible apply Sat.run (X := X64)); exact rfl; (first | exact True.intro | (exact phi) | skip))
        | ((with_reducible apply Sat.cond_f); exact rfl)
        | ((with_reducible apply Sat.callR (h1)); exact rfl; exact rfl; exact rfl; kernel_rfl; (exact cnvX); exact rfl) | fail)
      apply Sat.loop (α := Nat × SetL) (fun x => Way doS s (L) x.1 x.2) (fun x => L.length - x.1) (0, s) (fun x => [(9, .int .i64 (x.1 : Int))]) (fun x => [(0, .cells 32 [.int .i64 x.2.version, .ro (valE x.2.vals), .ro (valE x.2.kept)])]) [] [] 0
      · intro x; exact rfl
      · intro x; exact rfl
      · exact rfl
      · exact rfl
      · ((repeat' (first | exact AllP.nil | with_reducible refine AllP.cons ?_ ?_)) <;> first | exact rfl | exact trivial | exact Int.natCast_add_one _ | exact ⟨rfl, rfl⟩ | exact ⟨rfl, rfl, rfl⟩ | exact ⟨rfl, rfl, rfl, rfl⟩ | exact ⟨rfl, .inl rfl⟩ | exact ⟨rfl, .inr rfl⟩ | exact pur | (intro _; exact rfl) | (intro _; exact trivial) | (intro _; exact pur) | first | exact hpl | exact pur_val _ | (intro _ _; simp [pureL, pureS, pureE]; done) | (dsimp only [V.EV.len]; omega))
      · exact hway
      · rintro ⟨x, t⟩ hw
        have hle : x ≤ (L).length := hw.le
        rw [hL2] at hle
        have hnv : t.vals.length ≤ 16 + x := hw.nv
        have hnk : t.kept.length ≤ 16 + x := hw.nk
        by_cases hx : x < L.length
        · have e1 : (L).getD x r00 = L.getD ((x : Int)).toNat r00 := by rw [Int.toNat_natCast]
          have hq := hok x (by omega)
          have h2 := rdo_spec t ((L).getD x r00) hw.rise (by have := hs.few; omega) (by have := hs.few; omega) hq
          cases hd : doS t ((L).getD x r00) with
          | none =>
            rw [hd, e1] at h2
            have hrun := run_none doS s t (L) x (by omega) hw.run hd
            rw [hrun]
            repeat' (first
              | ((with_reducible apply Sat.run (X := X64)); exact rfl; (first | exact True.intro | (exact phi) | skip))
              | ((with_reducible apply Sat.drawn); kernel_rfl)
              | ((with_reducible apply DSat.run (X := X64)); exact rfl; (first | exact True.intro | (exact phi) | skip))
              | ((with_reducible apply DSat.fin); kernel_rfl)
              | ((with_reducible apply Sat.cond_t); exact rfl)
              | ((with_reducible apply Sat.cond_pt); exact rfl; (try dsimp only [V.EV.sub, V.EV.len]); first | assumption | omega)
              | ((with_reducible apply DSat.call (h2)); exact rfl; exact rfl; kernel_rfl; (exact cnvX); exact rfl) | fail)
            refine Sat.fin (Sat.end2 rfl rfl rfl rfl True.intro True.intro (by apply Conv.agg; exact cnvX) (.refl _ trivial) (.inl rfl) (fun _ h => h)) rfl
          | some t' =>
            rw [hd, e1] at h2
            have hway' := way_do hw (by omega) hd
            repeat' (first
              | ((with_reducible apply Sat.run (X := X64)); exact rfl; (first | exact True.intro | (exact phi) | skip))
              | ((with_reducible apply Sat.drawn); kernel_rfl)
              | ((with_reducible apply DSat.run (X := X64)); exact rfl; (first | exact True.intro | (exact phi) | skip))
              | ((with_reducible apply DSat.fin); kernel_rfl)
              | ((with_reducible apply Sat.cond_f); exact rfl)
              | ((with_reducible apply Sat.cond_pt); exact rfl; (try dsimp only [V.EV.sub, V.EV.len]); first | assumption | omega)
              | ((with_reducible apply DSat.call (h2)); exact rfl; exact rfl; kernel_rfl; (exact cnvX); exact rfl) | fail)
            refine Sat.back (x + 1, t') [] rfl ?_ ?_ ?_
            · ((repeat' (first | exact AllP.nil | with_reducible refine AllP.cons ?_ ?_)) <;> first | exact rfl | exact trivial | exact Int.natCast_add_one _ | exact ⟨rfl, rfl⟩ | exact ⟨rfl, rfl, rfl⟩ | exact ⟨rfl, rfl, rfl, rfl⟩ | exact ⟨rfl, .inl rfl⟩ | exact ⟨rfl, .inr rfl⟩ | exact pur | (intro _; exact rfl) | (intro _; exact trivial) | (intro _; exact pur) | first | exact hpl | exact pur_val _ | (intro _ _; simp [pureL, pureS, pureE]; done) | (dsimp only [V.EV.len]; omega))
            · exact hway'
            · show L.length - (x + 1) < L.length - x
              omega
        · have hx2 : x = L.length := by omega
          have hrun := hw.run
          rw [hx2, ← hL2, List.take_length] at hrun
          rw [hrun]
          dsimp only
          by_cases hbig : 16 < t.vals.length ∨ 16 < t.kept.length
          · have h3 := fin_no t v hbig
            rw [if_pos hbig]
            repeat' (first
              | ((with_reducible apply Sat.run (X := X64)); exact rfl; (first | exact True.intro | (exact phi) | skip))
              | ((with_reducible apply Sat.cond_pf); exact rfl; (try dsimp only [V.EV.sub, V.EV.len]); first | assumption | omega)
              | ((with_reducible apply Sat.call (h3)); exact rfl; exact rfl; kernel_rfl; (exact cnvX); exact rfl) | fail)
            refine Sat.fin (Sat.end2 rfl rfl rfl rfl True.intro True.intro (by apply Conv.agg; exact cnvX) (.refl _ trivial) (.inl rfl) (fun _ h => h)) rfl
          · have h3 := fin_yes t v hbig
            rw [if_neg hbig]
            repeat' (first
              | ((with_reducible apply Sat.run (X := X64)); exact rfl; (first | exact True.intro | (exact phi) | skip))
              | ((with_reducible apply Sat.cond_pf); exact rfl; (try dsimp only [V.EV.sub, V.EV.len]); first | assumption | omega)
              | ((with_reducible apply Sat.call (h3)); exact rfl; exact rfl; kernel_rfl; (exact cnvX); exact rfl) | fail)
            refine Sat.fin (Sat.end2 rfl rfl rfl rfl True.intro True.intro (.refl _ (by simp [pureS, pureL, pureE])) (.refl _ trivial) (.inl rfl) (fun _ h => h)) rfl
theorem ref_undo (s : SetL) (L : List RuleL) (v : Int) (hL : L.length ≤ 1000000) : Fun Tryz.prog [] 18 [s.v, .ro (ruleE L), .int .i64 v] (.tup [(backS s L v).1.v, .int .i64 (backS s L v).2]) := by
  have hpl := pur_rule L
  have h1 := chk_spec s L v hL
  unfold backS migS
  refine Fun.mk 7 Tryz.func18 rfl Tryz.ntmps18 rfl rfl fun T w0 => ?_
  by_cases hb : validS s = false ∨ ¬ (0 ≤ v ∧ v ≤ 60000)
  · rw [show chkS s L v = 1 by unfold chkS; rw [if_pos hb]] at h1
    rw [if_pos hb]
    repeat' (first
      | ((with_reducible apply Sat.run (X := X64)); exact rfl; (first | exact True.intro | (exact phi) | skip))
      | ((with_reducible apply Sat.cond_t); exact rfl)
      | ((with_reducible apply Sat.callR (h1)); exact rfl; exact rfl; exact rfl; kernel_rfl; (exact cnvX); exact rfl) | fail)
    refine Sat.fin (Sat.end2 rfl rfl rfl rfl True.intro True.intro (by apply Conv.agg; exact cnvX) (.refl _ trivial) (.inl rfl) (fun _ h => h)) rfl
  · rw [if_neg hb]
    by_cases hall : ¬ (L.all rightR = true ∧ L.length ≤ 8)
    · rw [show chkS s L v = 230 by unfold chkS; rw [if_neg hb, if_pos hall]] at h1
      rw [if_pos hall]
      repeat' (first
        | ((with_reducible apply Sat.run (X := X64)); exact rfl; (first | exact True.intro | (exact phi) | skip))
        | ((with_reducible apply Sat.cond_t); exact rfl)
        | ((with_reducible apply Sat.callR (h1)); exact rfl; exact rfl; exact rfl; kernel_rfl; (exact cnvX); exact rfl) | fail)
      refine Sat.fin (Sat.end2 rfl rfl rfl rfl True.intro True.intro (by apply Conv.agg; exact cnvX) (.refl _ trivial) (.inl rfl) (fun _ h => h)) rfl
    · rw [show chkS s L v = 0 by unfold chkS; rw [if_neg hb, if_neg hall]] at h1
      rw [if_neg hall]
      simp only [not_or, Decidable.not_not, Bool.not_eq_false] at hb hall
      have hs := (validS_iff s).1 hb.1
      have ha := (all_iff L rightR r00).1 hall.1
      have hL2 : (L.reverse).length = L.length := by simp
      have hok : ∀ i, i < (L.reverse).length → RuleOk ((L.reverse).getD i r00) := all_ok L (L.reverse) (fun r hr => by simpa using hr) ha
      have hway : Way undoS s (L.reverse) 0 s := ⟨Nat.zero_le _, rfl, hs.rise, by have := hs.few; omega, by have := hs.few; omega⟩
      repeat' (first
        | ((with_reducible apply Sat.run (X := X64)); exact rfl; (first | exact True.intro | (exact phi) | skip))
        | ((with_reducible apply Sat.cond_f); exact rfl)
        | ((with_reducible apply Sat.callR (h1)); exact rfl; exact rfl; exact rfl; kernel_rfl; (exact cnvX); exact rfl) | fail)
      apply Sat.loop (α := Nat × SetL) (fun x => Way undoS s (L.reverse) x.1 x.2) (fun x => L.length - x.1) (0, s) (fun x => [(9, .int .i64 ((L.length : Int) - 1 - (x.1 : Int)))]) (fun x => [(0, .cells 32 [.int .i64 x.2.version, .ro (valE x.2.vals), .ro (valE x.2.kept)])]) [] [] 0
      · intro x; exact rfl
      · intro x; exact rfl
      · exact rfl
      · exact rfl
      · ((repeat' (first | exact AllP.nil | with_reducible refine AllP.cons ?_ ?_)) <;> first | exact rfl | exact trivial | exact Int.natCast_add_one _ | exact ⟨rfl, rfl⟩ | exact ⟨rfl, rfl, rfl⟩ | exact ⟨rfl, rfl, rfl, rfl⟩ | exact ⟨rfl, .inl rfl⟩ | exact ⟨rfl, .inr rfl⟩ | exact pur | (intro _; exact rfl) | (intro _; exact trivial) | (intro _; exact pur) | first | exact hpl | exact pur_val _ | (intro _ _; simp [pureL, pureS, pureE]; done) | (dsimp only [V.EV.len]; omega))
      · exact hway
      · rintro ⟨x, t⟩ hw
        have hle : x ≤ (L.reverse).length := hw.le
        rw [hL2] at hle
        have hnv : t.vals.length ≤ 16 + x := hw.nv
        have hnk : t.kept.length ≤ 16 + x := hw.nk
        by_cases hx : x < L.length
        · have e1 : (L.reverse).getD x r00 = L.getD (((L.length : Int) - 1 - (x : Int))).toNat r00 := by rw [rev_get L x hx]; congr 1; omega
          have hq := hok x (by omega)
          have h2 := rundo_spec t ((L.reverse).getD x r00) hw.rise (by have := hs.few; omega) (by have := hs.few; omega) hq
          cases hd : undoS t ((L.reverse).getD x r00) with
          | none =>
            rw [hd, e1] at h2
            have hrun := run_none undoS s t (L.reverse) x (by omega) hw.run hd
            rw [hrun]
            repeat' (first
              | ((with_reducible apply Sat.run (X := X64)); exact rfl; (first | exact True.intro | (exact phi) | skip))
              | ((with_reducible apply Sat.drawn); kernel_rfl)
              | ((with_reducible apply DSat.run (X := X64)); exact rfl; (first | exact True.intro | (exact phi) | skip))
              | ((with_reducible apply DSat.fin); kernel_rfl)
              | ((with_reducible apply Sat.cond_t); exact rfl)
              | ((with_reducible apply Sat.cond_pt); exact rfl; (try dsimp only [V.EV.sub, V.EV.len]); first | assumption | omega)
              | ((with_reducible apply DSat.call (h2)); exact rfl; exact rfl; kernel_rfl; (exact cnvX); exact rfl) | fail)
            refine Sat.fin (Sat.end2 rfl rfl rfl rfl True.intro True.intro (by apply Conv.agg; exact cnvX) (.refl _ trivial) (.inl rfl) (fun _ h => h)) rfl
          | some t' =>
            rw [hd, e1] at h2
            have hway' := way_undo hw (by omega) hd
            repeat' (first
              | ((with_reducible apply Sat.run (X := X64)); exact rfl; (first | exact True.intro | (exact phi) | skip))
              | ((with_reducible apply Sat.drawn); kernel_rfl)
              | ((with_reducible apply DSat.run (X := X64)); exact rfl; (first | exact True.intro | (exact phi) | skip))
              | ((with_reducible apply DSat.fin); kernel_rfl)
              | ((with_reducible apply Sat.cond_f); exact rfl)
              | ((with_reducible apply Sat.cond_pt); exact rfl; (try dsimp only [V.EV.sub, V.EV.len]); first | assumption | omega)
              | ((with_reducible apply DSat.call (h2)); exact rfl; exact rfl; kernel_rfl; (exact cnvX); exact rfl) | fail)
            refine Sat.back (x + 1, t') [] rfl ?_ ?_ ?_
            · ((repeat' (first | exact AllP.nil | with_reducible refine AllP.cons ?_ ?_)) <;> first | exact rfl | exact trivial | exact Int.natCast_add_one _ | exact ⟨rfl, rfl⟩ | exact ⟨rfl, rfl, rfl⟩ | exact ⟨rfl, rfl, rfl, rfl⟩ | exact ⟨rfl, .inl rfl⟩ | exact ⟨rfl, .inr rfl⟩ | exact pur | (intro _; exact rfl) | (intro _; exact trivial) | (intro _; exact pur) | first | exact hpl | exact pur_val _ | (intro _ _; simp [pureL, pureS, pureE]; done) | (dsimp only [V.EV.len]; omega))
            · exact hway'
            · show L.length - (x + 1) < L.length - x
              omega
        · have hx2 : x = L.length := by omega
          have hrun := hw.run
          rw [hx2, ← hL2, List.take_length] at hrun
          rw [hrun]
          dsimp only
          by_cases hbig : 16 < t.vals.length ∨ 16 < t.kept.length
          · have h3 := fin_no t v hbig
            rw [if_pos hbig]
            repeat' (first
              | ((with_reducible apply Sat.run (X := X64)); exact rfl; (first | exact True.intro | (exact phi) | skip))
              | ((with_reducible apply Sat.cond_pf); exact rfl; (try dsimp only [V.EV.sub, V.EV.len]); first | assumption | omega)
              | ((with_reducible apply Sat.call (h3)); exact rfl; exact rfl; kernel_rfl; (exact cnvX); exact rfl) | fail)
            refine Sat.fin (Sat.end2 rfl rfl rfl rfl True.intro True.intro (by apply Conv.agg; exact cnvX) (.refl _ trivial) (.inl rfl) (fun _ h => h)) rfl
          · have h3 := fin_yes t v hbig
            rw [if_neg hbig]
            repeat' (first
              | ((with_reducible apply Sat.run (X := X64)); exact rfl; (first | exact True.intro | (exact phi) | skip))
              | ((with_reducible apply Sat.cond_pf); exact rfl; (try dsimp only [V.EV.sub, V.EV.len]); first | assumption | omega)
              | ((with_reducible apply Sat.call (h3)); exact rfl; exact rfl; kernel_rfl; (exact cnvX); exact rfl) | fail)
            refine Sat.fin (Sat.end2 rfl rfl rfl rfl True.intro True.intro (.refl _ (by simp [pureS, pureL, pureE])) (.refl _ trivial) (.inl rfl) (fun _ h => h)) rfl
end Go.Proofs.YtpbgihhfcdggkaaGreatDoor
end
section
namespace Go.Proofs.YtpbgihhfcdggkaaGreatDoor.V
open Go.RowKit
set_option maxRecDepth 100000
set_option maxHeartbeats 4000000
set_option linter.unusedVariables false
set_option linter.unusedSectionVars false
set_option linter.unusedSimpArgs false
section
variable {C : Ctx} {Q0 : Exit → Act → World → Prop} {F F' : Tr} {M : Mem} {ids : List Nat} {k : List Kont}
theorem Sat.freezeC {M' : Mem} {c : Code} {φ : List Prop} (wh : Bool) (id : Nat) (hz : frz C.wide C.pins ids wh id F M = some ⟨F', M', φ⟩) (hφ : AllP φ) (hn : Sat C Q0 (.code c F' M' ids k)) : Sat C Q0 (.code c F M ids k) := by
  intro U E a w _ hst
  obtain ⟨U', E', h1, h2⟩ := frz_ok hz hφ hst
  exact hn U' E' a w h1 h2
theorem Sat.nestC {M' : Mem} {c : Code} {φ : List Prop} (X Y : Nat) (g : Nat → List SV) (hz : nst C.wide C.pins ids X Y g F M = some ⟨F', M', φ⟩) (hφ : AllP φ) (hn : Sat C Q0 (.code c F' M' ids k)) : Sat C Q0 (.code c F M ids k) := by
  intro U E a w _ hst
  obtain ⟨U', E', h1, h2⟩ := nst_ok hz hφ hst
  exact hn U' E' a w h1 h2
theorem okN_new (i0 nx : Nat) (M : Mem) : okN [] [(i0, nx)] [] [nx] M = true := by
  simp [okN, inv]
theorem DSat.mf0 {i0 nx i : Nat} {full rest : List Oper} {F0 : Tr} {M0 : Mem} {ids0 : List Nat} {hist : List Ent} {d : Option Tmp} {x : Operand} {f : FuncId} {xs : List Operand} {ats : Array TypeId} {type : TypeId} {pos : String} {after : Array Edge} {svs args : List SV} {B B' : Blk} {res res' : SV} {φ1 φ3 φ4 : List Prop}
    (hspec : MF C.P C.Γ f [] args [] res [(i0, B)]) (hw : C.wide = false) (hx : argsF C.Γ F x xs = some (f, svs)) (hc : callable C.P f = true) (ha : rnL [] svs = some (φ1, args)) (hφ1 : AllP φ1)
    (hM1 : rnMK [(i0, nx)] [(i0, B)] [] (fun A φ => some (A, φ)) = some ([(nx, B')], φ3)) (hφ3 : AllP φ3) (hr : rnS [(i0, nx)] res = some (φ4, res')) (hφ4 : AllP φ4) (hp : putD C.N F d (some res') some = some F')
    (h : DSat C Q0 k full F0 M0 ids0 (i + 1) (⟨i, d, some res', some nx, [(nx, some B')], [], false⟩ :: hist) rest F' ((nx, B') :: M) ids) :
    DSat C Q0 k full F0 M0 ids0 i hist (⟨d, .call ⟨.value x, ⟨xs⟩, ats⟩, type, pos, after, none⟩ :: rest) F M (nx :: ids) := by
  intro D
  obtain ⟨F1, h1, h2⟩ := putD_inv hp
  cases h1
  obtain ⟨p1, p2⟩ := putD_get h2
  have hlk : ∀ (Mx : Mem) (id : Nat), find ((nx, B') :: Mx) id = (look [(nx, some B')] id).getD (find Mx id) := fun Mx id => by
    rw [find_cons]
    simp only [look]
    cases hb : Nat.beq nx id with
    | true => rw [if_pos (Nat.eq_of_beq_eq_true hb).symm]; rfl
    | false => rw [if_neg fun e => Nat.ne_of_beq_eq_false hb e.symm]; rfl
  refine h (D.step (fun ho Q K Fa Ma U E a w q1 q2 _ q3 hst hK => ?_) rfl rfl p2 (fun id => hlk M id) rfl)
  refine wpOp_plain ho rfl ?_
  unfold Oper.wp
  obtain ⟨vs, ht, hex⟩ := argsF_ok hst.vw (argsF_le (looks_le (F := F) q1 fun _ => rfl) hx)
  rw [hex, run_callFunc_go hc]
  have o := okN_ok (okN_new i0 nx Ma)
  have hg : grabOk [] [(i0, nx)] Ma [] = some [] := rfl
  obtain ⟨hpre, _, _⟩ := call_pre hst hw o hg trivial ha hφ1 ht
  refine (hspec _ _ _ _ hpre).mono ?_
  rintro e w' ⟨v, E1, rfl, hr1⟩
  obtain ⟨s1, s2, s3⟩ := call_post (ids := []) (news := [nx]) hst hw ⟨q3 nx rfl, trivial⟩ o hg trivial hM1 hφ3 rfl hr hφ4 hr1
  obtain ⟨F2, hF2⟩ := tr_put Fa d (some res')
  refine hK F2 _ _ _ _ w' hF2 (fun id => ?_) (fun q => ?_) (s2.putG p1 hF2 fun s' hs' => by cases hs'; exact s3)
  · rw [← hlk Ma id, List.singleton_append, find_cons, find_cons, find_drop1]
    rfl
  simp only [List.elem_cons, List.elem_nil, ne_eq, Option.some.injEq]
  cases hb : q == nx with
  | true => simp only [beq_iff_eq] at hb; subst hb; simp
  | false => simp only [beq_eq_false_iff_ne] at hb; simp [Ne.symm hb]
end
end Go.Proofs.YtpbgihhfcdggkaaGreatDoor.V
end
section
namespace Go.Proofs.YtpbgihhfcdggkaaGreatDoor
open Go.RowKit V
set_option maxRecDepth 100000
set_option maxHeartbeats 4000000
set_option linter.unusedSimpArgs false
set_option linter.unusedVariables false
attribute [local irreducible] V.Sat V.DSat V.SatP V.ASat V.AOp
theorem fit_mf {Γ : Glob} (s : SetL) (hr : Rising s.vals) (hv : s.vals.length ≤ 16) (hk : s.kept.length ≤ 16) (L : List Quad) (hL : ∀ q ∈ L, QuadOk q) (n : Nat) (hn : n ≤ 1000) : MF Tryz.prog Γ 14 [] [s.v, .ro (quadE L), .int .i64 (n : Int)] [] (.row 1 0 4 0 (fitN s L n).length) [(1, .row 28 (ruleE (fitN s L n)))] := by
  refine MF.mk (ids := ids0) 7 Tryz.func14 rfl Tryz.ntmps14 rfl rfl rfl fun T w0 E => ?_
  have hpl : pureE (quadE L) := fun _ _ => by simp [pureL, pureS, pureE]
  repeat' (first
    | ((with_reducible apply Sat.run (X := X64)); exact rfl; (first | exact True.intro | (exact phi) | skip)) | fail)
  refine Sat.kill [11] rfl ?_
  apply Sat.loop (α := Nat × SetL × List RuleL) (fun x => x.1 ≤ n ∧ FitAt s (L.take n) x.1 x.2.1 x.2.2) (fun x => L.length - x.1) (0, s, []) (fun x => [(7, .row 1 0 4 0 x.2.2.length), (8, .int .i64 (x.1 : Int))]) (fun x => [(0, .cells 32 [.int .i64 x.2.1.version, .ro (valE x.2.1.vals), .ro (valE x.2.1.kept)]), (1, .row 28 (ruleE x.2.2))]) [] [] 0
  · intro x; exact rfl
  · intro x; exact rfl
  · exact rfl
  · exact rfl
  · ((repeat' (first | exact AllP.nil | with_reducible refine AllP.cons ?_ ?_)) <;> first | exact rfl | exact trivial | exact Int.natCast_add_one _ | exact ⟨rfl, rfl⟩ | exact ⟨rfl, rfl, rfl⟩ | exact ⟨rfl, rfl, rfl, rfl⟩ | exact ⟨rfl, .inl rfl⟩ | exact ⟨rfl, .inr rfl⟩ | exact pur | (intro _; exact rfl) | (intro _; exact trivial) | (intro _; exact pur) | first | exact hpl | exact pur_val _ | exact pur_rule _ | (intro i hi; exact absurd hi (Nat.not_lt_zero _)) | (intro _ _; simp [pureL, pureS, pureE]; done))
  · exact ⟨Nat.zero_le _, Nat.zero_le _, rfl, hr, hv, hk, Nat.le_refl _⟩
  · rintro ⟨x, t, O⟩ ⟨x1, hw⟩
    dsimp only at x1
    have hlen : (L.take n).length = min n L.length := List.length_take
    have hle : x ≤ (L.take n).length := hw.le
    have hno : O.length ≤ x := hw.no
    by_cases hx : x < n ∧ x < L.length
    · have hc : (bif decide ((x : Int) < ((EV.g L.length 4 fun i => quadP (L.getD i q00)).len : Int)) then decide ((x : Int) < (n : Int)) else false) = true := by
        rw [decide_eq_true (show (x : Int) < ((EV.g L.length 4 fun i => quadP (L.getD i q00)).len : Int) by show (x : Int) < (L.length : Int); omega), decide_eq_true (show (x : Int) < (n : Int) by omega)]
        rfl
      have hg : (L.take n).getD x q00 = L.getD (x : Int).toNat q00 := by
        rw [Int.toNat_natCast, List.getD_eq_getElem?_getD, List.getD_eq_getElem?_getD, List.getElem?_take, if_pos hx.1]
      have hqk := quad_at L hL (x : Int).toNat
      have h1 := Fun.weak (Γ := Γ) (rule_spec (L.getD (x : Int).toNat q00) hqk)
      have hnv : t.vals.length ≤ 16 + x := hw.nv
      have hnk : t.kept.length ≤ 16 + x := hw.nk
      have h2 := Fun.weak (Γ := Γ) (rdo_spec t (ruleN (L.getD (x : Int).toNat q00)) hw.rise (by omega) (by omega) (rightR_ok (ruleN_ok _ hqk)).1)
      cases hd : doS t (ruleN (L.getD (x : Int).toNat q00)) with
      | none =>
        rw [hd] at h2
        have hn := hw.none (by omega) (by rw [hg]; exact hd)
        repeat' (first
          | (rw [hc])
          | ((with_reducible apply Sat.run (X := X64)); exact rfl; (first | exact True.intro | (exact phi) | skip))
          | ((with_reducible apply Sat.drawn); kernel_rfl)
          | ((with_reducible apply DSat.run (X := X64)); exact rfl; (first | exact True.intro | (exact phi) | skip))
          | ((with_reducible apply DSat.fin); kernel_rfl)
          | ((with_reducible apply Sat.cond_t); exact rfl)
          | ((with_reducible apply Sat.cond_f); exact rfl)
          | ((with_reducible apply DSat.callR (h1)); exact rfl; exact rfl; exact rfl; kernel_rfl; (exact cnvX); exact rfl)
          | ((with_reducible apply DSat.call (h2)); exact rfl; exact rfl; kernel_rfl; (exact cnvX); exact rfl) | fail)
        refine Sat.back (x + 1, t, O) [] rfl ?_ ⟨hx.1, hn⟩ ?_
        · ((repeat' (first | exact AllP.nil | with_reducible refine AllP.cons ?_ ?_)) <;> first | exact rfl | exact trivial | exact Int.natCast_add_one _ | exact ⟨rfl, rfl⟩ | exact ⟨rfl, rfl, rfl⟩ | exact ⟨rfl, rfl, rfl, rfl⟩ | exact ⟨rfl, .inl rfl⟩ | exact ⟨rfl, .inr rfl⟩ | exact pur | (intro _; exact rfl) | (intro _; exact trivial) | (intro _; exact pur) | first | exact hpl | exact pur_val _ | exact pur_rule _ | (intro _ _; simp [pureL, pureS, pureE]; done) | exact ⟨rfl, rfl, rfl, (by simp [EV.len, EV.sub])⟩ | exact fun _ _ => rfl)
        · show L.length - (x + 1) < L.length - x
          omega
      | some t' =>
        rw [hd] at h2
        have hn : FitAt s (L.take n) (x + 1) t' (O ++ [ruleN (L.getD (x : Int).toNat q00)]) := by
          rw [← hg]
          exact hw.some (by omega) (by rw [hg]; exact hd)
        repeat' (first
          | (rw [hc])
          | ((with_reducible apply Sat.run (X := X64)); exact rfl; (first | exact True.intro | (exact phi) | skip))
          | ((with_reducible apply Sat.drawn); kernel_rfl)
          | ((with_reducible apply DSat.run (X := X64)); exact rfl; (first | exact True.intro | (exact phi) | skip))
          | ((with_reducible apply DSat.fin); kernel_rfl)
          | ((with_reducible apply Sat.cond_t); exact rfl)
          | ((with_reducible apply Sat.callR (h1)); exact rfl; exact rfl; exact rfl; kernel_rfl; (exact cnvX); exact rfl)
          | ((with_reducible apply DSat.callR (h1)); exact rfl; exact rfl; exact rfl; kernel_rfl; (exact cnvX); exact rfl)
          | ((with_reducible apply DSat.call (h2)); exact rfl; exact rfl; kernel_rfl; (exact cnvX); exact rfl) | fail)
        refine Sat.reX (i := 4) (ruleE (O ++ [ruleN (L.getD (x : Int).toNat q00)])) rfl rfl (by simp [EV.len, EV.sub]) rfl (fun i hi => app_rule O _ i (by simpa [EV.len] using hi)) ?_
        refine Sat.back (x + 1, t', O ++ [ruleN (L.getD (x : Int).toNat q00)]) [(1, some 4)] rfl ?_ ⟨hx.1, hn⟩ ?_
        · ((repeat' (first | exact AllP.nil | with_reducible refine AllP.cons ?_ ?_)) <;> first | exact rfl | exact trivial | exact Int.natCast_add_one _ | exact ⟨rfl, rfl⟩ | exact ⟨rfl, rfl, rfl⟩ | exact ⟨rfl, rfl, rfl, rfl⟩ | exact ⟨rfl, .inl rfl⟩ | exact ⟨rfl, .inr rfl⟩ | exact pur | (intro _; exact rfl) | (intro _; exact trivial) | (intro _; exact pur) | first | exact hpl | exact pur_val _ | exact pur_rule _ | (intro _ _; simp [pureL, pureS, pureE]; done) | exact ⟨rfl, rfl, rfl, (by simp [EV.len, EV.sub])⟩ | exact fun _ _ => rfl)
        · show L.length - (x + 1) < L.length - x
          omega
    · have hc : (bif decide ((x : Int) < ((EV.g L.length 4 fun i => quadP (L.getD i q00)).len : Int)) then decide ((x : Int) < (n : Int)) else false) = false := by
        by_cases q : x < L.length
        · rw [decide_eq_true (show (x : Int) < ((EV.g L.length 4 fun i => quadP (L.getD i q00)).len : Int) by show (x : Int) < (L.length : Int); omega), decide_eq_false (show ¬ (x : Int) < (n : Int) by omega)]
          rfl
        · rw [decide_eq_false (show ¬ (x : Int) < ((EV.g L.length 4 fun i => quadP (L.getD i q00)).len : Int) by show ¬ (x : Int) < (L.length : Int); omega)]
          rfl
      have hO : O = fitN s L n := by
        have h := hw.run
        dsimp only at h
        rw [List.drop_of_length_le (by omega), fitS, List.append_nil] at h
        exact h
      have hpo := pur_rule O
      repeat' (first
        | (rw [hc])
        | ((with_reducible apply Sat.run (X := X64)); exact rfl; (first | exact True.intro | (exact phi) | skip))
        | ((with_reducible apply Sat.cond_f); exact rfl) | fail)
      subst hO
      (apply Sat.fend1; exact rfl; exact rfl; exact True.intro; exact rfl; exact ⟨rfl, trivial⟩; (first | exact .inl rfl | exact .inr rfl))
section
variable {a b : TypeId} {p q : Value}
theorem both_spec (s : SetL) (X : List RuleL) (v : Int) (hX : X.length ≤ 1000000) : ∃ (t u : SetL) (e g : Int), Fun Tryz.prog (Γs a b p q) 15 [s.v, .ro (ruleE X), .int .i64 v] (.tup [t.v, .int .i64 e]) ∧ Fun Tryz.prog (Γs a b p q) 16 [s.v, .ro (ruleE X), .int .i64 v] (.tup [t.v, .int .i64 e]) ∧
    Fun Tryz.prog (Γs a b p q) 17 [s.v, .ro (ruleE X), .int .i64 v] (.tup [u.v, .int .i64 g]) ∧ Fun Tryz.prog (Γs a b p q) 18 [s.v, .ro (ruleE X), .int .i64 v] (.tup [u.v, .int .i64 g]) :=
  ⟨_, _, _, _, Fun.weak (Fwd_spec s X v hX), Fun.weak (ref_do s X v hX), Fun.weak (Bck_spec s X v hX), Fun.weak (ref_undo s X v hX)⟩
theorem same_id (t : SetL) : Fun Tryz.prog (Γs a b p q) 19 [t.v, t.v] (.bool true) := by
  have h := Fun.weak (Γ := Γs a b p q) (same_spec t t)
  rwa [(sameS_iff t t).2 rfl] at h
theorem get_both (s : SetL) (n : Nm) (hr : Rising s.vals) (hl : s.vals.length ≤ 1000000) : ∃ (v : Nm) (e : Int), Fun Tryz.prog (Γs a b p q) 20 [s.v, .str n] (.tup [.str v, .int .i64 e]) ∧ Fun Tryz.prog (Γs a b p q) 22 [s.v, .str n] (.tup [.str v, .int .i64 e]) :=
  ⟨_, _, Fun.weak (Get_spec s n hr hl), Fun.weak (GetR_spec s n hl)⟩
theorem mat_spec (x : Raw) (hx : RawOk x) (L : List Quad) (hL : ∀ q ∈ L, QuadOk q) (r : RuleL) : Fun Tryz.prog (Γs a b p q) 3 [x.v, .ro (quadE L), .agg (ruleP r)] (.bool true) := by
  have hup := sanity_spec (a := a) (b := b) (p := p) (q := q)
  have hM := Fun.weak (Γ := Γs a b p q) (made_spec x hx)
  have hs := made_ok' x hx
  have hpl : pureE (quadE L) := fun _ _ => by simp [pureL, pureS, pureE]
  have hp1 := pur_pair x.vals
  have hp2 := pur_pair x.kept
  generalize madeS x = s at hM hs
  have hG := Fun.weak (Γ := Γs a b p q) (rules_spec L hL 6 (by decide))
  have hr := rules_ok L hL 6
  generalize rulesN L 6 = R at hG hr
  have hF := fit_mf (Γ := Γs a b p q) s hs.valid.rise (by have := hs.nv; omega) (by have := hs.nk; omega) L hL 6 (by decide)
  have hg6 : (fitN s L 6).length ≤ 6 := Nat.le_trans (fitS_len _ _) (by rw [List.length_take]; omega)
  generalize fitN s L 6 = G at hF hg6
  have hlen := hr.len
  have hpr := pur_rule R
  have hpg := pur_rule G
  refine Fun.mk 8 Tryz.func3 rfl Tryz.ntmps3 rfl rfl fun T w0 => ?_
  have q1 := pur_val s.vals
  have q2 := pur_val s.kept
  repeat' (first
    | ((with_reducible apply DSat.mf0 hF); exact rfl; exact rfl; kernel_rfl; exact rfl; ((repeat' (first | exact AllP.nil | refine AllP.cons ?_ ?_)) <;> first | exact trivial | exact rfl | assumption); exact rfl; ((repeat' (first | exact AllP.nil | refine AllP.cons ?_ ?_)) <;> first | exact trivial | exact rfl | assumption); exact rfl; ((repeat' (first | exact AllP.nil | refine AllP.cons ?_ ?_)) <;> first | exact trivial | exact rfl | assumption); exact rfl)
    | ((with_reducible apply Sat.run (X := (fun _ => false))); exact rfl; (first | exact True.intro | (exact phi) | skip))
    | ((with_reducible apply Sat.drawn); kernel_rfl)
    | ((with_reducible apply DSat.run (X := (fun _ => false))); exact rfl; (first | exact True.intro | (exact phi) | skip))
    | ((with_reducible apply DSat.fin); kernel_rfl)
    | ((with_reducible apply Sat.call0 (hup)); exact rfl; exact rfl; kernel_rfl; exact rfl)
    | ((with_reducible apply Sat.call (hM)); exact rfl; exact rfl; kernel_rfl; (exact cnvX); exact rfl)
    | ((with_reducible apply DSat.call (hG)); exact rfl; exact rfl; kernel_rfl; (exact cnvX); exact rfl) | fail)
  refine Sat.reC (i := 6) (ruleE (G ++ [r])) rfl rfl (by simp [EV.len, EV.sub]) rfl (fun i hi => app_rule G r i (by simpa [EV.len] using hi)) ?_
  have hpgr := pur_rule (G ++ [r])
  refine Sat.kill [27, 28, 29, 30, 31, 32, 33, 34, 35, 36, 37, 38] rfl ?_
  refine Sat.nestC 3 7 (nthL [[.ro (ruleE R)], [.ro (ruleE G)], [SV.row 6 0 (3 + 1) 0 (G.length + 1)]]) rfl ?_ ?_
  · ((repeat' (first | exact AllP.nil | with_reducible refine AllP.cons ?_ ?_)) <;> first | exact rfl | exact trivial | exact hpr | exact hpg | exact hpgr | exact ⟨rfl, rfl, rfl, rfl⟩ | exact .inl ⟨rfl, rfl, rfl⟩ | exact q1 | exact q2 | exact hpl | exact hp1 | exact hp2 | (intro i hi; exact absurd hi (Nat.not_lt_zero _)) | exact pure_lit1 _ (by simp [pureL, pureS, pureE]) | exact fun _ _ => rfl | (intro i hi; rcases i with _ | _ | _ | i <;> first | exact ⟨hpr, trivial⟩ | exact ⟨hpg, trivial⟩ | exact ⟨hpgr, trivial⟩ | omega | (refine ⟨_, rfl, ?_⟩; (repeat' (first | exact AllP.nil | refine AllP.cons ?_ ?_)) <;> first | exact rfl | exact trivial | exact hpr | exact hpg | exact hpgr | (simp [EV.len, EV.sub, EV.sz]; done))))
  refine Sat.nestC 6 7 (nthL [[.ro (ruleE R)], [.ro (ruleE G)], [.ro (ruleE (G ++ [r]))]]) rfl ?_ ?_
  · ((repeat' (first | exact AllP.nil | with_reducible refine AllP.cons ?_ ?_)) <;> first | exact rfl | exact trivial | exact hpr | exact hpg | exact hpgr | exact ⟨rfl, rfl, rfl, rfl⟩ | exact .inl ⟨rfl, rfl, rfl⟩ | exact q1 | exact q2 | exact hpl | exact hp1 | exact hp2 | (intro i hi; exact absurd hi (Nat.not_lt_zero _)) | exact pure_lit1 _ (by simp [pureL, pureS, pureE]) | exact fun _ _ => rfl | (intro i hi; rcases i with _ | _ | _ | i <;> first | exact ⟨hpr, trivial⟩ | exact ⟨hpg, trivial⟩ | exact ⟨hpgr, trivial⟩ | omega | (refine ⟨_, rfl, ?_⟩; (repeat' (first | exact AllP.nil | refine AllP.cons ?_ ?_)) <;> first | exact rfl | exact trivial | exact hpr | exact hpg | exact hpgr | (simp [EV.len, EV.sub, EV.sz]; done))))
  refine Sat.freezeC true 7 rfl ?_ ?_
  · ((repeat' (first | exact AllP.nil | with_reducible refine AllP.cons ?_ ?_)) <;> first | exact rfl | exact trivial | exact hpr | exact hpg | exact hpgr | exact ⟨rfl, rfl, rfl, rfl⟩ | exact .inl ⟨rfl, rfl, rfl⟩ | exact q1 | exact q2 | exact hpl | exact hp1 | exact hp2 | (intro i hi; exact absurd hi (Nat.not_lt_zero _)) | exact pure_lit1 _ (by simp [pureL, pureS, pureE]) | exact fun _ _ => rfl | (intro i hi; rcases i with _ | _ | _ | i <;> first | exact ⟨hpr, trivial⟩ | exact ⟨hpg, trivial⟩ | exact ⟨hpgr, trivial⟩ | omega | (refine ⟨_, rfl, ?_⟩; (repeat' (first | exact AllP.nil | refine AllP.cons ?_ ?_)) <;> first | exact rfl | exact trivial | exact hpr | exact hpg | exact hpgr | (simp [EV.len, EV.sub, EV.sz]; done))))
  obtain ⟨t1, u1, e1, g1, k11, k12, k13, k14⟩ := both_spec (a := a) (b := b) (p := p) (q := q) s R (IntKind.i64.wrap (2 * (L.length : Int))) (by omega)
  obtain ⟨t2, u2, e2, g2, k21, k22, k23, k24⟩ := both_spec (a := a) (b := b) (p := p) (q := q) s G (IntKind.i64.wrap (2 * (L.length : Int))) (by omega)
  obtain ⟨t3, u3, e3, g3, k31, k32, k33, k34⟩ := both_spec (a := a) (b := b) (p := p) (q := q) s (G ++ [r]) (IntKind.i64.wrap (2 * (L.length : Int))) (by rw [List.length_append]; show _ + 1 ≤ _; omega)
  have p1 := pur_val t1.vals
  have p2 := pur_val t1.kept
  have p3 := pur_val u1.vals
  have p4 := pur_val u1.kept
  have p5 := pur_val t2.vals
  have p6 := pur_val t2.kept
  have p7 := pur_val u2.vals
  have p8 := pur_val u2.kept
  have p9 := pur_val t3.vals
  have p10 := pur_val t3.kept
  have p11 := pur_val u3.vals
  have p12 := pur_val u3.kept
  have s1 := same_id (a := a) (b := b) (p := p) (q := q) t1
  have s2 := same_id (a := a) (b := b) (p := p) (q := q) u1
  have s3 := same_id (a := a) (b := b) (p := p) (q := q) t2
  have s4 := same_id (a := a) (b := b) (p := p) (q := q) u2
  have s5 := same_id (a := a) (b := b) (p := p) (q := q) t3
  have s6 := same_id (a := a) (b := b) (p := p) (q := q) u3
  have hln : s.vals.length ≤ 1000000 := by have := hs.nv; omega
  have c0 := Fun.weak (Γ := Γs a b p q) (call_spec 0 (by decide) (by decide))
  obtain ⟨v0, w0, d0, f0⟩ := get_both (a := a) (b := b) (p := p) (q := q) s (callN 0) hs.valid.rise hln
  have c1 := Fun.weak (Γ := Γs a b p q) (call_spec 1 (by decide) (by decide))
  obtain ⟨v1, w1, d1, f1⟩ := get_both (a := a) (b := b) (p := p) (q := q) s (callN 1) hs.valid.rise hln
  have c2 := Fun.weak (Γ := Γs a b p q) (call_spec 2 (by decide) (by decide))
  obtain ⟨v2, w2, d2, f2⟩ := get_both (a := a) (b := b) (p := p) (q := q) s (callN 2) hs.valid.rise hln
  have c3 := Fun.weak (Γ := Γs a b p q) (call_spec 3 (by decide) (by decide))
  obtain ⟨v3, w3, d3, f3⟩ := get_both (a := a) (b := b) (p := p) (q := q) s (callN 3) hs.valid.rise hln
  have c4 := Fun.weak (Γ := Γs a b p q) (call_spec 4 (by decide) (by decide))
  obtain ⟨v4, w4, d4, f4⟩ := get_both (a := a) (b := b) (p := p) (q := q) s (callN 4) hs.valid.rise hln
  have c5 := Fun.weak (Γ := Γs a b p q) (call_spec 5 (by decide) (by decide))
  obtain ⟨v5, w5, d5, f5⟩ := get_both (a := a) (b := b) (p := p) (q := q) s (callN 5) hs.valid.rise hln
  have c6 := Fun.weak (Γ := Γs a b p q) (call_spec 6 (by decide) (by decide))
  obtain ⟨v6, w6, d6, f6⟩ := get_both (a := a) (b := b) (p := p) (q := q) s (callN 6) hs.valid.rise hln
  have c7 := Fun.weak (Γ := Γs a b p q) (call_spec 7 (by decide) (by decide))
  obtain ⟨v7, w7, d7, f7⟩ := get_both (a := a) (b := b) (p := p) (q := q) s (callN 7) hs.valid.rise hln
  repeat' (first
    | ((with_reducible apply Sat.cond); exact rfl; (focus (intro h; exfalso; simp at h; done)); intro h)
    | ((with_reducible apply Sat.run (X := (fun _ => false))); exact rfl; (first | exact True.intro | (exact phi) | skip))
    | ((with_reducible apply Sat.drawn); kernel_rfl)
    | ((with_reducible apply DSat.run (X := (fun _ => false))); exact rfl; (first | exact True.intro | (exact phi) | skip))
    | ((with_reducible apply DSat.fin); kernel_rfl)
    | ((with_reducible apply Sat.cond_t); exact rfl)
    | ((with_reducible apply Sat.cond_f); exact rfl)
    | (with_reducible apply Sat.unroll 40)
    | (with_reducible apply Sat.again)
    | ((with_reducible apply DSat.call (k11)); exact rfl; exact rfl; kernel_rfl; (exact cnvX); exact rfl)
    | ((with_reducible apply DSat.call (k12)); exact rfl; exact rfl; kernel_rfl; (exact cnvX); exact rfl)
    | ((with_reducible apply DSat.call (k13)); exact rfl; exact rfl; kernel_rfl; (exact cnvX); exact rfl)
    | ((with_reducible apply DSat.call (k14)); exact rfl; exact rfl; kernel_rfl; (exact cnvX); exact rfl)
    | ((with_reducible apply DSat.call (k21)); exact rfl; exact rfl; kernel_rfl; (exact cnvX); exact rfl)
    | ((with_reducible apply DSat.call (k22)); exact rfl; exact rfl; kernel_rfl; (exact cnvX); exact rfl)
    | ((with_reducible apply DSat.call (k23)); exact rfl; exact rfl; kernel_rfl; (exact cnvX); exact rfl)
    | ((with_reducible apply DSat.call (k24)); exact rfl; exact rfl; kernel_rfl; (exact cnvX); exact rfl)
    | ((with_reducible apply DSat.call (k31)); exact rfl; exact rfl; kernel_rfl; (exact cnvX); exact rfl)
    | ((with_reducible apply DSat.call (k32)); exact rfl; exact rfl; kernel_rfl; (exact cnvX); exact rfl)
    | ((with_reducible apply DSat.call (k33)); exact rfl; exact rfl; kernel_rfl; (exact cnvX); exact rfl)
    | ((with_reducible apply DSat.call (k34)); exact rfl; exact rfl; kernel_rfl; (exact cnvX); exact rfl)
    | ((with_reducible apply Sat.callR (s1)); exact rfl; exact rfl; exact rfl; kernel_rfl; (exact cnvX); exact rfl)
    | ((with_reducible apply Sat.callG1 (s2)); exact rfl; exact rfl; exact rfl; exact rfl; kernel_rfl; (intro hG; (exact cnvX)); exact rfl)
    | ((with_reducible apply Sat.callR (s3)); exact rfl; exact rfl; exact rfl; kernel_rfl; (exact cnvX); exact rfl)
    | ((with_reducible apply Sat.callG1 (s4)); exact rfl; exact rfl; exact rfl; exact rfl; kernel_rfl; (intro hG; (exact cnvX)); exact rfl)
    | ((with_reducible apply Sat.callR (s5)); exact rfl; exact rfl; exact rfl; kernel_rfl; (exact cnvX); exact rfl)
    | ((with_reducible apply Sat.callG1 (s6)); exact rfl; exact rfl; exact rfl; exact rfl; kernel_rfl; (intro hG; (exact cnvX)); exact rfl)
    | ((with_reducible apply DSat.callR (c0)); exact rfl; exact rfl; exact rfl; kernel_rfl; (exact cnvX); exact rfl)
    | ((with_reducible apply DSat.callR (d0)); exact rfl; exact rfl; exact rfl; kernel_rfl; (exact cnvX); exact rfl)
    | ((with_reducible apply DSat.callR (f0)); exact rfl; exact rfl; exact rfl; kernel_rfl; (exact cnvX); exact rfl)
    | ((with_reducible apply DSat.callR (c1)); exact rfl; exact rfl; exact rfl; kernel_rfl; (exact cnvX); exact rfl)
    | ((with_reducible apply DSat.callR (d1)); exact rfl; exact rfl; exact rfl; kernel_rfl; (exact cnvX); exact rfl)
    | ((with_reducible apply DSat.callR (f1)); exact rfl; exact rfl; exact rfl; kernel_rfl; (exact cnvX); exact rfl)
    | ((with_reducible apply DSat.callR (c2)); exact rfl; exact rfl; exact rfl; kernel_rfl; (exact cnvX); exact rfl)
    | ((with_reducible apply DSat.callR (d2)); exact rfl; exact rfl; exact rfl; kernel_rfl; (exact cnvX); exact rfl)
    | ((with_reducible apply DSat.callR (f2)); exact rfl; exact rfl; exact rfl; kernel_rfl; (exact cnvX); exact rfl)
    | ((with_reducible apply DSat.callR (c3)); exact rfl; exact rfl; exact rfl; kernel_rfl; (exact cnvX); exact rfl)
    | ((with_reducible apply DSat.callR (d3)); exact rfl; exact rfl; exact rfl; kernel_rfl; (exact cnvX); exact rfl)
    | ((with_reducible apply DSat.callR (f3)); exact rfl; exact rfl; exact rfl; kernel_rfl; (exact cnvX); exact rfl)
    | ((with_reducible apply DSat.callR (c4)); exact rfl; exact rfl; exact rfl; kernel_rfl; (exact cnvX); exact rfl)
    | ((with_reducible apply DSat.callR (d4)); exact rfl; exact rfl; exact rfl; kernel_rfl; (exact cnvX); exact rfl)
    | ((with_reducible apply DSat.callR (f4)); exact rfl; exact rfl; exact rfl; kernel_rfl; (exact cnvX); exact rfl)
    | ((with_reducible apply DSat.callR (c5)); exact rfl; exact rfl; exact rfl; kernel_rfl; (exact cnvX); exact rfl)
    | ((with_reducible apply DSat.callR (d5)); exact rfl; exact rfl; exact rfl; kernel_rfl; (exact cnvX); exact rfl)
    | ((with_reducible apply DSat.callR (f5)); exact rfl; exact rfl; exact rfl; kernel_rfl; (exact cnvX); exact rfl)
    | ((with_reducible apply DSat.callR (c6)); exact rfl; exact rfl; exact rfl; kernel_rfl; (exact cnvX); exact rfl)
    | ((with_reducible apply DSat.callR (d6)); exact rfl; exact rfl; exact rfl; kernel_rfl; (exact cnvX); exact rfl)
    | ((with_reducible apply DSat.callR (f6)); exact rfl; exact rfl; exact rfl; kernel_rfl; (exact cnvX); exact rfl)
    | ((with_reducible apply DSat.callR (c7)); exact rfl; exact rfl; exact rfl; kernel_rfl; (exact cnvX); exact rfl)
    | ((with_reducible apply DSat.callR (d7)); exact rfl; exact rfl; exact rfl; kernel_rfl; (exact cnvX); exact rfl)
    | ((with_reducible apply DSat.callR (f7)); exact rfl; exact rfl; exact rfl; kernel_rfl; (exact cnvX); exact rfl) | fail)
  (refine Sat.fin (Sat.end1 rfl rfl rfl True.intro (.refl _ purX) (by first | exact .inl rfl | exact .inr rfl) (fun _ h => h)) ?_; rfl)
end
end Go.Proofs.YtpbgihhfcdggkaaGreatDoor
end
section
namespace Go.Proofs.YtpbgihhfcdggkaaGreatDoor
open Go.RowKit Go.ChangeShapes Go.WideShapes V
set_option maxRecDepth 100000
set_option maxHeartbeats 8000000
theorem settingsMatchesReference_step (os : Os) (started : os.Started) (H : Type) (enc : TypeId × Value → H) (F : Stop.Interp) :
    ReturnsInHanded {} Tryz.checked os 3 .any ((OpenSpec.ofChange Rows.settingsMatchesReferenceSpec).preRow enc Tryz.prog Tryz.f3 Rows.settingsMatchesReferenceRow.domain false Rows.settingsMatchesReferenceRow.laid) (((OpenSpec.ofChange Rows.settingsMatchesReferenceSpec).at F).post enc Tryz.prog Tryz.f3 false true false false) := by
  refine law_step2 (C := Tryz.checked) (fn := Tryz.f3) (s := OpenSpec.ofChange Rows.settingsMatchesReferenceSpec) (F := F) (tb := 4) Γw own started (by kernel_rfl) Tryz.func3 laidOut (by kernel_rfl) (by kernel_rfl) (by kernel_rfl) Tryz.underlying4 rfl ?_
    (row_witness (World.laidAll Tryz.prog os tabs_laid) #[.agg #[.int .u16 0, .slice none 0 0, .slice none 0 0], .slice none 0 0, .agg #[.int .i64 0, .string ⟨#[]⟩, .string ⟨#[]⟩, .string ⟨#[]⟩]] (World.laidAll_os _ _ _) (by kernel_rfl) (by kernel_rfl) (by kernel_rfl) (by kernel_rfl) (by kernel_rfl) (door_met os _)) tabs_glob ?_
  · intro ds hl
    obtain ⟨d1, d2, d3, rfl⟩ := list_len3 hl
    rfl
  · intro W vs ds hl ht hk
    obtain ⟨d1, d2, d3, rfl⟩ := list_len3 hl
    refine Fun.facts fun hf => ?_
    show Fun _ _ _ [rawSV d1, .ro (quadsSV (eOf d2)), .agg [.int .i64 (iOf (nthD (ptsD d3) 0)), .str (sOf (nthD (ptsD d3) 1)), .str (sOf (nthD (ptsD d3) 2)), .str (sOf (nthD (ptsD d3) 3))]] _
    obtain ⟨⟨h1, ⟨_, h2⟩, ⟨_, h3⟩, _⟩, ⟨_, h4⟩, _⟩ := hf
    rw [rawSV_eq, quadsSV_eq]
    exact mat_spec _ (raw_ok _ h1 h2 h3) _ (quads_ok _ h4) ⟨_, _, _, _⟩
theorem settingsMatchesReference_said : Rows.SettingsMatchesReferenceSaid :=
  OpenClaim.holds_of_cond 3 Tryz.f3 rfl rfl rfl rfl rfl rfl rfl ⟨rfl, rfl, rfl, rfl, rfl⟩ rfl rfl rfl rfl rfl (by kernel_rfl) Tryz.func3 (by kernel_rfl)
    (of_decide_eq_true (by kernel_rfl)) (by unfold Func.isWrapper; first | (rw [if_pos (by decide +kernel)]; kernel_rfl) | (rw [if_neg (by decide +kernel)]; exact ⟨rfl, rfl⟩))
    (fun os started H enc _ F => by rw [OpenClaim.pre_eq_preRow]; exact settingsMatchesReference_step os started H enc F)
theorem settingsMatchesReference_plain (f : FuncId) (fn : Func) (hf : Tryz.pinned.checked.prog.funcNamed "inlay/inlaylaw23.SettingsMatchesReference" = some f) (hfn : Tryz.pinned.checked.prog.funcs[f]? = some fn) :
    true = Tryz.pinned.checked.prog.looks [] ∧ ∀ (j : Nat) t, fn.params[j]? = some t → Tryz.pinned.checked.prog.wantsStandIn t = false := by
  obtain rfl : f = 3 := Option.some.inj ((show Tryz.prog.funcNamed "inlay/inlaylaw23.SettingsMatchesReference" = some 3 by kernel_rfl).symm.trans hf) |>.symm
  obtain rfl : fn = Tryz.f3 := (Option.some.inj (Tryz.func3.symm.trans hfn)).symm
  refine ⟨by kernel_rfl, fun j t ht => ?_⟩
  have hall : Tryz.f3.params.all (fun t => !(Tryz.prog.wantsStandIn t)) = true := by kernel_rfl
  have := (Array.all_eq_true_iff_forall_mem.1 hall) t (Array.mem_of_getElem? ht)
  have h2 : Tryz.prog.wantsStandIn t = false := by simpa using this
  exact h2
theorem settingsMatchesReference_card : Rows.SettingsMatchesReferenceCardSaid :=
  Claim7.holds_tied_plain_at .later [] _ _ _ _ settingsMatchesReference_said (fun _ h => by cases h) (by kernel_rfl) (fun _ h => by cases h) settingsMatchesReference_row_tie rfl ⟨rfl, rfl⟩ (by kernel_rfl) rfl settingsMatchesReference_plain (by kernel_rfl)
end Go.Proofs.YtpbgihhfcdggkaaGreatDoor
end
