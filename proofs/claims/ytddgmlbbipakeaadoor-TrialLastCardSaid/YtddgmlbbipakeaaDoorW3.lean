/-
  Trial: Valid.
-/
import Derived.Test.YtddgmlbbipakeaaDoorVv
import Derived.Test.YtddgmlbbipakeaaDoorW2
namespace Go.Proofs.YtddgmlbbipakeaaDoor
open Go.RowKit V
set_option maxRecDepth 100000
set_option maxHeartbeats 4000000
set_option linter.unusedSimpArgs false
attribute [local irreducible] V.Sat V.DSat
def bnd (s : S9) : SV := .agg [.int .i64 s.ph, .int .i64 6, .int .i64 s.st, .int .i64 64, .int .i64 s.su, .int .i64 2, .int .i64 s.un, .int .i64 65535, .int .i64 s.tr, .int .i64 3, .int .i64 s.se, .int .i64 1, .int .i64 s.sg, .int .i64 7, .int .i64 s.ve, .int .i64 60000, .int .i64 s.la, .int .i64 60000]
theorem bounds_spec (s : S9) : Fun Tryd.prog Γt 27 [s.v] (bnd s) := by
  refine Fun.mk 7 Tryd.func27 rfl Tryd.ntmps27 rfl rfl fun T w => ?_
  repeat' (first
      | ((with_reducible apply Sat.run (X := X64)); exact rfl; (first | exact True.intro | ((try dsimp only) <;> (repeat' (first | exact AllP.nil | with_reducible refine AllP.cons ?_ ?_ | with_reducible apply And.intro)) <;> (first | assumption | exact True.intro | exact rfl | (show eqOk _ _ = true; kernel_rfl) | omega | (apply inR_i64 <;> omega) | (apply inR_u64 <;> omega) | (apply inR_u32 <;> omega) | (apply inR_u8' <;> omega) | (intro _; first | (show eqOk _ _ = true; kernel_rfl) | assumption | exact rfl | omega | (apply inR_i64 <;> omega) | (apply inR_u64 <;> omega) | (apply inR_u32 <;> omega) | (apply inR_u8' <;> omega)) | (simp; done) | (simp_all; done) | (simp_all; omega))) | skip))
      | ((with_reducible apply Sat.drawn); kernel_rfl)
      | ((with_reducible apply DSat.run (X := X64)); exact rfl; (first | exact True.intro | ((try dsimp only) <;> (repeat' (first | exact AllP.nil | with_reducible refine AllP.cons ?_ ?_ | with_reducible apply And.intro)) <;> (first | assumption | exact True.intro | exact rfl | (show eqOk _ _ = true; kernel_rfl) | omega | (apply inR_i64 <;> omega) | (apply inR_u64 <;> omega) | (apply inR_u32 <;> omega) | (apply inR_u8' <;> omega) | (intro _; first | (show eqOk _ _ = true; kernel_rfl) | assumption | exact rfl | omega | (apply inR_i64 <;> omega) | (apply inR_u64 <;> omega) | (apply inR_u32 <;> omega) | (apply inR_u8' <;> omega)) | (simp; done) | (simp_all; done) | (simp_all; omega))) | skip))
      | ((with_reducible apply DSat.fin); kernel_rfl))
  all_goals (refine Sat.fin (Sat.end1 rfl rfl True.intro (.refl _ (by (repeat' (first | exact True.intro | apply And.intro)))) (by first | exact .inl rfl | exact .inr rfl) (fun _ h => h)) ?_; rfl)
structure Rng (s : S9) : Prop where
  (a0 : 0 ≤ s.ph) (a1 : s.ph ≤ 6) (b0 : 0 ≤ s.st) (b1 : s.st ≤ 64) (c0 : 0 ≤ s.su) (c1 : s.su ≤ 2) (d0 : 0 ≤ s.un) (d1 : s.un ≤ 65535) (e0 : 0 ≤ s.tr) (e1 : s.tr ≤ 3) (f0 : 0 ≤ s.se) (f1 : s.se ≤ 1) (g0 : 0 ≤ s.sg) (g1 : s.sg ≤ 7) (h0 : 0 ≤ s.ve) (h1 : s.ve ≤ 60000) (i0 : 0 ≤ s.la) (i1 : s.la ≤ 60000)
/-- A valid state. -/
structure Vld (s : S9) : Prop extends Rng s where
  (z1 : s.ph ≠ 0 ∨ (s.st = 0 ∧ s.su = 0 ∧ s.un = 0 ∧ s.ve = s.la))
  (z2 : s.ph = 0 ∨ s.ve ≠ s.la)
  (z3 : s.ph ≠ 5 ∨ (s.st = 0 ∧ s.su = 0))
  (z4 : s.ph = 5 ∨ s.tr = 0)
def vldB (s : S9) : Bool := decide (0 ≤ s.ph ∧ s.ph ≤ 6 ∧ 0 ≤ s.st ∧ s.st ≤ 64 ∧ 0 ≤ s.su ∧ s.su ≤ 2 ∧ 0 ≤ s.un ∧ s.un ≤ 65535 ∧ 0 ≤ s.tr ∧ s.tr ≤ 3 ∧ 0 ≤ s.se ∧ s.se ≤ 1 ∧ 0 ≤ s.sg ∧ s.sg ≤ 7 ∧ 0 ≤ s.ve ∧ s.ve ≤ 60000 ∧ 0 ≤ s.la ∧ s.la ≤ 60000 ∧ (s.ph ≠ 0 ∨ (s.st = 0 ∧ s.su = 0 ∧ s.un = 0 ∧ s.ve = s.la)) ∧ (s.ph = 0 ∨ s.ve ≠ s.la) ∧ (s.ph ≠ 5 ∨ (s.st = 0 ∧ s.su = 0)) ∧ (s.ph = 5 ∨ s.tr = 0))
theorem vldB_iff {s : S9} : vldB s = true ↔ Vld s := by
  simp only [vldB, decide_eq_true_eq]
  constructor
  · rintro ⟨q0, q1, q2, q3, q4, q5, q6, q7, q8, q9, q10, q11, q12, q13, q14, q15, q16, q17, z1, z2, z3, z4⟩
    exact ⟨⟨q0, q1, q2, q3, q4, q5, q6, q7, q8, q9, q10, q11, q12, q13, q14, q15, q16, q17⟩, z1, z2, z3, z4⟩
  · rintro ⟨⟨q0, q1, q2, q3, q4, q5, q6, q7, q8, q9, q10, q11, q12, q13, q14, q15, q16, q17⟩, z1, z2, z3, z4⟩
    exact ⟨q0, q1, q2, q3, q4, q5, q6, q7, q8, q9, q10, q11, q12, q13, q14, q15, q16, q17, z1, z2, z3, z4⟩
theorem vldB_t {s : S9} (h : Vld s) : vldB s = true := vldB_iff.2 h
theorem vldB_f {s : S9} (h : ¬ Vld s) : vldB s = false := by
  cases hb : vldB s with
  | false => rfl
  | true => exact absurd (vldB_iff.1 hb) h
theorem vldB_eq {s : S9} {b : Bool} (h1 : Vld s → b = true) (h2 : b = true → Vld s) : b = vldB s := by
  by_cases h : Vld s
  · rw [vldB_t h, h1 h]
  · rw [vldB_f h]
    cases b with
    | false => rfl
    | true => exact absurd (h2 rfl) h
theorem bool_sv {a b : Bool} (h : b = a) : SV.bool a = SV.bool b := by rw [h]
theorem valid_spec (s : S9) : Fun Tryd.prog Γt 22 [s.v] (.bool (vldB s)) := by
  refine Fun.mk 6 Tryd.func22 rfl Tryd.ntmps22 rfl rfl fun T w => ?_
  repeat' (first
      | ((with_reducible apply Sat.run (X := X64)); exact rfl; (first | exact True.intro | ((try dsimp only) <;> (repeat' (first | exact AllP.nil | with_reducible refine AllP.cons ?_ ?_ | with_reducible apply And.intro)) <;> (first | assumption | exact True.intro | exact rfl | (show eqOk _ _ = true; kernel_rfl) | omega | (apply inR_i64 <;> omega) | (apply inR_u64 <;> omega) | (apply inR_u32 <;> omega) | (apply inR_u8' <;> omega) | (intro _; first | (show eqOk _ _ = true; kernel_rfl) | assumption | exact rfl | omega | (apply inR_i64 <;> omega) | (apply inR_u64 <;> omega) | (apply inR_u32 <;> omega) | (apply inR_u8' <;> omega)) | (simp; done) | (simp_all; done) | (simp_all; omega))) | skip))
      | ((with_reducible apply Sat.drawn); kernel_rfl)
      | ((with_reducible apply DSat.run (X := X64)); exact rfl; (first | exact True.intro | ((try dsimp only) <;> (repeat' (first | exact AllP.nil | with_reducible refine AllP.cons ?_ ?_ | with_reducible apply And.intro)) <;> (first | assumption | exact True.intro | exact rfl | (show eqOk _ _ = true; kernel_rfl) | omega | (apply inR_i64 <;> omega) | (apply inR_u64 <;> omega) | (apply inR_u32 <;> omega) | (apply inR_u8' <;> omega) | (intro _; first | (show eqOk _ _ = true; kernel_rfl) | assumption | exact rfl | omega | (apply inR_i64 <;> omega) | (apply inR_u64 <;> omega) | (apply inR_u32 <;> omega) | (apply inR_u8' <;> omega)) | (simp; done) | (simp_all; done) | (simp_all; omega))) | skip))
      | ((with_reducible apply DSat.fin); kernel_rfl)
      | ((with_reducible apply Sat.cond_t); exact rfl)
      | ((with_reducible apply Sat.cond_f); exact rfl)
      | ((with_reducible apply Sat.cond_pt); exact rfl; first | assumption | omega)
      | ((with_reducible apply Sat.cond_pf); exact rfl; first | assumption | omega)
      | ((with_reducible apply Sat.cond_p); exact rfl; all_goals intro h)
      | ((with_reducible apply Sat.cond); exact rfl; all_goals intro h)
      | ((with_reducible apply Sat.callR (bounds_spec s)); exact rfl; exact rfl; kernel_rfl; ((repeat' (first | exact Convs.nil | apply Convs.cons | exact Conv.refl _ (by (repeat' (first | exact True.intro | apply And.intro))) | (refine Conv.may _ _ _ ?_ ?_; first | assumption | (simp_all; done) | omega) | exact Conv.nils _ rfl | (refine Conv.all _ _ _ _ _ rfl rfl ?_ ?_ <;> first | rfl | exact True.intro | omega) | apply Conv.agg | apply Conv.tup))); exact rfl)
      | ((with_reducible apply DSat.callR (bounds_spec s)); exact rfl; exact rfl; kernel_rfl; ((repeat' (first | exact Convs.nil | apply Convs.cons | exact Conv.refl _ (by (repeat' (first | exact True.intro | apply And.intro))) | (refine Conv.may _ _ _ ?_ ?_; first | assumption | (simp_all; done) | omega) | exact Conv.nils _ rfl | (refine Conv.all _ _ _ _ _ rfl rfl ?_ ?_ <;> first | rfl | exact True.intro | omega) | apply Conv.agg | apply Conv.tup))); exact rfl)
      | ((with_reducible apply Sat.callR (lean_spec s)); exact rfl; exact rfl; kernel_rfl; ((repeat' (first | exact Convs.nil | apply Convs.cons | exact Conv.refl _ (by (repeat' (first | exact True.intro | apply And.intro))) | (refine Conv.may _ _ _ ?_ ?_; first | assumption | (simp_all; done) | omega) | exact Conv.nils _ rfl | (refine Conv.all _ _ _ _ _ rfl rfl ?_ ?_ <;> first | rfl | exact True.intro | omega) | apply Conv.agg | apply Conv.tup))); exact rfl)
      | ((with_reducible apply DSat.callR (lean_spec s)); exact rfl; exact rfl; kernel_rfl; ((repeat' (first | exact Convs.nil | apply Convs.cons | exact Conv.refl _ (by (repeat' (first | exact True.intro | apply And.intro))) | (refine Conv.may _ _ _ ?_ ?_; first | assumption | (simp_all; done) | omega) | exact Conv.nils _ rfl | (refine Conv.all _ _ _ _ _ rfl rfl ?_ ?_ <;> first | rfl | exact True.intro | omega) | apply Conv.agg | apply Conv.tup))); exact rfl)
      | (with_reducible apply Sat.unroll 40)
      | (with_reducible apply Sat.again))
  all_goals (refine Sat.fin (Sat.end1 rfl rfl True.intro (.refl _ (by (repeat' (first | exact True.intro | apply And.intro)))) (by first | exact .inl rfl | exact .inr rfl) (fun _ h => h)) ?_; (refine bool_sv (vldB_eq (fun v => ?_) (fun hb => ?_))))
  all_goals (simp only [Bool.cond_true_left, Bool.cond_false_right, Bool.or_eq_true, Bool.and_eq_true, Bool.or_eq_false_iff, decide_eq_true_eq, decide_eq_false_iff_not, Bool.and_eq_false_iff, ne_eq, Bool.false_eq_true, true_and, and_true] at *)
  all_goals (try simp only [lea, and_true, true_and] at *)
  all_goals first | (exfalso; assumption) | skip
  all_goals first | (obtain ⟨⟨_, _, _, _, _, _, _, _, _, _, _, _, _, _, _, _, _, _⟩, _, _, _, _⟩ := v; omega) | (refine ⟨⟨?_, ?_, ?_, ?_, ?_, ?_, ?_, ?_, ?_, ?_, ?_, ?_, ?_, ?_, ?_, ?_, ?_, ?_⟩, ?_, ?_, ?_, ?_⟩ <;> omega)
end Go.Proofs.YtddgmlbbipakeaaDoor
