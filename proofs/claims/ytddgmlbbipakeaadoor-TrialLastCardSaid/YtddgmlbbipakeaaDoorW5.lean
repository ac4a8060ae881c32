/-
  Trial: Valid of the reference.
-/
import Derived.Test.YtddgmlbbipakeaaDoorW4
namespace Go.Proofs.YtddgmlbbipakeaaDoor
open Go.RowKit V
set_option maxRecDepth 100000
set_option maxHeartbeats 8000000
set_option linter.unusedSimpArgs false
attribute [local irreducible] V.Sat V.DSat
theorem validR_spec (s : S9) : Fun Tryd.prog Γt 23 [s.v] (.bool (vldB s)) := by
  refine Fun.mk 7 Tryd.func23 rfl Tryd.ntmps23 rfl rfl fun T w => ?_
  repeat' (first
      | ((with_reducible apply Sat.run (X := X64)); exact rfl; (first | exact True.intro | ((try dsimp only) <;> (repeat' (first | exact AllP.nil | with_reducible refine AllP.cons ?_ ?_ | with_reducible apply And.intro)) <;> (first | assumption | exact True.intro | exact rfl | (show eqOk _ _ = true; kernel_rfl) | omega | (apply inR_i64 <;> omega) | (apply inR_u64 <;> omega) | (apply inR_u32 <;> omega) | (apply inR_u8' <;> omega) | (intro _; first | (show eqOk _ _ = true; kernel_rfl) | assumption | exact rfl | omega | (apply inR_i64 <;> omega) | (apply inR_u64 <;> omega) | (apply inR_u32 <;> omega) | (apply inR_u8' <;> omega)) | (simp; done) | (simp_all; done) | (simp_all; omega))) | skip))
      | ((with_reducible apply Sat.drawn); kernel_rfl)
      | ((with_reducible apply DSat.run (X := X64)); exact rfl; (first | exact True.intro | ((try dsimp only) <;> (repeat' (first | exact AllP.nil | with_reducible refine AllP.cons ?_ ?_ | with_reducible apply And.intro)) <;> (first | assumption | exact True.intro | exact rfl | (show eqOk _ _ = true; kernel_rfl) | omega | (apply inR_i64 <;> omega) | (apply inR_u64 <;> omega) | (apply inR_u32 <;> omega) | (apply inR_u8' <;> omega) | (intro _; first | (show eqOk _ _ = true; kernel_rfl) | assumption | exact rfl | omega | (apply inR_i64 <;> omega) | (apply inR_u64 <;> omega) | (apply inR_u32 <;> omega) | (apply inR_u8' <;> omega)) | (simp; done) | (simp_all; done) | (simp_all; omega))) | skip))
      | ((with_reducible apply DSat.fin); kernel_rfl)
      | ((with_reducible apply Sat.cond_t); exact rfl)
      | ((with_reducible apply Sat.cond_f); exact rfl)
      | ((with_reducible apply Sat.cond_pt); exact rfl; first | assumption | omega)
      | ((with_reducible apply Sat.cond_pf); exact rfl; first | assumption | omega)
      | ((with_reducible apply Sat.cond_p); exact rfl; all_goals intro h)
      | ((with_reducible apply Sat.cond); exact rfl; all_goals intro h)
      | ((with_reducible apply Sat.callR (in_spec _ _ _)); exact rfl; exact rfl; kernel_rfl; ((repeat' (first | exact Convs.nil | apply Convs.cons | exact Conv.refl _ (by (repeat' (first | exact True.intro | apply And.intro))) | (refine Conv.may _ _ _ ?_ ?_; first | assumption | (simp_all; done) | omega) | exact Conv.nils _ rfl | (refine Conv.all _ _ _ _ _ rfl rfl ?_ ?_ <;> first | rfl | exact True.intro | omega) | apply Conv.agg | apply Conv.tup))); exact rfl)
      | ((with_reducible apply DSat.callR (in_spec _ _ _)); exact rfl; exact rfl; kernel_rfl; ((repeat' (first | exact Convs.nil | apply Convs.cons | exact Conv.refl _ (by (repeat' (first | exact True.intro | apply And.intro))) | (refine Conv.may _ _ _ ?_ ?_; first | assumption | (simp_all; done) | omega) | exact Conv.nils _ rfl | (refine Conv.all _ _ _ _ _ rfl rfl ?_ ?_ <;> first | rfl | exact True.intro | omega) | apply Conv.agg | apply Conv.tup))); exact rfl)
      | ((with_reducible apply Sat.callG1 (in_spec _ _ _)); exact rfl; exact rfl; exact rfl; kernel_rfl; (intro hG; ((repeat' (first | exact Convs.nil | apply Convs.cons | exact Conv.refl _ (by (repeat' (first | exact True.intro | apply And.intro))) | (refine Conv.may _ _ _ ?_ ?_; first | assumption | (simp_all; done) | omega) | exact Conv.nils _ rfl | (refine Conv.all _ _ _ _ _ rfl rfl ?_ ?_ <;> first | rfl | exact True.intro | omega) | apply Conv.agg | apply Conv.tup)))); exact rfl)
      | ((with_reducible apply DSat.callG1 (in_spec _ _ _)); exact rfl; exact rfl; exact rfl; kernel_rfl; (intro hG; ((repeat' (first | exact Convs.nil | apply Convs.cons | exact Conv.refl _ (by (repeat' (first | exact True.intro | apply And.intro))) | (refine Conv.may _ _ _ ?_ ?_; first | assumption | (simp_all; done) | omega) | exact Conv.nils _ rfl | (refine Conv.all _ _ _ _ _ rfl rfl ?_ ?_ <;> first | rfl | exact True.intro | omega) | apply Conv.agg | apply Conv.tup)))); exact rfl)
      | ((with_reducible apply Sat.callR (settledR_spec s)); exact rfl; exact rfl; kernel_rfl; ((repeat' (first | exact Convs.nil | apply Convs.cons | exact Conv.refl _ (by (repeat' (first | exact True.intro | apply And.intro))) | (refine Conv.may _ _ _ ?_ ?_; first | assumption | (simp_all; done) | omega) | exact Conv.nils _ rfl | (refine Conv.all _ _ _ _ _ rfl rfl ?_ ?_ <;> first | rfl | exact True.intro | omega) | apply Conv.agg | apply Conv.tup))); exact rfl)
      | ((with_reducible apply DSat.callR (settledR_spec s)); exact rfl; exact rfl; kernel_rfl; ((repeat' (first | exact Convs.nil | apply Convs.cons | exact Conv.refl _ (by (repeat' (first | exact True.intro | apply And.intro))) | (refine Conv.may _ _ _ ?_ ?_; first | assumption | (simp_all; done) | omega) | exact Conv.nils _ rfl | (refine Conv.all _ _ _ _ _ rfl rfl ?_ ?_ <;> first | rfl | exact True.intro | omega) | apply Conv.agg | apply Conv.tup))); exact rfl))
  all_goals (refine Sat.fin (Sat.end1 rfl rfl True.intro (.refl _ (by (repeat' (first | exact True.intro | apply And.intro)))) (by first | exact .inl rfl | exact .inr rfl) (fun _ h => h)) ?_; (refine bool_sv (vldB_eq (fun v => ?_) (fun hb => ?_))))
  all_goals (simp only [Stl, Bool.cond_true_left, Bool.cond_false_right, Bool.or_eq_true, Bool.and_eq_true, Bool.or_eq_false_iff, Bool.and_eq_false_iff, Bool.not_eq_true', Bool.not_eq_false', decide_eq_true_eq, decide_eq_false_iff_not, ne_eq, Bool.false_eq_true, true_and, and_true] at *)
  all_goals first | (exfalso; assumption) | skip
  all_goals first | (obtain ⟨⟨_, _, _, _, _, _, _, _, _, _, _, _, _, _, _, _, _, _⟩, _, _, _, _⟩ := v; omega) | (refine ⟨⟨?_, ?_, ?_, ?_, ?_, ?_, ?_, ?_, ?_, ?_, ?_, ?_, ?_, ?_, ?_, ?_, ?_, ?_⟩, ?_, ?_, ?_, ?_⟩ <;> omega)
end Go.Proofs.YtddgmlbbipakeaaDoor
