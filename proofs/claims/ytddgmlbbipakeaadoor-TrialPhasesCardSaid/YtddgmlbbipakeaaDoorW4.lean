/-
  Trial: Valid of the reference; Made.
-/
import Derived.Test.YtddgmlbbipakeaaDoorW3
namespace Go.Proofs.YtddgmlbbipakeaaDoor
open Go.RowKit V
set_option maxRecDepth 100000
set_option maxHeartbeats 4000000
set_option linter.unusedSimpArgs false
attribute [local irreducible] V.Sat V.DSat
/-- Eight bytes. -/
structure W8 where
  (a b c d e f g h : Int)
@[reducible] def W8.v (w : W8) : SV := .agg [.int .u8 w.a, .int .u8 w.b, .int .u8 w.c, .int .u8 w.d, .int .u8 w.e, .int .u8 w.f, .int .u8 w.g, .int .u8 w.h]
structure W8.ok (w : W8) : Prop where
  (a0 : 0 ≤ w.a) (a1 : w.a ≤ 255) (b0 : 0 ≤ w.b) (b1 : w.b ≤ 255) (c0 : 0 ≤ w.c) (c1 : w.c ≤ 255) (d0 : 0 ≤ w.d) (d1 : w.d ≤ 255) (e0 : 0 ≤ w.e) (e1 : w.e ≤ 255) (f0 : 0 ≤ w.f) (f1 : w.f ≤ 255) (g0 : 0 ≤ w.g) (g1 : w.g ≤ 255) (h0 : 0 ≤ w.h) (h1 : w.h ≤ 255)
def Mad (w : W8) : S9 := ⟨w.a % 7, if w.a % 7 = 0 ∨ w.a % 7 = 5 then 0 else w.b % 65, if w.a % 7 = 0 ∨ w.a % 7 = 5 then 0 else w.c % 3, if w.a % 7 = 0 then 0 else 255 * w.d + w.c, if w.a % 7 = 5 then w.e % 4 else 0, w.f % 2, w.f / 2 % 8, if w.a % 7 = 0 then w.g else if w.g = w.h then w.g + 1 else w.g, if w.a % 7 = 0 then w.g else w.h⟩
theorem mad_vld (w : W8) (h : w.ok) : Vld (Mad w) := by
  obtain ⟨_, _, _, _, _, _, _, _, _, _, _, _, _, _, _, _⟩ := h
  refine ⟨⟨?_, ?_, ?_, ?_, ?_, ?_, ?_, ?_, ?_, ?_, ?_, ?_, ?_, ?_, ?_, ?_, ?_, ?_⟩, ?_, ?_, ?_, ?_⟩ <;> simp only [Mad] <;> (repeat' split) <;> omega
theorem made_spec (w : W8) (h : w.ok) : Fun Tryd.prog Γt 11 [w.v] (Mad w).v := by
  obtain ⟨_, _, _, _, _, _, _, _, _, _, _, _, _, _, _, _⟩ := h
  refine Fun.mk 7 Tryd.func11 rfl Tryd.ntmps11 rfl rfl fun T w0 => ?_
  repeat' (first
      | ((with_reducible apply Sat.run (X := X64)); exact rfl; (first | exact True.intro | ((try dsimp only) <;> (repeat' (first | exact AllP.nil | with_reducible refine AllP.cons ?_ ?_ | with_reducible apply And.intro)) <;> (first | assumption | exact True.intro | exact rfl | (show eqOk _ _ = true; kernel_rfl) | omega | (apply inR_i64 <;> omega) | (apply inR_u64 <;> omega) | (apply inR_u32 <;> omega) | (apply inR_u8' <;> omega) | (intro _; first | (show eqOk _ _ = true; kernel_rfl) | assumption | exact rfl | omega | (apply inR_i64 <;> omega) | (apply inR_u64 <;> omega) | (apply inR_u32 <;> omega) | (apply inR_u8' <;> omega)) | (simp; done) | (simp_all; done) | (simp_all; omega))) | skip))
      | ((with_reducible apply Sat.drawn); kernel_rfl)
      | ((with_reducible apply DSat.run (X := X64)); exact rfl; (first | exact True.intro | ((try dsimp only) <;> (repeat' (first | exact AllP.nil | with_reducible refine AllP.cons ?_ ?_ | with_reducible apply And.intro)) <;> (first | assumption | exact True.intro | exact rfl | (show eqOk _ _ = true; kernel_rfl) | omega | (apply inR_i64 <;> omega) | (apply inR_u64 <;> omega) | (apply inR_u32 <;> omega) | (apply inR_u8' <;> omega) | (intro _; first | (show eqOk _ _ = true; kernel_rfl) | assumption | exact rfl | omega | (apply inR_i64 <;> omega) | (apply inR_u64 <;> omega) | (apply inR_u32 <;> omega) | (apply inR_u8' <;> omega)) | (simp; done) | (simp_all; done) | (simp_all; omega))) | skip))
      | ((with_reducible apply DSat.fin); kernel_rfl)
      | ((with_reducible apply Sat.cond_t); exact rfl)
      | ((with_reducible apply Sat.cond_f); exact rfl)
      | ((with_reducible apply Sat.cond_pt); exact rfl; first | assumption | omega)
      | ((with_reducible apply Sat.cond_pf); exact rfl; first | assumption | omega)
      | ((with_reducible apply Sat.cond_p); exact rfl; all_goals intro h)
      | ((with_reducible apply Sat.cond); exact rfl; all_goals intro h)
      | ((with_reducible apply Sat.callR (settledR_spec ⟨_, _, _, _, _, _, _, _, _⟩)); exact rfl; exact rfl; kernel_rfl; ((repeat' (first | exact Convs.nil | apply Convs.cons | exact Conv.refl _ (by (repeat' (first | exact True.intro | apply And.intro))) | (refine Conv.may _ _ _ ?_ ?_; first | assumption | (simp_all; done) | omega) | exact Conv.nils _ rfl | (refine Conv.all _ _ _ _ _ rfl rfl ?_ ?_ <;> first | rfl | exact True.intro | omega) | apply Conv.agg | apply Conv.tup))); exact rfl)
      | ((with_reducible apply DSat.callR (settledR_spec ⟨_, _, _, _, _, _, _, _, _⟩)); exact rfl; exact rfl; kernel_rfl; ((repeat' (first | exact Convs.nil | apply Convs.cons | exact Conv.refl _ (by (repeat' (first | exact True.intro | apply And.intro))) | (refine Conv.may _ _ _ ?_ ?_; first | assumption | (simp_all; done) | omega) | exact Conv.nils _ rfl | (refine Conv.all _ _ _ _ _ rfl rfl ?_ ?_ <;> first | rfl | exact True.intro | omega) | apply Conv.agg | apply Conv.tup))); exact rfl))
  all_goals (refine Sat.fin (Sat.end1 rfl rfl True.intro (.refl _ (by (repeat' (first | exact True.intro | apply And.intro)))) (by first | exact .inl rfl | exact .inr rfl) (fun _ h => h)) ?_; (simp_all [Mad, Stl]; done))
end Go.Proofs.YtddgmlbbipakeaaDoor
