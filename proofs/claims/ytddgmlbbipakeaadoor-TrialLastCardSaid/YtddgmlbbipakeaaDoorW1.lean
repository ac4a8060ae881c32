/-
  Trial: the small functions.
-/
import Derived.Test.YtddgmlbbipakeaaDoorVt
namespace Go.Proofs.YtddgmlbbipakeaaDoor
open Go.RowKit V
def X64 : IntKind → Bool
  | .i64 => true
  | _ => false
/-- A state, field by field. -/
structure S9 where
  (ph st su un tr se sg ve la : Int)
@[reducible] def S9.l (s : S9) : List SV := [.int .i64 s.ph, .int .i64 s.st, .int .i64 s.su, .int .i64 s.un, .int .i64 s.tr, .int .i64 s.se, .int .i64 s.sg, .int .i64 s.ve, .int .i64 s.la]
@[reducible] def S9.v (s : S9) : SV := .agg s.l
def bootsF : Nat → List SV
  | 0 => [.fn 45 []]
  | 5 => [.fn 46 []]
  | _ => [.nilf]
@[reducible] def Γt : Glob := [(0, .g 7 1 bootsF)]
set_option maxRecDepth 100000
set_option maxHeartbeats 4000000
attribute [local irreducible] V.Sat V.DSat
def lea (s : S9) : S9 := ⟨0, 0, 0, 0, 0, s.se, s.sg, s.ve, s.la⟩
theorem lean_spec (s : S9) : Fun Tryd.prog Γt 25 [s.v] (lea s).v := by
  refine Fun.mk 5 Tryd.func25 rfl Tryd.ntmps25 rfl rfl fun T w => ?_
  repeat' (first
      | ((with_reducible apply Sat.run (X := X64)); exact rfl; (first | exact True.intro | ((try dsimp only) <;> (repeat' (first | exact AllP.nil | with_reducible refine AllP.cons ?_ ?_ | with_reducible apply And.intro)) <;> (first | assumption | exact True.intro | exact rfl | (show eqOk _ _ = true; kernel_rfl) | omega | (apply inR_i64 <;> omega) | (apply inR_u64 <;> omega) | (apply inR_u32 <;> omega) | (apply inR_u8' <;> omega) | (intro _; first | (show eqOk _ _ = true; kernel_rfl) | assumption | exact rfl | omega | (apply inR_i64 <;> omega) | (apply inR_u64 <;> omega) | (apply inR_u32 <;> omega) | (apply inR_u8' <;> omega)) | (simp; done) | (simp_all; done) | (simp_all; omega))) | skip))
      | ((with_reducible apply Sat.drawn); kernel_rfl)
      | ((with_reducible apply DSat.run (X := X64)); exact rfl; (first | exact True.intro | ((try dsimp only) <;> (repeat' (first | exact AllP.nil | with_reducible refine AllP.cons ?_ ?_ | with_reducible apply And.intro)) <;> (first | assumption | exact True.intro | exact rfl | (show eqOk _ _ = true; kernel_rfl) | omega | (apply inR_i64 <;> omega) | (apply inR_u64 <;> omega) | (apply inR_u32 <;> omega) | (apply inR_u8' <;> omega) | (intro _; first | (show eqOk _ _ = true; kernel_rfl) | assumption | exact rfl | omega | (apply inR_i64 <;> omega) | (apply inR_u64 <;> omega) | (apply inR_u32 <;> omega) | (apply inR_u8' <;> omega)) | (simp; done) | (simp_all; done) | (simp_all; omega))) | skip))
      | ((with_reducible apply DSat.fin); kernel_rfl))
  (refine Sat.fin (Sat.end1 rfl rfl True.intro (.refl _ (by (repeat' (first | exact True.intro | apply And.intro)))) (by first | exact .inl rfl | exact .inr rfl) (fun _ h => h)) ?_; rfl)
def Stl (s : S9) : Bool := decide (s.ph = 0 ∨ s.ph = 5)
theorem settled_spec (s : S9) : Fun Tryd.prog Γt 20 [s.v] (.bool (Stl s)) := by
  refine Fun.mk 6 Tryd.func20 rfl Tryd.ntmps20 rfl rfl fun T w => ?_
  repeat' (first
      | ((with_reducible apply Sat.run (X := X64)); exact rfl; (first | exact True.intro | ((try dsimp only) <;> (repeat' (first | exact AllP.nil | with_reducible refine AllP.cons ?_ ?_ | with_reducible apply And.intro)) <;> (first | assumption | exact True.intro | exact rfl | (show eqOk _ _ = true; kernel_rfl) | omega | (apply inR_i64 <;> omega) | (apply inR_u64 <;> omega) | (apply inR_u32 <;> omega) | (apply inR_u8' <;> omega) | (intro _; first | (show eqOk _ _ = true; kernel_rfl) | assumption | exact rfl | omega | (apply inR_i64 <;> omega) | (apply inR_u64 <;> omega) | (apply inR_u32 <;> omega) | (apply inR_u8' <;> omega)) | (simp; done) | (simp_all; done) | (simp_all; omega))) | skip))
      | ((with_reducible apply Sat.drawn); kernel_rfl)
      | ((with_reducible apply DSat.run (X := X64)); exact rfl; (first | exact True.intro | ((try dsimp only) <;> (repeat' (first | exact AllP.nil | with_reducible refine AllP.cons ?_ ?_ | with_reducible apply And.intro)) <;> (first | assumption | exact True.intro | exact rfl | (show eqOk _ _ = true; kernel_rfl) | omega | (apply inR_i64 <;> omega) | (apply inR_u64 <;> omega) | (apply inR_u32 <;> omega) | (apply inR_u8' <;> omega) | (intro _; first | (show eqOk _ _ = true; kernel_rfl) | assumption | exact rfl | omega | (apply inR_i64 <;> omega) | (apply inR_u64 <;> omega) | (apply inR_u32 <;> omega) | (apply inR_u8' <;> omega)) | (simp; done) | (simp_all; done) | (simp_all; omega))) | skip))
      | ((with_reducible apply DSat.fin); kernel_rfl))
  (refine Sat.fin (Sat.end1 rfl rfl True.intro (.refl _ (by (repeat' (first | exact True.intro | apply And.intro)))) (by first | exact .inl rfl | exact .inr rfl) (fun _ h => h)) ?_; (simp [Stl]; done))
theorem settledR_spec (s : S9) : Fun Tryd.prog Γt 21 [s.v] (.bool (Stl s)) := by
  refine Fun.mk 6 Tryd.func21 rfl Tryd.ntmps21 rfl rfl fun T w => ?_
  repeat' (first
      | ((with_reducible apply Sat.run (X := X64)); exact rfl; (first | exact True.intro | ((try dsimp only) <;> (repeat' (first | exact AllP.nil | with_reducible refine AllP.cons ?_ ?_ | with_reducible apply And.intro)) <;> (first | assumption | exact True.intro | exact rfl | (show eqOk _ _ = true; kernel_rfl) | omega | (apply inR_i64 <;> omega) | (apply inR_u64 <;> omega) | (apply inR_u32 <;> omega) | (apply inR_u8' <;> omega) | (intro _; first | (show eqOk _ _ = true; kernel_rfl) | assumption | exact rfl | omega | (apply inR_i64 <;> omega) | (apply inR_u64 <;> omega) | (apply inR_u32 <;> omega) | (apply inR_u8' <;> omega)) | (simp; done) | (simp_all; done) | (simp_all; omega))) | skip))
      | ((with_reducible apply Sat.drawn); kernel_rfl)
      | ((with_reducible apply DSat.run (X := X64)); exact rfl; (first | exact True.intro | ((try dsimp only) <;> (repeat' (first | exact AllP.nil | with_reducible refine AllP.cons ?_ ?_ | with_reducible apply And.intro)) <;> (first | assumption | exact True.intro | exact rfl | (show eqOk _ _ = true; kernel_rfl) | omega | (apply inR_i64 <;> omega) | (apply inR_u64 <;> omega) | (apply inR_u32 <;> omega) | (apply inR_u8' <;> omega) | (intro _; first | (show eqOk _ _ = true; kernel_rfl) | assumption | exact rfl | omega | (apply inR_i64 <;> omega) | (apply inR_u64 <;> omega) | (apply inR_u32 <;> omega) | (apply inR_u8' <;> omega)) | (simp; done) | (simp_all; done) | (simp_all; omega))) | skip))
      | ((with_reducible apply DSat.fin); kernel_rfl))
  (refine Sat.fin (Sat.end1 rfl rfl True.intro (.refl _ (by (repeat' (first | exact True.intro | apply And.intro)))) (by first | exact .inl rfl | exact .inr rfl) (fun _ h => h)) ?_; (simp [Stl]; done))
/-- A state and a number. -/
@[reducible] def sE (x : S9 × Int) : SV := .tup [x.1.v, .int .i64 x.2]
@[reducible] def sB (x : S9 × Bool) : SV := .tup [x.1.v, .bool x.2]
def Fai (s : S9) : S9 × Int := if s.ph = 5 then (⟨6, 0, 0, s.un, 0, s.se, s.sg, s.ve, s.la⟩, 0) else (s, 240)
theorem fail_spec (s : S9) : Fun Tryd.prog Γt 18 [s.v] (sE (Fai s)) := by
  refine Fun.mk 7 Tryd.func18 rfl Tryd.ntmps18 rfl rfl fun T w => ?_
  repeat' (first
      | ((with_reducible apply Sat.run (X := X64)); exact rfl; (first | exact True.intro | ((try dsimp only) <;> (repeat' (first | exact AllP.nil | with_reducible refine AllP.cons ?_ ?_ | with_reducible apply And.intro)) <;> (first | assumption | exact True.intro | exact rfl | (show eqOk _ _ = true; kernel_rfl) | omega | (apply inR_i64 <;> omega) | (apply inR_u64 <;> omega) | (apply inR_u32 <;> omega) | (apply inR_u8' <;> omega) | (intro _; first | (show eqOk _ _ = true; kernel_rfl) | assumption | exact rfl | omega | (apply inR_i64 <;> omega) | (apply inR_u64 <;> omega) | (apply inR_u32 <;> omega) | (apply inR_u8' <;> omega)) | (simp; done) | (simp_all; done) | (simp_all; omega))) | skip))
      | ((with_reducible apply Sat.drawn); kernel_rfl)
      | ((with_reducible apply DSat.run (X := X64)); exact rfl; (first | exact True.intro | ((try dsimp only) <;> (repeat' (first | exact AllP.nil | with_reducible refine AllP.cons ?_ ?_ | with_reducible apply And.intro)) <;> (first | assumption | exact True.intro | exact rfl | (show eqOk _ _ = true; kernel_rfl) | omega | (apply inR_i64 <;> omega) | (apply inR_u64 <;> omega) | (apply inR_u32 <;> omega) | (apply inR_u8' <;> omega) | (intro _; first | (show eqOk _ _ = true; kernel_rfl) | assumption | exact rfl | omega | (apply inR_i64 <;> omega) | (apply inR_u64 <;> omega) | (apply inR_u32 <;> omega) | (apply inR_u8' <;> omega)) | (simp; done) | (simp_all; done) | (simp_all; omega))) | skip))
      | ((with_reducible apply DSat.fin); kernel_rfl)
      | ((with_reducible apply Sat.cond_t); exact rfl)
      | ((with_reducible apply Sat.cond_f); exact rfl)
      | ((with_reducible apply Sat.cond_pt); exact rfl; first | assumption | omega)
      | ((with_reducible apply Sat.cond_pf); exact rfl; first | assumption | omega)
      | ((with_reducible apply Sat.cond_p); exact rfl; all_goals intro h)
      | ((with_reducible apply Sat.cond); exact rfl; all_goals intro h)
      | ((with_reducible apply Sat.callR (lean_spec ⟨_, _, _, _, _, _, _, _, _⟩)); exact rfl; exact rfl; kernel_rfl; ((repeat' (first | exact Convs.nil | apply Convs.cons | exact Conv.refl _ (by (repeat' (first | exact True.intro | apply And.intro))) | (refine Conv.may _ _ _ ?_ ?_; first | assumption | (simp_all; done) | omega) | exact Conv.nils _ rfl | (refine Conv.all _ _ _ _ _ rfl rfl ?_ ?_ <;> first | rfl | exact True.intro | omega) | apply Conv.agg | apply Conv.tup))); exact rfl)
      | ((with_reducible apply DSat.callR (lean_spec ⟨_, _, _, _, _, _, _, _, _⟩)); exact rfl; exact rfl; kernel_rfl; ((repeat' (first | exact Convs.nil | apply Convs.cons | exact Conv.refl _ (by (repeat' (first | exact True.intro | apply And.intro))) | (refine Conv.may _ _ _ ?_ ?_; first | assumption | (simp_all; done) | omega) | exact Conv.nils _ rfl | (refine Conv.all _ _ _ _ _ rfl rfl ?_ ?_ <;> first | rfl | exact True.intro | omega) | apply Conv.agg | apply Conv.tup))); exact rfl))
  all_goals (refine Sat.fin (Sat.end2 rfl rfl rfl True.intro True.intro (.refl _ (by (repeat' (first | exact True.intro | apply And.intro)))) (.refl _ (by (repeat' (first | exact True.intro | apply And.intro)))) (by first | exact .inl rfl | exact .inr rfl) (fun _ h => h)) ?_; (simp_all [Fai, lea]; done))
end Go.Proofs.YtddgmlbbipakeaaDoor
