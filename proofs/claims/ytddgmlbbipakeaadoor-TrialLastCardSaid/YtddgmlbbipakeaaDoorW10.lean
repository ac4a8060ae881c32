/-
  Trial: TrialEnds, TrialStays.
-/
import Derived.Test.YtddgmlbbipakeaaDoorW9
--PURE: exact Pk.pure_ _
namespace Go.Proofs.YtddgmlbbipakeaaDoor
open Go.RowKit V
set_option maxRecDepth 100000
set_option maxHeartbeats 8000000
set_option linter.unusedSimpArgs false
attribute [local irreducible] V.Sat V.DSat
theorem mad5 (w : W8) : ∃ un tr se sg ve la, Mad ⟨5, w.b, w.c, w.d, w.e, w.f, w.g, w.h⟩ = ⟨5, 0, 0, un, tr, se, sg, ve, la⟩ ∧ tr = w.e % 4 := ⟨_, _, _, _, _, _, rfl, rfl⟩
theorem ends_law (w : W8) (h : w.ok) (n : Int) (hn : 0 ≤ n ∧ n ≤ 255) : Fun Tryd.prog Γt 6 [w.v, .int .u8 n] (.bool true) := by
  have m0 := made_spec ⟨5, w.b, w.c, w.d, 0, w.f, w.g, w.h⟩ ⟨by simp, by simp, h.b0, h.b1, h.c0, h.c1, h.d0, h.d1, by simp, by simp, h.f0, h.f1, h.g0, h.g1, h.h0, h.h1⟩
  obtain ⟨un, tr, se, sg, ve, la, hm, ht⟩ := mad5 ⟨5, w.b, w.c, w.d, 0, w.f, w.g, w.h⟩
  have ht : tr = 0 := by simpa using ht
  subst ht
  dsimp only at hm
  rw [hm] at m0
  have b0 : Fun Tryd.prog Γt 14 [(S9.mk 5 0 0 un 0 se sg ve la).v] (sB (⟨5, 0, 0, un, 1, se, sg, ve, la⟩, true)) := boot_spec ⟨5, 0, 0, un, 0, se, sg, ve, la⟩ (by simp) (by simp) (by simp) (by simp)
  have b1 : Fun Tryd.prog Γt 14 [(S9.mk 5 0 0 un 1 se sg ve la).v] (sB (⟨5, 0, 0, un, 2, se, sg, ve, la⟩, true)) := boot_spec ⟨5, 0, 0, un, 1, se, sg, ve, la⟩ (by simp) (by simp) (by simp) (by simp)
  have b2 : Fun Tryd.prog Γt 14 [(S9.mk 5 0 0 un 2 se sg ve la).v] (sB (⟨5, 0, 0, un, 3, se, sg, ve, la⟩, true)) := boot_spec ⟨5, 0, 0, un, 2, se, sg, ve, la⟩ (by simp) (by simp) (by simp) (by simp)
  have b3 : Fun Tryd.prog Γt 14 [(S9.mk 5 0 0 un 3 se sg ve la).v] (sB (⟨6, 0, 0, un, 0, se, sg, ve, la⟩, false)) := boot_spec ⟨5, 0, 0, un, 3, se, sg, ve, la⟩ (by simp) (by simp) (by simp) (by simp)
  have b4 : Fun Tryd.prog Γt 14 [(S9.mk 6 0 0 un 0 se sg ve la).v] (sB (⟨6, 0, 0, un, 0, se, sg, ve, la⟩, false)) := boot_spec ⟨6, 0, 0, un, 0, se, sg, ve, la⟩ (by simp) (by simp) (by simp) (by simp)
  clear hm
  obtain ⟨n0, n1⟩ := hn
  refine Fun.mk 7 Tryd.func6 rfl Tryd.ntmps6 rfl rfl fun T w0 => ?_
  repeat' (first
      | ((with_reducible apply Sat.run (X := X64)); exact rfl; (first | exact True.intro | ((try dsimp only) <;> (repeat' (first | exact AllP.nil | with_reducible refine AllP.cons ?_ ?_ | with_reducible apply And.intro)) <;> (first | assumption | exact True.intro | exact rfl | (show eqOk _ _ = true; kernel_rfl) | omega | (apply inR_i64 <;> omega) | (apply inR_u64 <;> omega) | (apply inR_u32 <;> omega) | (apply inR_u8' <;> omega) | (intro _; first | (show eqOk _ _ = true; kernel_rfl) | assumption | exact rfl | omega | (apply inR_i64 <;> omega) | (apply inR_u64 <;> omega) | (apply inR_u32 <;> omega) | (apply inR_u8' <;> omega)) | (simp; done) | (simp_all; done) | (simp_all; omega))) | skip))
      | ((with_reducible apply Sat.drawn); kernel_rfl)
      | ((with_reducible apply DSat.run (X := X64)); exact rfl; (first | exact True.intro | ((try dsimp only) <;> (repeat' (first | exact AllP.nil | with_reducible refine AllP.cons ?_ ?_ | with_reducible apply And.intro)) <;> (first | assumption | exact True.intro | exact rfl | (show eqOk _ _ = true; kernel_rfl) | omega | (apply inR_i64 <;> omega) | (apply inR_u64 <;> omega) | (apply inR_u32 <;> omega) | (apply inR_u8' <;> omega) | (intro _; first | (show eqOk _ _ = true; kernel_rfl) | assumption | exact rfl | omega | (apply inR_i64 <;> omega) | (apply inR_u64 <;> omega) | (apply inR_u32 <;> omega) | (apply inR_u8' <;> omega)) | (simp; done) | (simp_all; done) | (simp_all; omega))) | skip))
      | ((with_reducible apply DSat.fin); kernel_rfl)
      | ((with_reducible apply Sat.cond_t); exact rfl)
      | ((with_reducible apply Sat.cond_f); exact rfl)
      | ((with_reducible apply Sat.cond_pt); exact rfl; first | assumption | omega)
      | ((with_reducible apply Sat.cond_pf); exact rfl; first | assumption | omega)
      | ((with_reducible apply Sat.cond_p); exact rfl; all_goals intro h)
      | ((with_reducible apply Sat.cond); exact rfl; all_goals (intro h; (try simp only [Bool.cond_true_left, Bool.cond_false_right, Bool.or_eq_true, Bool.and_eq_true, Bool.or_eq_false_iff, Bool.and_eq_false_iff, Bool.not_eq_true', Bool.not_eq_false', decide_eq_true_eq, decide_eq_false_iff_not, ne_eq] at h)))
      | ((with_reducible apply Sat.callR (sanity_spec)); exact rfl; exact rfl; kernel_rfl; ((repeat' (first | exact Convs.nil | apply Convs.cons | exact Conv.refl _ (by (repeat' (first | exact True.intro | exact Pk.pure_ _ | apply And.intro))) | (refine Conv.may _ _ _ ?_ ?_; first | assumption | (simp_all; done) | omega) | exact Conv.nils _ rfl | (refine Conv.all _ _ _ _ _ rfl rfl ?_ ?_ <;> first | rfl | exact True.intro | omega) | apply Conv.agg | apply Conv.tup))); exact rfl)
      | ((with_reducible apply DSat.callR (sanity_spec)); exact rfl; exact rfl; kernel_rfl; ((repeat' (first | exact Convs.nil | apply Convs.cons | exact Conv.refl _ (by (repeat' (first | exact True.intro | exact Pk.pure_ _ | apply And.intro))) | (refine Conv.may _ _ _ ?_ ?_; first | assumption | (simp_all; done) | omega) | exact Conv.nils _ rfl | (refine Conv.all _ _ _ _ _ rfl rfl ?_ ?_ <;> first | rfl | exact True.intro | omega) | apply Conv.agg | apply Conv.tup))); exact rfl)
      | ((with_reducible apply Sat.callR (m0)); exact rfl; exact rfl; kernel_rfl; ((repeat' (first | exact Convs.nil | apply Convs.cons | exact Conv.refl _ (by (repeat' (first | exact True.intro | exact Pk.pure_ _ | apply And.intro))) | (refine Conv.may _ _ _ ?_ ?_; first | assumption | (simp_all; done) | omega) | exact Conv.nils _ rfl | (refine Conv.all _ _ _ _ _ rfl rfl ?_ ?_ <;> first | rfl | exact True.intro | omega) | apply Conv.agg | apply Conv.tup))); exact rfl)
      | ((with_reducible apply DSat.callR (m0)); exact rfl; exact rfl; kernel_rfl; ((repeat' (first | exact Convs.nil | apply Convs.cons | exact Conv.refl _ (by (repeat' (first | exact True.intro | exact Pk.pure_ _ | apply And.intro))) | (refine Conv.may _ _ _ ?_ ?_; first | assumption | (simp_all; done) | omega) | exact Conv.nils _ rfl | (refine Conv.all _ _ _ _ _ rfl rfl ?_ ?_ <;> first | rfl | exact True.intro | omega) | apply Conv.agg | apply Conv.tup))); exact rfl)
      | ((with_reducible apply Sat.callR (b0)); exact rfl; exact rfl; kernel_rfl; ((repeat' (first | exact Convs.nil | apply Convs.cons | exact Conv.refl _ (by (repeat' (first | exact True.intro | exact Pk.pure_ _ | apply And.intro))) | (refine Conv.may _ _ _ ?_ ?_; first | assumption | (simp_all; done) | omega) | exact Conv.nils _ rfl | (refine Conv.all _ _ _ _ _ rfl rfl ?_ ?_ <;> first | rfl | exact True.intro | omega) | apply Conv.agg | apply Conv.tup))); exact rfl)
      | ((with_reducible apply DSat.callR (b0)); exact rfl; exact rfl; kernel_rfl; ((repeat' (first | exact Convs.nil | apply Convs.cons | exact Conv.refl _ (by (repeat' (first | exact True.intro | exact Pk.pure_ _ | apply And.intro))) | (refine Conv.may _ _ _ ?_ ?_; first | assumption | (simp_all; done) | omega) | exact Conv.nils _ rfl | (refine Conv.all _ _ _ _ _ rfl rfl ?_ ?_ <;> first | rfl | exact True.intro | omega) | apply Conv.agg | apply Conv.tup))); exact rfl)
      | ((with_reducible apply Sat.callR (b1)); exact rfl; exact rfl; kernel_rfl; ((repeat' (first | exact Convs.nil | apply Convs.cons | exact Conv.refl _ (by (repeat' (first | exact True.intro | exact Pk.pure_ _ | apply And.intro))) | (refine Conv.may _ _ _ ?_ ?_; first | assumption | (simp_all; done) | omega) | exact Conv.nils _ rfl | (refine Conv.all _ _ _ _ _ rfl rfl ?_ ?_ <;> first | rfl | exact True.intro | omega) | apply Conv.agg | apply Conv.tup))); exact rfl)
      | ((with_reducible apply DSat.callR (b1)); exact rfl; exact rfl; kernel_rfl; ((repeat' (first | exact Convs.nil | apply Convs.cons | exact Conv.refl _ (by (repeat' (first | exact True.intro | exact Pk.pure_ _ | apply And.intro))) | (refine Conv.may _ _ _ ?_ ?_; first | assumption | (simp_all; done) | omega) | exact Conv.nils _ rfl | (refine Conv.all _ _ _ _ _ rfl rfl ?_ ?_ <;> first | rfl | exact True.intro | omega) | apply Conv.agg | apply Conv.tup))); exact rfl)
      | ((with_reducible apply Sat.callR (b2)); exact rfl; exact rfl; kernel_rfl; ((repeat' (first | exact Convs.nil | apply Convs.cons | exact Conv.refl _ (by (repeat' (first | exact True.intro | exact Pk.pure_ _ | apply And.intro))) | (refine Conv.may _ _ _ ?_ ?_; first | assumption | (simp_all; done) | omega) | exact Conv.nils _ rfl | (refine Conv.all _ _ _ _ _ rfl rfl ?_ ?_ <;> first | rfl | exact True.intro | omega) | apply Conv.agg | apply Conv.tup))); exact rfl)
      | ((with_reducible apply DSat.callR (b2)); exact rfl; exact rfl; kernel_rfl; ((repeat' (first | exact Convs.nil | apply Convs.cons | exact Conv.refl _ (by (repeat' (first | exact True.intro | exact Pk.pure_ _ | apply And.intro))) | (refine Conv.may _ _ _ ?_ ?_; first | assumption | (simp_all; done) | omega) | exact Conv.nils _ rfl | (refine Conv.all _ _ _ _ _ rfl rfl ?_ ?_ <;> first | rfl | exact True.intro | omega) | apply Conv.agg | apply Conv.tup))); exact rfl)
      | ((with_reducible apply Sat.callR (b3)); exact rfl; exact rfl; kernel_rfl; ((repeat' (first | exact Convs.nil | apply Convs.cons | exact Conv.refl _ (by (repeat' (first | exact True.intro | exact Pk.pure_ _ | apply And.intro))) | (refine Conv.may _ _ _ ?_ ?_; first | assumption | (simp_all; done) | omega) | exact Conv.nils _ rfl | (refine Conv.all _ _ _ _ _ rfl rfl ?_ ?_ <;> first | rfl | exact True.intro | omega) | apply Conv.agg | apply Conv.tup))); exact rfl)
      | ((with_reducible apply DSat.callR (b3)); exact rfl; exact rfl; kernel_rfl; ((repeat' (first | exact Convs.nil | apply Convs.cons | exact Conv.refl _ (by (repeat' (first | exact True.intro | exact Pk.pure_ _ | apply And.intro))) | (refine Conv.may _ _ _ ?_ ?_; first | assumption | (simp_all; done) | omega) | exact Conv.nils _ rfl | (refine Conv.all _ _ _ _ _ rfl rfl ?_ ?_ <;> first | rfl | exact True.intro | omega) | apply Conv.agg | apply Conv.tup))); exact rfl)
      | ((with_reducible apply Sat.callR (b4)); exact rfl; exact rfl; kernel_rfl; ((repeat' (first | exact Convs.nil | apply Convs.cons | exact Conv.refl _ (by (repeat' (first | exact True.intro | exact Pk.pure_ _ | apply And.intro))) | (refine Conv.may _ _ _ ?_ ?_; first | assumption | (simp_all; done) | omega) | exact Conv.nils _ rfl | (refine Conv.all _ _ _ _ _ rfl rfl ?_ ?_ <;> first | rfl | exact True.intro | omega) | apply Conv.agg | apply Conv.tup))); exact rfl)
      | ((with_reducible apply DSat.callR (b4)); exact rfl; exact rfl; kernel_rfl; ((repeat' (first | exact Convs.nil | apply Convs.cons | exact Conv.refl _ (by (repeat' (first | exact True.intro | exact Pk.pure_ _ | apply And.intro))) | (refine Conv.may _ _ _ ?_ ?_; first | assumption | (simp_all; done) | omega) | exact Conv.nils _ rfl | (refine Conv.all _ _ _ _ _ rfl rfl ?_ ?_ <;> first | rfl | exact True.intro | omega) | apply Conv.agg | apply Conv.tup))); exact rfl)
      | (with_reducible apply Sat.unroll 40)
      | (with_reducible apply Sat.again))
  all_goals first | (refine Sat.fin (Sat.end1 rfl rfl True.intro (.refl _ (by (repeat' (first | exact True.intro | exact Pk.pure_ _ | apply And.intro)))) (by first | exact .inl rfl | exact .inr rfl) (fun _ h => h)) ?_; rfl) | skip
  all_goals (refine Sat.fin (Sat.end1 rfl rfl True.intro (.refl _ (by (repeat' (first | exact True.intro | exact Pk.pure_ _ | apply And.intro)))) (by first | exact .inl rfl | exact .inr rfl) (fun _ h => h)) ?_; (refine congrArg SV.bool ?_; exfalso; clear m0 b0 b1 b2 b3 b4; simp at h; done))
@[reducible] def bools (n : Nat) (f : Nat → Bool) : EV := .g n 1 (fun i => [.bool (f i)])
theorem bools_pure (n : Nat) (f : Nat → Bool) : pureE (bools n f) := fun _ _ => ⟨trivial, trivial⟩
theorem stays_law (w : W8) (h : w.ok) (n : Nat) (f : Nat → Bool) : Fun Tryd.prog Γt 7 [w.v, .ro (bools n f)] (.bool true) := by
  have m0 := made_spec ⟨5, w.b, w.c, w.d, w.e, w.f, w.g, w.h⟩ ⟨by simp, by simp, h.b0, h.b1, h.c0, h.c1, h.d0, h.d1, h.e0, h.e1, h.f0, h.f1, h.g0, h.g1, h.h0, h.h1⟩
  obtain ⟨un, tr, se, sg, ve, la, hm, ht⟩ := mad5 w
  rw [hm] at m0
  clear hm ht
  have c0 : Fun Tryd.prog Γt 16 [(S9.mk 5 0 0 un tr se sg ve la).v] (sE (⟨0, 0, 0, 0, 0, se, sg, ve, ve⟩, 0)) := confirm_spec ⟨5, 0, 0, un, tr, se, sg, ve, la⟩
  have c1 : Fun Tryd.prog Γt 16 [(S9.mk 0 0 0 0 0 se sg ve ve).v] (sE (⟨0, 0, 0, 0, 0, se, sg, ve, ve⟩, 0)) := confirm_spec ⟨0, 0, 0, 0, 0, se, sg, ve, ve⟩
  have b0 : Fun Tryd.prog Γt 14 [(S9.mk 0 0 0 0 0 se sg ve ve).v] (sB (⟨0, 0, 0, 0, 0, se, sg, ve, ve⟩, true)) := boot_spec ⟨0, 0, 0, 0, 0, se, sg, ve, ve⟩ (by simp) (by simp) (by simp) (by simp)
  refine Fun.mk 7 Tryd.func7 rfl Tryd.ntmps7 rfl rfl fun T w0 => ?_
  repeat' (first
      | ((with_reducible apply Sat.run (X := X64)); exact rfl; (first | exact True.intro | ((try dsimp only) <;> (repeat' (first | exact AllP.nil | with_reducible refine AllP.cons ?_ ?_ | with_reducible apply And.intro)) <;> (first | assumption | exact True.intro | exact rfl | (show eqOk _ _ = true; kernel_rfl) | omega | (apply inR_i64 <;> omega) | (apply inR_u64 <;> omega) | (apply inR_u32 <;> omega) | (apply inR_u8' <;> omega) | (intro _; first | (show eqOk _ _ = true; kernel_rfl) | assumption | exact rfl | omega | (apply inR_i64 <;> omega) | (apply inR_u64 <;> omega) | (apply inR_u32 <;> omega) | (apply inR_u8' <;> omega)) | (simp; done) | (simp_all; done) | (simp_all; omega))) | skip))
      | ((with_reducible apply Sat.drawn); kernel_rfl)
      | ((with_reducible apply DSat.run (X := X64)); exact rfl; (first | exact True.intro | ((try dsimp only) <;> (repeat' (first | exact AllP.nil | with_reducible refine AllP.cons ?_ ?_ | with_reducible apply And.intro)) <;> (first | assumption | exact True.intro | exact rfl | (show eqOk _ _ = true; kernel_rfl) | omega | (apply inR_i64 <;> omega) | (apply inR_u64 <;> omega) | (apply inR_u32 <;> omega) | (apply inR_u8' <;> omega) | (intro _; first | (show eqOk _ _ = true; kernel_rfl) | assumption | exact rfl | omega | (apply inR_i64 <;> omega) | (apply inR_u64 <;> omega) | (apply inR_u32 <;> omega) | (apply inR_u8' <;> omega)) | (simp; done) | (simp_all; done) | (simp_all; omega))) | skip))
      | ((with_reducible apply DSat.fin); kernel_rfl)
      | ((with_reducible apply Sat.cond_t); exact rfl)
      | ((with_reducible apply Sat.cond_f); exact rfl)
      | ((with_reducible apply Sat.cond_pt); exact rfl; first | assumption | omega)
      | ((with_reducible apply Sat.cond_pf); exact rfl; first | assumption | omega)
      | ((with_reducible apply Sat.cond_p); exact rfl; all_goals intro h)
      | ((with_reducible apply Sat.cond); exact rfl; all_goals (intro h; (try simp only [Bool.cond_true_left, Bool.cond_false_right, Bool.or_eq_true, Bool.and_eq_true, Bool.or_eq_false_iff, Bool.and_eq_false_iff, Bool.not_eq_true', Bool.not_eq_false', decide_eq_true_eq, decide_eq_false_iff_not, ne_eq] at h)))
      | ((with_reducible apply Sat.callR (sanity_spec)); exact rfl; exact rfl; kernel_rfl; ((repeat' (first | exact Convs.nil | apply Convs.cons | exact Conv.refl _ (by (repeat' (first | exact True.intro | exact Pk.pure_ _ | apply And.intro))) | (refine Conv.may _ _ _ ?_ ?_; first | assumption | (simp_all; done) | omega) | exact Conv.nils _ rfl | (refine Conv.all _ _ _ _ _ rfl rfl ?_ ?_ <;> first | rfl | exact True.intro | omega) | apply Conv.agg | apply Conv.tup))); exact rfl)
      | ((with_reducible apply DSat.callR (sanity_spec)); exact rfl; exact rfl; kernel_rfl; ((repeat' (first | exact Convs.nil | apply Convs.cons | exact Conv.refl _ (by (repeat' (first | exact True.intro | exact Pk.pure_ _ | apply And.intro))) | (refine Conv.may _ _ _ ?_ ?_; first | assumption | (simp_all; done) | omega) | exact Conv.nils _ rfl | (refine Conv.all _ _ _ _ _ rfl rfl ?_ ?_ <;> first | rfl | exact True.intro | omega) | apply Conv.agg | apply Conv.tup))); exact rfl)
      | ((with_reducible apply Sat.callR (m0)); exact rfl; exact rfl; kernel_rfl; ((repeat' (first | exact Convs.nil | apply Convs.cons | exact Conv.refl _ (by (repeat' (first | exact True.intro | exact Pk.pure_ _ | apply And.intro))) | (refine Conv.may _ _ _ ?_ ?_; first | assumption | (simp_all; done) | omega) | exact Conv.nils _ rfl | (refine Conv.all _ _ _ _ _ rfl rfl ?_ ?_ <;> first | rfl | exact True.intro | omega) | apply Conv.agg | apply Conv.tup))); exact rfl)
      | ((with_reducible apply DSat.callR (m0)); exact rfl; exact rfl; kernel_rfl; ((repeat' (first | exact Convs.nil | apply Convs.cons | exact Conv.refl _ (by (repeat' (first | exact True.intro | exact Pk.pure_ _ | apply And.intro))) | (refine Conv.may _ _ _ ?_ ?_; first | assumption | (simp_all; done) | omega) | exact Conv.nils _ rfl | (refine Conv.all _ _ _ _ _ rfl rfl ?_ ?_ <;> first | rfl | exact True.intro | omega) | apply Conv.agg | apply Conv.tup))); exact rfl)
      | ((with_reducible apply Sat.callR (c0)); exact rfl; exact rfl; kernel_rfl; ((repeat' (first | exact Convs.nil | apply Convs.cons | exact Conv.refl _ (by (repeat' (first | exact True.intro | exact Pk.pure_ _ | apply And.intro))) | (refine Conv.may _ _ _ ?_ ?_; first | assumption | (simp_all; done) | omega) | exact Conv.nils _ rfl | (refine Conv.all _ _ _ _ _ rfl rfl ?_ ?_ <;> first | rfl | exact True.intro | omega) | apply Conv.agg | apply Conv.tup))); exact rfl)
      | ((with_reducible apply DSat.callR (c0)); exact rfl; exact rfl; kernel_rfl; ((repeat' (first | exact Convs.nil | apply Convs.cons | exact Conv.refl _ (by (repeat' (first | exact True.intro | exact Pk.pure_ _ | apply And.intro))) | (refine Conv.may _ _ _ ?_ ?_; first | assumption | (simp_all; done) | omega) | exact Conv.nils _ rfl | (refine Conv.all _ _ _ _ _ rfl rfl ?_ ?_ <;> first | rfl | exact True.intro | omega) | apply Conv.agg | apply Conv.tup))); exact rfl))
  · (refine Sat.fin (Sat.end1 rfl rfl True.intro (.refl _ (by (repeat' (first | exact True.intro | exact Pk.pure_ _ | apply And.intro)))) (by first | exact .inl rfl | exact .inr rfl) (fun _ h => h)) ?_; (refine congrArg SV.bool ?_; clear m0 c0 c1 b0; exfalso; simp at h; done))
  apply Sat.loop (α := Nat) (fun x => x ≤ n ∧ x ≤ 8) (fun x => n - x) 0 (fun x => [(9, .int .i64 (x : Int))]) (fun _ => []) [] [] 0
  · intro x; exact rfl
  · intro x; exact rfl
  · exact rfl
  · exact rfl
  · (repeat' (first | exact AllP.nil | with_reducible refine AllP.cons ?_ ?_)) <;> first | exact rfl | exact bools_pure _ _ | trace_state
  · exact ⟨Nat.zero_le _, by omega⟩
  · rintro x ⟨x1, x2⟩
    repeat' (first
        | ((with_reducible apply Sat.run (X := X64)); exact rfl; (first | exact True.intro | ((try dsimp only) <;> (repeat' (first | exact AllP.nil | with_reducible refine AllP.cons ?_ ?_ | with_reducible apply And.intro)) <;> (first | assumption | exact True.intro | exact rfl | (show eqOk _ _ = true; kernel_rfl) | omega | (apply inR_i64 <;> omega) | (apply inR_u64 <;> omega) | (apply inR_u32 <;> omega) | (apply inR_u8' <;> omega) | (intro _; first | (show eqOk _ _ = true; kernel_rfl) | assumption | exact rfl | omega | (apply inR_i64 <;> omega) | (apply inR_u64 <;> omega) | (apply inR_u32 <;> omega) | (apply inR_u8' <;> omega)) | (simp; done) | (simp_all; done) | (simp_all; omega))) | skip))
        | ((with_reducible apply Sat.drawn); kernel_rfl)
        | ((with_reducible apply DSat.run (X := X64)); exact rfl; (first | exact True.intro | ((try dsimp only) <;> (repeat' (first | exact AllP.nil | with_reducible refine AllP.cons ?_ ?_ | with_reducible apply And.intro)) <;> (first | assumption | exact True.intro | exact rfl | (show eqOk _ _ = true; kernel_rfl) | omega | (apply inR_i64 <;> omega) | (apply inR_u64 <;> omega) | (apply inR_u32 <;> omega) | (apply inR_u8' <;> omega) | (intro _; first | (show eqOk _ _ = true; kernel_rfl) | assumption | exact rfl | omega | (apply inR_i64 <;> omega) | (apply inR_u64 <;> omega) | (apply inR_u32 <;> omega) | (apply inR_u8' <;> omega)) | (simp; done) | (simp_all; done) | (simp_all; omega))) | skip))
        | ((with_reducible apply DSat.fin); kernel_rfl)
        | ((with_reducible apply Sat.cond_t); exact rfl)
        | ((with_reducible apply Sat.cond_f); exact rfl)
        | ((with_reducible apply Sat.cond_pt); exact rfl; first | assumption | omega)
        | ((with_reducible apply Sat.cond_pf); exact rfl; first | assumption | omega)
        | ((with_reducible apply Sat.cond_p); exact rfl; all_goals intro h)
        | ((with_reducible apply Sat.cond); exact rfl; all_goals (intro h; (try simp only [Bool.cond_true_left, Bool.cond_false_right, Bool.or_eq_true, Bool.and_eq_true, Bool.or_eq_false_iff, Bool.and_eq_false_iff, Bool.not_eq_true', Bool.not_eq_false', decide_eq_true_eq, decide_eq_false_iff_not, ne_eq] at h)))
        | ((with_reducible apply Sat.callR (c1)); exact rfl; exact rfl; kernel_rfl; ((repeat' (first | exact Convs.nil | apply Convs.cons | exact Conv.refl _ (by (repeat' (first | exact True.intro | exact Pk.pure_ _ | apply And.intro))) | (refine Conv.may _ _ _ ?_ ?_; first | assumption | (simp_all; done) | omega) | exact Conv.nils _ rfl | (refine Conv.all _ _ _ _ _ rfl rfl ?_ ?_ <;> first | rfl | exact True.intro | omega) | apply Conv.agg | apply Conv.tup))); exact rfl)
        | ((with_reducible apply DSat.callR (c1)); exact rfl; exact rfl; kernel_rfl; ((repeat' (first | exact Convs.nil | apply Convs.cons | exact Conv.refl _ (by (repeat' (first | exact True.intro | exact Pk.pure_ _ | apply And.intro))) | (refine Conv.may _ _ _ ?_ ?_; first | assumption | (simp_all; done) | omega) | exact Conv.nils _ rfl | (refine Conv.all _ _ _ _ _ rfl rfl ?_ ?_ <;> first | rfl | exact True.intro | omega) | apply Conv.agg | apply Conv.tup))); exact rfl)
        | ((with_reducible apply Sat.callR (b0)); exact rfl; exact rfl; kernel_rfl; ((repeat' (first | exact Convs.nil | apply Convs.cons | exact Conv.refl _ (by (repeat' (first | exact True.intro | exact Pk.pure_ _ | apply And.intro))) | (refine Conv.may _ _ _ ?_ ?_; first | assumption | (simp_all; done) | omega) | exact Conv.nils _ rfl | (refine Conv.all _ _ _ _ _ rfl rfl ?_ ?_ <;> first | rfl | exact True.intro | omega) | apply Conv.agg | apply Conv.tup))); exact rfl)
        | ((with_reducible apply DSat.callR (b0)); exact rfl; exact rfl; kernel_rfl; ((repeat' (first | exact Convs.nil | apply Convs.cons | exact Conv.refl _ (by (repeat' (first | exact True.intro | exact Pk.pure_ _ | apply And.intro))) | (refine Conv.may _ _ _ ?_ ?_; first | assumption | (simp_all; done) | omega) | exact Conv.nils _ rfl | (refine Conv.all _ _ _ _ _ rfl rfl ?_ ?_ <;> first | rfl | exact True.intro | omega) | apply Conv.agg | apply Conv.tup))); exact rfl))
    · (refine Sat.fin (Sat.end1 rfl rfl True.intro (.refl _ (by (repeat' (first | exact True.intro | exact Pk.pure_ _ | apply And.intro)))) (by first | exact .inl rfl | exact .inr rfl) (fun _ h => h)) ?_; (refine congrArg SV.bool ?_; clear m0 c0 c1 b0; exfalso; simp at h; done))
    · refine Sat.back (x + 1) [] rfl ?_ ?_ ?_
      · (repeat' (first | exact AllP.nil | with_reducible refine AllP.cons ?_ ?_)) <;> first | exact rfl | exact bools_pure _ _ | exact Int.natCast_add_one _
      · exact ⟨by simp [EV.len] at *; omega, by simp [EV.len] at *; omega⟩
      · simp [EV.len] at *; omega
    · (refine Sat.fin (Sat.end1 rfl rfl True.intro (.refl _ (by (repeat' (first | exact True.intro | exact Pk.pure_ _ | apply And.intro)))) (by first | exact .inl rfl | exact .inr rfl) (fun _ h => h)) ?_; (refine congrArg SV.bool ?_; clear m0 c0 c1 b0; exfalso; simp at h; done))
    · refine Sat.back (x + 1) [] rfl ?_ ?_ ?_
      · (repeat' (first | exact AllP.nil | with_reducible refine AllP.cons ?_ ?_)) <;> first | exact rfl | exact bools_pure _ _ | exact Int.natCast_add_one _
      · exact ⟨by simp [EV.len] at *; omega, by simp [EV.len] at *; omega⟩
      · simp [EV.len] at *; omega
    · (refine Sat.fin (Sat.end1 rfl rfl True.intro (.refl _ (by (repeat' (first | exact True.intro | exact Pk.pure_ _ | apply And.intro)))) (by first | exact .inl rfl | exact .inr rfl) (fun _ h => h)) ?_; rfl)
end Go.Proofs.YtddgmlbbipakeaaDoor
