/-
  Trial: the laws with loops.
-/
import Derived.Test.YtddgmlbbipakeaaDoorW7
--PURE: exact Pk.pure_ _
namespace Go.Proofs.YtddgmlbbipakeaaDoor
open Go.RowKit V
set_option maxRecDepth 100000
set_option maxHeartbeats 8000000
set_option linter.unusedSimpArgs false
attribute [local irreducible] V.Sat V.DSat
@[reducible] def pairs (n : Nat) (f g : Nat → Int) : EV := .g n 2 (fun i => [.int .u8 (f i), .int .u8 (g i)])
theorem pairs_pure (n : Nat) (f g : Nat → Int) : pureE (pairs n f g) := fun _ _ => ⟨trivial, trivial, trivial⟩
theorem acted_vld {s : S9} (v : Vld s) (x a : Int) (ha : 0 ≤ a ∧ a ≤ 255) : Vld (Acted s x (pk0 a s.ve)) := by
  obtain ⟨⟨_, _, _, _, _, _, _, _, _, _, _, _, _, _, _, _, _, _⟩, _, _, _, _⟩ := v
  unfold Acted Beg Boo Boo2 Conf Fai
  dsimp only
  (repeat' split) <;> refine ⟨⟨?_, ?_, ?_, ?_, ?_, ?_, ?_, ?_, ?_, ?_, ?_, ?_, ?_, ?_, ?_, ?_, ?_, ?_⟩, ?_, ?_, ?_, ?_⟩ <;> dsimp only <;> omega
theorem acted_last {s : S9} (v : Vld s) (x a : Int) : (Acted s x (pk0 a s.ve)).la = if x % 4 = 2 ∧ s.ph = 5 then s.ve else s.la := by
  have z1 := v.z1
  unfold Acted Beg Boo Boo2 Conf Fai
  dsimp only
  (repeat' split) <;> dsimp only <;> omega
theorem last_law (w : W8) (h : w.ok) (n : Nat) (f g : Nat → Int) (hf : ∀ i, 0 ≤ f i ∧ f i ≤ 255) (hg : ∀ i, 0 ≤ g i ∧ g i ≤ 255) : Fun Tryd.prog Γt 8 [w.v, .ro (pairs n f g)] (.bool true) := by
  have m0 := made_spec w h
  have v := mad_vld w h
  generalize Mad w = s at m0 v
  refine Fun.mk 7 Tryd.func8 rfl Tryd.ntmps8 rfl rfl fun T w0 => ?_
  repeat' (first
      | ((with_reducible apply Sat.run (X := X64)); exact rfl; (first | exact True.intro | ((try dsimp only) <;> (repeat' (first | exact AllP.nil | with_reducible refine AllP.cons ?_ ?_ | with_reducible apply And.intro)) <;> (first | assumption | exact True.intro | exact rfl | (show eqOk _ _ = true; kernel_rfl) | omega | (apply inR_i64 <;> omega) | (apply inR_u64 <;> omega) | (apply inR_u32 <;> omega) | (apply inR_u8' <;> omega) | (intro _; first | (show eqOk _ _ = true; kernel_rfl) | assumption | exact rfl | omega | (apply inR_i64 <;> omega) | (apply inR_u64 <;> omega) | (apply inR_u32 <;> omega) | (apply inR_u8' <;> omega)) | (simp; done) | (simp_all; done) | (simp_all; omega))) | skip))
      | ((with_reducible apply Sat.drawn); kernel_rfl)
      | ((with_reducible apply DSat.run (X := X64)); exact rfl; (first | exact True.intro | ((try dsimp only) <;> (repeat' (first | exact AllP.nil | with_reducible refine AllP.cons ?_ ?_ | with_reducible apply And.intro)) <;> (first | assumption | exact True.intro | exact rfl | (show eqOk _ _ = true; kernel_rfl) | omega | (apply inR_i64 <;> omega) | (apply inR_u64 <;> omega) | (apply inR_u32 <;> omega) | (apply inR_u8' <;> omega) | (intro _; first | (show eqOk _ _ = true; kernel_rfl) | assumption | exact rfl | omega | (apply inR_i64 <;> omega) | (apply inR_u64 <;> omega) | (apply inR_u32 <;> omega) | (apply inR_u8' <;> omega)) | (simp; done) | (simp_all; done) | (simp_all; omega))) | skip))
      | ((with_reducible apply DSat.fin); kernel_rfl)
      | ((with_reducible apply Sat.cond_t); exact rfl)
      | ((with_reducible apply Sat.cond_f); exact rfl)
      | ((with_reducible apply Sat.cond_pt); exact rfl; first | assumption | omega)
      | ((with_reducible apply Sat.cond_pf); exact rfl; first | assumption | omega)
      | ((with_reducible apply Sat.cond_p); exact rfl; all_goals intro h)
      | ((with_reducible apply Sat.cond); exact rfl; all_goals (intro h; (try simp only [Bool.cond_true_left, Bool.cond_false_right, Bool.or_eq_true, Bool.and_eq_true, Bool.or_eq_false_iff, Bool.and_eq_false_iff, Bool.not_eq_true', Bool.not_eq_false', decide_eq_true_eq, decide_eq_false_iff_not, ne_eq] at h)))
      | ((with_reducible apply Sat.callR (sanity_spec)); exact rfl; exact rfl; kernel_rfl; ((repeat' (first | exact Convs.nil | apply Convs.cons | exact Conv.refl _ (by (repeat' (first | exact True.intro | exact Pk.pure_ _ | apply And.intro))) | (refine Conv.may _ _ _ ?_ ?_; first | assumption | (simp_all; done) | omega) | exact Conv.nils _ rfl | (refine Conv.all _ _ _ _ _ rfl rfl ?_ ?_ <;> first | rfl | exact True.intro | omega) | apply Conv.agg | apply Conv.tup))); exact rfl)
      | ((with_reducible apply DSat.callR (sanity_spec)); exact rfl; exact rfl; kernel_rfl; ((repeat' (first | exact Convs.nil | apply Convs.cons | exact Conv.refl _ (by (repeat' (first | exact True.intro | exact Pk.pure_ _ | apply And.intro))) | (refine Conv.may _ _ _ ?_ ?_; first | assumption | (simp_all; done) | omega) | exact Conv.nils _ rfl | (refine Conv.all _ _ _ _ _ rfl rfl ?_ ?_ <;> first | rfl | exact True.intro | omega) | apply Conv.agg | apply Conv.tup))); exact rfl)
      | ((with_reducible apply Sat.callR (m0)); exact rfl; exact rfl; kernel_rfl; ((repeat' (first | exact Convs.nil | apply Convs.cons | exact Conv.refl _ (by (repeat' (first | exact True.intro | exact Pk.pure_ _ | apply And.intro))) | (refine Conv.may _ _ _ ?_ ?_; first | assumption | (simp_all; done) | omega) | exact Conv.nils _ rfl | (refine Conv.all _ _ _ _ _ rfl rfl ?_ ?_ <;> first | rfl | exact True.intro | omega) | apply Conv.agg | apply Conv.tup))); exact rfl)
      | ((with_reducible apply DSat.callR (m0)); exact rfl; exact rfl; kernel_rfl; ((repeat' (first | exact Convs.nil | apply Convs.cons | exact Conv.refl _ (by (repeat' (first | exact True.intro | exact Pk.pure_ _ | apply And.intro))) | (refine Conv.may _ _ _ ?_ ?_; first | assumption | (simp_all; done) | omega) | exact Conv.nils _ rfl | (refine Conv.all _ _ _ _ _ rfl rfl ?_ ?_ <;> first | rfl | exact True.intro | omega) | apply Conv.agg | apply Conv.tup))); exact rfl))
  apply Sat.loop (α := Nat × S9) (fun x => x.1 ≤ n ∧ x.1 ≤ 12 ∧ Vld x.2) (fun x => n - x.1) (0, s) (fun x => [(7, .int .i64 (x.1 : Int))]) (fun x => [(1, .cells 27 x.2.l)]) [] [] 0
  · intro x; exact rfl
  · intro x; exact rfl
  · exact rfl
  · exact rfl
  · (repeat' (first | exact AllP.nil | with_reducible refine AllP.cons ?_ ?_)) <;> first | exact rfl | exact pairs_pure _ _ _
  · exact ⟨Nat.zero_le _, by omega, v⟩
  · rintro x ⟨x1, x2, x3⟩
    have a0 := act_spec x.2 (f x.1) (pk0 (g x.1) x.2.ve) (hf _) x3.toRng
    have q0 := hf x.1
    have q1 := hg x.1
    repeat' (first
        | ((with_reducible apply Sat.run (X := fun _ => true)); exact rfl; (first | exact True.intro | ((try dsimp only) <;> (repeat' (first | exact AllP.nil | with_reducible refine AllP.cons ?_ ?_ | with_reducible apply And.intro)) <;> (first | assumption | exact True.intro | exact rfl | (show eqOk _ _ = true; kernel_rfl) | omega | (apply inR_i64 <;> omega) | (apply inR_u64 <;> omega) | (apply inR_u32 <;> omega) | (apply inR_u8' <;> omega) | (intro _; first | (show eqOk _ _ = true; kernel_rfl) | assumption | exact rfl | omega | (apply inR_i64 <;> omega) | (apply inR_u64 <;> omega) | (apply inR_u32 <;> omega) | (apply inR_u8' <;> omega)) | (simp; done) | (simp_all; done) | (simp_all; omega))) | skip))
        | ((with_reducible apply Sat.drawn); kernel_rfl)
        | ((with_reducible apply DSat.run (X := fun _ => true)); exact rfl; (first | exact True.intro | ((try dsimp only) <;> (repeat' (first | exact AllP.nil | with_reducible refine AllP.cons ?_ ?_ | with_reducible apply And.intro)) <;> (first | assumption | exact True.intro | exact rfl | (show eqOk _ _ = true; kernel_rfl) | omega | (apply inR_i64 <;> omega) | (apply inR_u64 <;> omega) | (apply inR_u32 <;> omega) | (apply inR_u8' <;> omega) | (intro _; first | (show eqOk _ _ = true; kernel_rfl) | assumption | exact rfl | omega | (apply inR_i64 <;> omega) | (apply inR_u64 <;> omega) | (apply inR_u32 <;> omega) | (apply inR_u8' <;> omega)) | (simp; done) | (simp_all; done) | (simp_all; omega))) | skip))
        | ((with_reducible apply DSat.fin); kernel_rfl)
        | ((with_reducible apply Sat.cond_t); exact rfl)
        | ((with_reducible apply Sat.cond_f); exact rfl)
        | ((with_reducible apply Sat.cond_pt); exact rfl; first | assumption | omega)
        | ((with_reducible apply Sat.cond_pf); exact rfl; first | assumption | omega)
        | ((with_reducible apply Sat.cond_p); exact rfl; all_goals intro h)
        | ((with_reducible apply Sat.cond); exact rfl; all_goals (intro h; (try simp only [Bool.cond_true_left, Bool.cond_false_right, Bool.or_eq_true, Bool.and_eq_true, Bool.or_eq_false_iff, Bool.and_eq_false_iff, Bool.not_eq_true', Bool.not_eq_false', decide_eq_true_eq, decide_eq_false_iff_not, ne_eq] at h)))
        | ((with_reducible apply Sat.callR (a0)); exact rfl; exact rfl; kernel_rfl; ((repeat' (first | exact Convs.nil | apply Convs.cons | exact Conv.refl _ (by (repeat' (first | exact True.intro | exact Pk.pure_ _ | apply And.intro))) | (refine Conv.may _ _ _ ?_ ?_; first | assumption | (simp_all; done) | omega) | exact Conv.nils _ rfl | (refine Conv.all _ _ _ _ _ rfl rfl ?_ ?_ <;> first | rfl | exact True.intro | omega) | apply Conv.agg | apply Conv.tup))); exact rfl)
        | ((with_reducible apply DSat.callR (a0)); exact rfl; exact rfl; kernel_rfl; ((repeat' (first | exact Convs.nil | apply Convs.cons | exact Conv.refl _ (by (repeat' (first | exact True.intro | exact Pk.pure_ _ | apply And.intro))) | (refine Conv.may _ _ _ ?_ ?_; first | assumption | (simp_all; done) | omega) | exact Conv.nils _ rfl | (refine Conv.all _ _ _ _ _ rfl rfl ?_ ?_ <;> first | rfl | exact True.intro | omega) | apply Conv.agg | apply Conv.tup))); exact rfl))
    · (refine Sat.fin (Sat.end1 rfl rfl True.intro (.refl _ (by (repeat' (first | exact True.intro | exact Pk.pure_ _ | apply And.intro)))) (by first | exact .inl rfl | exact .inr rfl) (fun _ h => h)) ?_; (refine congrArg SV.bool ?_; clear m0 a0; exfalso; have e1 : (x.1 : Int).toNat = x.1 := rfl; rw [e1, acted_last x3 _ _] at h; revert h; split <;> intro h <;> omega))
    · refine Sat.back (x.1 + 1, Acted x.2 (f x.1) (pk0 (g x.1) x.2.ve)) [] rfl ?_ ?_ ?_
      · (repeat' (first | exact AllP.nil | with_reducible refine AllP.cons ?_ ?_)) <;> first | exact rfl | exact pairs_pure _ _ _ | exact Int.natCast_add_one _ | trace_state
      · exact ⟨by have := x1; simp [EV.len] at *; omega, by omega, acted_vld x3 _ _ q1⟩
      · dsimp only; simp [EV.len] at *; omega
    · (refine Sat.fin (Sat.end1 rfl rfl True.intro (.refl _ (by (repeat' (first | exact True.intro | exact Pk.pure_ _ | apply And.intro)))) (by first | exact .inl rfl | exact .inr rfl) (fun _ h => h)) ?_; rfl)
end Go.Proofs.YtddgmlbbipakeaaDoor
