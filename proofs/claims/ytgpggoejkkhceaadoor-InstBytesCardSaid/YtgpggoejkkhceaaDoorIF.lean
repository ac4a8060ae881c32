/-
  Inst: words and bytes, lists compared.
-/
import Derived.Test.YtgpggoejkkhceaaDoorIE
namespace Go.Proofs.YtgpggoejkkhceaaDoor
open Go.RowKit V
set_option maxRecDepth 100000
set_option maxHeartbeats 8000000
set_option linter.unusedSimpArgs false
attribute [local irreducible] V.Sat V.DSat
@[reducible] def X64 : IntKind → Bool
  | .i64 => true
  | _ => false
theorem same_spec (l m : List UInt8) : Fun Tryd.prog [] 20 [.ro (.u8 l), .ro (.u8 m)] (.bool (decide (l = m))) := by
  refine Fun.mkF 6 Tryd.func20 rfl Tryd.ntmps20 rfl rfl fun hf T w0 => ?_
  obtain ⟨⟨hl, _⟩, ⟨hm, _⟩, _⟩ := hf
  dsimp only [EV.len] at hl hm
  unfold okLen at hl hm
  repeat' (first
      | ((with_reducible apply Sat.run (X := X64)); exact rfl; (first | exact True.intro | ((try dsimp only [V.EV.sub, V.EV.len]) <;> (repeat' (first | exact AllP.nil | with_reducible refine AllP.cons ?_ ?_ | with_reducible apply And.intro)) <;> (first | assumption | exact True.intro | exact rfl | (show eqOk _ _ = true; kernel_rfl) | omega | decide | (simp only [V.EV.sub, V.EV.len, List.length_cons, List.length_nil, List.length_append, List.length_drop, List.length_take]; omega) | (simp only [IntKind.bits]; omega) | (show IntKind.min _ ≤ _ ∧ _ ≤ IntKind.max _; decide) | (apply inR_i64 <;> omega) | (apply inR_i64 <;> (try simp only [Int.reduceToNat, Int.reducePow, Int.reduceSub, Int.reduceMul, Int.reduceAdd, Nat.reducePow, Nat.reduceAdd, Nat.reduceSub]) <;> omega) | (apply inR_u64 <;> omega) | (apply inR_u32 <;> omega) | (apply inR_u8' <;> omega) | (intro _; first | contradiction | (show eqOk _ _ = true; kernel_rfl) | assumption | exact rfl | omega | (show IntKind.min _ ≤ _ ∧ _ ≤ IntKind.max _; decide) | (apply inR_i64 <;> omega) | (apply inR_i64 <;> (try simp only [Int.reduceToNat, Int.reducePow, Int.reduceSub, Int.reduceMul, Int.reduceAdd, Nat.reducePow, Nat.reduceAdd, Nat.reduceSub]) <;> omega) | (apply inR_u64 <;> omega) | (apply inR_u32 <;> omega) | (apply inR_u8' <;> omega) | (apply And.intro <;> first | omega | (simp only [IntKind.bits]; omega))) | (simp; done) | (simp_all; done) | (simp_all; omega))) | skip))
      | ((with_reducible apply Sat.drawn); kernel_rfl)
      | ((with_reducible apply DSat.run (X := X64)); exact rfl; (first | exact True.intro | ((try dsimp only [V.EV.sub, V.EV.len]) <;> (repeat' (first | exact AllP.nil | with_reducible refine AllP.cons ?_ ?_ | with_reducible apply And.intro)) <;> (first | assumption | exact True.intro | exact rfl | (show eqOk _ _ = true; kernel_rfl) | omega | decide | (simp only [V.EV.sub, V.EV.len, List.length_cons, List.length_nil, List.length_append, List.length_drop, List.length_take]; omega) | (simp only [IntKind.bits]; omega) | (show IntKind.min _ ≤ _ ∧ _ ≤ IntKind.max _; decide) | (apply inR_i64 <;> omega) | (apply inR_i64 <;> (try simp only [Int.reduceToNat, Int.reducePow, Int.reduceSub, Int.reduceMul, Int.reduceAdd, Nat.reducePow, Nat.reduceAdd, Nat.reduceSub]) <;> omega) | (apply inR_u64 <;> omega) | (apply inR_u32 <;> omega) | (apply inR_u8' <;> omega) | (intro _; first | contradiction | (show eqOk _ _ = true; kernel_rfl) | assumption | exact rfl | omega | (show IntKind.min _ ≤ _ ∧ _ ≤ IntKind.max _; decide) | (apply inR_i64 <;> omega) | (apply inR_i64 <;> (try simp only [Int.reduceToNat, Int.reducePow, Int.reduceSub, Int.reduceMul, Int.reduceAdd, Nat.reducePow, Nat.reduceAdd, Nat.reduceSub]) <;> omega) | (apply inR_u64 <;> omega) | (apply inR_u32 <;> omega) | (apply inR_u8' <;> omega) | (apply And.intro <;> first | omega | (simp only [IntKind.bits]; omega))) | (simp; done) | (simp_all; done) | (simp_all; omega))) | skip))
      | ((with_reducible apply DSat.fin); kernel_rfl)
      | ((with_reducible apply Sat.cond_t); exact rfl)
      | ((with_reducible apply Sat.cond_f); exact rfl)
      | ((with_reducible apply Sat.cond_pt); exact rfl; (try dsimp only [V.EV.sub, V.EV.len]); first | assumption | omega)
      | ((with_reducible apply Sat.cond_pf); exact rfl; (try dsimp only [V.EV.sub, V.EV.len]); first | assumption | omega)
      | ((with_reducible apply Sat.cond_p); exact rfl; all_goals (intro h; (try simp only [V.EV.sub, V.EV.len] at h)))
      | ((with_reducible apply Sat.cond); exact rfl; all_goals (intro h; (try simp only [V.EV.sub, V.EV.len, Bool.cond_true_left, Bool.cond_false_right, Bool.or_eq_true, Bool.and_eq_true, Bool.or_eq_false_iff, Bool.and_eq_false_iff, Bool.not_eq_true', Bool.not_eq_false', decide_eq_true_eq, decide_eq_false_iff_not, ne_eq] at h))))
  · (refine Sat.fin (Sat.end1 rfl rfl True.intro (.refl _ (by (repeat' (first | exact True.intro | apply And.intro)))) (by first | exact .inl rfl | exact .inr rfl) (fun _ h => h)) ?_; (refine congrArg SV.bool ?_; exact decide_eq_false (fun e => by subst e; exact h rfl)))
  have hlm : l.length = m.length := by simp [EV.len] at h; omega
  apply Sat.loop (α := Nat) (fun x => x ≤ l.length ∧ ∀ i, i < x → l.getD i 0 = m.getD i 0) (fun x => l.length - x) 0 (fun x => [(5, .int .i64 (x : Int))]) (fun _ => []) [] [] 0
  · intro x; exact rfl
  · intro x; exact rfl
  · exact rfl
  · exact rfl
  · (repeat' (first | exact AllP.nil | with_reducible refine AllP.cons ?_ ?_)) <;> first | exact rfl | exact trivial
  · exact ⟨Nat.zero_le _, fun i hi => by omega⟩
  · rintro x ⟨x1, x2⟩
    repeat' (first
        | ((with_reducible apply Sat.run (X := X64)); exact rfl; (first | exact True.intro | ((try dsimp only [V.EV.sub, V.EV.len]) <;> (repeat' (first | exact AllP.nil | with_reducible refine AllP.cons ?_ ?_ | with_reducible apply And.intro)) <;> (first | assumption | exact True.intro | exact rfl | (show eqOk _ _ = true; kernel_rfl) | omega | decide | (simp only [V.EV.sub, V.EV.len, List.length_cons, List.length_nil, List.length_append, List.length_drop, List.length_take]; omega) | (simp only [IntKind.bits]; omega) | (show IntKind.min _ ≤ _ ∧ _ ≤ IntKind.max _; decide) | (apply inR_i64 <;> omega) | (apply inR_i64 <;> (try simp only [Int.reduceToNat, Int.reducePow, Int.reduceSub, Int.reduceMul, Int.reduceAdd, Nat.reducePow, Nat.reduceAdd, Nat.reduceSub]) <;> omega) | (apply inR_u64 <;> omega) | (apply inR_u32 <;> omega) | (apply inR_u8' <;> omega) | (intro _; first | contradiction | (show eqOk _ _ = true; kernel_rfl) | assumption | exact rfl | omega | (show IntKind.min _ ≤ _ ∧ _ ≤ IntKind.max _; decide) | (apply inR_i64 <;> omega) | (apply inR_i64 <;> (try simp only [Int.reduceToNat, Int.reducePow, Int.reduceSub, Int.reduceMul, Int.reduceAdd, Nat.reducePow, Nat.reduceAdd, Nat.reduceSub]) <;> omega) | (apply inR_u64 <;> omega) | (apply inR_u32 <;> omega) | (apply inR_u8' <;> omega) | (apply And.intro <;> first | omega | (simp only [IntKind.bits]; omega))) | (simp; done) | (simp_all; done) | (simp_all; omega))) | skip))
        | ((with_reducible apply Sat.drawn); kernel_rfl)
        | ((with_reducible apply DSat.run (X := X64)); exact rfl; (first | exact True.intro | ((try dsimp only [V.EV.sub, V.EV.len]) <;> (repeat' (first | exact AllP.nil | with_reducible refine AllP.cons ?_ ?_ | with_reducible apply And.intro)) <;> (first | assumption | exact True.intro | exact rfl | (show eqOk _ _ = true; kernel_rfl) | omega | decide | (simp only [V.EV.sub, V.EV.len, List.length_cons, List.length_nil, List.length_append, List.length_drop, List.length_take]; omega) | (simp only [IntKind.bits]; omega) | (show IntKind.min _ ≤ _ ∧ _ ≤ IntKind.max _; decide) | (apply inR_i64 <;> omega) | (apply inR_i64 <;> (try simp only [Int.reduceToNat, Int.reducePow, Int.reduceSub, Int.reduceMul, Int.reduceAdd, Nat.reducePow, Nat.reduceAdd, Nat.reduceSub]) <;> omega) | (apply inR_u64 <;> omega) | (apply inR_u32 <;> omega) | (apply inR_u8' <;> omega) | (intro _; first | contradiction | (show eqOk _ _ = true; kernel_rfl) | assumption | exact rfl | omega | (show IntKind.min _ ≤ _ ∧ _ ≤ IntKind.max _; decide) | (apply inR_i64 <;> omega) | (apply inR_i64 <;> (try simp only [Int.reduceToNat, Int.reducePow, Int.reduceSub, Int.reduceMul, Int.reduceAdd, Nat.reducePow, Nat.reduceAdd, Nat.reduceSub]) <;> omega) | (apply inR_u64 <;> omega) | (apply inR_u32 <;> omega) | (apply inR_u8' <;> omega) | (apply And.intro <;> first | omega | (simp only [IntKind.bits]; omega))) | (simp; done) | (simp_all; done) | (simp_all; omega))) | skip))
        | ((with_reducible apply DSat.fin); kernel_rfl)
        | ((with_reducible apply Sat.cond_t); exact rfl)
        | ((with_reducible apply Sat.cond_f); exact rfl)
        | ((with_reducible apply Sat.cond_pt); exact rfl; (try dsimp only [V.EV.sub, V.EV.len]); first | assumption | omega)
        | ((with_reducible apply Sat.cond_pf); exact rfl; (try dsimp only [V.EV.sub, V.EV.len]); first | assumption | omega)
        | ((with_reducible apply Sat.cond_p); exact rfl; all_goals (intro h; (try simp only [V.EV.sub, V.EV.len] at h)))
        | ((with_reducible apply Sat.cond); exact rfl; all_goals (intro h; (try simp only [V.EV.sub, V.EV.len, Bool.cond_true_left, Bool.cond_false_right, Bool.or_eq_true, Bool.and_eq_true, Bool.or_eq_false_iff, Bool.and_eq_false_iff, Bool.not_eq_true', Bool.not_eq_false', decide_eq_true_eq, decide_eq_false_iff_not, ne_eq] at h))))
    · (refine Sat.fin (Sat.end1 rfl rfl True.intro (.refl _ (by (repeat' (first | exact True.intro | apply And.intro)))) (by first | exact .inl rfl | exact .inr rfl) (fun _ h => h)) ?_; (refine congrArg SV.bool (decide_eq_false fun e => ?_); subst e; exact h rfl))
    · refine Sat.back (x + 1) [] rfl ?_ ?_ ?_
      · (repeat' (first | exact AllP.nil | with_reducible refine AllP.cons ?_ ?_)) <;> first | exact rfl | exact trivial | exact Int.natCast_add_one _
      · refine ⟨by omega, fun i hi => ?_⟩
        rcases Nat.lt_succ_iff_lt_or_eq.1 hi with h1 | rfl
        · exact x2 i h1
        · have e : (i : Int).toNat = i := rfl
          rw [e] at h
          exact UInt8.toNat_inj.1 (by omega)
      · omega
    · (refine Sat.fin (Sat.end1 rfl rfl True.intro (.refl _ (by (repeat' (first | exact True.intro | apply And.intro)))) (by first | exact .inl rfl | exact .inr rfl) (fun _ h => h)) ?_; (refine congrArg SV.bool (decide_eq_true ?_); exact (list_eq_iff rfl hlm.symm).1 fun j hj => x2 j (by omega)))
theorem sameW_spec (l m : List Int) : Fun Tryd.prog [] 19 [.ro (.ints .u32 l), .ro (.ints .u32 m)] (.bool (decide (l = m))) := by
  refine Fun.mkF 6 Tryd.func19 rfl Tryd.ntmps19 rfl rfl fun hf T w0 => ?_
  obtain ⟨⟨hl, _⟩, ⟨hm, _⟩, _⟩ := hf
  dsimp only [EV.len] at hl hm
  unfold okLen at hl hm
  repeat' (first
      | ((with_reducible apply Sat.run (X := X64)); exact rfl; (first | exact True.intro | ((try dsimp only [V.EV.sub, V.EV.len]) <;> (repeat' (first | exact AllP.nil | with_reducible refine AllP.cons ?_ ?_ | with_reducible apply And.intro)) <;> (first | assumption | exact True.intro | exact rfl | (show eqOk _ _ = true; kernel_rfl) | omega | decide | (simp only [V.EV.sub, V.EV.len, List.length_cons, List.length_nil, List.length_append, List.length_drop, List.length_take]; omega) | (simp only [IntKind.bits]; omega) | (show IntKind.min _ ≤ _ ∧ _ ≤ IntKind.max _; decide) | (apply inR_i64 <;> omega) | (apply inR_i64 <;> (try simp only [Int.reduceToNat, Int.reducePow, Int.reduceSub, Int.reduceMul, Int.reduceAdd, Nat.reducePow, Nat.reduceAdd, Nat.reduceSub]) <;> omega) | (apply inR_u64 <;> omega) | (apply inR_u32 <;> omega) | (apply inR_u8' <;> omega) | (intro _; first | contradiction | (show eqOk _ _ = true; kernel_rfl) | assumption | exact rfl | omega | (show IntKind.min _ ≤ _ ∧ _ ≤ IntKind.max _; decide) | (apply inR_i64 <;> omega) | (apply inR_i64 <;> (try simp only [Int.reduceToNat, Int.reducePow, Int.reduceSub, Int.reduceMul, Int.reduceAdd, Nat.reducePow, Nat.reduceAdd, Nat.reduceSub]) <;> omega) | (apply inR_u64 <;> omega) | (apply inR_u32 <;> omega) | (apply inR_u8' <;> omega) | (apply And.intro <;> first | omega | (simp only [IntKind.bits]; omega))) | (simp; done) | (simp_all; done) | (simp_all; omega))) | skip))
      | ((with_reducible apply Sat.drawn); kernel_rfl)
      | ((with_reducible apply DSat.run (X := X64)); exact rfl; (first | exact True.intro | ((try dsimp only [V.EV.sub, V.EV.len]) <;> (repeat' (first | exact AllP.nil | with_reducible refine AllP.cons ?_ ?_ | with_reducible apply And.intro)) <;> (first | assumption | exact True.intro | exact rfl | (show eqOk _ _ = true; kernel_rfl) | omega | decide | (simp only [V.EV.sub, V.EV.len, List.length_cons, List.length_nil, List.length_append, List.length_drop, List.length_take]; omega) | (simp only [IntKind.bits]; omega) | (show IntKind.min _ ≤ _ ∧ _ ≤ IntKind.max _; decide) | (apply inR_i64 <;> omega) | (apply inR_i64 <;> (try simp only [Int.reduceToNat, Int.reducePow, Int.reduceSub, Int.reduceMul, Int.reduceAdd, Nat.reducePow, Nat.reduceAdd, Nat.reduceSub]) <;> omega) | (apply inR_u64 <;> omega) | (apply inR_u32 <;> omega) | (apply inR_u8' <;> omega) | (intro _; first | contradiction | (show eqOk _ _ = true; kernel_rfl) | assumption | exact rfl | omega | (show IntKind.min _ ≤ _ ∧ _ ≤ IntKind.max _; decide) | (apply inR_i64 <;> omega) | (apply inR_i64 <;> (try simp only [Int.reduceToNat, Int.reducePow, Int.reduceSub, Int.reduceMul, Int.reduceAdd, Nat.reducePow, Nat.reduceAdd, Nat.reduceSub]) <;> omega) | (apply inR_u64 <;> omega) | (apply inR_u32 <;> omega) | (apply inR_u8' <;> omega) | (apply And.intro <;> first | omega | (simp only [IntKind.bits]; omega))) | (simp; done) | (simp_all; done) | (simp_all; omega))) | skip))
      | ((with_reducible apply DSat.fin); kernel_rfl)
      | ((with_reducible apply Sat.cond_t); exact rfl)
      | ((with_reducible apply Sat.cond_f); exact rfl)
      | ((with_reducible apply Sat.cond_pt); exact rfl; (try dsimp only [V.EV.sub, V.EV.len]); first | assumption | omega)
      | ((with_reducible apply Sat.cond_pf); exact rfl; (try dsimp only [V.EV.sub, V.EV.len]); first | assumption | omega)
      | ((with_reducible apply Sat.cond_p); exact rfl; all_goals (intro h; (try simp only [V.EV.sub, V.EV.len] at h)))
      | ((with_reducible apply Sat.cond); exact rfl; all_goals (intro h; (try simp only [V.EV.sub, V.EV.len, Bool.cond_true_left, Bool.cond_false_right, Bool.or_eq_true, Bool.and_eq_true, Bool.or_eq_false_iff, Bool.and_eq_false_iff, Bool.not_eq_true', Bool.not_eq_false', decide_eq_true_eq, decide_eq_false_iff_not, ne_eq] at h))))
  · (refine Sat.fin (Sat.end1 rfl rfl True.intro (.refl _ (by (repeat' (first | exact True.intro | apply And.intro)))) (by first | exact .inl rfl | exact .inr rfl) (fun _ h => h)) ?_; (refine congrArg SV.bool ?_; exact decide_eq_false (fun e => by subst e; exact h rfl)))
  have hlm : l.length = m.length := by simp [EV.len] at h; omega
  apply Sat.loop (α := Nat) (fun x => x ≤ l.length ∧ ∀ i, i < x → l.getD i 0 = m.getD i 0) (fun x => l.length - x) 0 (fun x => [(5, .int .i64 (x : Int))]) (fun _ => []) [] [] 0
  · intro x; exact rfl
  · intro x; exact rfl
  · exact rfl
  · exact rfl
  · (repeat' (first | exact AllP.nil | with_reducible refine AllP.cons ?_ ?_)) <;> first | exact rfl | exact trivial
  · exact ⟨Nat.zero_le _, fun i hi => by omega⟩
  · rintro x ⟨x1, x2⟩
    repeat' (first
        | ((with_reducible apply Sat.run (X := X64)); exact rfl; (first | exact True.intro | ((try dsimp only [V.EV.sub, V.EV.len]) <;> (repeat' (first | exact AllP.nil | with_reducible refine AllP.cons ?_ ?_ | with_reducible apply And.intro)) <;> (first | assumption | exact True.intro | exact rfl | (show eqOk _ _ = true; kernel_rfl) | omega | decide | (simp only [V.EV.sub, V.EV.len, List.length_cons, List.length_nil, List.length_append, List.length_drop, List.length_take]; omega) | (simp only [IntKind.bits]; omega) | (show IntKind.min _ ≤ _ ∧ _ ≤ IntKind.max _; decide) | (apply inR_i64 <;> omega) | (apply inR_i64 <;> (try simp only [Int.reduceToNat, Int.reducePow, Int.reduceSub, Int.reduceMul, Int.reduceAdd, Nat.reducePow, Nat.reduceAdd, Nat.reduceSub]) <;> omega) | (apply inR_u64 <;> omega) | (apply inR_u32 <;> omega) | (apply inR_u8' <;> omega) | (intro _; first | contradiction | (show eqOk _ _ = true; kernel_rfl) | assumption | exact rfl | omega | (show IntKind.min _ ≤ _ ∧ _ ≤ IntKind.max _; decide) | (apply inR_i64 <;> omega) | (apply inR_i64 <;> (try simp only [Int.reduceToNat, Int.reducePow, Int.reduceSub, Int.reduceMul, Int.reduceAdd, Nat.reducePow, Nat.reduceAdd, Nat.reduceSub]) <;> omega) | (apply inR_u64 <;> omega) | (apply inR_u32 <;> omega) | (apply inR_u8' <;> omega) | (apply And.intro <;> first | omega | (simp only [IntKind.bits]; omega))) | (simp; done) | (simp_all; done) | (simp_all; omega))) | skip))
        | ((with_reducible apply Sat.drawn); kernel_rfl)
        | ((with_reducible apply DSat.run (X := X64)); exact rfl; (first | exact True.intro | ((try dsimp only [V.EV.sub, V.EV.len]) <;> (repeat' (first | exact AllP.nil | with_reducible refine AllP.cons ?_ ?_ | with_reducible apply And.intro)) <;> (first | assumption | exact True.intro | exact rfl | (show eqOk _ _ = true; kernel_rfl) | omega | decide | (simp only [V.EV.sub, V.EV.len, List.length_cons, List.length_nil, List.length_append, List.length_drop, List.length_take]; omega) | (simp only [IntKind.bits]; omega) | (show IntKind.min _ ≤ _ ∧ _ ≤ IntKind.max _; decide) | (apply inR_i64 <;> omega) | (apply inR_i64 <;> (try simp only [Int.reduceToNat, Int.reducePow, Int.reduceSub, Int.reduceMul, Int.reduceAdd, Nat.reducePow, Nat.reduceAdd, Nat.reduceSub]) <;> omega) | (apply inR_u64 <;> omega) | (apply inR_u32 <;> omega) | (apply inR_u8' <;> omega) | (intro _; first | contradiction | (show eqOk _ _ = true; kernel_rfl) | assumption | exact rfl | omega | (show IntKind.min _ ≤ _ ∧ _ ≤ IntKind.max _; decide) | (apply inR_i64 <;> omega) | (apply inR_i64 <;> (try simp only [Int.reduceToNat, Int.reducePow, Int.reduceSub, Int.reduceMul, Int.reduceAdd, Nat.reducePow, Nat.reduceAdd, Nat.reduceSub]) <;> omega) | (apply inR_u64 <;> omega) | (apply inR_u32 <;> omega) | (apply inR_u8' <;> omega) | (apply And.intro <;> first | omega | (simp only [IntKind.bits]; omega))) | (simp; done) | (simp_all; done) | (simp_all; omega))) | skip))
        | ((with_reducible apply DSat.fin); kernel_rfl)
        | ((with_reducible apply Sat.cond_t); exact rfl)
        | ((with_reducible apply Sat.cond_f); exact rfl)
        | ((with_reducible apply Sat.cond_pt); exact rfl; (try dsimp only [V.EV.sub, V.EV.len]); first | assumption | omega)
        | ((with_reducible apply Sat.cond_pf); exact rfl; (try dsimp only [V.EV.sub, V.EV.len]); first | assumption | omega)
        | ((with_reducible apply Sat.cond_p); exact rfl; all_goals (intro h; (try simp only [V.EV.sub, V.EV.len] at h)))
        | ((with_reducible apply Sat.cond); exact rfl; all_goals (intro h; (try simp only [V.EV.sub, V.EV.len, Bool.cond_true_left, Bool.cond_false_right, Bool.or_eq_true, Bool.and_eq_true, Bool.or_eq_false_iff, Bool.and_eq_false_iff, Bool.not_eq_true', Bool.not_eq_false', decide_eq_true_eq, decide_eq_false_iff_not, ne_eq] at h))))
    · (refine Sat.fin (Sat.end1 rfl rfl True.intro (.refl _ (by (repeat' (first | exact True.intro | apply And.intro)))) (by first | exact .inl rfl | exact .inr rfl) (fun _ h => h)) ?_; (refine congrArg SV.bool (decide_eq_false fun e => ?_); subst e; exact h rfl))
    · refine Sat.back (x + 1) [] rfl ?_ ?_ ?_
      · (repeat' (first | exact AllP.nil | with_reducible refine AllP.cons ?_ ?_)) <;> first | exact rfl | exact trivial | exact Int.natCast_add_one _
      · refine ⟨by omega, fun i hi => ?_⟩
        rcases Nat.lt_succ_iff_lt_or_eq.1 hi with h1 | rfl
        · exact x2 i h1
        · have e : (i : Int).toNat = i := rfl
          rw [e] at h
          exact Decidable.not_not.1 h
      · omega
    · (refine Sat.fin (Sat.end1 rfl rfl True.intro (.refl _ (by (repeat' (first | exact True.intro | apply And.intro)))) (by first | exact .inl rfl | exact .inr rfl) (fun _ h => h)) ?_; (refine congrArg SV.bool (decide_eq_true ?_); exact (list_eq_iff rfl hlm.symm).1 fun j hj => x2 j (by omega)))
/-- The word of four bytes. -/
def word4 (a b c d : UInt8) : Int := (a.toNat : Int) * 16777216 + (b.toNat : Int) * 65536 + (c.toNat : Int) * 256 + d.toNat
def wordsL : List UInt8 → List Int
  | a :: b :: c :: d :: r => word4 a b c d :: wordsL r
  | _ => []
def orE (a b c d : UInt8) : Int := IntKind.u32.wrap ↑(BitVec.ofInt IntKind.u32.bits (IntKind.u32.wrap ↑(BitVec.ofInt IntKind.u32.bits (IntKind.u32.wrap ↑(BitVec.ofInt IntKind.u32.bits (IntKind.u32.wrap ((a.toNat : Int) * 2 ^ min (Int.toNat 24) IntKind.u32.bits)) ||| BitVec.ofInt IntKind.u32.bits (IntKind.u32.wrap ((b.toNat : Int) * 2 ^ min (Int.toNat 16) IntKind.u32.bits))).toNat) ||| BitVec.ofInt IntKind.u32.bits (IntKind.u32.wrap ((c.toNat : Int) * 2 ^ min (Int.toNat 8) IntKind.u32.bits))).toNat) ||| BitVec.ofInt IntKind.u32.bits (d.toNat : Int)).toNat
theorem orE_eq (a b c d : UInt8) : orE a b c d = word4 a b c d := by
  have ha := a.toNat_lt
  have hb := b.toNat_lt
  have hc := c.toNat_lt
  have hd := d.toNat_lt
  unfold orE word4
  generalize a.toNat = a at ha
  generalize b.toNat = b at hb
  generalize c.toNat = c at hc
  generalize d.toNat = d at hd
  have e1 : IntKind.u32.wrap ((a : Int) * 2 ^ min (Int.toNat 24) IntKind.u32.bits) = ((a * 2 ^ 24 : Nat) : Int) := by
    rw [show (2 : Int) ^ min (Int.toNat 24) IntKind.u32.bits = 16777216 from by decide]
    rw [show IntKind.u32.wrap ((a : Int) * 16777216) = a * 16777216 from wrapU ⟨by omega, by omega⟩]; simp
  have e2 : IntKind.u32.wrap ((b : Int) * 2 ^ min (Int.toNat 16) IntKind.u32.bits) = ((b * 2 ^ 16 : Nat) : Int) := by
    rw [show (2 : Int) ^ min (Int.toNat 16) IntKind.u32.bits = 65536 from by decide]
    rw [show IntKind.u32.wrap ((b : Int) * 65536) = b * 65536 from wrapU ⟨by omega, by omega⟩]; simp
  have e3 : IntKind.u32.wrap ((c : Int) * 2 ^ min (Int.toNat 8) IntKind.u32.bits) = ((c * 2 ^ 8 : Nat) : Int) := by
    rw [show (2 : Int) ^ min (Int.toNat 8) IntKind.u32.bits = 256 from by decide]
    rw [show IntKind.u32.wrap ((c : Int) * 256) = c * 256 from wrapU ⟨by omega, by omega⟩]; simp
  rw [e1, e2, e3]
  have o1 := bor_add .u32 a (b * 2 ^ 16) 24 (by omega) (by simp [IntKind.bits]; omega) (by simp [IntKind.signed])
  rw [o1, show a * 2 ^ 24 + b * 2 ^ 16 = (a * 256 + b) * 2 ^ 16 by omega]
  have o2 := bor_add .u32 (a * 256 + b) (c * 2 ^ 8) 16 (by omega) (by simp [IntKind.bits]; omega) (by simp [IntKind.signed])
  rw [o2, show (a * 256 + b) * 2 ^ 16 + c * 2 ^ 8 = ((a * 256 + b) * 256 + c) * 2 ^ 8 by omega]
  have o3 := bor_add .u32 ((a * 256 + b) * 256 + c) d 8 (by omega) (by simp [IntKind.bits]; omega) (by simp [IntKind.signed])
  rw [o3]
  omega
theorem words_spec (l : List UInt8) (h4 : l.length % 4 = 0) (hb : l.length ≤ 140737488355328) : Fun Tryd.prog [] 17 [.ro (.u8 l)] (.tup [.ro (.ints .u32 (wordsL l)), .int .i64 0]) := by
  refine Fun.mkF 6 Tryd.func17 rfl Tryd.ntmps17 rfl rfl fun hf T w0 => ?_
  obtain ⟨⟨hl, _⟩, _⟩ := hf
  dsimp only [EV.len] at hl
  unfold okLen at hl
  repeat' (first
      | ((with_reducible apply Sat.run (X := X64)); exact rfl; (first | exact True.intro | ((try dsimp only [V.EV.sub, V.EV.len]) <;> (repeat' (first | exact AllP.nil | with_reducible refine AllP.cons ?_ ?_ | with_reducible apply And.intro)) <;> (first | assumption | exact True.intro | exact rfl | (show eqOk _ _ = true; kernel_rfl) | omega | decide | (simp only [V.EV.sub, V.EV.len, List.length_cons, List.length_nil, List.length_append, List.length_drop, List.length_take]; omega) | (simp only [IntKind.bits]; omega) | (show IntKind.min _ ≤ _ ∧ _ ≤ IntKind.max _; decide) | (apply inR_i64 <;> omega) | (apply inR_i64 <;> (try simp only [Int.reduceToNat, Int.reducePow, Int.reduceSub, Int.reduceMul, Int.reduceAdd, Nat.reducePow, Nat.reduceAdd, Nat.reduceSub]) <;> omega) | (apply inR_u64 <;> omega) | (apply inR_u32 <;> omega) | (apply inR_u8' <;> omega) | (intro _; first | contradiction | (show eqOk _ _ = true; kernel_rfl) | assumption | exact rfl | omega | (show IntKind.min _ ≤ _ ∧ _ ≤ IntKind.max _; decide) | (apply inR_i64 <;> omega) | (apply inR_i64 <;> (try simp only [Int.reduceToNat, Int.reducePow, Int.reduceSub, Int.reduceMul, Int.reduceAdd, Nat.reducePow, Nat.reduceAdd, Nat.reduceSub]) <;> omega) | (apply inR_u64 <;> omega) | (apply inR_u32 <;> omega) | (apply inR_u8' <;> omega) | (apply And.intro <;> first | omega | (simp only [IntKind.bits]; omega))) | (simp; done) | (simp_all; done) | (simp_all; omega))) | skip))
      | ((with_reducible apply Sat.drawn); kernel_rfl)
      | ((with_reducible apply DSat.run (X := X64)); exact rfl; (first | exact True.intro | ((try dsimp only [V.EV.sub, V.EV.len]) <;> (repeat' (first | exact AllP.nil | with_reducible refine AllP.cons ?_ ?_ | with_reducible apply And.intro)) <;> (first | assumption | exact True.intro | exact rfl | (show eqOk _ _ = true; kernel_rfl) | omega | decide | (simp only [V.EV.sub, V.EV.len, List.length_cons, List.length_nil, List.length_append, List.length_drop, List.length_take]; omega) | (simp only [IntKind.bits]; omega) | (show IntKind.min _ ≤ _ ∧ _ ≤ IntKind.max _; decide) | (apply inR_i64 <;> omega) | (apply inR_i64 <;> (try simp only [Int.reduceToNat, Int.reducePow, Int.reduceSub, Int.reduceMul, Int.reduceAdd, Nat.reducePow, Nat.reduceAdd, Nat.reduceSub]) <;> omega) | (apply inR_u64 <;> omega) | (apply inR_u32 <;> omega) | (apply inR_u8' <;> omega) | (intro _; first | contradiction | (show eqOk _ _ = true; kernel_rfl) | assumption | exact rfl | omega | (show IntKind.min _ ≤ _ ∧ _ ≤ IntKind.max _; decide) | (apply inR_i64 <;> omega) | (apply inR_i64 <;> (try simp only [Int.reduceToNat, Int.reducePow, Int.reduceSub, Int.reduceMul, Int.reduceAdd, Nat.reducePow, Nat.reduceAdd, Nat.reduceSub]) <;> omega) | (apply inR_u64 <;> omega) | (apply inR_u32 <;> omega) | (apply inR_u8' <;> omega) | (apply And.intro <;> first | omega | (simp only [IntKind.bits]; omega))) | (simp; done) | (simp_all; done) | (simp_all; omega))) | skip))
      | ((with_reducible apply DSat.fin); kernel_rfl)
      | ((with_reducible apply Sat.cond_t); exact rfl)
      | ((with_reducible apply Sat.cond_f); exact rfl)
      | ((with_reducible apply Sat.cond_pt); exact rfl; (try dsimp only [V.EV.sub, V.EV.len]); first | assumption | omega)
      | ((with_reducible apply Sat.cond_pf); exact rfl; (try dsimp only [V.EV.sub, V.EV.len]); first | assumption | omega)
      | ((with_reducible apply Sat.cond_p); exact rfl; all_goals (intro h; (try simp only [V.EV.sub, V.EV.len] at h)))
      | ((with_reducible apply Sat.cond); exact rfl; all_goals (intro h; (try simp only [V.EV.sub, V.EV.len, Bool.cond_true_left, Bool.cond_false_right, Bool.or_eq_true, Bool.and_eq_true, Bool.or_eq_false_iff, Bool.and_eq_false_iff, Bool.not_eq_true', Bool.not_eq_false', decide_eq_true_eq, decide_eq_false_iff_not, ne_eq] at h))))
  apply Sat.loop (α := List UInt8 × List Int) (fun x => x.1.length % 4 = 0 ∧ x.1.length + 4 * x.2.length ≤ l.length ∧ x.2 ++ wordsL x.1 = wordsL l) (fun x => x.1.length) (l, []) (fun x => [(0, .ro (.u8 x.1)), (4, .row 0 0 1 0 x.2.length)]) (fun x => [(0, .row 22 (.ints .u32 x.2))]) [] [(0, none)] 1
  · intro x; exact rfl
  · intro x; exact rfl
  · exact rfl
  · exact rfl
  · (repeat' (first | exact AllP.nil | with_reducible refine AllP.cons ?_ ?_)) <;> first | exact rfl | exact trivial
  · exact ⟨h4, by simp, by simp⟩
  · rintro ⟨r, dn⟩ ⟨x1, x2, x3⟩
    dsimp only at x1 x2 x3
    repeat' (first
        | ((with_reducible apply Sat.run (X := X64)); exact rfl; (first | exact True.intro | ((try dsimp only [V.EV.sub, V.EV.len]) <;> (repeat' (first | exact AllP.nil | with_reducible refine AllP.cons ?_ ?_ | with_reducible apply And.intro)) <;> (first | assumption | exact True.intro | exact rfl | (show eqOk _ _ = true; kernel_rfl) | omega | decide | (simp only [V.EV.sub, V.EV.len, List.length_cons, List.length_nil, List.length_append, List.length_drop, List.length_take]; omega) | (simp only [IntKind.bits]; omega) | (show IntKind.min _ ≤ _ ∧ _ ≤ IntKind.max _; decide) | (apply inR_i64 <;> omega) | (apply inR_i64 <;> (try simp only [Int.reduceToNat, Int.reducePow, Int.reduceSub, Int.reduceMul, Int.reduceAdd, Nat.reducePow, Nat.reduceAdd, Nat.reduceSub]) <;> omega) | (apply inR_u64 <;> omega) | (apply inR_u32 <;> omega) | (apply inR_u8' <;> omega) | (intro _; first | contradiction | (show eqOk _ _ = true; kernel_rfl) | assumption | exact rfl | omega | (show IntKind.min _ ≤ _ ∧ _ ≤ IntKind.max _; decide) | (apply inR_i64 <;> omega) | (apply inR_i64 <;> (try simp only [Int.reduceToNat, Int.reducePow, Int.reduceSub, Int.reduceMul, Int.reduceAdd, Nat.reducePow, Nat.reduceAdd, Nat.reduceSub]) <;> omega) | (apply inR_u64 <;> omega) | (apply inR_u32 <;> omega) | (apply inR_u8' <;> omega) | (apply And.intro <;> first | omega | (simp only [IntKind.bits]; omega))) | (simp; done) | (simp_all; done) | (simp_all; omega))) | skip))
        | ((with_reducible apply Sat.drawn); kernel_rfl)
        | ((with_reducible apply DSat.run (X := X64)); exact rfl; (first | exact True.intro | ((try dsimp only [V.EV.sub, V.EV.len]) <;> (repeat' (first | exact AllP.nil | with_reducible refine AllP.cons ?_ ?_ | with_reducible apply And.intro)) <;> (first | assumption | exact True.intro | exact rfl | (show eqOk _ _ = true; kernel_rfl) | omega | decide | (simp only [V.EV.sub, V.EV.len, List.length_cons, List.length_nil, List.length_append, List.length_drop, List.length_take]; omega) | (simp only [IntKind.bits]; omega) | (show IntKind.min _ ≤ _ ∧ _ ≤ IntKind.max _; decide) | (apply inR_i64 <;> omega) | (apply inR_i64 <;> (try simp only [Int.reduceToNat, Int.reducePow, Int.reduceSub, Int.reduceMul, Int.reduceAdd, Nat.reducePow, Nat.reduceAdd, Nat.reduceSub]) <;> omega) | (apply inR_u64 <;> omega) | (apply inR_u32 <;> omega) | (apply inR_u8' <;> omega) | (intro _; first | contradiction | (show eqOk _ _ = true; kernel_rfl) | assumption | exact rfl | omega | (show IntKind.min _ ≤ _ ∧ _ ≤ IntKind.max _; decide) | (apply inR_i64 <;> omega) | (apply inR_i64 <;> (try simp only [Int.reduceToNat, Int.reducePow, Int.reduceSub, Int.reduceMul, Int.reduceAdd, Nat.reducePow, Nat.reduceAdd, Nat.reduceSub]) <;> omega) | (apply inR_u64 <;> omega) | (apply inR_u32 <;> omega) | (apply inR_u8' <;> omega) | (apply And.intro <;> first | omega | (simp only [IntKind.bits]; omega))) | (simp; done) | (simp_all; done) | (simp_all; omega))) | skip))
        | ((with_reducible apply DSat.fin); kernel_rfl)
        | ((with_reducible apply Sat.cond_t); exact rfl)
        | ((with_reducible apply Sat.cond_f); exact rfl)
        | ((with_reducible apply Sat.cond_pt); exact rfl; (try dsimp only [V.EV.sub, V.EV.len]); first | assumption | omega)
        | ((with_reducible apply Sat.cond_pf); exact rfl; (try dsimp only [V.EV.sub, V.EV.len]); first | assumption | omega)
        | ((with_reducible apply Sat.cond_p); exact rfl; all_goals (intro h; (try simp only [V.EV.sub, V.EV.len] at h)))
        | ((with_reducible apply Sat.cond); exact rfl; all_goals (intro h; (try simp only [V.EV.sub, V.EV.len, Bool.cond_true_left, Bool.cond_false_right, Bool.or_eq_true, Bool.and_eq_true, Bool.or_eq_false_iff, Bool.and_eq_false_iff, Bool.not_eq_true', Bool.not_eq_false', decide_eq_true_eq, decide_eq_false_iff_not, ne_eq] at h))))
    · refine Sat.back ((r.drop 4).take (r.length - 4), dn ++ [orE (r.getD 0 0) (r.getD 1 0) (r.getD 2 0) (r.getD 3 0)]) [(0, some 2)] rfl ?_ ?_ ?_
      · (repeat' (first | exact AllP.nil | with_reducible refine AllP.cons ?_ ?_)) <;> first | exact rfl | exact trivial | (simp [EV.sub, EV.len]; done)
      · match r, x1, h with
        | a :: b :: c :: d :: r', x1, _ =>
          refine ⟨by simp at x1 ⊢; omega, by simp at x2 ⊢; omega, ?_⟩
          simp only [List.drop_succ_cons, List.drop_zero, List.length_cons, List.getD_cons_zero, List.getD_cons_succ, orE_eq]
          rw [List.take_of_length_le (by simp), List.append_assoc]
          simpa [wordsL] using x3
        | [], _, h => simp at h
        | [_], x1, _ => simp at x1
        | [_, _], x1, _ => simp at x1
        | [_, _, _], x1, _ => simp at x1
      · simp; omega
    · have hr : r = [] := List.eq_nil_of_length_eq_zero (by omega)
      subst hr
      simp [wordsL] at x3
      subst x3
      (refine Sat.fin (Sat.end2 rfl rfl rfl True.intro True.intro (.all _ _ _ _ _ rfl rfl rfl trivial) (.refl _ (by (repeat' (first | exact True.intro | apply And.intro)))) (by first | exact .inl rfl | exact .inr rfl) (fun _ h => h)) rfl)
end Go.Proofs.YtgpggoejkkhceaaDoor
