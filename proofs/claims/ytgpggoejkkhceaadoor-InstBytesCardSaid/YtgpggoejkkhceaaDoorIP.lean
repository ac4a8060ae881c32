/-
  Inst: the law InstBytes.
-/
import Derived.Test.YtgpggoejkkhceaaDoorIK
namespace Go.Proofs.YtgpggoejkkhceaaDoor
open Go.RowKit V
set_option maxRecDepth 100000
set_option maxHeartbeats 8000000
set_option linter.unusedSimpArgs false
attribute [local irreducible] V.Sat V.DSat
theorem word4_get (l : List UInt8) (i : Nat) (h : i < (wordsL l).length) : (wordsL l).getD i 0 = word4 (l.getD (4 * i) 0) (l.getD (4 * i + 1) 0) (l.getD (4 * i + 2) 0) (l.getD (4 * i + 3) 0) := by
  induction l using wordsL.induct generalizing i with
  | case1 a b c d r ih =>
    rw [wordsL]
    rw [wordsL] at h
    rcases i with _ | i
    · rfl
    · rw [show 4 * (i + 1) = 4 * i + 1 + 1 + 1 + 1 by omega]
      simp only [List.getD_cons_succ]
      exact ih i (by simpa using h)
  | case2 l hl =>
    rw [wordsL] at h
    · simp at h
    · exact hl
theorem wordsL_length (l : List UInt8) : (wordsL l).length = l.length / 4 := by
  induction l using wordsL.induct with
  | case1 a b c d r ih => rw [wordsL]; simp only [List.length_cons, ih]; omega
  | case2 l hl =>
    rw [wordsL]
    · match l, hl with
      | [], _ => rfl
      | [_], _ => simp
      | [_, _], _ => simp
      | [_, _, _], _ => simp
      | a :: b :: c :: d :: r, hl => exact absurd rfl (hl a b c d r)
    · exact hl
theorem word4_W32 (a b c d : UInt8) : W32 (word4 a b c d) := by
  have ha := a.toNat_lt
  have hb := b.toNat_lt
  have hc := c.toNat_lt
  have hd := d.toNat_lt
  unfold word4 W32
  omega
theorem wordsL_W32 (l : List UInt8) : ∀ w ∈ wordsL l, W32 w := by
  induction l using wordsL.induct with
  | case1 a b c d r ih =>
    rw [wordsL]
    intro w hw
    rcases List.mem_cons.1 hw with rfl | hw
    · exact word4_W32 a b c d
    · exact ih w hw
  | case2 l hl =>
    rw [wordsL]
    · intro w hw; simp at hw
    · exact hl
theorem bytes4_word4 (a b c d : UInt8) : bytes4 (word4 a b c d) = [a, b, c, d] := by
  have ha := a.toNat_lt
  have hb := b.toNat_lt
  have hc := c.toNat_lt
  have hd := d.toNat_lt
  have e1 : (word4 a b c d / 16777216).toNat = a.toNat := by unfold word4; omega
  have e2 : (word4 a b c d / 65536 % 256).toNat = b.toNat := by unfold word4; omega
  have e3 : (word4 a b c d / 256 % 256).toNat = c.toNat := by unfold word4; omega
  have e4 : (word4 a b c d % 256).toNat = d.toNat := by unfold word4; omega
  unfold bytes4
  rw [e1, e2, e3, e4]
  simp
theorem word4_bytes4 (w : Int) (h : W32 w) : wordsL (bytes4 w) = [w] := by
  obtain ⟨h0, h1⟩ := h
  unfold bytes4
  have e : wordsL [] = [] := by rw [wordsL]; intros; simp_all
  rw [wordsL, e]
  refine congrArg (· :: []) ?_
  unfold word4
  simp only [UInt8.toNat_ofNat']
  omega
theorem bytes_words (l : List UInt8) (h : l.length % 4 = 0) : bytesL (wordsL l) = l := by
  induction l using wordsL.induct with
  | case1 a b c d r ih =>
    rw [wordsL]
    have e : r.length % 4 = 0 := by simp only [List.length_cons] at h; omega
    have ih := ih e
    unfold bytesL at ih ⊢
    rw [List.flatMap_cons, ih, bytes4_word4]
    rfl
  | case2 l hl =>
    match l, hl with
    | [], _ => rfl
    | [_], _ => simp at h
    | [_, _], _ => simp at h
    | [_, _, _], _ => simp at h
    | a :: b :: c :: d :: r, hl => exact absurd rfl (hl a b c d r)
theorem wordsL_app4 (w : Int) (r : List UInt8) : wordsL (bytes4 w ++ r) = wordsL (bytes4 w) ++ wordsL r := by
  unfold bytes4
  simp only [List.cons_append, List.nil_append]
  have e : wordsL [] = [] := by rw [wordsL]; intros; simp_all
  rw [wordsL, wordsL, e]
  rfl
theorem words_bytes (l : List Int) (hw : ∀ w ∈ l, W32 w) : wordsL (bytesL l) = l := by
  induction l with
  | nil => rfl
  | cons w r ih =>
    have ih := ih fun x hx => hw x (List.mem_cons_of_mem _ hx)
    unfold bytesL at ih ⊢
    rw [List.flatMap_cons, wordsL_app4, ih, word4_bytes4 w (hw w (by simp))]
    rfl
theorem bytesL_length (l : List Int) : (bytesL l).length = 4 * l.length := by
  induction l with
  | nil => rfl
  | cons w r ih =>
    unfold bytesL at ih ⊢
    rw [List.flatMap_cons, List.length_append, ih]
    simp [bytes4]
    omega
def addE (a b c d : UInt8) : Int := IntKind.u32.wrap (IntKind.u32.wrap (IntKind.u32.wrap (IntKind.u32.wrap ((a.toNat : Int) * 2 ^ min (Int.toNat 24) IntKind.u32.bits) + IntKind.u32.wrap ((b.toNat : Int) * 2 ^ min (Int.toNat 16) IntKind.u32.bits)) + IntKind.u32.wrap ((c.toNat : Int) * 2 ^ min (Int.toNat 8) IntKind.u32.bits)) + (d.toNat : Int))
theorem addE_eq (a b c d : UInt8) : addE a b c d = word4 a b c d := by
  have ha := a.toNat_lt
  have hb := b.toNat_lt
  have hc := c.toNat_lt
  have hd := d.toNat_lt
  unfold addE word4
  generalize a.toNat = a at ha
  generalize b.toNat = b at hb
  generalize c.toNat = c at hc
  generalize d.toNat = d at hd
  have e1 : IntKind.u32.wrap ((a : Int) * 2 ^ min (Int.toNat 24) IntKind.u32.bits) = a * 16777216 := by
    rw [show (2 : Int) ^ min (Int.toNat 24) IntKind.u32.bits = 16777216 from by decide]
    exact wrapU ⟨by omega, by omega⟩
  have e2 : IntKind.u32.wrap ((b : Int) * 2 ^ min (Int.toNat 16) IntKind.u32.bits) = b * 65536 := by
    rw [show (2 : Int) ^ min (Int.toNat 16) IntKind.u32.bits = 65536 from by decide]
    exact wrapU ⟨by omega, by omega⟩
  have e3 : IntKind.u32.wrap ((c : Int) * 2 ^ min (Int.toNat 8) IntKind.u32.bits) = c * 256 := by
    rw [show (2 : Int) ^ min (Int.toNat 8) IntKind.u32.bits = 256 from by decide]
    exact wrapU ⟨by omega, by omega⟩
  rw [e1, e2, e3, show IntKind.u32.wrap ((a : Int) * 16777216 + b * 65536) = a * 16777216 + b * 65536 from wrapU ⟨by omega, by omega⟩,
    show IntKind.u32.wrap ((a : Int) * 16777216 + b * 65536 + c * 256) = a * 16777216 + b * 65536 + c * 256 from wrapU ⟨by omega, by omega⟩,
    show IntKind.u32.wrap ((a : Int) * 16777216 + b * 65536 + c * 256 + d) = a * 16777216 + b * 65536 + c * 256 + d from wrapU ⟨by omega, by omega⟩]
theorem bytes_big (l : List UInt8) (ws : List Int) (hb : 40 < l.length ∨ 10 < ws.length) : Fun Tryd.prog Γp 8 [.ro (.u8 l), .ro (.ints .u32 ws)] (.bool true) := by
  refine Fun.mk 7 Tryd.func8 rfl Tryd.ntmps8 rfl rfl fun T w => ?_
  repeat' (first
      | ((with_reducible apply Sat.run (X := X64)); exact rfl; (first | exact True.intro | ((try dsimp only [V.EV.sub, V.EV.len]) <;> (repeat' (first | exact AllP.nil | with_reducible refine AllP.cons ?_ ?_ | with_reducible apply And.intro)) <;> (first | assumption | exact True.intro | exact rfl | (show eqOk _ _ = true; kernel_rfl) | omega | decide | (simp only [V.EV.sub, V.EV.len, List.length_cons, List.length_nil, List.length_append, List.length_drop, List.length_take]; omega) | (simp only [IntKind.bits]; omega) | (show IntKind.min _ ≤ _ ∧ _ ≤ IntKind.max _; decide) | (apply inR_i64 <;> omega) | (apply inR_i64 <;> (try simp only [Int.reduceToNat, Int.reducePow, Int.reduceSub, Int.reduceMul, Int.reduceAdd, Nat.reducePow, Nat.reduceAdd, Nat.reduceSub]) <;> omega) | (apply inR_u64 <;> omega) | (apply inR_u32 <;> omega) | (apply inR_u8' <;> omega) | (intro _; first | contradiction | (show eqOk _ _ = true; kernel_rfl) | assumption | exact rfl | omega | (show IntKind.min _ ≤ _ ∧ _ ≤ IntKind.max _; decide) | (apply inR_i64 <;> omega) | (apply inR_i64 <;> (try simp only [Int.reduceToNat, Int.reducePow, Int.reduceSub, Int.reduceMul, Int.reduceAdd, Nat.reducePow, Nat.reduceAdd, Nat.reduceSub]) <;> omega) | (apply inR_u64 <;> omega) | (apply inR_u32 <;> omega) | (apply inR_u8' <;> omega) | (apply And.intro <;> first | omega | (simp only [IntKind.bits]; omega))) | (simp; done) | (simp_all; done) | (simp_all; omega))) | skip))
      | ((with_reducible apply Sat.drawn); kernel_rfl)
      | ((with_reducible apply DSat.run (X := X64)); exact rfl; (first | exact True.intro | ((try dsimp only [V.EV.sub, V.EV.len]) <;> (repeat' (first | exact AllP.nil | with_reducible refine AllP.cons ?_ ?_ | with_reducible apply And.intro)) <;> (first | assumption | exact True.intro | exact rfl | (show eqOk _ _ = true; kernel_rfl) | omega | decide | (simp only [V.EV.sub, V.EV.len, List.length_cons, List.length_nil, List.length_append, List.length_drop, List.length_take]; omega) | (simp only [IntKind.bits]; omega) | (show IntKind.min _ ≤ _ ∧ _ ≤ IntKind.max _; decide) | (apply inR_i64 <;> omega) | (apply inR_i64 <;> (try simp only [Int.reduceToNat, Int.reducePow, Int.reduceSub, Int.reduceMul, Int.reduceAdd, Nat.reducePow, Nat.reduceAdd, Nat.reduceSub]) <;> omega) | (apply inR_u64 <;> omega) | (apply inR_u32 <;> omega) | (apply inR_u8' <;> omega) | (intro _; first | contradiction | (show eqOk _ _ = true; kernel_rfl) | assumption | exact rfl | omega | (show IntKind.min _ ≤ _ ∧ _ ≤ IntKind.max _; decide) | (apply inR_i64 <;> omega) | (apply inR_i64 <;> (try simp only [Int.reduceToNat, Int.reducePow, Int.reduceSub, Int.reduceMul, Int.reduceAdd, Nat.reducePow, Nat.reduceAdd, Nat.reduceSub]) <;> omega) | (apply inR_u64 <;> omega) | (apply inR_u32 <;> omega) | (apply inR_u8' <;> omega) | (apply And.intro <;> first | omega | (simp only [IntKind.bits]; omega))) | (simp; done) | (simp_all; done) | (simp_all; omega))) | skip))
      | ((with_reducible apply DSat.fin); kernel_rfl)
      | ((with_reducible apply Sat.cond_t); exact rfl)
      | ((with_reducible apply Sat.cond_f); exact rfl)
      | ((with_reducible apply Sat.cond_pt); exact rfl; (try dsimp only [V.EV.sub, V.EV.len]); first | assumption | omega)
      | ((with_reducible apply Sat.cond_pf); exact rfl; (try dsimp only [V.EV.sub, V.EV.len]); first | assumption | omega)
      | ((with_reducible apply Sat.cond_p); exact rfl; all_goals (intro h; (try simp only [V.EV.sub, V.EV.len] at h)))
      | ((with_reducible apply Sat.cond); exact rfl; all_goals (intro h; (try simp only [V.EV.sub, V.EV.len, Bool.cond_true_left, Bool.cond_false_right, Bool.or_eq_true, Bool.and_eq_true, Bool.or_eq_false_iff, Bool.and_eq_false_iff, Bool.not_eq_true', Bool.not_eq_false', decide_eq_true_eq, decide_eq_false_iff_not, ne_eq] at h)))
      | ((with_reducible apply Sat.callR (sanity_spec)); exact rfl; exact rfl; kernel_rfl; ((repeat' (first | exact Convs.nil | apply Convs.cons | exact Conv.refl _ (by (repeat' (first | exact True.intro | apply And.intro))) | (refine Conv.may _ _ _ ?_ ?_; first | exact rfl | assumption | (decide +kernel) | (simp_all; done) | omega) | exact Conv.nils _ rfl | (refine Conv.all _ _ _ _ _ rfl rfl ?_ ?_ <;> first | rfl | exact True.intro | omega) | (refine Conv.gx _ _ _ _ _ (Conv.all _ _ _ _ _ rfl rfl ?_ ?_) ?_; exact rfl; (refine fun i hi => ?_; rcases i with _ | _ | _ | _ | _ | _ | i <;> first | exact ⟨trivial, trivial⟩ | exact trivial | (exfalso; simp only [List.length_cons, List.length_nil] at hi; omega)); (intro i hi; rcases i with _ | _ | _ | _ | _ | _ | i <;> first | rfl | (exfalso; simp only [List.length_cons, List.length_nil] at hi; omega))) | apply Conv.agg | apply Conv.tup))); exact rfl)
      | ((with_reducible apply DSat.callR (sanity_spec)); exact rfl; exact rfl; kernel_rfl; ((repeat' (first | exact Convs.nil | apply Convs.cons | exact Conv.refl _ (by (repeat' (first | exact True.intro | apply And.intro))) | (refine Conv.may _ _ _ ?_ ?_; first | exact rfl | assumption | (decide +kernel) | (simp_all; done) | omega) | exact Conv.nils _ rfl | (refine Conv.all _ _ _ _ _ rfl rfl ?_ ?_ <;> first | rfl | exact True.intro | omega) | (refine Conv.gx _ _ _ _ _ (Conv.all _ _ _ _ _ rfl rfl ?_ ?_) ?_; exact rfl; (refine fun i hi => ?_; rcases i with _ | _ | _ | _ | _ | _ | i <;> first | exact ⟨trivial, trivial⟩ | exact trivial | (exfalso; simp only [List.length_cons, List.length_nil] at hi; omega)); (intro i hi; rcases i with _ | _ | _ | _ | _ | _ | i <;> first | rfl | (exfalso; simp only [List.length_cons, List.length_nil] at hi; omega))) | apply Conv.agg | apply Conv.tup))); exact rfl))
  · (refine Sat.fin (Sat.end1 rfl rfl True.intro (.refl _ (by (repeat' (first | exact True.intro | apply And.intro)))) (by first | exact .inl rfl | exact .inr rfl) (fun _ h => h)) ?_; rfl)
  · have h1 := of_decide_eq_false h.1
    have h2 := of_decide_eq_false h.2
    omega
theorem bytes_odd (l : List UInt8) (ws : List Int) (hl : l.length ≤ 40) (hn : ws.length ≤ 10) (hw : ∀ w ∈ ws, W32 w) (h4 : l.length % 4 ≠ 0) : Fun Tryd.prog Γp 8 [.ro (.u8 l), .ro (.ints .u32 ws)] (.bool true) := by
  have b0 := (words_bad l h4).weak (Γ := Γp)
  have hL := bytesL_length ws
  have y0 := (bytes_spec ws hw (by omega)).weak (Γ := Γp)
  have c0 := (words_spec (bytesL ws) (by omega) (by omega)).weak (Γ := Γp)
  have s0 := (sameW_spec ws ws).weak (Γ := Γp)
  rw [decide_eq_true (rfl : ws = ws)] at s0
  rw [words_bytes ws hw] at c0
  generalize bytesL ws = B at hL y0 c0
  refine Fun.mk 7 Tryd.func8 rfl Tryd.ntmps8 rfl rfl fun T w => ?_
  repeat' (first
      | ((with_reducible apply Sat.run (X := X64)); exact rfl; (first | exact True.intro | ((try dsimp only [V.EV.sub, V.EV.len]) <;> (repeat' (first | exact AllP.nil | with_reducible refine AllP.cons ?_ ?_ | with_reducible apply And.intro)) <;> (first | assumption | exact True.intro | exact rfl | (show eqOk _ _ = true; kernel_rfl) | omega | decide | (simp only [V.EV.sub, V.EV.len, List.length_cons, List.length_nil, List.length_append, List.length_drop, List.length_take]; omega) | (simp only [IntKind.bits]; omega) | (show IntKind.min _ ≤ _ ∧ _ ≤ IntKind.max _; decide) | (apply inR_i64 <;> omega) | (apply inR_i64 <;> (try simp only [Int.reduceToNat, Int.reducePow, Int.reduceSub, Int.reduceMul, Int.reduceAdd, Nat.reducePow, Nat.reduceAdd, Nat.reduceSub]) <;> omega) | (apply inR_u64 <;> omega) | (apply inR_u32 <;> omega) | (apply inR_u8' <;> omega) | (intro _; first | contradiction | (show eqOk _ _ = true; kernel_rfl) | assumption | exact rfl | omega | (show IntKind.min _ ≤ _ ∧ _ ≤ IntKind.max _; decide) | (apply inR_i64 <;> omega) | (apply inR_i64 <;> (try simp only [Int.reduceToNat, Int.reducePow, Int.reduceSub, Int.reduceMul, Int.reduceAdd, Nat.reducePow, Nat.reduceAdd, Nat.reduceSub]) <;> omega) | (apply inR_u64 <;> omega) | (apply inR_u32 <;> omega) | (apply inR_u8' <;> omega) | (apply And.intro <;> first | omega | (simp only [IntKind.bits]; omega))) | (simp; done) | (simp_all; done) | (simp_all; omega))) | skip))
      | ((with_reducible apply Sat.drawn); kernel_rfl)
      | ((with_reducible apply DSat.run (X := X64)); exact rfl; (first | exact True.intro | ((try dsimp only [V.EV.sub, V.EV.len]) <;> (repeat' (first | exact AllP.nil | with_reducible refine AllP.cons ?_ ?_ | with_reducible apply And.intro)) <;> (first | assumption | exact True.intro | exact rfl | (show eqOk _ _ = true; kernel_rfl) | omega | decide | (simp only [V.EV.sub, V.EV.len, List.length_cons, List.length_nil, List.length_append, List.length_drop, List.length_take]; omega) | (simp only [IntKind.bits]; omega) | (show IntKind.min _ ≤ _ ∧ _ ≤ IntKind.max _; decide) | (apply inR_i64 <;> omega) | (apply inR_i64 <;> (try simp only [Int.reduceToNat, Int.reducePow, Int.reduceSub, Int.reduceMul, Int.reduceAdd, Nat.reducePow, Nat.reduceAdd, Nat.reduceSub]) <;> omega) | (apply inR_u64 <;> omega) | (apply inR_u32 <;> omega) | (apply inR_u8' <;> omega) | (intro _; first | contradiction | (show eqOk _ _ = true; kernel_rfl) | assumption | exact rfl | omega | (show IntKind.min _ ≤ _ ∧ _ ≤ IntKind.max _; decide) | (apply inR_i64 <;> omega) | (apply inR_i64 <;> (try simp only [Int.reduceToNat, Int.reducePow, Int.reduceSub, Int.reduceMul, Int.reduceAdd, Nat.reducePow, Nat.reduceAdd, Nat.reduceSub]) <;> omega) | (apply inR_u64 <;> omega) | (apply inR_u32 <;> omega) | (apply inR_u8' <;> omega) | (apply And.intro <;> first | omega | (simp only [IntKind.bits]; omega))) | (simp; done) | (simp_all; done) | (simp_all; omega))) | skip))
      | ((with_reducible apply DSat.fin); kernel_rfl)
      | ((with_reducible apply Sat.cond_t); exact rfl)
      | ((with_reducible apply Sat.cond_f); exact rfl)
      | ((with_reducible apply Sat.cond_pt); exact rfl; (try dsimp only [V.EV.sub, V.EV.len]); first | assumption | omega)
      | ((with_reducible apply Sat.cond_pf); exact rfl; (try dsimp only [V.EV.sub, V.EV.len]); first | assumption | omega)
      | ((with_reducible apply Sat.cond_p); exact rfl; all_goals (intro h; (try simp only [V.EV.sub, V.EV.len] at h)))
      | ((with_reducible apply Sat.cond); exact rfl; all_goals (intro h; (try simp only [V.EV.sub, V.EV.len, Bool.cond_true_left, Bool.cond_false_right, Bool.or_eq_true, Bool.and_eq_true, Bool.or_eq_false_iff, Bool.and_eq_false_iff, Bool.not_eq_true', Bool.not_eq_false', decide_eq_true_eq, decide_eq_false_iff_not, ne_eq] at h)))
      | ((with_reducible apply Sat.callR (sanity_spec)); exact rfl; exact rfl; kernel_rfl; ((repeat' (first | exact Convs.nil | apply Convs.cons | exact Conv.refl _ (by (repeat' (first | exact True.intro | apply And.intro))) | (refine Conv.may _ _ _ ?_ ?_; first | exact rfl | assumption | (decide +kernel) | (simp_all; done) | omega) | exact Conv.nils _ rfl | (refine Conv.all _ _ _ _ _ rfl rfl ?_ ?_ <;> first | rfl | exact True.intro | omega) | (refine Conv.gx _ _ _ _ _ (Conv.all _ _ _ _ _ rfl rfl ?_ ?_) ?_; exact rfl; (refine fun i hi => ?_; rcases i with _ | _ | _ | _ | _ | _ | i <;> first | exact ⟨trivial, trivial⟩ | exact trivial | (exfalso; simp only [List.length_cons, List.length_nil] at hi; omega)); (intro i hi; rcases i with _ | _ | _ | _ | _ | _ | i <;> first | rfl | (exfalso; simp only [List.length_cons, List.length_nil] at hi; omega))) | apply Conv.agg | apply Conv.tup))); exact rfl)
      | ((with_reducible apply DSat.callR (sanity_spec)); exact rfl; exact rfl; kernel_rfl; ((repeat' (first | exact Convs.nil | apply Convs.cons | exact Conv.refl _ (by (repeat' (first | exact True.intro | apply And.intro))) | (refine Conv.may _ _ _ ?_ ?_; first | exact rfl | assumption | (decide +kernel) | (simp_all; done) | omega) | exact Conv.nils _ rfl | (refine Conv.all _ _ _ _ _ rfl rfl ?_ ?_ <;> first | rfl | exact True.intro | omega) | (refine Conv.gx _ _ _ _ _ (Conv.all _ _ _ _ _ rfl rfl ?_ ?_) ?_; exact rfl; (refine fun i hi => ?_; rcases i with _ | _ | _ | _ | _ | _ | i <;> first | exact ⟨trivial, trivial⟩ | exact trivial | (exfalso; simp only [List.length_cons, List.length_nil] at hi; omega)); (intro i hi; rcases i with _ | _ | _ | _ | _ | _ | i <;> first | rfl | (exfalso; simp only [List.length_cons, List.length_nil] at hi; omega))) | apply Conv.agg | apply Conv.tup))); exact rfl)
      | ((with_reducible apply Sat.gon); exact rfl; first | exact rfl | (decide +kernel))
      | ((with_reducible apply Sat.call (b0)); exact rfl; kernel_rfl; ((repeat' (first | exact Convs.nil | apply Convs.cons | exact Conv.refl _ (by (repeat' (first | exact True.intro | apply And.intro))) | (refine Conv.may _ _ _ ?_ ?_; first | exact rfl | assumption | (decide +kernel) | (simp_all; done) | omega) | exact Conv.nils _ rfl | (refine Conv.all _ _ _ _ _ rfl rfl ?_ ?_ <;> first | rfl | exact True.intro | omega) | (refine Conv.gx _ _ _ _ _ (Conv.all _ _ _ _ _ rfl rfl ?_ ?_) ?_; exact rfl; (refine fun i hi => ?_; rcases i with _ | _ | _ | _ | _ | _ | i <;> first | exact ⟨trivial, trivial⟩ | exact trivial | (exfalso; simp only [List.length_cons, List.length_nil] at hi; omega)); (intro i hi; rcases i with _ | _ | _ | _ | _ | _ | i <;> first | rfl | (exfalso; simp only [List.length_cons, List.length_nil] at hi; omega))) | apply Conv.agg | apply Conv.tup))); exact rfl)
      | ((with_reducible apply DSat.call (b0)); exact rfl; kernel_rfl; ((repeat' (first | exact Convs.nil | apply Convs.cons | exact Conv.refl _ (by (repeat' (first | exact True.intro | apply And.intro))) | (refine Conv.may _ _ _ ?_ ?_; first | exact rfl | assumption | (decide +kernel) | (simp_all; done) | omega) | exact Conv.nils _ rfl | (refine Conv.all _ _ _ _ _ rfl rfl ?_ ?_ <;> first | rfl | exact True.intro | omega) | (refine Conv.gx _ _ _ _ _ (Conv.all _ _ _ _ _ rfl rfl ?_ ?_) ?_; exact rfl; (refine fun i hi => ?_; rcases i with _ | _ | _ | _ | _ | _ | i <;> first | exact ⟨trivial, trivial⟩ | exact trivial | (exfalso; simp only [List.length_cons, List.length_nil] at hi; omega)); (intro i hi; rcases i with _ | _ | _ | _ | _ | _ | i <;> first | rfl | (exfalso; simp only [List.length_cons, List.length_nil] at hi; omega))) | apply Conv.agg | apply Conv.tup))); exact rfl)
      | ((with_reducible apply Sat.call (y0)); exact rfl; kernel_rfl; ((repeat' (first | exact Convs.nil | apply Convs.cons | exact Conv.refl _ (by (repeat' (first | exact True.intro | apply And.intro))) | (refine Conv.may _ _ _ ?_ ?_; first | exact rfl | assumption | (decide +kernel) | (simp_all; done) | omega) | exact Conv.nils _ rfl | (refine Conv.all _ _ _ _ _ rfl rfl ?_ ?_ <;> first | rfl | exact True.intro | omega) | (refine Conv.gx _ _ _ _ _ (Conv.all _ _ _ _ _ rfl rfl ?_ ?_) ?_; exact rfl; (refine fun i hi => ?_; rcases i with _ | _ | _ | _ | _ | _ | i <;> first | exact ⟨trivial, trivial⟩ | exact trivial | (exfalso; simp only [List.length_cons, List.length_nil] at hi; omega)); (intro i hi; rcases i with _ | _ | _ | _ | _ | _ | i <;> first | rfl | (exfalso; simp only [List.length_cons, List.length_nil] at hi; omega))) | apply Conv.agg | apply Conv.tup))); exact rfl)
      | ((with_reducible apply DSat.call (y0)); exact rfl; kernel_rfl; ((repeat' (first | exact Convs.nil | apply Convs.cons | exact Conv.refl _ (by (repeat' (first | exact True.intro | apply And.intro))) | (refine Conv.may _ _ _ ?_ ?_; first | exact rfl | assumption | (decide +kernel) | (simp_all; done) | omega) | exact Conv.nils _ rfl | (refine Conv.all _ _ _ _ _ rfl rfl ?_ ?_ <;> first | rfl | exact True.intro | omega) | (refine Conv.gx _ _ _ _ _ (Conv.all _ _ _ _ _ rfl rfl ?_ ?_) ?_; exact rfl; (refine fun i hi => ?_; rcases i with _ | _ | _ | _ | _ | _ | i <;> first | exact ⟨trivial, trivial⟩ | exact trivial | (exfalso; simp only [List.length_cons, List.length_nil] at hi; omega)); (intro i hi; rcases i with _ | _ | _ | _ | _ | _ | i <;> first | rfl | (exfalso; simp only [List.length_cons, List.length_nil] at hi; omega))) | apply Conv.agg | apply Conv.tup))); exact rfl)
      | ((with_reducible apply Sat.call (c0)); exact rfl; kernel_rfl; ((repeat' (first | exact Convs.nil | apply Convs.cons | exact Conv.refl _ (by (repeat' (first | exact True.intro | apply And.intro))) | (refine Conv.may _ _ _ ?_ ?_; first | exact rfl | assumption | (decide +kernel) | (simp_all; done) | omega) | exact Conv.nils _ rfl | (refine Conv.all _ _ _ _ _ rfl rfl ?_ ?_ <;> first | rfl | exact True.intro | omega) | (refine Conv.gx _ _ _ _ _ (Conv.all _ _ _ _ _ rfl rfl ?_ ?_) ?_; exact rfl; (refine fun i hi => ?_; rcases i with _ | _ | _ | _ | _ | _ | i <;> first | exact ⟨trivial, trivial⟩ | exact trivial | (exfalso; simp only [List.length_cons, List.length_nil] at hi; omega)); (intro i hi; rcases i with _ | _ | _ | _ | _ | _ | i <;> first | rfl | (exfalso; simp only [List.length_cons, List.length_nil] at hi; omega))) | apply Conv.agg | apply Conv.tup))); exact rfl)
      | ((with_reducible apply DSat.call (c0)); exact rfl; kernel_rfl; ((repeat' (first | exact Convs.nil | apply Convs.cons | exact Conv.refl _ (by (repeat' (first | exact True.intro | apply And.intro))) | (refine Conv.may _ _ _ ?_ ?_; first | exact rfl | assumption | (decide +kernel) | (simp_all; done) | omega) | exact Conv.nils _ rfl | (refine Conv.all _ _ _ _ _ rfl rfl ?_ ?_ <;> first | rfl | exact True.intro | omega) | (refine Conv.gx _ _ _ _ _ (Conv.all _ _ _ _ _ rfl rfl ?_ ?_) ?_; exact rfl; (refine fun i hi => ?_; rcases i with _ | _ | _ | _ | _ | _ | i <;> first | exact ⟨trivial, trivial⟩ | exact trivial | (exfalso; simp only [List.length_cons, List.length_nil] at hi; omega)); (intro i hi; rcases i with _ | _ | _ | _ | _ | _ | i <;> first | rfl | (exfalso; simp only [List.length_cons, List.length_nil] at hi; omega))) | apply Conv.agg | apply Conv.tup))); exact rfl)
      | ((with_reducible apply Sat.callR (s0)); exact rfl; exact rfl; kernel_rfl; ((repeat' (first | exact Convs.nil | apply Convs.cons | exact Conv.refl _ (by (repeat' (first | exact True.intro | apply And.intro))) | (refine Conv.may _ _ _ ?_ ?_; first | exact rfl | assumption | (decide +kernel) | (simp_all; done) | omega) | exact Conv.nils _ rfl | (refine Conv.all _ _ _ _ _ rfl rfl ?_ ?_ <;> first | rfl | exact True.intro | omega) | (refine Conv.gx _ _ _ _ _ (Conv.all _ _ _ _ _ rfl rfl ?_ ?_) ?_; exact rfl; (refine fun i hi => ?_; rcases i with _ | _ | _ | _ | _ | _ | i <;> first | exact ⟨trivial, trivial⟩ | exact trivial | (exfalso; simp only [List.length_cons, List.length_nil] at hi; omega)); (intro i hi; rcases i with _ | _ | _ | _ | _ | _ | i <;> first | rfl | (exfalso; simp only [List.length_cons, List.length_nil] at hi; omega))) | apply Conv.agg | apply Conv.tup))); exact rfl)
      | ((with_reducible apply DSat.callR (s0)); exact rfl; exact rfl; kernel_rfl; ((repeat' (first | exact Convs.nil | apply Convs.cons | exact Conv.refl _ (by (repeat' (first | exact True.intro | apply And.intro))) | (refine Conv.may _ _ _ ?_ ?_; first | exact rfl | assumption | (decide +kernel) | (simp_all; done) | omega) | exact Conv.nils _ rfl | (refine Conv.all _ _ _ _ _ rfl rfl ?_ ?_ <;> first | rfl | exact True.intro | omega) | (refine Conv.gx _ _ _ _ _ (Conv.all _ _ _ _ _ rfl rfl ?_ ?_) ?_; exact rfl; (refine fun i hi => ?_; rcases i with _ | _ | _ | _ | _ | _ | i <;> first | exact ⟨trivial, trivial⟩ | exact trivial | (exfalso; simp only [List.length_cons, List.length_nil] at hi; omega)); (intro i hi; rcases i with _ | _ | _ | _ | _ | _ | i <;> first | rfl | (exfalso; simp only [List.length_cons, List.length_nil] at hi; omega))) | apply Conv.agg | apply Conv.tup))); exact rfl))
  all_goals first | (refine Sat.fin (Sat.end1 rfl rfl True.intro (.refl _ (by (repeat' (first | exact True.intro | apply And.intro)))) (by first | exact .inl rfl | exact .inr rfl) (fun _ h => h)) ?_; rfl) | skip
theorem bytes_even (l : List UInt8) (ws : List Int) (hl : l.length ≤ 40) (hn : ws.length ≤ 10) (hw : ∀ w ∈ ws, W32 w) (h4 : l.length % 4 = 0) : Fun Tryd.prog Γp 8 [.ro (.u8 l), .ro (.ints .u32 ws)] (.bool true) := by
  have hL := bytesL_length ws
  have y0 := (bytes_spec ws hw (by omega)).weak (Γ := Γp)
  have c0 := (words_spec (bytesL ws) (by omega) (by omega)).weak (Γ := Γp)
  have s0 := (sameW_spec ws ws).weak (Γ := Γp)
  rw [decide_eq_true (rfl : ws = ws)] at s0
  rw [words_bytes ws hw] at c0
  generalize bytesL ws = B at hL y0 c0
  have b0 := (words_spec l h4 (by omega)).weak (Γ := Γp)
  have hW := wordsL_length l
  have z0 := (bytes_spec (wordsL l) (wordsL_W32 l) (by omega)).weak (Γ := Γp)
  rw [bytes_words l h4] at z0
  have t0 := (same_spec l l).weak (Γ := Γp)
  rw [decide_eq_true (rfl : l = l)] at t0
  have hg := word4_get l
  generalize wordsL l = W at b0 hW z0 hg
  have hgd : (bif decide ((0 : Int) ≠ 0) then true else decide (((EV.ints .u32 W).len : Int) ≠ ((EV.u8 l).len : Int) / 4)) = false := by
    have e : (W.length : Int) = (l.length : Int) / 4 := by omega
    simp [EV.len, e]
  refine Fun.mk 7 Tryd.func8 rfl Tryd.ntmps8 rfl rfl fun T w => ?_
  repeat' (first
      | ((with_reducible apply Sat.run (X := X64)); exact rfl; (first | exact True.intro | ((try dsimp only [V.EV.sub, V.EV.len]) <;> (repeat' (first | exact AllP.nil | with_reducible refine AllP.cons ?_ ?_ | with_reducible apply And.intro)) <;> (first | assumption | exact True.intro | exact rfl | (show eqOk _ _ = true; kernel_rfl) | omega | decide | (simp only [V.EV.sub, V.EV.len, List.length_cons, List.length_nil, List.length_append, List.length_drop, List.length_take]; omega) | (simp only [IntKind.bits]; omega) | (show IntKind.min _ ≤ _ ∧ _ ≤ IntKind.max _; decide) | (apply inR_i64 <;> omega) | (apply inR_i64 <;> (try simp only [Int.reduceToNat, Int.reducePow, Int.reduceSub, Int.reduceMul, Int.reduceAdd, Nat.reducePow, Nat.reduceAdd, Nat.reduceSub]) <;> omega) | (apply inR_u64 <;> omega) | (apply inR_u32 <;> omega) | (apply inR_u8' <;> omega) | (intro _; first | contradiction | (show eqOk _ _ = true; kernel_rfl) | assumption | exact rfl | omega | (show IntKind.min _ ≤ _ ∧ _ ≤ IntKind.max _; decide) | (apply inR_i64 <;> omega) | (apply inR_i64 <;> (try simp only [Int.reduceToNat, Int.reducePow, Int.reduceSub, Int.reduceMul, Int.reduceAdd, Nat.reducePow, Nat.reduceAdd, Nat.reduceSub]) <;> omega) | (apply inR_u64 <;> omega) | (apply inR_u32 <;> omega) | (apply inR_u8' <;> omega) | (apply And.intro <;> first | omega | (simp only [IntKind.bits]; omega))) | (simp; done) | (simp_all; done) | (simp_all; omega))) | skip))
      | ((with_reducible apply Sat.drawn); kernel_rfl)
      | ((with_reducible apply DSat.run (X := X64)); exact rfl; (first | exact True.intro | ((try dsimp only [V.EV.sub, V.EV.len]) <;> (repeat' (first | exact AllP.nil | with_reducible refine AllP.cons ?_ ?_ | with_reducible apply And.intro)) <;> (first | assumption | exact True.intro | exact rfl | (show eqOk _ _ = true; kernel_rfl) | omega | decide | (simp only [V.EV.sub, V.EV.len, List.length_cons, List.length_nil, List.length_append, List.length_drop, List.length_take]; omega) | (simp only [IntKind.bits]; omega) | (show IntKind.min _ ≤ _ ∧ _ ≤ IntKind.max _; decide) | (apply inR_i64 <;> omega) | (apply inR_i64 <;> (try simp only [Int.reduceToNat, Int.reducePow, Int.reduceSub, Int.reduceMul, Int.reduceAdd, Nat.reducePow, Nat.reduceAdd, Nat.reduceSub]) <;> omega) | (apply inR_u64 <;> omega) | (apply inR_u32 <;> omega) | (apply inR_u8' <;> omega) | (intro _; first | contradiction | (show eqOk _ _ = true; kernel_rfl) | assumption | exact rfl | omega | (show IntKind.min _ ≤ _ ∧ _ ≤ IntKind.max _; decide) | (apply inR_i64 <;> omega) | (apply inR_i64 <;> (try simp only [Int.reduceToNat, Int.reducePow, Int.reduceSub, Int.reduceMul, Int.reduceAdd, Nat.reducePow, Nat.reduceAdd, Nat.reduceSub]) <;> omega) | (apply inR_u64 <;> omega) | (apply inR_u32 <;> omega) | (apply inR_u8' <;> omega) | (apply And.intro <;> first | omega | (simp only [IntKind.bits]; omega))) | (simp; done) | (simp_all; done) | (simp_all; omega))) | skip))
      | ((with_reducible apply DSat.fin); kernel_rfl)
      | ((with_reducible apply Sat.cond_t); exact rfl)
      | ((with_reducible apply Sat.cond_f); exact rfl)
      | ((with_reducible apply Sat.cond_pt); exact rfl; (try dsimp only [V.EV.sub, V.EV.len]); first | assumption | omega)
      | ((with_reducible apply Sat.cond_pf); exact rfl; (try dsimp only [V.EV.sub, V.EV.len]); first | assumption | omega)
      | ((with_reducible apply Sat.cond_p); exact rfl; all_goals (intro h; (try simp only [V.EV.sub, V.EV.len] at h)))
      | ((with_reducible apply Sat.cond); exact rfl; all_goals (intro h; (try simp only [V.EV.sub, V.EV.len, Bool.cond_true_left, Bool.cond_false_right, Bool.or_eq_true, Bool.and_eq_true, Bool.or_eq_false_iff, Bool.and_eq_false_iff, Bool.not_eq_true', Bool.not_eq_false', decide_eq_true_eq, decide_eq_false_iff_not, ne_eq] at h)))
      | ((with_reducible apply Sat.callR (sanity_spec)); exact rfl; exact rfl; kernel_rfl; ((repeat' (first | exact Convs.nil | apply Convs.cons | exact Conv.refl _ (by (repeat' (first | exact True.intro | apply And.intro))) | (refine Conv.may _ _ _ ?_ ?_; first | exact rfl | assumption | (decide +kernel) | (simp_all; done) | omega) | exact Conv.nils _ rfl | (refine Conv.all _ _ _ _ _ rfl rfl ?_ ?_ <;> first | rfl | exact True.intro | omega) | (refine Conv.gx _ _ _ _ _ (Conv.all _ _ _ _ _ rfl rfl ?_ ?_) ?_; exact rfl; (refine fun i hi => ?_; rcases i with _ | _ | _ | _ | _ | _ | i <;> first | exact ⟨trivial, trivial⟩ | exact trivial | (exfalso; simp only [List.length_cons, List.length_nil] at hi; omega)); (intro i hi; rcases i with _ | _ | _ | _ | _ | _ | i <;> first | rfl | (exfalso; simp only [List.length_cons, List.length_nil] at hi; omega))) | apply Conv.agg | apply Conv.tup))); exact rfl)
      | ((with_reducible apply DSat.callR (sanity_spec)); exact rfl; exact rfl; kernel_rfl; ((repeat' (first | exact Convs.nil | apply Convs.cons | exact Conv.refl _ (by (repeat' (first | exact True.intro | apply And.intro))) | (refine Conv.may _ _ _ ?_ ?_; first | exact rfl | assumption | (decide +kernel) | (simp_all; done) | omega) | exact Conv.nils _ rfl | (refine Conv.all _ _ _ _ _ rfl rfl ?_ ?_ <;> first | rfl | exact True.intro | omega) | (refine Conv.gx _ _ _ _ _ (Conv.all _ _ _ _ _ rfl rfl ?_ ?_) ?_; exact rfl; (refine fun i hi => ?_; rcases i with _ | _ | _ | _ | _ | _ | i <;> first | exact ⟨trivial, trivial⟩ | exact trivial | (exfalso; simp only [List.length_cons, List.length_nil] at hi; omega)); (intro i hi; rcases i with _ | _ | _ | _ | _ | _ | i <;> first | rfl | (exfalso; simp only [List.length_cons, List.length_nil] at hi; omega))) | apply Conv.agg | apply Conv.tup))); exact rfl)
      | ((with_reducible apply Sat.gon); exact rfl; first | exact rfl | (decide +kernel))
      | ((with_reducible apply Sat.call (b0)); exact rfl; kernel_rfl; ((repeat' (first | exact Convs.nil | apply Convs.cons | exact Conv.refl _ (by (repeat' (first | exact True.intro | apply And.intro))) | (refine Conv.may _ _ _ ?_ ?_; first | exact rfl | assumption | (decide +kernel) | (simp_all; done) | omega) | exact Conv.nils _ rfl | (refine Conv.all _ _ _ _ _ rfl rfl ?_ ?_ <;> first | rfl | exact True.intro | omega) | (refine Conv.gx _ _ _ _ _ (Conv.all _ _ _ _ _ rfl rfl ?_ ?_) ?_; exact rfl; (refine fun i hi => ?_; rcases i with _ | _ | _ | _ | _ | _ | i <;> first | exact ⟨trivial, trivial⟩ | exact trivial | (exfalso; simp only [List.length_cons, List.length_nil] at hi; omega)); (intro i hi; rcases i with _ | _ | _ | _ | _ | _ | i <;> first | rfl | (exfalso; simp only [List.length_cons, List.length_nil] at hi; omega))) | apply Conv.agg | apply Conv.tup))); exact rfl)
      | ((with_reducible apply DSat.call (b0)); exact rfl; kernel_rfl; ((repeat' (first | exact Convs.nil | apply Convs.cons | exact Conv.refl _ (by (repeat' (first | exact True.intro | apply And.intro))) | (refine Conv.may _ _ _ ?_ ?_; first | exact rfl | assumption | (decide +kernel) | (simp_all; done) | omega) | exact Conv.nils _ rfl | (refine Conv.all _ _ _ _ _ rfl rfl ?_ ?_ <;> first | rfl | exact True.intro | omega) | (refine Conv.gx _ _ _ _ _ (Conv.all _ _ _ _ _ rfl rfl ?_ ?_) ?_; exact rfl; (refine fun i hi => ?_; rcases i with _ | _ | _ | _ | _ | _ | i <;> first | exact ⟨trivial, trivial⟩ | exact trivial | (exfalso; simp only [List.length_cons, List.length_nil] at hi; omega)); (intro i hi; rcases i with _ | _ | _ | _ | _ | _ | i <;> first | rfl | (exfalso; simp only [List.length_cons, List.length_nil] at hi; omega))) | apply Conv.agg | apply Conv.tup))); exact rfl)
      | ((with_reducible apply Sat.call (y0)); exact rfl; kernel_rfl; ((repeat' (first | exact Convs.nil | apply Convs.cons | exact Conv.refl _ (by (repeat' (first | exact True.intro | apply And.intro))) | (refine Conv.may _ _ _ ?_ ?_; first | exact rfl | assumption | (decide +kernel) | (simp_all; done) | omega) | exact Conv.nils _ rfl | (refine Conv.all _ _ _ _ _ rfl rfl ?_ ?_ <;> first | rfl | exact True.intro | omega) | (refine Conv.gx _ _ _ _ _ (Conv.all _ _ _ _ _ rfl rfl ?_ ?_) ?_; exact rfl; (refine fun i hi => ?_; rcases i with _ | _ | _ | _ | _ | _ | i <;> first | exact ⟨trivial, trivial⟩ | exact trivial | (exfalso; simp only [List.length_cons, List.length_nil] at hi; omega)); (intro i hi; rcases i with _ | _ | _ | _ | _ | _ | i <;> first | rfl | (exfalso; simp only [List.length_cons, List.length_nil] at hi; omega))) | apply Conv.agg | apply Conv.tup))); exact rfl)
      | ((with_reducible apply DSat.call (y0)); exact rfl; kernel_rfl; ((repeat' (first | exact Convs.nil | apply Convs.cons | exact Conv.refl _ (by (repeat' (first | exact True.intro | apply And.intro))) | (refine Conv.may _ _ _ ?_ ?_; first | exact rfl | assumption | (decide +kernel) | (simp_all; done) | omega) | exact Conv.nils _ rfl | (refine Conv.all _ _ _ _ _ rfl rfl ?_ ?_ <;> first | rfl | exact True.intro | omega) | (refine Conv.gx _ _ _ _ _ (Conv.all _ _ _ _ _ rfl rfl ?_ ?_) ?_; exact rfl; (refine fun i hi => ?_; rcases i with _ | _ | _ | _ | _ | _ | i <;> first | exact ⟨trivial, trivial⟩ | exact trivial | (exfalso; simp only [List.length_cons, List.length_nil] at hi; omega)); (intro i hi; rcases i with _ | _ | _ | _ | _ | _ | i <;> first | rfl | (exfalso; simp only [List.length_cons, List.length_nil] at hi; omega))) | apply Conv.agg | apply Conv.tup))); exact rfl)
      | ((with_reducible apply Sat.call (c0)); exact rfl; kernel_rfl; ((repeat' (first | exact Convs.nil | apply Convs.cons | exact Conv.refl _ (by (repeat' (first | exact True.intro | apply And.intro))) | (refine Conv.may _ _ _ ?_ ?_; first | exact rfl | assumption | (decide +kernel) | (simp_all; done) | omega) | exact Conv.nils _ rfl | (refine Conv.all _ _ _ _ _ rfl rfl ?_ ?_ <;> first | rfl | exact True.intro | omega) | (refine Conv.gx _ _ _ _ _ (Conv.all _ _ _ _ _ rfl rfl ?_ ?_) ?_; exact rfl; (refine fun i hi => ?_; rcases i with _ | _ | _ | _ | _ | _ | i <;> first | exact ⟨trivial, trivial⟩ | exact trivial | (exfalso; simp only [List.length_cons, List.length_nil] at hi; omega)); (intro i hi; rcases i with _ | _ | _ | _ | _ | _ | i <;> first | rfl | (exfalso; simp only [List.length_cons, List.length_nil] at hi; omega))) | apply Conv.agg | apply Conv.tup))); exact rfl)
      | ((with_reducible apply DSat.call (c0)); exact rfl; kernel_rfl; ((repeat' (first | exact Convs.nil | apply Convs.cons | exact Conv.refl _ (by (repeat' (first | exact True.intro | apply And.intro))) | (refine Conv.may _ _ _ ?_ ?_; first | exact rfl | assumption | (decide +kernel) | (simp_all; done) | omega) | exact Conv.nils _ rfl | (refine Conv.all _ _ _ _ _ rfl rfl ?_ ?_ <;> first | rfl | exact True.intro | omega) | (refine Conv.gx _ _ _ _ _ (Conv.all _ _ _ _ _ rfl rfl ?_ ?_) ?_; exact rfl; (refine fun i hi => ?_; rcases i with _ | _ | _ | _ | _ | _ | i <;> first | exact ⟨trivial, trivial⟩ | exact trivial | (exfalso; simp only [List.length_cons, List.length_nil] at hi; omega)); (intro i hi; rcases i with _ | _ | _ | _ | _ | _ | i <;> first | rfl | (exfalso; simp only [List.length_cons, List.length_nil] at hi; omega))) | apply Conv.agg | apply Conv.tup))); exact rfl)
      | ((with_reducible apply Sat.callR (s0)); exact rfl; exact rfl; kernel_rfl; ((repeat' (first | exact Convs.nil | apply Convs.cons | exact Conv.refl _ (by (repeat' (first | exact True.intro | apply And.intro))) | (refine Conv.may _ _ _ ?_ ?_; first | exact rfl | assumption | (decide +kernel) | (simp_all; done) | omega) | exact Conv.nils _ rfl | (refine Conv.all _ _ _ _ _ rfl rfl ?_ ?_ <;> first | rfl | exact True.intro | omega) | (refine Conv.gx _ _ _ _ _ (Conv.all _ _ _ _ _ rfl rfl ?_ ?_) ?_; exact rfl; (refine fun i hi => ?_; rcases i with _ | _ | _ | _ | _ | _ | i <;> first | exact ⟨trivial, trivial⟩ | exact trivial | (exfalso; simp only [List.length_cons, List.length_nil] at hi; omega)); (intro i hi; rcases i with _ | _ | _ | _ | _ | _ | i <;> first | rfl | (exfalso; simp only [List.length_cons, List.length_nil] at hi; omega))) | apply Conv.agg | apply Conv.tup))); exact rfl)
      | ((with_reducible apply DSat.callR (s0)); exact rfl; exact rfl; kernel_rfl; ((repeat' (first | exact Convs.nil | apply Convs.cons | exact Conv.refl _ (by (repeat' (first | exact True.intro | apply And.intro))) | (refine Conv.may _ _ _ ?_ ?_; first | exact rfl | assumption | (decide +kernel) | (simp_all; done) | omega) | exact Conv.nils _ rfl | (refine Conv.all _ _ _ _ _ rfl rfl ?_ ?_ <;> first | rfl | exact True.intro | omega) | (refine Conv.gx _ _ _ _ _ (Conv.all _ _ _ _ _ rfl rfl ?_ ?_) ?_; exact rfl; (refine fun i hi => ?_; rcases i with _ | _ | _ | _ | _ | _ | i <;> first | exact ⟨trivial, trivial⟩ | exact trivial | (exfalso; simp only [List.length_cons, List.length_nil] at hi; omega)); (intro i hi; rcases i with _ | _ | _ | _ | _ | _ | i <;> first | rfl | (exfalso; simp only [List.length_cons, List.length_nil] at hi; omega))) | apply Conv.agg | apply Conv.tup))); exact rfl)
      | ((with_reducible apply Sat.call (z0)); exact rfl; kernel_rfl; ((repeat' (first | exact Convs.nil | apply Convs.cons | exact Conv.refl _ (by (repeat' (first | exact True.intro | apply And.intro))) | (refine Conv.may _ _ _ ?_ ?_; first | exact rfl | assumption | (decide +kernel) | (simp_all; done) | omega) | exact Conv.nils _ rfl | (refine Conv.all _ _ _ _ _ rfl rfl ?_ ?_ <;> first | rfl | exact True.intro | omega) | (refine Conv.gx _ _ _ _ _ (Conv.all _ _ _ _ _ rfl rfl ?_ ?_) ?_; exact rfl; (refine fun i hi => ?_; rcases i with _ | _ | _ | _ | _ | _ | i <;> first | exact ⟨trivial, trivial⟩ | exact trivial | (exfalso; simp only [List.length_cons, List.length_nil] at hi; omega)); (intro i hi; rcases i with _ | _ | _ | _ | _ | _ | i <;> first | rfl | (exfalso; simp only [List.length_cons, List.length_nil] at hi; omega))) | apply Conv.agg | apply Conv.tup))); exact rfl)
      | ((with_reducible apply DSat.call (z0)); exact rfl; kernel_rfl; ((repeat' (first | exact Convs.nil | apply Convs.cons | exact Conv.refl _ (by (repeat' (first | exact True.intro | apply And.intro))) | (refine Conv.may _ _ _ ?_ ?_; first | exact rfl | assumption | (decide +kernel) | (simp_all; done) | omega) | exact Conv.nils _ rfl | (refine Conv.all _ _ _ _ _ rfl rfl ?_ ?_ <;> first | rfl | exact True.intro | omega) | (refine Conv.gx _ _ _ _ _ (Conv.all _ _ _ _ _ rfl rfl ?_ ?_) ?_; exact rfl; (refine fun i hi => ?_; rcases i with _ | _ | _ | _ | _ | _ | i <;> first | exact ⟨trivial, trivial⟩ | exact trivial | (exfalso; simp only [List.length_cons, List.length_nil] at hi; omega)); (intro i hi; rcases i with _ | _ | _ | _ | _ | _ | i <;> first | rfl | (exfalso; simp only [List.length_cons, List.length_nil] at hi; omega))) | apply Conv.agg | apply Conv.tup))); exact rfl)
      | ((with_reducible apply Sat.callR (t0)); exact rfl; exact rfl; kernel_rfl; ((repeat' (first | exact Convs.nil | apply Convs.cons | exact Conv.refl _ (by (repeat' (first | exact True.intro | apply And.intro))) | (refine Conv.may _ _ _ ?_ ?_; first | exact rfl | assumption | (decide +kernel) | (simp_all; done) | omega) | exact Conv.nils _ rfl | (refine Conv.all _ _ _ _ _ rfl rfl ?_ ?_ <;> first | rfl | exact True.intro | omega) | (refine Conv.gx _ _ _ _ _ (Conv.all _ _ _ _ _ rfl rfl ?_ ?_) ?_; exact rfl; (refine fun i hi => ?_; rcases i with _ | _ | _ | _ | _ | _ | i <;> first | exact ⟨trivial, trivial⟩ | exact trivial | (exfalso; simp only [List.length_cons, List.length_nil] at hi; omega)); (intro i hi; rcases i with _ | _ | _ | _ | _ | _ | i <;> first | rfl | (exfalso; simp only [List.length_cons, List.length_nil] at hi; omega))) | apply Conv.agg | apply Conv.tup))); exact rfl)
      | ((with_reducible apply DSat.callR (t0)); exact rfl; exact rfl; kernel_rfl; ((repeat' (first | exact Convs.nil | apply Convs.cons | exact Conv.refl _ (by (repeat' (first | exact True.intro | apply And.intro))) | (refine Conv.may _ _ _ ?_ ?_; first | exact rfl | assumption | (decide +kernel) | (simp_all; done) | omega) | exact Conv.nils _ rfl | (refine Conv.all _ _ _ _ _ rfl rfl ?_ ?_ <;> first | rfl | exact True.intro | omega) | (refine Conv.gx _ _ _ _ _ (Conv.all _ _ _ _ _ rfl rfl ?_ ?_) ?_; exact rfl; (refine fun i hi => ?_; rcases i with _ | _ | _ | _ | _ | _ | i <;> first | exact ⟨trivial, trivial⟩ | exact trivial | (exfalso; simp only [List.length_cons, List.length_nil] at hi; omega)); (intro i hi; rcases i with _ | _ | _ | _ | _ | _ | i <;> first | rfl | (exfalso; simp only [List.length_cons, List.length_nil] at hi; omega))) | apply Conv.agg | apply Conv.tup))); exact rfl)
      | ((with_reducible apply Sat.gfork); exact rfl; exact rfl; (intro h; clear h; rotate_left); (intro h; exact absurd hgd h)))
  · (refine Sat.fin (Sat.end1 rfl rfl True.intro (.refl _ (by (repeat' (first | exact True.intro | apply And.intro)))) (by first | exact .inl rfl | exact .inr rfl) (fun _ h => h)) ?_; rfl)
  · exfalso
    rcases h with (h | h) | h
    · exact h trivial
    · have h1 := of_decide_eq_true h; omega
    · simp at h
  apply Sat.loop (α := Nat) (fun x => x ≤ W.length) (fun x => W.length - x) 0 (fun x => [(10, .int .i64 (x : Int))]) (fun _ => []) [] [] 0
  · intro x; exact rfl
  · intro x; exact rfl
  · exact rfl
  · exact rfl
  · (repeat' (first | exact AllP.nil | with_reducible refine AllP.cons ?_ ?_)) <;> first | exact rfl | exact trivial
  · exact Nat.zero_le _
  · rintro x x1
    repeat' (first
        | ((with_reducible apply Sat.run (X := X64)); exact rfl; (first | exact True.intro | ((try dsimp only [V.EV.sub, V.EV.len]) <;> (repeat' (first | exact AllP.nil | with_reducible refine AllP.cons ?_ ?_ | with_reducible apply And.intro)) <;> (first | assumption | exact True.intro | exact rfl | (show eqOk _ _ = true; kernel_rfl) | omega | decide | (simp only [V.EV.sub, V.EV.len, List.length_cons, List.length_nil, List.length_append, List.length_drop, List.length_take]; omega) | (simp only [IntKind.bits]; omega) | (show IntKind.min _ ≤ _ ∧ _ ≤ IntKind.max _; decide) | (apply inR_i64 <;> omega) | (apply inR_i64 <;> (try simp only [Int.reduceToNat, Int.reducePow, Int.reduceSub, Int.reduceMul, Int.reduceAdd, Nat.reducePow, Nat.reduceAdd, Nat.reduceSub]) <;> omega) | (apply inR_u64 <;> omega) | (apply inR_u32 <;> omega) | (apply inR_u8' <;> omega) | (intro _; first | contradiction | (show eqOk _ _ = true; kernel_rfl) | assumption | exact rfl | omega | (show IntKind.min _ ≤ _ ∧ _ ≤ IntKind.max _; decide) | (apply inR_i64 <;> omega) | (apply inR_i64 <;> (try simp only [Int.reduceToNat, Int.reducePow, Int.reduceSub, Int.reduceMul, Int.reduceAdd, Nat.reducePow, Nat.reduceAdd, Nat.reduceSub]) <;> omega) | (apply inR_u64 <;> omega) | (apply inR_u32 <;> omega) | (apply inR_u8' <;> omega) | (apply And.intro <;> first | omega | (simp only [IntKind.bits]; omega))) | (simp; done) | (simp_all; done) | (simp_all; omega))) | skip))
        | ((with_reducible apply Sat.drawn); kernel_rfl)
        | ((with_reducible apply DSat.run (X := X64)); exact rfl; (first | exact True.intro | ((try dsimp only [V.EV.sub, V.EV.len]) <;> (repeat' (first | exact AllP.nil | with_reducible refine AllP.cons ?_ ?_ | with_reducible apply And.intro)) <;> (first | assumption | exact True.intro | exact rfl | (show eqOk _ _ = true; kernel_rfl) | omega | decide | (simp only [V.EV.sub, V.EV.len, List.length_cons, List.length_nil, List.length_append, List.length_drop, List.length_take]; omega) | (simp only [IntKind.bits]; omega) | (show IntKind.min _ ≤ _ ∧ _ ≤ IntKind.max _; decide) | (apply inR_i64 <;> omega) | (apply inR_i64 <;> (try simp only [Int.reduceToNat, Int.reducePow, Int.reduceSub, Int.reduceMul, Int.reduceAdd, Nat.reducePow, Nat.reduceAdd, Nat.reduceSub]) <;> omega) | (apply inR_u64 <;> omega) | (apply inR_u32 <;> omega) | (apply inR_u8' <;> omega) | (intro _; first | contradiction | (show eqOk _ _ = true; kernel_rfl) | assumption | exact rfl | omega | (show IntKind.min _ ≤ _ ∧ _ ≤ IntKind.max _; decide) | (apply inR_i64 <;> omega) | (apply inR_i64 <;> (try simp only [Int.reduceToNat, Int.reducePow, Int.reduceSub, Int.reduceMul, Int.reduceAdd, Nat.reducePow, Nat.reduceAdd, Nat.reduceSub]) <;> omega) | (apply inR_u64 <;> omega) | (apply inR_u32 <;> omega) | (apply inR_u8' <;> omega) | (apply And.intro <;> first | omega | (simp only [IntKind.bits]; omega))) | (simp; done) | (simp_all; done) | (simp_all; omega))) | skip))
        | ((with_reducible apply DSat.fin); kernel_rfl)
        | ((with_reducible apply Sat.cond_t); exact rfl)
        | ((with_reducible apply Sat.cond_f); exact rfl)
        | ((with_reducible apply Sat.cond_pt); exact rfl; (try dsimp only [V.EV.sub, V.EV.len]); first | assumption | omega)
        | ((with_reducible apply Sat.cond_pf); exact rfl; (try dsimp only [V.EV.sub, V.EV.len]); first | assumption | omega)
        | ((with_reducible apply Sat.cond_p); exact rfl; all_goals (intro h; (try simp only [V.EV.sub, V.EV.len] at h)))
        | ((with_reducible apply Sat.cond); exact rfl; all_goals (intro h; (try simp only [V.EV.sub, V.EV.len, Bool.cond_true_left, Bool.cond_false_right, Bool.or_eq_true, Bool.and_eq_true, Bool.or_eq_false_iff, Bool.and_eq_false_iff, Bool.not_eq_true', Bool.not_eq_false', decide_eq_true_eq, decide_eq_false_iff_not, ne_eq] at h))))
    · exfalso
      apply h
      have e : (x : Int).toNat = x := rfl
      have hx : x < W.length := by omega
      have g := hg x hx
      have e4 : (4 * (x : Int)).toNat = 4 * x := by omega
      have e5 : (4 * (x : Int) + 1).toNat = 4 * x + 1 := by omega
      have e6 : (4 * (x : Int) + 2).toNat = 4 * x + 2 := by omega
      have e7 : (4 * (x : Int) + 3).toNat = 4 * x + 3 := by omega
      rw [e, e4, e5, e6, e7, g]
      exact (addE_eq _ _ _ _).symm
    · refine Sat.back (x + 1) [] rfl ?_ ?_ ?_
      · (repeat' (first | exact AllP.nil | with_reducible refine AllP.cons ?_ ?_)) <;> first | exact rfl | exact trivial | exact Int.natCast_add_one _
      · omega
      · omega
    · (refine Sat.fin (Sat.end1 rfl rfl True.intro (.refl _ (by (repeat' (first | exact True.intro | apply And.intro)))) (by first | exact .inl rfl | exact .inr rfl) (fun _ h => h)) ?_; rfl)
theorem bytes_law (l : List UInt8) (ws : List Int) (hw : ∀ w ∈ ws, W32 w) : Fun Tryd.prog Γp 8 [.ro (.u8 l), .ro (.ints .u32 ws)] (.bool true) := by
  by_cases h : 40 < l.length ∨ 10 < ws.length
  · exact bytes_big l ws h
  · by_cases h4 : l.length % 4 = 0
    · exact bytes_even l ws (by omega) (by omega) hw h4
    · exact bytes_odd l ws (by omega) (by omega) hw h4
end Go.Proofs.YtgpggoejkkhceaaDoor
