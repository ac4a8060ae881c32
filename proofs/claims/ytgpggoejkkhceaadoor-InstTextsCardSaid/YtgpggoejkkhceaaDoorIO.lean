/-
  Inst: the law InstTexts.
-/
import Derived.Test.YtgpggoejkkhceaaDoorIK
namespace Go.Proofs.YtgpggoejkkhceaaDoor
open Go.RowKit V
set_option maxRecDepth 100000
set_option maxHeartbeats 8000000
set_option linter.unusedSimpArgs false
attribute [local irreducible] V.Sat V.DSat
theorem dec_flds (w a : Int) : ((Dec w a).op = 0 → (Dec w a).a = 0 ∧ (Dec w a).b = 0 ∧ (Dec w a).c = 0) ∧ ((Dec w a).op = 2 → (Dec w a).b = 0 ∧ (Dec w a).c = 0) ∧ ((Dec w a).op = 1 ∨ (Dec w a).op = 3 ∨ (Dec w a).op = 4 → (Dec w a).n = 0) ∧
    ((Dec w a).op = 5 ∨ (Dec w a).op = 6 → (Dec w a).a = 0 ∧ (Dec w a).b = 0 ∧ (Dec w a).c = 0) ∧ ((Dec w a).op = 7 ∨ (Dec w a).op = 8 → (Dec w a).b = 0 ∧ (Dec w a).c = 0) := by
  unfold Dec dat
  (repeat' split) <;> dsimp only <;> omega
/-! ### Texts -/
def J : List (List UInt8) → List UInt8
  | [] => []
  | [x] => x
  | x :: y :: r => x ++ 32 :: J (y :: r)
theorem cut1 : ∀ {x x' t t' : List UInt8}, 32 ∉ x → 32 ∉ x' → x ++ 32 :: t = x' ++ 32 :: t' → x = x' ∧ t = t'
  | [], [], t, t', _, _, h => by simpa using h
  | [], y :: x', t, t', _, h2, h => by
    simp only [List.nil_append, List.cons_append, List.cons.injEq] at h
    exact absurd (by rw [← h.1]; exact List.mem_cons_self ..) h2
  | y :: x, [], t, t', h1, _, h => by
    simp only [List.nil_append, List.cons_append, List.cons.injEq] at h
    exact absurd (by rw [h.1]; exact List.mem_cons_self ..) h1
  | y :: x, z :: x', t, t', h1, h2, h => by
    simp only [List.cons_append, List.cons.injEq] at h
    have := cut1 (fun hm => h1 (List.mem_cons_of_mem _ hm)) (fun hm => h2 (List.mem_cons_of_mem _ hm)) h.2
    exact ⟨by rw [h.1, this.1], this.2⟩
theorem J_inj : ∀ {l m : List (List UInt8)}, l ≠ [] → m ≠ [] → (∀ x ∈ l, 32 ∉ x) → (∀ x ∈ m, 32 ∉ x) → J l = J m → l = m
  | [], _, h, _, _, _, _ => absurd rfl h
  | _, [], _, h, _, _, _ => absurd rfl h
  | [x], [y], _, _, _, _, h => by simp only [J] at h; rw [h]
  | [x], y :: z :: r, _, _, h1, _, h => by
    simp only [J] at h
    exact absurd (by rw [h]; simp) (h1 x (List.mem_cons_self ..))
  | x :: y :: r, [z], _, _, _, h2, h => by
    simp only [J] at h
    exact absurd (by rw [← h]; simp) (h2 z (List.mem_cons_self ..))
  | x :: y :: r, z :: u :: s, _, _, h1, h2, h => by
    simp only [J] at h
    obtain ⟨e1, e2⟩ := cut1 (h1 x (List.mem_cons_self ..)) (h2 z (List.mem_cons_self ..)) h
    have := J_inj (l := y :: r) (m := u :: s) (by simp) (by simp) (fun q hq => h1 q (List.mem_cons_of_mem _ hq)) (fun q hq => h2 q (List.mem_cons_of_mem _ hq)) e2
    rw [e1, this]
theorem dd_rng (u : Nat) : ∀ b ∈ Lib.decDigits u, 48 ≤ b.toNat ∧ b.toNat ≤ 57 := by
  induction u using Lib.decDigits.induct with
  | case1 u h =>
    rw [Lib.decDigits, dif_pos h]
    intro b hb
    simp only [List.mem_singleton] at hb
    subst hb
    rw [UInt8.toNat_ofNat_of_lt' (by show 48 + u < 256; omega)]
    omega
  | case2 u h ih =>
    rw [Lib.decDigits, dif_neg h]
    intro b hb
    rcases List.mem_append.1 hb with hb | hb
    · exact ih b hb
    · simp only [List.mem_singleton] at hb
      subst hb
      rw [UInt8.toNat_ofNat_of_lt' (by show 48 + u % 10 < 256; omega)]
      omega
def dval (l : List UInt8) : Nat := l.foldl (fun a b => 10 * a + (b.toNat - 48)) 0
theorem dd_val (u : Nat) : dval (Lib.decDigits u) = u := by
  induction u using Lib.decDigits.induct with
  | case1 u h =>
    rw [Lib.decDigits, dif_pos h]
    simp only [dval, List.foldl_cons, List.foldl_nil]
    rw [UInt8.toNat_ofNat_of_lt' (by show 48 + u < 256; omega)]
    omega
  | case2 u h ih =>
    rw [Lib.decDigits, dif_neg h]
    unfold dval at ih ⊢
    rw [List.foldl_append, ih]
    simp only [List.foldl_cons, List.foldl_nil]
    rw [UInt8.toNat_ofNat_of_lt' (by show 48 + u % 10 < 256; omega)]
    omega
theorem itoa_no (n : Int) : 32 ∉ Lib.itoa n := by
  unfold Lib.itoa
  split
  · intro h
    rcases List.mem_cons.1 h with h | h
    · exact absurd h (by decide)
    · have := dd_rng _ _ h
      revert this; decide
  · intro h
    have := dd_rng _ _ h
    revert this; decide
theorem itoa_inj {n m : Int} (h : Lib.itoa n = Lib.itoa m) : n = m := by
  have h45 : ∀ u : Nat, ∀ t, Lib.decDigits u ≠ 45 :: t := fun u t e => by
    have := dd_rng u 45 (by rw [e]; exact List.mem_cons_self ..)
    revert this; decide
  unfold Lib.itoa at h
  split at h <;> split at h
  · simp only [List.cons.injEq, true_and] at h
    have := congrArg dval h
    rw [dd_val, dd_val] at this
    omega
  · exact absurd h.symm (h45 _ _)
  · exact absurd h (h45 _ _)
  · have := congrArg dval h
    rw [dd_val, dd_val] at this
    omega
theorem join_J (x : I5) : Lib.join (parts x) [32] = J (parts x) := by
  unfold parts
  (repeat' split)
  · rw [join4]; simp [J]
  · rw [join3]; simp [J]
  · rw [join2]; simp [J]
theorem parts_ne (x : I5) : parts x ≠ [] := by
  unfold parts
  (repeat' split) <;> simp
theorem name_no (op : Int) : 32 ∉ nameK op := by
  unfold nameK
  (repeat' split) <;> decide
theorem parts_no (x : I5) : ∀ y ∈ parts x, 32 ∉ y := by
  unfold parts
  (repeat' split) <;> intro y hy <;> simp only [List.mem_cons, List.not_mem_nil, or_false] at hy
  · rcases hy with rfl | rfl | rfl | rfl
    · exact name_no _
    · exact itoa_no _
    · exact itoa_no _
    · exact itoa_no _
  · rcases hy with rfl | rfl | rfl
    · exact name_no _
    · exact itoa_no _
    · exact itoa_no _
  · rcases hy with rfl | rfl
    · exact name_no _
    · exact itoa_no _
theorem parts_head (x : I5) : ∃ t, parts x = nameK x.op :: t := by
  unfold parts
  (repeat' split) <;> exact ⟨_, rfl⟩
theorem name_inj {i j : Int} (hi : 0 ≤ i ∧ i ≤ 8) (hj : 0 ≤ j ∧ j ≤ 8) (h : nameK i = nameK j) : i = j := by
  have ci : i = 0 ∨ i = 1 ∨ i = 2 ∨ i = 3 ∨ i = 4 ∨ i = 5 ∨ i = 6 ∨ i = 7 ∨ i = 8 := by omega
  have cj : j = 0 ∨ j = 1 ∨ j = 2 ∨ j = 3 ∨ j = 4 ∨ j = 5 ∨ j = 6 ∨ j = 7 ∨ j = 8 := by omega
  rcases ci with rfl | rfl | rfl | rfl | rfl | rfl | rfl | rfl | rfl <;> rcases cj with rfl | rfl | rfl | rfl | rfl | rfl | rfl | rfl | rfl <;> first | rfl | (exact absurd h (by decide))
theorem prt_dec (w at_ : Int) (h : W32 w) (ha : Pl at_) (h4 : at_ % 4 = 0) : Prt (Dec w at_) = J (parts (Dec w at_)) := by
  unfold Prt
  rw [if_pos (vd_dec w at_ h ha h4), join_J]
theorem prt_ne (w at_ : Int) (h : W32 w) (ha : Pl at_) (h4 : at_ % 4 = 0) : Prt (Dec w at_) ≠ [] := by
  rw [prt_dec w at_ h ha h4]
  obtain ⟨t, ht⟩ := parts_head (Dec w at_)
  rw [ht]
  have hn : nameK (Dec w at_).op ≠ [] := by unfold nameK; (repeat' split) <;> decide
  intro e
  cases t with
  | nil => exact hn e
  | cons y r =>
    simp only [J, List.append_eq_nil_iff] at e
    exact hn e.1
theorem prt_inj (w w' at_ : Int) (h : W32 w) (h' : W32 w') (ha : Pl at_) (h4 : at_ % 4 = 0) : Prt (Dec w at_) = Prt (Dec w' at_) ↔ Dec w at_ = Dec w' at_ := by
  constructor
  · intro e
    rw [prt_dec w at_ h ha h4, prt_dec w' at_ h' ha h4] at e
    have e := J_inj (parts_ne _) (parts_ne _) (parts_no _) (parts_no _) e
    have o1 := dec_op w at_ h
    have o2 := dec_op w' at_ h'
    have f1 := dec_flds w at_
    have f2 := dec_flds w' at_
    generalize Dec w at_ = x at e o1 f1 ⊢
    generalize Dec w' at_ = y at e o2 f2 ⊢
    have ho : x.op = y.op := by
      obtain ⟨t, ht⟩ := parts_head x
      obtain ⟨t', ht'⟩ := parts_head y
      rw [ht, ht', List.cons.injEq] at e
      exact name_inj o1 o2 e.1
    obtain ⟨op, a, b, c, n⟩ := x
    obtain ⟨op', a', b', c', n'⟩ := y
    dsimp only at ho
    subst ho
    dsimp only at o1 f1 f2
    obtain ⟨f10, f12, f13, f15, f17⟩ := f1
    obtain ⟨f20, f22, f23, f25, f27⟩ := f2
    rw [I5.mk.injEq]
    unfold parts at e
    dsimp only at e
    by_cases k1 : op = 1 ∨ op = 3 ∨ op = 4
    · simp only [if_pos k1, List.cons.injEq, true_and, and_true] at e
      have e1 := itoa_inj e.1
      have e2 := itoa_inj e.2.1
      have e3 := itoa_inj e.2.2
      have := f13 k1
      have := f23 k1
      omega
    · by_cases k2 : op = 2 ∨ op = 7 ∨ op = 8
      · simp only [if_neg k1, if_pos k2, List.cons.injEq, true_and, and_true] at e
        have e1 := itoa_inj e.1
        have e2 := itoa_inj e.2
        omega
      · simp only [if_neg k1, if_neg k2, List.cons.injEq, true_and, and_true] at e
        have e1 := itoa_inj e
        omega
  · intro e; rw [e]
theorem texts_law (x0 x1 x2 x3 y0 y1 y2 y3 n : Int) (hn : 0 ≤ n ∧ n ≤ 65535) : Fun Tryd.prog Γp 9 [.agg [.int .u8 x0, .int .u8 x1, .int .u8 x2, .int .u8 x3], .agg [.int .u8 y0, .int .u8 y1, .int .u8 y2, .int .u8 y3], .int .u16 n] (.bool true) := by
  have p0 := (place_spec n hn).weak (Γ := Γp)
  have hP := pl_place n hn.1
  have h4 : (4 * (n % 16385)) % 4 = 0 := by omega
  have m0 := (made_spec x0 x1 x2 x3).weak (Γ := Γp)
  have m1 := (made_spec y0 y1 y2 y3).weak (Γ := Γp)
  have hm := W32M x0 x1 x2 x3
  have hm1 := W32M y0 y1 y2 y3
  generalize MadW x0 x1 x2 x3 = m at m0 hm
  generalize MadW y0 y1 y2 y3 = m' at m1 hm1
  generalize 4 * (n % 16385) = at_ at p0 hP h4
  have d0 := (decode_spec m at_ hm hP).weak (Γ := Γp)
  have d1 := (decode_spec m' at_ hm1 hP).weak (Γ := Γp)
  have hne := prt_ne m at_ hm hP h4
  have hinj := prt_inj m m' at_ hm hm1 hP h4
  have q0 := print_spec (Dec m at_)
  have q1 := print_spec (Dec m' at_)
  generalize Dec m at_ = A at d0 hne hinj q0
  generalize Dec m' at_ = B at d1 hinj q1
  generalize Prt A = PA at hne hinj q0
  generalize Prt B = PB at hinj q1
  refine Fun.mk 7 Tryd.func9 rfl Tryd.ntmps9 rfl rfl fun T w => ?_
  repeat' (first
      | ((with_reducible apply Sat.run (X := X64)); exact rfl; (first | exact True.intro | ((try dsimp only [V.EV.sub, V.EV.len]) <;> (repeat' (first | exact AllP.nil | with_reducible refine AllP.cons ?_ ?_ | with_reducible apply And.intro)) <;> (first | assumption | exact True.intro | exact rfl | (show eqOk _ _ = true; kernel_rfl) | omega | decide | (simp only [V.EV.sub, V.EV.len, List.length_cons, List.length_nil, List.length_append, List.length_drop, List.length_take]; omega) | (simp only [IntKind.bits]; omega) | (show IntKind.min _ ≤ _ ∧ _ ≤ IntKind.max _; decide) | (apply inR_i64 <;> omega) | (apply inR_i64 <;> (try simp only [Int.reduceToNat, Int.reducePow, Int.reduceSub, Int.reduceMul, Int.reduceAdd, Nat.reducePow, Nat.reduceAdd, Nat.reduceSub]) <;> omega) | (apply inR_u64 <;> omega) | (apply inR_u32 <;> omega) | (apply inR_u8' <;> omega) | (intro _; first | contradiction | (show eqOk _ _ = true; kernel_rfl) | assumption | exact rfl | omega | (show IntKind.min _ ≤ _ ∧ _ ≤ IntKind.max _; decide) | (apply inR_i64 <;> omega) | (apply inR_i64 <;> (try simp only [Int.reduceToNat, Int.reducePow, Int.reduceSub, Int.reduceMul, Int.reduceAdd, Nat.reducePow, Nat.reduceAdd, Nat.reduceSub]) <;> omega) | (apply inR_u64 <;> omega) | (apply inR_u32 <;> omega) | (apply inR_u8' <;> omega) | (apply And.intro <;> first | omega | (simp only [IntKind.bits]; omega))) | (simp; done) | (simp_all; done) | (simp_all; omega))) | skip))
      | ((with_reducible apply Sat.drawn); kernel_rfl)
      | ((with_reducible apply DSat.run (X := X64)); exact rfl; (first | exact True.intro | ((try dsimp only [V.EV.sub, V.EV.len]) <;> (repeat' (first | exact AllP.nil | with_reducible refine AllP.cons ?_ ?_ | with_reducible apply And.intro)) <;> (first | assumption | exact True.intro | exact rfl | (show eqOk _ _ = true; kernel_rfl) | omega | decide | (simp only [V.EV.sub, V.EV.len, List.length_cons, List.length_nil, List.length_append, List.length_drop, List.length_take]; omega) | (simp only [IntKind.bits]; omega) | (show IntKind.min _ ≤ _ ∧ _ ≤ IntKind.max _; decide) | (apply inR_i64 <;> omega) | (apply inR_i64 <;> (try simp only [Int.reduceToNat, Int.reducePow, Int.reduceSub, Int.reduceMul, Int.reduceAdd, Nat.reducePow, Nat.reduceAdd, Nat.reduceSub]) <;> omega) | (apply inR_u64 <;> omega) | (apply inR_u32 <;> omega) | (apply inR_u8' <;> omega) | (intro _; first | contradiction | (show eqOk _ _ = true; kernel_rfl) | assumption | exact rfl | omega | (show IntKind.min _ ≤ _ ∧ _ ≤ IntKind.max _; decide) | (apply inR_i64 <;> omega) | (apply inR_i64 <;> (try simp only [Int.reduceToNat, Int.reducePow, Int.reduceSub, Int.reduceMul, Int.reduceAdd, Nat.reducePow, Nat.reduceAdd, Nat.reduceSub]) <;> omega) | (apply inR_u64 <;> omega) | (apply inR_u32 <;> omega) | (apply inR_u8' <;> omega) | (apply And.intro <;> first | omega | (simp only [IntKind.bits]; omega))) | (simp; done) | (simp_all; done) | (simp_all; omega))) | skip))
      | ((with_reducible apply DSat.fin); kernel_rfl)
      | ((with_reducible apply Sat.cond_t); exact rfl)
      | ((with_reducible apply Sat.cond_f); exact rfl)
      | ((with_reducible apply Sat.cond_pt); exact rfl; (try dsimp only [V.EV.sub, V.EV.len]); first | assumption | omega)
      | ((with_reducible apply Sat.cond_pf); exact rfl; (try dsimp only [V.EV.sub, V.EV.len]); first | assumption | omega)
      | ((with_reducible apply Sat.cond_p); exact rfl; all_goals (intro h; (try simp only [V.EV.sub, V.EV.len] at h)))
      | ((with_reducible apply Sat.cond); exact rfl; all_goals (intro h; (try simp only [V.EV.sub, V.EV.len, Bool.cond_true_left, Bool.cond_false_right, Bool.or_eq_true, Bool.and_eq_true, Bool.or_eq_false_iff, Bool.and_eq_false_iff, Bool.not_eq_true', Bool.not_eq_false', decide_eq_true_eq, decide_eq_false_iff_not, ne_eq] at h)))
      | ((with_reducible apply Sat.callR (sanity_spec)); exact rfl; exact rfl; kernel_rfl; ((repeat' (first | exact Convs.nil | apply Convs.cons | exact Conv.refl _ (by (repeat' (first | exact True.intro | apply And.intro))) | (refine Conv.may _ _ _ ?_ ?_; first | exact rfl | assumption | (decide +kernel) | (simp_all; done) | omega) | exact Conv.nils _ rfl | (refine Conv.all _ _ _ _ _ rfl rfl ?_ ?_ <;> first | rfl | exact True.intro | omega) | (refine Conv.gx _ _ _ _ _ (Conv.all _ _ _ _ _ rfl rfl ?_ ?_) ?_; exact rfl; (refine fun i hi => ?_; rcases i with _ | _ | _ | _ | _ | _ | i <;> first | exact ⟨trivial, trivial⟩ | exact trivial | (exfalso; simp only [List.length_cons, List.length_nil] at hi; omega)); (intro i hi; rcases i with _ | _ | _ | _ | _ | _ | i <;> first | rfl | (exfalso; simp only [List.length_cons, List.length_nil] at hi; omega))) | apply Conv.agg | apply Conv.tup))); exact rfl)
      | ((with_reducible apply DSat.callR (sanity_spec)); exact rfl; exact rfl; kernel_rfl; ((repeat' (first | exact Convs.nil | apply Convs.cons | exact Conv.refl _ (by (repeat' (first | exact True.intro | apply And.intro))) | (refine Conv.may _ _ _ ?_ ?_; first | exact rfl | assumption | (decide +kernel) | (simp_all; done) | omega) | exact Conv.nils _ rfl | (refine Conv.all _ _ _ _ _ rfl rfl ?_ ?_ <;> first | rfl | exact True.intro | omega) | (refine Conv.gx _ _ _ _ _ (Conv.all _ _ _ _ _ rfl rfl ?_ ?_) ?_; exact rfl; (refine fun i hi => ?_; rcases i with _ | _ | _ | _ | _ | _ | i <;> first | exact ⟨trivial, trivial⟩ | exact trivial | (exfalso; simp only [List.length_cons, List.length_nil] at hi; omega)); (intro i hi; rcases i with _ | _ | _ | _ | _ | _ | i <;> first | rfl | (exfalso; simp only [List.length_cons, List.length_nil] at hi; omega))) | apply Conv.agg | apply Conv.tup))); exact rfl)
      | ((with_reducible apply Sat.callR (p0)); exact rfl; exact rfl; kernel_rfl; ((repeat' (first | exact Convs.nil | apply Convs.cons | exact Conv.refl _ (by (repeat' (first | exact True.intro | apply And.intro))) | (refine Conv.may _ _ _ ?_ ?_; first | exact rfl | assumption | (decide +kernel) | (simp_all; done) | omega) | exact Conv.nils _ rfl | (refine Conv.all _ _ _ _ _ rfl rfl ?_ ?_ <;> first | rfl | exact True.intro | omega) | (refine Conv.gx _ _ _ _ _ (Conv.all _ _ _ _ _ rfl rfl ?_ ?_) ?_; exact rfl; (refine fun i hi => ?_; rcases i with _ | _ | _ | _ | _ | _ | i <;> first | exact ⟨trivial, trivial⟩ | exact trivial | (exfalso; simp only [List.length_cons, List.length_nil] at hi; omega)); (intro i hi; rcases i with _ | _ | _ | _ | _ | _ | i <;> first | rfl | (exfalso; simp only [List.length_cons, List.length_nil] at hi; omega))) | apply Conv.agg | apply Conv.tup))); exact rfl)
      | ((with_reducible apply DSat.callR (p0)); exact rfl; exact rfl; kernel_rfl; ((repeat' (first | exact Convs.nil | apply Convs.cons | exact Conv.refl _ (by (repeat' (first | exact True.intro | apply And.intro))) | (refine Conv.may _ _ _ ?_ ?_; first | exact rfl | assumption | (decide +kernel) | (simp_all; done) | omega) | exact Conv.nils _ rfl | (refine Conv.all _ _ _ _ _ rfl rfl ?_ ?_ <;> first | rfl | exact True.intro | omega) | (refine Conv.gx _ _ _ _ _ (Conv.all _ _ _ _ _ rfl rfl ?_ ?_) ?_; exact rfl; (refine fun i hi => ?_; rcases i with _ | _ | _ | _ | _ | _ | i <;> first | exact ⟨trivial, trivial⟩ | exact trivial | (exfalso; simp only [List.length_cons, List.length_nil] at hi; omega)); (intro i hi; rcases i with _ | _ | _ | _ | _ | _ | i <;> first | rfl | (exfalso; simp only [List.length_cons, List.length_nil] at hi; omega))) | apply Conv.agg | apply Conv.tup))); exact rfl)
      | ((with_reducible apply Sat.callR (m0)); exact rfl; exact rfl; kernel_rfl; ((repeat' (first | exact Convs.nil | apply Convs.cons | exact Conv.refl _ (by (repeat' (first | exact True.intro | apply And.intro))) | (refine Conv.may _ _ _ ?_ ?_; first | exact rfl | assumption | (decide +kernel) | (simp_all; done) | omega) | exact Conv.nils _ rfl | (refine Conv.all _ _ _ _ _ rfl rfl ?_ ?_ <;> first | rfl | exact True.intro | omega) | (refine Conv.gx _ _ _ _ _ (Conv.all _ _ _ _ _ rfl rfl ?_ ?_) ?_; exact rfl; (refine fun i hi => ?_; rcases i with _ | _ | _ | _ | _ | _ | i <;> first | exact ⟨trivial, trivial⟩ | exact trivial | (exfalso; simp only [List.length_cons, List.length_nil] at hi; omega)); (intro i hi; rcases i with _ | _ | _ | _ | _ | _ | i <;> first | rfl | (exfalso; simp only [List.length_cons, List.length_nil] at hi; omega))) | apply Conv.agg | apply Conv.tup))); exact rfl)
      | ((with_reducible apply DSat.callR (m0)); exact rfl; exact rfl; kernel_rfl; ((repeat' (first | exact Convs.nil | apply Convs.cons | exact Conv.refl _ (by (repeat' (first | exact True.intro | apply And.intro))) | (refine Conv.may _ _ _ ?_ ?_; first | exact rfl | assumption | (decide +kernel) | (simp_all; done) | omega) | exact Conv.nils _ rfl | (refine Conv.all _ _ _ _ _ rfl rfl ?_ ?_ <;> first | rfl | exact True.intro | omega) | (refine Conv.gx _ _ _ _ _ (Conv.all _ _ _ _ _ rfl rfl ?_ ?_) ?_; exact rfl; (refine fun i hi => ?_; rcases i with _ | _ | _ | _ | _ | _ | i <;> first | exact ⟨trivial, trivial⟩ | exact trivial | (exfalso; simp only [List.length_cons, List.length_nil] at hi; omega)); (intro i hi; rcases i with _ | _ | _ | _ | _ | _ | i <;> first | rfl | (exfalso; simp only [List.length_cons, List.length_nil] at hi; omega))) | apply Conv.agg | apply Conv.tup))); exact rfl)
      | ((with_reducible apply Sat.callR (m1)); exact rfl; exact rfl; kernel_rfl; ((repeat' (first | exact Convs.nil | apply Convs.cons | exact Conv.refl _ (by (repeat' (first | exact True.intro | apply And.intro))) | (refine Conv.may _ _ _ ?_ ?_; first | exact rfl | assumption | (decide +kernel) | (simp_all; done) | omega) | exact Conv.nils _ rfl | (refine Conv.all _ _ _ _ _ rfl rfl ?_ ?_ <;> first | rfl | exact True.intro | omega) | (refine Conv.gx _ _ _ _ _ (Conv.all _ _ _ _ _ rfl rfl ?_ ?_) ?_; exact rfl; (refine fun i hi => ?_; rcases i with _ | _ | _ | _ | _ | _ | i <;> first | exact ⟨trivial, trivial⟩ | exact trivial | (exfalso; simp only [List.length_cons, List.length_nil] at hi; omega)); (intro i hi; rcases i with _ | _ | _ | _ | _ | _ | i <;> first | rfl | (exfalso; simp only [List.length_cons, List.length_nil] at hi; omega))) | apply Conv.agg | apply Conv.tup))); exact rfl)
      | ((with_reducible apply DSat.callR (m1)); exact rfl; exact rfl; kernel_rfl; ((repeat' (first | exact Convs.nil | apply Convs.cons | exact Conv.refl _ (by (repeat' (first | exact True.intro | apply And.intro))) | (refine Conv.may _ _ _ ?_ ?_; first | exact rfl | assumption | (decide +kernel) | (simp_all; done) | omega) | exact Conv.nils _ rfl | (refine Conv.all _ _ _ _ _ rfl rfl ?_ ?_ <;> first | rfl | exact True.intro | omega) | (refine Conv.gx _ _ _ _ _ (Conv.all _ _ _ _ _ rfl rfl ?_ ?_) ?_; exact rfl; (refine fun i hi => ?_; rcases i with _ | _ | _ | _ | _ | _ | i <;> first | exact ⟨trivial, trivial⟩ | exact trivial | (exfalso; simp only [List.length_cons, List.length_nil] at hi; omega)); (intro i hi; rcases i with _ | _ | _ | _ | _ | _ | i <;> first | rfl | (exfalso; simp only [List.length_cons, List.length_nil] at hi; omega))) | apply Conv.agg | apply Conv.tup))); exact rfl)
      | ((with_reducible apply Sat.callR (d0)); exact rfl; exact rfl; kernel_rfl; ((repeat' (first | exact Convs.nil | apply Convs.cons | exact Conv.refl _ (by (repeat' (first | exact True.intro | apply And.intro))) | (refine Conv.may _ _ _ ?_ ?_; first | exact rfl | assumption | (decide +kernel) | (simp_all; done) | omega) | exact Conv.nils _ rfl | (refine Conv.all _ _ _ _ _ rfl rfl ?_ ?_ <;> first | rfl | exact True.intro | omega) | (refine Conv.gx _ _ _ _ _ (Conv.all _ _ _ _ _ rfl rfl ?_ ?_) ?_; exact rfl; (refine fun i hi => ?_; rcases i with _ | _ | _ | _ | _ | _ | i <;> first | exact ⟨trivial, trivial⟩ | exact trivial | (exfalso; simp only [List.length_cons, List.length_nil] at hi; omega)); (intro i hi; rcases i with _ | _ | _ | _ | _ | _ | i <;> first | rfl | (exfalso; simp only [List.length_cons, List.length_nil] at hi; omega))) | apply Conv.agg | apply Conv.tup))); exact rfl)
      | ((with_reducible apply DSat.callR (d0)); exact rfl; exact rfl; kernel_rfl; ((repeat' (first | exact Convs.nil | apply Convs.cons | exact Conv.refl _ (by (repeat' (first | exact True.intro | apply And.intro))) | (refine Conv.may _ _ _ ?_ ?_; first | exact rfl | assumption | (decide +kernel) | (simp_all; done) | omega) | exact Conv.nils _ rfl | (refine Conv.all _ _ _ _ _ rfl rfl ?_ ?_ <;> first | rfl | exact True.intro | omega) | (refine Conv.gx _ _ _ _ _ (Conv.all _ _ _ _ _ rfl rfl ?_ ?_) ?_; exact rfl; (refine fun i hi => ?_; rcases i with _ | _ | _ | _ | _ | _ | i <;> first | exact ⟨trivial, trivial⟩ | exact trivial | (exfalso; simp only [List.length_cons, List.length_nil] at hi; omega)); (intro i hi; rcases i with _ | _ | _ | _ | _ | _ | i <;> first | rfl | (exfalso; simp only [List.length_cons, List.length_nil] at hi; omega))) | apply Conv.agg | apply Conv.tup))); exact rfl)
      | ((with_reducible apply Sat.callR (d1)); exact rfl; exact rfl; kernel_rfl; ((repeat' (first | exact Convs.nil | apply Convs.cons | exact Conv.refl _ (by (repeat' (first | exact True.intro | apply And.intro))) | (refine Conv.may _ _ _ ?_ ?_; first | exact rfl | assumption | (decide +kernel) | (simp_all; done) | omega) | exact Conv.nils _ rfl | (refine Conv.all _ _ _ _ _ rfl rfl ?_ ?_ <;> first | rfl | exact True.intro | omega) | (refine Conv.gx _ _ _ _ _ (Conv.all _ _ _ _ _ rfl rfl ?_ ?_) ?_; exact rfl; (refine fun i hi => ?_; rcases i with _ | _ | _ | _ | _ | _ | i <;> first | exact ⟨trivial, trivial⟩ | exact trivial | (exfalso; simp only [List.length_cons, List.length_nil] at hi; omega)); (intro i hi; rcases i with _ | _ | _ | _ | _ | _ | i <;> first | rfl | (exfalso; simp only [List.length_cons, List.length_nil] at hi; omega))) | apply Conv.agg | apply Conv.tup))); exact rfl)
      | ((with_reducible apply DSat.callR (d1)); exact rfl; exact rfl; kernel_rfl; ((repeat' (first | exact Convs.nil | apply Convs.cons | exact Conv.refl _ (by (repeat' (first | exact True.intro | apply And.intro))) | (refine Conv.may _ _ _ ?_ ?_; first | exact rfl | assumption | (decide +kernel) | (simp_all; done) | omega) | exact Conv.nils _ rfl | (refine Conv.all _ _ _ _ _ rfl rfl ?_ ?_ <;> first | rfl | exact True.intro | omega) | (refine Conv.gx _ _ _ _ _ (Conv.all _ _ _ _ _ rfl rfl ?_ ?_) ?_; exact rfl; (refine fun i hi => ?_; rcases i with _ | _ | _ | _ | _ | _ | i <;> first | exact ⟨trivial, trivial⟩ | exact trivial | (exfalso; simp only [List.length_cons, List.length_nil] at hi; omega)); (intro i hi; rcases i with _ | _ | _ | _ | _ | _ | i <;> first | rfl | (exfalso; simp only [List.length_cons, List.length_nil] at hi; omega))) | apply Conv.agg | apply Conv.tup))); exact rfl)
      | ((with_reducible apply Sat.callR (q0)); exact rfl; exact rfl; kernel_rfl; ((repeat' (first | exact Convs.nil | apply Convs.cons | exact Conv.refl _ (by (repeat' (first | exact True.intro | apply And.intro))) | (refine Conv.may _ _ _ ?_ ?_; first | exact rfl | assumption | (decide +kernel) | (simp_all; done) | omega) | exact Conv.nils _ rfl | (refine Conv.all _ _ _ _ _ rfl rfl ?_ ?_ <;> first | rfl | exact True.intro | omega) | (refine Conv.gx _ _ _ _ _ (Conv.all _ _ _ _ _ rfl rfl ?_ ?_) ?_; exact rfl; (refine fun i hi => ?_; rcases i with _ | _ | _ | _ | _ | _ | i <;> first | exact ⟨trivial, trivial⟩ | exact trivial | (exfalso; simp only [List.length_cons, List.length_nil] at hi; omega)); (intro i hi; rcases i with _ | _ | _ | _ | _ | _ | i <;> first | rfl | (exfalso; simp only [List.length_cons, List.length_nil] at hi; omega))) | apply Conv.agg | apply Conv.tup))); exact rfl)
      | ((with_reducible apply DSat.callR (q0)); exact rfl; exact rfl; kernel_rfl; ((repeat' (first | exact Convs.nil | apply Convs.cons | exact Conv.refl _ (by (repeat' (first | exact True.intro | apply And.intro))) | (refine Conv.may _ _ _ ?_ ?_; first | exact rfl | assumption | (decide +kernel) | (simp_all; done) | omega) | exact Conv.nils _ rfl | (refine Conv.all _ _ _ _ _ rfl rfl ?_ ?_ <;> first | rfl | exact True.intro | omega) | (refine Conv.gx _ _ _ _ _ (Conv.all _ _ _ _ _ rfl rfl ?_ ?_) ?_; exact rfl; (refine fun i hi => ?_; rcases i with _ | _ | _ | _ | _ | _ | i <;> first | exact ⟨trivial, trivial⟩ | exact trivial | (exfalso; simp only [List.length_cons, List.length_nil] at hi; omega)); (intro i hi; rcases i with _ | _ | _ | _ | _ | _ | i <;> first | rfl | (exfalso; simp only [List.length_cons, List.length_nil] at hi; omega))) | apply Conv.agg | apply Conv.tup))); exact rfl)
      | ((with_reducible apply Sat.callR (q1)); exact rfl; exact rfl; kernel_rfl; ((repeat' (first | exact Convs.nil | apply Convs.cons | exact Conv.refl _ (by (repeat' (first | exact True.intro | apply And.intro))) | (refine Conv.may _ _ _ ?_ ?_; first | exact rfl | assumption | (decide +kernel) | (simp_all; done) | omega) | exact Conv.nils _ rfl | (refine Conv.all _ _ _ _ _ rfl rfl ?_ ?_ <;> first | rfl | exact True.intro | omega) | (refine Conv.gx _ _ _ _ _ (Conv.all _ _ _ _ _ rfl rfl ?_ ?_) ?_; exact rfl; (refine fun i hi => ?_; rcases i with _ | _ | _ | _ | _ | _ | i <;> first | exact ⟨trivial, trivial⟩ | exact trivial | (exfalso; simp only [List.length_cons, List.length_nil] at hi; omega)); (intro i hi; rcases i with _ | _ | _ | _ | _ | _ | i <;> first | rfl | (exfalso; simp only [List.length_cons, List.length_nil] at hi; omega))) | apply Conv.agg | apply Conv.tup))); exact rfl)
      | ((with_reducible apply DSat.callR (q1)); exact rfl; exact rfl; kernel_rfl; ((repeat' (first | exact Convs.nil | apply Convs.cons | exact Conv.refl _ (by (repeat' (first | exact True.intro | apply And.intro))) | (refine Conv.may _ _ _ ?_ ?_; first | exact rfl | assumption | (decide +kernel) | (simp_all; done) | omega) | exact Conv.nils _ rfl | (refine Conv.all _ _ _ _ _ rfl rfl ?_ ?_ <;> first | rfl | exact True.intro | omega) | (refine Conv.gx _ _ _ _ _ (Conv.all _ _ _ _ _ rfl rfl ?_ ?_) ?_; exact rfl; (refine fun i hi => ?_; rcases i with _ | _ | _ | _ | _ | _ | i <;> first | exact ⟨trivial, trivial⟩ | exact trivial | (exfalso; simp only [List.length_cons, List.length_nil] at hi; omega)); (intro i hi; rcases i with _ | _ | _ | _ | _ | _ | i <;> first | rfl | (exfalso; simp only [List.length_cons, List.length_nil] at hi; omega))) | apply Conv.agg | apply Conv.tup))); exact rfl)
      | ((with_reducible apply Sat.callG1 (q0)); exact rfl; exact rfl; exact rfl; kernel_rfl; (intro hG; ((repeat' (first | exact Convs.nil | apply Convs.cons | exact Conv.refl _ (by (repeat' (first | exact True.intro | apply And.intro))) | (refine Conv.may _ _ _ ?_ ?_; first | exact rfl | assumption | (decide +kernel) | (simp_all; done) | omega) | exact Conv.nils _ rfl | (refine Conv.all _ _ _ _ _ rfl rfl ?_ ?_ <;> first | rfl | exact True.intro | omega) | (refine Conv.gx _ _ _ _ _ (Conv.all _ _ _ _ _ rfl rfl ?_ ?_) ?_; exact rfl; (refine fun i hi => ?_; rcases i with _ | _ | _ | _ | _ | _ | i <;> first | exact ⟨trivial, trivial⟩ | exact trivial | (exfalso; simp only [List.length_cons, List.length_nil] at hi; omega)); (intro i hi; rcases i with _ | _ | _ | _ | _ | _ | i <;> first | rfl | (exfalso; simp only [List.length_cons, List.length_nil] at hi; omega))) | apply Conv.agg | apply Conv.tup)))); exact rfl)
      | ((with_reducible apply DSat.callG1 (q0)); exact rfl; exact rfl; exact rfl; kernel_rfl; (intro hG; ((repeat' (first | exact Convs.nil | apply Convs.cons | exact Conv.refl _ (by (repeat' (first | exact True.intro | apply And.intro))) | (refine Conv.may _ _ _ ?_ ?_; first | exact rfl | assumption | (decide +kernel) | (simp_all; done) | omega) | exact Conv.nils _ rfl | (refine Conv.all _ _ _ _ _ rfl rfl ?_ ?_ <;> first | rfl | exact True.intro | omega) | (refine Conv.gx _ _ _ _ _ (Conv.all _ _ _ _ _ rfl rfl ?_ ?_) ?_; exact rfl; (refine fun i hi => ?_; rcases i with _ | _ | _ | _ | _ | _ | i <;> first | exact ⟨trivial, trivial⟩ | exact trivial | (exfalso; simp only [List.length_cons, List.length_nil] at hi; omega)); (intro i hi; rcases i with _ | _ | _ | _ | _ | _ | i <;> first | rfl | (exfalso; simp only [List.length_cons, List.length_nil] at hi; omega))) | apply Conv.agg | apply Conv.tup)))); exact rfl)
      | ((with_reducible apply Sat.callG1 (q1)); exact rfl; exact rfl; exact rfl; kernel_rfl; (intro hG; ((repeat' (first | exact Convs.nil | apply Convs.cons | exact Conv.refl _ (by (repeat' (first | exact True.intro | apply And.intro))) | (refine Conv.may _ _ _ ?_ ?_; first | exact rfl | assumption | (decide +kernel) | (simp_all; done) | omega) | exact Conv.nils _ rfl | (refine Conv.all _ _ _ _ _ rfl rfl ?_ ?_ <;> first | rfl | exact True.intro | omega) | (refine Conv.gx _ _ _ _ _ (Conv.all _ _ _ _ _ rfl rfl ?_ ?_) ?_; exact rfl; (refine fun i hi => ?_; rcases i with _ | _ | _ | _ | _ | _ | i <;> first | exact ⟨trivial, trivial⟩ | exact trivial | (exfalso; simp only [List.length_cons, List.length_nil] at hi; omega)); (intro i hi; rcases i with _ | _ | _ | _ | _ | _ | i <;> first | rfl | (exfalso; simp only [List.length_cons, List.length_nil] at hi; omega))) | apply Conv.agg | apply Conv.tup)))); exact rfl)
      | ((with_reducible apply DSat.callG1 (q1)); exact rfl; exact rfl; exact rfl; kernel_rfl; (intro hG; ((repeat' (first | exact Convs.nil | apply Convs.cons | exact Conv.refl _ (by (repeat' (first | exact True.intro | apply And.intro))) | (refine Conv.may _ _ _ ?_ ?_; first | exact rfl | assumption | (decide +kernel) | (simp_all; done) | omega) | exact Conv.nils _ rfl | (refine Conv.all _ _ _ _ _ rfl rfl ?_ ?_ <;> first | rfl | exact True.intro | omega) | (refine Conv.gx _ _ _ _ _ (Conv.all _ _ _ _ _ rfl rfl ?_ ?_) ?_; exact rfl; (refine fun i hi => ?_; rcases i with _ | _ | _ | _ | _ | _ | i <;> first | exact ⟨trivial, trivial⟩ | exact trivial | (exfalso; simp only [List.length_cons, List.length_nil] at hi; omega)); (intro i hi; rcases i with _ | _ | _ | _ | _ | _ | i <;> first | rfl | (exfalso; simp only [List.length_cons, List.length_nil] at hi; omega))) | apply Conv.agg | apply Conv.tup)))); exact rfl))
  all_goals (refine Sat.fin (Sat.end1 rfl rfl True.intro (.refl _ (by (repeat' (first | exact True.intro | apply And.intro)))) (by first | exact .inl rfl | exact .inr rfl) (fun _ h => h)) ?_; (refine congrArg SV.bool ?_; simp [hne, hinj, i5_iff]))
end Go.Proofs.YtgpggoejkkhceaaDoor
