/-
  A walk by abstract values: indexes, arithmetic, texts, structs, slices, and what is built.
-/
import Derived.Test.YtgpggoejkkhceaaDoorVc
import Derived.Laws.StructEq
import Derived.ChangeKeysEq
import Derived.Laws.Build
namespace Go.Proofs.YtgpggoejkkhceaaDoor.V
open Go.RowKit

theorem beqd {α : Type} [BEq α] [LawfulBEq α] [DecidableEq α] (a b : α) : (a == b) = decide (a = b) := by
  by_cases h : a = b <;> simp [h]
theorem inR_wrap (k : IntKind) (n : Int) : inR k (k.wrap n) := by
  unfold inR IntKind.wrap IntKind.min IntKind.max
  cases k <;> simp [IntKind.bits, IntKind.signed] <;> omega
theorem wrap_inR {k : IntKind} {n : Int} (h : inR k n) : k.wrap n = n := by
  unfold inR IntKind.min IntKind.max at h
  unfold IntKind.wrap
  cases k <;> simp [IntKind.bits, IntKind.signed] at h ⊢ <;> omega
theorem inR_wider {k k' : IntKind} {n : Int} (hw : wider k k' = true) (h : inR k n) : inR k' n := by
  unfold inR IntKind.min IntKind.max at h ⊢
  cases k <;> cases k' <;> simp [wider] at hw <;> simp [IntKind.bits, IntKind.signed] at h ⊢ <;> omega
theorem inR_u8 (b : UInt8) : inR .u8 (b.toNat : Int) := by
  have := b.toNat_lt
  simp [inR, IntKind.min, IntKind.max, IntKind.bits, IntKind.signed]
  omega
theorem inR_nat {n : Nat} (h : okLen n) : inR .i64 (n : Int) := by
  unfold okLen at h
  simp [inR, IntKind.min, IntKind.max, IntKind.bits, IntKind.signed]
  omega
theorem emod_le' {a b : Int} (ha : 0 ≤ a) (hb : 0 < b) : a % b ≤ a := by
  have h1 := Int.mul_ediv_add_emod a b
  have h2 := Int.mul_nonneg (Int.le_of_lt hb) (Int.ediv_nonneg ha (Int.le_of_lt hb))
  omega
theorem inR_tmod {k : IntKind} {a : Int} (b : Int) (h : inR k a) : inR k (a.tmod b) := by
  have h1 : a.tmod b ≤ max a 0 := by
    rcases Int.le_total 0 a with h0 | h0
    · have := Int.tmod_eq_emod_of_nonneg (b := b) h0
      rw [this]
      have h2 : a % b ≤ a := by
        rcases Int.lt_trichotomy b 0 with hb | hb | hb
        · rw [← Int.emod_neg]; exact emod_le' h0 (by omega)
        · subst hb; simp
        · exact emod_le' h0 hb
      omega
    · have : (-a).tmod b = - a.tmod b := Int.neg_tmod ..
      have h2 : 0 ≤ (-a).tmod b := Int.tmod_nonneg _ (by omega)
      omega
  have h2 : min a 0 ≤ a.tmod b := by
    rcases Int.le_total 0 a with h0 | h0
    · have := Int.tmod_nonneg b h0
      omega
    · have e : (-a).tmod b = - a.tmod b := Int.neg_tmod ..
      have := Int.tmod_eq_emod_of_nonneg (a := -a) (b := b) (by omega)
      have h2 : (-a) % b ≤ -a := by
        rcases Int.lt_trichotomy b 0 with hb | hb | hb
        · rw [← Int.emod_neg]; exact emod_le' (by omega) (by omega)
        · subst hb; simp
        · exact emod_le' (by omega) hb
      omega
  unfold inR IntKind.min IntKind.max at h ⊢
  cases k <;> simp [IntKind.bits, IntKind.signed] at h ⊢ <;> omega

section
variable {P : Program} {Γ : Glob} {F : Tr} {M : Mem} {E : Env} {a : Act} {w : World} {T : Nat → Prop}

/-! ### Arithmetic -/
theorem run_eqGuard_int (op : BinOp) (t : TypeId) (x y : Operand) (k k' : IntKind) (m n : Int) (w : World) : (eqGuard op t x y (.int k m) (.int k' n)).run P w = .ok () w := by
  unfold eqGuard; split <;> rfl
theorem run_eqGuard_bool (op : BinOp) (t : TypeId) (x y : Operand) (m n : Bool) (w : World) : (eqGuard op t x y (.bool m) (.bool n)).run P w = .ok () w := by
  unfold eqGuard; split <;> rfl
theorem run_eqGuard_str (op : BinOp) (t : TypeId) (x y : Operand) (m n : ByteArray) (w : World) : (eqGuard op t x y (.string m) (.string n)).run P w = .ok () w := by
  unfold eqGuard; split <;> rfl

theorem intV_run {X : IntKind → Bool} {op : BinOp} {k : IntKind} {m n : Int} {t : TypeId} {r : SV} {φ : List Prop} (hs : isShift op = false) (h : intV X op k m n = some (φ, r)) (hφ : All φ) (hm : inR k m) :
    ∃ u, Rep E T w r u ∧ ∀ w', (binOp op t (.int k m) (.int k n)).run P w' = .ok u w' := by
  unfold intV at h
  split at h
  · split at h <;> simp at h <;> obtain ⟨rfl, rfl⟩ := h
    · have hr := hφ.one
      exact ⟨_, .int _ _ hr, fun w' => by simp [binOp, Op.intArith, wrap_inR hr]⟩
    · exact ⟨_, .int _ _ (inR_wrap _ _), fun w' => by simp [binOp, Op.intArith]⟩
  · split at h <;> simp at h <;> obtain ⟨rfl, rfl⟩ := h
    · have hr := hφ.one
      exact ⟨_, .int _ _ hr, fun w' => by simp [binOp, Op.intArith, wrap_inR hr]⟩
    · exact ⟨_, .int _ _ (inR_wrap _ _), fun w' => by simp [binOp, Op.intArith]⟩
  · split at h <;> simp at h <;> obtain ⟨rfl, rfl⟩ := h
    · have hr := hφ.one
      exact ⟨_, .int _ _ hr, fun w' => by simp [binOp, Op.intArith, wrap_inR hr]⟩
    · exact ⟨_, .int _ _ (inR_wrap _ _), fun w' => by simp [binOp, Op.intArith]⟩
  · split at h <;> simp at h <;> obtain ⟨rfl, rfl⟩ := h
    · obtain ⟨h0, h1⟩ := hφ.one
      have hr : inR k (m / n) := by
        have h2 := Int.ediv_nonneg h0 (Int.le_of_lt h1)
        have h3 := Int.ediv_le_self n h0
        unfold inR at hm ⊢
        have hmin : k.min ≤ 0 := by cases k <;> simp [IntKind.min, IntKind.signed, IntKind.bits]
        omega
      exact ⟨_, .int _ _ hr, fun w' => by simp [binOp, Op.intDiv, show n ≠ 0 by omega, Int.tdiv_eq_ediv_of_nonneg h0, wrap_inR hr]⟩
    · have h1 := hφ.one
      exact ⟨_, .int _ _ (inR_wrap _ _), fun w' => by simp [binOp, Op.intDiv, h1]⟩
  · split at h <;> simp at h <;> obtain ⟨rfl, rfl⟩ := h
    · obtain ⟨h0, h1⟩ := hφ.one
      have hr : inR k (m % n) := by rw [← Int.tmod_eq_emod_of_nonneg h0]; exact inR_tmod n hm
      exact ⟨_, .int _ _ hr, fun w' => by simp [binOp, Op.intDiv, show n ≠ 0 by omega, Int.tmod_eq_emod_of_nonneg h0]⟩
    · have h1 := hφ.one
      exact ⟨_, .int _ _ (inR_tmod n hm), fun w' => by simp [binOp, Op.intDiv, h1]⟩
  · simp at h; obtain ⟨rfl, rfl⟩ := h
    exact ⟨_, .bool _, fun w' => by simp [binOp, Op.intCmp, beqd]⟩
  · simp at h; obtain ⟨rfl, rfl⟩ := h
    exact ⟨_, .bool _, fun w' => by simp [binOp, Op.intCmp, bne, beqd]⟩
  · simp at h; obtain ⟨rfl, rfl⟩ := h
    exact ⟨_, .bool _, fun w' => by simp [binOp, Op.intCmp]⟩
  · simp at h; obtain ⟨rfl, rfl⟩ := h
    exact ⟨_, .bool _, fun w' => by simp [binOp, Op.intCmp]⟩
  · simp at h; obtain ⟨rfl, rfl⟩ := h
    exact ⟨_, .bool _, fun w' => by simp [binOp, Op.intCmp]⟩
  · simp at h; obtain ⟨rfl, rfl⟩ := h
    exact ⟨_, .bool _, fun w' => by simp [binOp, Op.intCmp]⟩
  · cases h
  · cases h
  · split at h
    · rename_i v hb
      simp at h; obtain ⟨rfl, rfl⟩ := h
      unfold bitV at hb
      split at hb <;> simp at hb
      all_goals
        subst hb
        exact ⟨_, .int _ _ (inR_wrap _ _), fun w' => by simp [binOp, Op.intBits]⟩
    · cases h

theorem shiftV_run {X : IntKind → Bool} {op : BinOp} {k k' : IntKind} {m n : Int} {t : TypeId} {r : SV} {φ : List Prop} (h : shiftV X op k m n = some (φ, r)) (hφ : All φ) (hm : inR k m) :
    ∃ u, Rep E T w r u ∧ ∀ w', (binOp op t (.int k m) (.int k' n)).run P w' = .ok u w' := by
  have hpos : ∀ j : Nat, (0 : Int) ≤ 2 ^ j := fun j => Int.le_of_lt (Int.pow_pos (by omega))
  have hdiv : ∀ j : Nat, inR k (m / (2 : Int) ^ j) := fun j => by
    have hp : (0 : Int) < 2 ^ j := Int.pow_pos (by omega)
    have h1 : (2 : Int) ^ j * (m / 2 ^ j) + m % 2 ^ j = m := Int.mul_ediv_add_emod m (2 ^ j)
    have h2 := Int.emod_nonneg m (Int.ne_of_gt hp)
    have h3 := Int.emod_lt_of_pos m hp
    unfold inR at hm ⊢
    have hmin : k.min ≤ 0 := by cases k <;> simp [IntKind.min, IntKind.signed, IntKind.bits]
    have hmax : 0 ≤ k.max := by cases k <;> simp [IntKind.max, IntKind.signed, IntKind.bits]
    rcases Int.le_total 0 m with h0 | h0
    · have := Int.ediv_nonneg h0 (Int.le_of_lt hp)
      have := Int.ediv_le_self (2 ^ j) h0
      omega
    · have h4 : m ≤ m / 2 ^ j := by
        rw [Int.le_ediv_iff_mul_le hp]
        have : m * 2 ^ j ≤ m * 1 := Int.mul_le_mul_of_nonpos_left h0 (by omega)
        omega
      have h5 : m / 2 ^ j ≤ 0 := by
        have := Int.ediv_le_ediv hp h0
        simpa using this
      omega
  unfold shiftV at h
  split at h
  · split at h <;> simp at h <;> obtain ⟨rfl, rfl⟩ := h
    · obtain ⟨h0, h1, hr⟩ := hφ.one
      have : min n.toNat k.bits = n.toNat := by omega
      exact ⟨_, .int _ _ hr, fun w' => by simp [binOp, Op.shift, show ¬ n < 0 by omega, this, wrap_inR hr]⟩
    · have h0 := hφ.one
      exact ⟨_, .int _ _ (inR_wrap _ _), fun w' => by simp [binOp, Op.shift, show ¬ n < 0 by omega]⟩
  · split at h <;> simp at h <;> obtain ⟨rfl, rfl⟩ := h
    · obtain ⟨h0, h1⟩ := hφ.one
      have : min n.toNat k.bits = n.toNat := by omega
      exact ⟨_, .int _ _ (hdiv _), fun w' => by simp [binOp, Op.shift, show ¬ n < 0 by omega, this, Int.fdiv_eq_ediv_of_nonneg _ (hpos _)]⟩
    · have h0 := hφ.one
      have e := Int.fdiv_eq_ediv_of_nonneg m (hpos (min n.toNat k.bits))
      rw [e]
      exact ⟨_, .int _ _ (hdiv _), fun w' => by simp [binOp, Op.shift, show ¬ n < 0 by omega, e]⟩
  · cases h

theorem strV_run {op : BinOp} {m n : List UInt8} {t : TypeId} {r : SV} {φ : List Prop} (h : strV op m n = some (φ, r)) (hφ : All φ) :
    ∃ u, Rep E T w r u ∧ ∀ w', (binOp op t (.string ⟨m.toArray⟩) (.string ⟨n.toArray⟩)).run P w' = .ok u w' := by
  unfold strV at h
  split at h <;> simp at h <;> obtain ⟨rfl, rfl⟩ := h
  · have h0 := hφ.one
    refine ⟨_, .str _ (by simpa using h0), fun w' => ?_⟩
    have hm : ((m.length : Int) + n.length) ≤ IntKind.i64.max := by
      unfold okLen at h0
      simp [IntKind.max, IntKind.signed, IntKind.bits]
      omega
    have hsz : ∀ l : List UInt8, (ByteArray.mk l.toArray).size = l.length := fun l => by simp [ByteArray.size]
    have happ : (ByteArray.mk m.toArray) ++ (ByteArray.mk n.toArray) = ⟨(m ++ n).toArray⟩ := by
      apply ByteArray.ext
      simp
    simp only [binOp, Op.stringOp, hsz]
    rw [if_neg (by simp only [Int.natCast_add]; omega), happ]
    rfl
  · exact ⟨_, .bool _, fun w' => by simp [binOp, Op.stringOp, beqd]⟩
  · exact ⟨_, .bool _, fun w' => by simp [binOp, Op.stringOp, beqd]⟩
  · exact ⟨_, .bool _, fun w' => by simp [binOp, Op.stringOp]⟩
  · exact ⟨_, .bool _, fun w' => by simp [binOp, Op.stringOp, beqd]⟩
  · exact ⟨_, .bool _, fun w' => by simp [binOp, Op.stringOp, beqd]⟩
  · exact ⟨_, .bool _, fun w' => by simp [binOp, Op.stringOp]⟩

theorem Items.head {s : SV} {l : List SV} {cs : List Value} (h : Items E T w (s :: l) cs) (h1 : s.one = true) : ∃ c r, cs = c :: r ∧ Rep E T w s c ∧ Items E T w l r := by
  cases h with
  | one _ c _ r _ hr hl => exact ⟨c, r, rfl, hr, hl⟩
  | arr n e _ c1 cs hr hl => simp [SV.one] at h1

theorem takeI_self : ∀ {l r : List SV} {n : Nat}, takeI l n = some r → takeI r n = some r
  | l, r, 0, h => by
    have : r = [] := by cases l <;> simpa [takeI] using h.symm
    subst this
    rfl
  | [], r, n + 1, h => by simp [takeI] at h
  | s :: l, r, n + 1, h => by
    cases s
    case arr m e =>
      simp only [takeI] at h
      split at h
      · rename_i hle
        split at h
        · rename_i l' hl'
          simp at h
          subst h
          simp only [takeI, hle, takeI_self hl']
        · cases h
      · cases h
    all_goals
      simp only [takeI] at h
      split at h
      · rename_i l' hl'
        simp at h
        subst h
        simp only [takeI, takeI_self hl']
      · cases h
theorem agg_cells {n : Nat} {e : EV} {v : Value} {x : Operand} (h : Rep E T w (.arr n e) v) (hx : a.eval x = v) : a.eval x = .agg v.cells.toList.toArray := by
  cases h
  simpa [Value.cells] using hx
theorem agg_cells' {l : List SV} {v : Value} {x : Operand} (h : Rep E T w (.agg l) v) (hx : a.eval x = v) : a.eval x = .agg v.cells.toList.toArray := by
  cases h
  simpa [Value.cells] using hx
/-- A value of a type, by its cells. -/
def ValT (P : Program) (t : TypeId) (cs : List Value) (v : Value) : Prop :=
  match isAggD (P.underlying t) with
  | some true => v = .agg cs.toArray
  | some false => cs = [v]
  | none => False
theorem eq_part {t : TypeId} {s n : Nat} {xs : Array Value} {xl xa : List SV} (hs : sizeF P t = some s) (hX : Items E T w xl (xs.toList.drop n)) (ha : takeI xl s = some xa) (h1 : isAggD (P.underlying t) = some true ∨ (isAggD (P.underlying t) = some false ∧ s = 1)) :
    ∃ v cx, Items E T w xa cx ∧ ValT P t cx v ∧ ∀ w', (part t xs n).run P w' = .ok v w' := by
  obtain ⟨hle, hI⟩ := hX.take_ ha
  rcases h1 with h1 | ⟨h1, rfl⟩
  · refine ⟨_, _, hI, by unfold ValT; rw [h1], fun w' => ?_⟩
    have : xs.extract n (n + s) = ((xs.toList.drop n).take s).toArray := by
      apply Array.ext'
      simp
    simp only [part, Sem.run_bind, run_isAgg h1, Result.andThen_ok, if_true, run_sizeOf hs, Sem.run_pure, this]
  · have hlt : n < xs.size := by simp at hle; omega
    refine ⟨xs[n], _, hI, ?_, fun w' => ?_⟩
    · unfold ValT
      rw [h1]
      rw [List.drop_eq_getElem_cons (by simpa using hlt)]
      simp
    · simp only [part, Sem.run_bind, run_isAgg h1, Result.andThen_ok, Bool.false_eq_true, if_false, Array.getElem?_eq_getElem hlt, Sem.run_pure]
/-- A type's size, where '==' asks. -/
theorem eqFs_run {q : TypeId → List SV → List SV → Q2} {D : Nat} {xs ys : Array Value} (hq : ∀ t xl yl φ b cx cy vx vy, q t xl yl = some (φ, b) → All φ → Items E T w xl cx → Items E T w yl cy → ValT P t cx vx → ValT P t cy vy → ∀ w', (Op.equalIn D t vx vy).run P w' = .ok b w')
    (hk : ∀ t xl yl φ b s, q t xl yl = some (φ, b) → sizeF P t = some s → takeI xl s = some xl → isAggD (P.underlying t) = some true ∨ (isAggD (P.underlying t) = some false ∧ s = 1)) :
    ∀ {fs : List Field} {n : Nat} {xl yl : List SV} {φ : List Prop} {b : Bool}, eqFs P q fs n xl yl = some (φ, b) → All φ → Items E T w xl (xs.toList.drop n) → Items E T w yl (ys.toList.drop n) → ∀ w', (Op.eqFields D xs ys fs).run P w' = .ok b w'
  | [], n, xl, yl, φ, b, h, _, _, _, w' => by
    simp [eqFs] at h
    obtain ⟨_, rfl⟩ := h
    simp [Op.eqFields]
  | ⟨nm, t, off, e, tg, pk, bo⟩ :: fs, n, xl, yl, φ, b, h, hφ, hX, hY, w' => by
    simp only [eqFs] at h
    split at h
    case h_2 => cases h
    case h_1 ho =>
    simp only [Bool.and_eq_true, bne_iff_ne] at ho
    have ho' := Nat.eq_of_beq_eq_true ho.1
    have hnm := ho.2
    subst ho'
    split at h
    case h_2 => cases h
    case h_1 s hs =>
    split at h
    case h_2 => cases h
    case h_1 xa hxa =>
    split at h
    case h_2 => cases h
    case h_1 ya hya =>
    split at h
    case h_2 => cases h
    case h_1 xb hxb =>
    split at h
    case h_2 => cases h
    case h_1 yb hyb =>
    split at h
    case h_2 => cases h
    case h_1 φ1 a hqa =>
    split at h
    case h_2 => cases h
    case h_1 ψ b2 hr =>
    simp only [Option.some.injEq, Prod.mk.injEq] at h
    obtain ⟨rfl, rfl⟩ := h
    have hφ1 : All φ1 := fun p hp => hφ p (List.mem_append_left _ hp)
    have hψ : All ψ := fun p hp => hφ p (List.mem_append_right _ hp)
    have hk1 := hk t xa ya φ1 a s hqa hs (takeI_self hxa)
    obtain ⟨vx, cx, hI1, hv1, hp1⟩ := eq_part (P := P) hs hX hxa hk1
    obtain ⟨vy, cy, hI2, hv2, hp2⟩ := eq_part (P := P) hs hY hya hk1
    have hX' := (hX.drop_ hxb).2
    have hY' := (hY.drop_ hyb).2
    rw [List.drop_drop] at hX' hY'
    have ih := eqFs_run hq hk hr hψ hX' hY' w'
    simp only [Op.eqFields, ne_eq, hnm, not_false_eq_true, if_true, Sem.run_bind, hp1, hp2, Result.andThen_ok, hq t xa ya φ1 a cx cy vx vy hqa hφ1 hI1 hI2 hv1 hv2]
    cases a
    · simp
    · simp only [Bool.not_true, Bool.false_eq_true, if_false, Bool.true_and]
      exact ih
theorem eqEs_run {q : List SV → List SV → Q2} {D s : Nat} {e : TypeId} {xs ys : Array Value} (hs : sizeF P e = some s) (hq : ∀ xl yl φ b cx cy vx vy, q xl yl = some (φ, b) → All φ → Items E T w xl cx → Items E T w yl cy → ValT P e cx vx → ValT P e cy vy → ∀ w', (Op.equalIn D e vx vy).run P w' = .ok b w')
    (hk : ∀ xl yl φ b, q xl yl = some (φ, b) → takeI xl s = some xl → isAggD (P.underlying e) = some true ∨ (isAggD (P.underlying e) = some false ∧ s = 1)) :
    ∀ {n i : Nat} {xl yl : List SV} {φ : List Prop} {b : Bool}, eqEs q s n xl yl = some (φ, b) → All φ → Items E T w xl (xs.toList.drop (i * s)) → Items E T w yl (ys.toList.drop (i * s)) → ∀ w', (Op.eqItems D e s xs ys (List.range' i n)).run P w' = .ok b w'
  | 0, i, xl, yl, φ, b, h, _, _, _, w' => by
    simp [eqEs] at h
    obtain ⟨_, rfl⟩ := h
    simp [Op.eqItems]
  | n + 1, i, xl, yl, φ, b, h, hφ, hX, hY, w' => by
    simp only [eqEs] at h
    split at h
    case h_2 => cases h
    case h_1 xa hxa =>
    split at h
    case h_2 => cases h
    case h_1 ya hya =>
    split at h
    case h_2 => cases h
    case h_1 xb hxb =>
    split at h
    case h_2 => cases h
    case h_1 yb hyb =>
    split at h
    case h_2 => cases h
    case h_1 φ1 a hqa =>
    split at h
    case h_2 => cases h
    case h_1 ψ b2 hr =>
    simp only [Option.some.injEq, Prod.mk.injEq] at h
    obtain ⟨rfl, rfl⟩ := h
    have hφ1 : All φ1 := fun p hp => hφ p (List.mem_append_left _ hp)
    have hψ : All ψ := fun p hp => hφ p (List.mem_append_right _ hp)
    have hk1 := hk xa ya φ1 a hqa (takeI_self hxa)
    obtain ⟨vx, cx, hI1, hv1, hp1⟩ := eq_part (P := P) hs hX hxa hk1
    obtain ⟨vy, cy, hI2, hv2, hp2⟩ := eq_part (P := P) hs hY hya hk1
    have hX' := (hX.drop_ hxb).2
    have hY' := (hY.drop_ hyb).2
    rw [List.drop_drop] at hX' hY'
    have e1 : i * s + s = (i + 1) * s := by rw [Nat.add_mul, Nat.one_mul]
    rw [e1] at hX' hY'
    have ih := eqEs_run hs hq hk hr hψ hX' hY' w'
    simp only [List.range'_succ, Op.eqItems, Sem.run_bind, hp1, hp2, Result.andThen_ok, hq xa ya φ1 a cx cy vx vy hqa hφ1 hI1 hI2 hv1 hv2]
    cases a
    · simp
    · simp only [Bool.not_true, Bool.false_eq_true, if_false, Bool.true_and]
      exact ih
/-- Two runs of numbers, cell by cell. -/
theorem eqCells_run {D : Nat} {e : TypeId} {k k0 : IntKind} {xs ys : Array Value} {f g : Nat → Int} (he : P.underlying e = some (.int k0)) :
    ∀ (n i : Nat), (∀ j, i ≤ j → j < i + n → xs[j]? = some (.int k (f j)) ∧ ys[j]? = some (.int k (g j))) → ∀ w', ∃ b : Bool, (Op.eqItems (D + 1) e 1 xs ys (List.range' i n)).run P w' = .ok b w' ∧ (b = true ↔ ∀ j, i ≤ j → j < i + n → f j = g j)
  | 0, i, _, w' => ⟨true, by simp [Op.eqItems], by simp; intro j h1 h2; omega⟩
  | n + 1, i, h, w' => by
    obtain ⟨b, hb, hi⟩ := eqCells_run (D := D) he n (i + 1) (fun j h1 h2 => h j (by omega) (by omega)) w'
    obtain ⟨hx, hy⟩ := h i (Nat.le_refl _) (by omega)
    have hA : isAggD (P.underlying e) = some false := by rw [he]; rfl
    have p1 : (part e xs (i * 1)).run P w' = .ok (.int k (f i)) w' := by
      simp only [part, Sem.run_bind, run_isAgg hA, Result.andThen_ok, Bool.false_eq_true, if_false, Nat.mul_one, hx, Sem.run_pure]
    have p2 : (part e ys (i * 1)).run P w' = .ok (.int k (g i)) w' := by
      simp only [part, Sem.run_bind, run_isAgg hA, Result.andThen_ok, Bool.false_eq_true, if_false, Nat.mul_one, hy, Sem.run_pure]
    simp only [List.range'_succ, Op.eqItems, Sem.run_bind, p1, p2, Result.andThen_ok, run_equalIn_int w' D e k k0 _ _ he]
    by_cases hfg : f i = g i
    · refine ⟨b, by simpa [hfg] using hb, ?_⟩
      rw [hi]
      constructor
      · intro H j h1 h2
        rcases Nat.lt_or_ge i j with h3 | h3
        · exact H j (by omega) (by omega)
        · have : j = i := by omega
          subst this; exact hfg
      · intro H j h1 h2
        exact H j (by omega) (by omega)
    · refine ⟨false, by simp [hfg], ?_⟩
      simp only [Bool.false_eq_true, false_iff]
      intro H
      exact hfg (H i (Nat.le_refl _) (by omega))
theorem eqT_kind {d : Nat} {t : TypeId} {xl yl : List SV} {φ : List Prop} {b : Bool} {s : Nat} (h : eqT P d t xl yl = some (φ, b)) (hs : sizeF P t = some s) (ht : takeI xl s = some xl) : isAggD (P.underlying t) = some true ∨ (isAggD (P.underlying t) = some false ∧ s = 1) := by
  have one : ∀ x : SV, x.one = true → takeI [x] s = some [x] → s = 1 := fun x hx h => by
    match s with
    | 0 => simp [takeI] at h
    | 1 => rfl
    | n + 2 => cases x <;> simp [takeI, SV.one] at h hx
  cases d with
  | zero => simp [eqT] at h
  | succ d =>
    simp only [eqT] at h
    split at h
    · rename_i hu
      right
      refine ⟨by rw [hu]; rfl, ?_⟩
      split at h
      · exact one _ rfl ht
      · cases h
    · rename_i hu
      right
      refine ⟨by rw [hu]; rfl, ?_⟩
      split at h
      · exact one _ rfl ht
      · cases h
    · rename_i hu
      right
      refine ⟨by rw [hu]; rfl, ?_⟩
      split at h
      · exact one _ rfl ht
      · cases h
    · rename_i hu
      left; rw [hu]; rfl
    · rename_i hu
      left; rw [hu]; rfl
    · cases h
theorem arr_only {n : Nat} {e : EV} {cs : List Value} (h : Items E T w [.arr n e] cs) : Rep E T w (.arr n e) (.agg cs.toArray) := by
  cases h with
  | one _ _ _ _ h1 => simp [SV.one] at h1
  | arr _ _ _ c1 cs hr hl =>
    cases hl
    simpa using hr
theorem arr_u8_cells {n : Nat} {l : List UInt8} {cs : List Value} (h : Rep E T w (.arr n (.u8 l)) (.agg cs.toArray)) : l.length = n ∧ ∀ j, j < n → cs[j]? = some (.int .u8 ((l.getD j 0).toNat : Int)) := by
  generalize hv : Value.agg cs.toArray = v at h
  cases h with
  | arr n e cs' c hn hl he h1 hc hr =>
    simp at hv
    subst hv
    simp only [EV.len, EV.sz, Nat.mul_one] at he hn hc hr
    refine ⟨he, fun j hj => ?_⟩
    have hi := hr j (by omega)
    simp only [EV.items] at hi
    obtain ⟨cc, r, e1, hr1, _⟩ := hi.head rfl
    have := hc j 0 cc (by omega) (by simp [e1])
    cases hr1
    simpa using this
theorem arr_int_cells {n : Nat} {k : IntKind} {l : List Int} {cs : List Value} (h : Rep E T w (.arr n (.ints k l)) (.agg cs.toArray)) : l.length = n ∧ ∀ j, j < n → cs[j]? = some (.int k (l.getD j 0)) := by
  generalize hv : Value.agg cs.toArray = v at h
  cases h with
  | arr n e cs' c hn hl he h1 hc hr =>
    simp at hv
    subst hv
    simp only [EV.len, EV.sz, Nat.mul_one] at he hn hc hr
    refine ⟨he, fun j hj => ?_⟩
    have hi := hr j (by omega)
    simp only [EV.items] at hi
    obtain ⟨cc, r, e1, hr1, _⟩ := hi.head rfl
    have := hc j 0 cc (by omega) (by simp [e1])
    cases hr1
    simpa using this
theorem list_eq_iff {α : Type} {l m : List α} {z : α} {n : Nat} (hl : l.length = n) (hm : m.length = n) : (∀ j, j < n → l.getD j z = m.getD j z) ↔ l = m := by
  constructor
  · intro H
    apply List.ext_getElem (hl.trans hm.symm)
    intro i h1 h2
    have := H i (by omega)
    simpa [List.getD, List.getElem?_eq_getElem h1, List.getElem?_eq_getElem h2] using this
  · rintro rfl j _; rfl
theorem eqT_run : ∀ {d D : Nat} (_ : d < D) {t : TypeId} {xl yl : List SV} {φ : List Prop} {b : Bool} {cx cy : List Value} {vx vy : Value}, eqT P d t xl yl = some (φ, b) → All φ → Items E T w xl cx → Items E T w yl cy → ValT P t cx vx → ValT P t cy vy →
    ∀ w', (Op.equalIn D t vx vy).run P w' = .ok b w'
  | 0, D, hD, t, xl, yl, φ, b, cx, cy, vx, vy, h, _, _, _, _, _, w' => by simp [eqT] at h
  | d + 1, 0, hD, t, xl, yl, φ, b, cx, cy, vx, vy, h, _, _, _, _, _, w' => by omega
  | d + 1, D + 1, hD, t, xl, yl, φ, b, cx, cy, vx, vy, h, hφ, hX, hY, hvx, hvy, w' => by
    simp only [eqT] at h
    split at h
    · rename_i k0 hu
      have hA : isAggD (P.underlying t) = some false := by rw [hu]; rfl
      unfold ValT at hvx hvy
      rw [hA] at hvx hvy
      dsimp only at hvx hvy
      subst hvx
      subst hvy
      split at h
      · rename_i k a k' b'
        split at h
        · rename_i hk
          have hk' := kindB_eq hk
          subst hk'
          simp only [Option.some.injEq, Prod.mk.injEq] at h
          obtain ⟨_, rfl⟩ := h
          obtain ⟨u, r, e1, h1, _⟩ := hX.head rfl
          obtain ⟨v, r', e2, h2, _⟩ := hY.head rfl
          cases e1
          cases e2
          cases h1
          cases h2
          rw [run_equalIn_int w' D t k k0 a b' hu, beqd]
        · cases h
      · cases h
    · rename_i hu
      have hA : isAggD (P.underlying t) = some false := by rw [hu]; rfl
      unfold ValT at hvx hvy
      rw [hA] at hvx hvy
      dsimp only at hvx hvy
      subst hvx
      subst hvy
      split at h
      · simp only [Option.some.injEq, Prod.mk.injEq] at h
        obtain ⟨_, rfl⟩ := h
        obtain ⟨u, r, e1, h1, _⟩ := hX.head rfl
        obtain ⟨v, r', e2, h2, _⟩ := hY.head rfl
        cases e1
        cases e2
        cases h1
        cases h2
        rw [run_equalIn_bool' w' D t _ _ hu]
      · cases h
    · rename_i hu
      have hA : isAggD (P.underlying t) = some false := by rw [hu]; rfl
      unfold ValT at hvx hvy
      rw [hA] at hvx hvy
      dsimp only at hvx hvy
      subst hvx
      subst hvy
      split at h
      · simp only [Option.some.injEq, Prod.mk.injEq] at h
        obtain ⟨_, rfl⟩ := h
        obtain ⟨u, r, e1, h1, _⟩ := hX.head rfl
        obtain ⟨v, r', e2, h2, _⟩ := hY.head rfl
        cases e1
        cases e2
        cases h1
        cases h2
        rw [run_equalIn_string w' D t _ _ hu, ByteArray.toList_mk, ByteArray.toList_mk, beqd]
      · cases h
    · rename_i fs hu
      have hA : isAggD (P.underlying t) = some true := by rw [hu]; rfl
      unfold ValT at hvx hvy
      rw [hA] at hvx hvy
      dsimp only at hvx hvy
      subst hvx
      subst hvy
      split at h
      · rename_i φ1 b1 hr
        simp only [Option.some.injEq, Prod.mk.injEq] at h
        obtain ⟨rfl, rfl⟩ := h
        have hq : eqOk P t = true := hφ _ (List.mem_cons_self ..)
        simp only [eqOk, Bool.and_eq_true, Bool.not_eq_true'] at hq
        have hfo : P.fieldsOf t = fs.toList.toArray := by simp [Program.fieldsOf, hu]
        rw [run_equalIn_struct w' D t cx.toArray cy.toArray (by simpa [hfo] using hu) hq.2, hfo]
        have := eqFs_run (P := P) (D := D) (xs := cx.toArray) (ys := cy.toArray) (fun t xl yl φ b cx cy vx vy h1 h2 h3 h4 h5 h6 => eqT_run (by omega) h1 h2 h3 h4 h5 h6) (fun t xl yl φ b s h1 h2 h3 => eqT_kind h1 h2 h3) hr (fun p hp => hφ p (List.mem_cons_of_mem _ hp)) (by simpa using hX) (by simpa using hY) w'
        simpa using this
      · cases h
    · rename_i n e hu
      have hA : isAggD (P.underlying t) = some true := by rw [hu]; rfl
      unfold ValT at hvx hvy
      rw [hA] at hvx hvy
      dsimp only at hvx hvy
      subst hvx
      subst hvy
      split at h
      case h_2 => cases h
      case h_1 s hs =>
      have hs' := hs
      unfold sizeF at hs'
      split at hs'
      case h_2 => cases hs'
      case h_1 info hi =>
      have hc : P.cellsOf e = s := by
        simp at hs'
        simp [Program.cellsOf, hi, hs']
      rw [run_equalIn_array w' D cx.toArray cy.toArray hu hi, hc, List.range_eq_range']
      split at h
      · rename_i m a m' b'
        split at h
        case h_2 => cases h
        case h_1 k0 he =>
        split at h
        case h_2 => cases h
        case h_1 hm =>
        simp only [Bool.and_eq_true] at hm
        have m1 := Nat.eq_of_beq_eq_true hm.1.1
        have m2 := Nat.eq_of_beq_eq_true hm.1.2
        have m3 := Nat.eq_of_beq_eq_true hm.2
        subst m1
        subst m2
        subst m3
        simp only [Option.some.injEq, Prod.mk.injEq] at h
        obtain ⟨_, rfl⟩ := h
        obtain ⟨l1, c1⟩ := arr_u8_cells (arr_only hX)
        obtain ⟨l2, c2⟩ := arr_u8_cells (arr_only hY)
        cases D with
        | zero => omega
        | succ D =>
          obtain ⟨b1, h1, h2⟩ := eqCells_run (P := P) (D := D) (k := .u8) (xs := cx.toArray) (ys := cy.toArray) (f := fun j => ((a.getD j 0).toNat : Int)) (g := fun j => ((b'.getD j 0).toNat : Int)) he m' 0 (fun j _ hj => ⟨by simpa using c1 j (by omega), by simpa using c2 j (by omega)⟩) w'
          rw [h1]
          congr 1
          rw [Bool.eq_iff_iff, h2, decide_eq_true_eq, ← list_eq_iff (z := 0) l1 l2]
          constructor
          · intro H j hj
            have := H j (Nat.zero_le _) (by omega)
            exact UInt8.toNat_inj.1 (by omega)
          · intro H j _ hj
            rw [H j (by omega)]
      · rename_i m k a m' k' b'
        split at h
        case h_2 => cases h
        case h_1 k0 he =>
        split at h
        case h_2 => cases h
        case h_1 hm =>
        simp only [Bool.and_eq_true] at hm
        have m1 := Nat.eq_of_beq_eq_true hm.1.1.1
        have m2 := Nat.eq_of_beq_eq_true hm.1.1.2
        have m3 := Nat.eq_of_beq_eq_true hm.1.2
        have m4 := kindB_eq hm.2
        subst m1
        subst m2
        subst m3
        subst m4
        simp only [Option.some.injEq, Prod.mk.injEq] at h
        obtain ⟨_, rfl⟩ := h
        obtain ⟨l1, c1⟩ := arr_int_cells (arr_only hX)
        obtain ⟨l2, c2⟩ := arr_int_cells (arr_only hY)
        cases D with
        | zero => omega
        | succ D =>
          obtain ⟨b1, h1, h2⟩ := eqCells_run (P := P) (D := D) (k := k) (xs := cx.toArray) (ys := cy.toArray) (f := fun j => a.getD j 0) (g := fun j => b'.getD j 0) he m' 0 (fun j _ hj => ⟨by simpa using c1 j (by omega), by simpa using c2 j (by omega)⟩) w'
          rw [h1]
          congr 1
          rw [Bool.eq_iff_iff, h2, decide_eq_true_eq, ← list_eq_iff (z := 0) l1 l2]
          constructor
          · intro H j hj
            exact H j (Nat.zero_le _) (by omega)
          · intro H j _ hj
            exact H j (by omega)
      · exact eqEs_run (P := P) (D := D) (xs := cx.toArray) (ys := cy.toArray) hs (fun xl yl φ b cx cy vx vy h1 h2 h3 h4 h5 h6 => eqT_run (by omega) h1 h2 h3 h4 h5 h6) (fun xl yl φ b h1 h3 => eqT_kind h1 hs h3) h hφ (by simpa using hX) (by simpa using hY) w'
    · cases h

theorem aggV_run {op : BinOp} {t t' : TypeId} {x y : Operand} {m n : List SV} {cx cy : List Value} {r : SV} {φ : List Prop} (h : aggV P op t m n = some (φ, r)) (hφ : All φ) (hm : Items E T w m cx) (hn : Items E T w n cy) (hx : a.eval x = .agg cx.toArray) (hy : a.eval y = .agg cy.toArray) :
    ∃ u, Rep E T w r u ∧ ∀ (w' : World) (o : Oper), o.op = .binOp op t x y t' → (execOp a.eval o).run P w' = .ok (.value u) w' := by
  unfold aggV at h
  split at h
  · rename_i hA
    split at h
    · rename_i φ1 b hb
      have hq : eqOk P t = true ∧ All φ1 := by
        split at h
        · simp only [Option.some.injEq, Prod.mk.injEq] at h
          obtain ⟨rfl, _⟩ := h
          exact ⟨hφ _ (List.mem_cons_self ..), fun p hp => hφ p (List.mem_cons_of_mem _ hp)⟩
        · simp only [Option.some.injEq, Prod.mk.injEq] at h
          obtain ⟨rfl, _⟩ := h
          exact ⟨hφ _ (List.mem_cons_self ..), fun p hp => hφ p (List.mem_cons_of_mem _ hp)⟩
        · cases h
      have he := hq.1
      simp only [eqOk, Bool.and_eq_true, Bool.not_eq_true'] at he
      have hrun : ∀ w', (Op.equalIn 10000 t (.agg cx.toArray) (.agg cy.toArray)).run P w' = .ok b w' := fun w' =>
        eqT_run (by decide) hb hq.2 hm hn (by unfold ValT; rw [hA]) (by unfold ValT; rw [hA]) w'
      split at h <;> simp at h <;> obtain ⟨_, rfl⟩ := h
      · refine ⟨_, .bool _, fun w' o ho => ?_⟩
        unfold execOp
        simp only [ho, hx, hy, Sem.run_bind, run_eqGuard_agg w' .eql t x y _ _ he.1, Result.andThen_ok, run_eql_struct, hrun, Sem.run_pure]
      · refine ⟨_, .bool _, fun w' o ho => ?_⟩
        unfold execOp
        simp only [ho, hx, hy, Sem.run_bind, run_eqGuard_agg w' .neq t x y _ _ he.1, Result.andThen_ok, run_neq_struct, hrun, Sem.run_pure]
    · cases h
  · cases h

theorem run_equalIn_nil {w0 : World} (w : World) (d : Nat) {t : TypeId} {m n : SV} {vx vy : Value} {b : Bool} (hb : nilB (P.underlying t) m n = some b) (hm : Rep E T w0 m vx) (hn : Rep E T w0 n vy) : (Op.equalIn (d + 1) t vx vy).run P w = .ok b w := by
  unfold nilB at hb
  split at hb
  all_goals first | (cases hb; done) | skip
  all_goals (rename_i hu; split at hb)
  all_goals first | (cases hb; done) | skip
  all_goals (simp only [Option.some.injEq] at hb; subst hb; cases hm <;> cases hn)
  all_goals
    unfold Op.equalIn
    simp only [Sem.run_bind, run_underlying hu, Result.andThen_ok]
    rfl
theorem nilV_run {op : BinOp} {t t' : TypeId} {x y : Operand} {vx vy : Value} {m n r : SV} {φ : List Prop} (h : nilV P op t m n = some (φ, r)) (hm : Rep E T w m vx) (hn : Rep E T w n vy) (hx : a.eval x = vx) (hy : a.eval y = vy) :
    ∃ u, Rep E T w r u ∧ ∀ (w' : World) (o : Oper), o.op = .binOp op t x y t' → (execOp a.eval o).run P w' = .ok (.value u) w' := by
  unfold nilV at h
  split at h
  · rename_i b hb
    have k1 : ∀ w' : World, (Op.equal t vx vy).run P w' = .ok b w' := fun w' => run_equalIn_nil w' _ hb hm hn
    have key : (∀ w' : World, (eqGuard op t x y vx vy).run P w' = .ok () w') ∧ (∀ w' : World, (binOp .eql t vx vy).run P w' = ((do pure (.bool (← Op.equal t vx vy)) : Sem Value)).run P w') ∧ ∀ w' : World, (binOp .neq t vx vy).run P w' = ((do pure (.bool (!(← Op.equal t vx vy))) : Sem Value)).run P w' := by
      unfold nilB at hb
      split at hb
      all_goals first | (cases hb; done) | skip
      all_goals (rename_i hu; split at hb)
      all_goals first | (cases hb; done) | skip
      all_goals (simp only [Option.some.injEq] at hb; subst hb; cases hm <;> cases hn)
      all_goals
        refine ⟨fun w' => ?_, fun w' => rfl, fun w' => rfl⟩
        unfold eqGuard
        split <;> rfl
    obtain ⟨k2, k3, k4⟩ := key
    split at h
    · simp only [Option.some.injEq, Prod.mk.injEq] at h
      obtain ⟨_, rfl⟩ := h
      refine ⟨_, .bool b, fun w' o ho => ?_⟩
      unfold execOp
      simp only [ho, hx, hy, Sem.run_bind, k2, Result.andThen_ok, k3, k1, Sem.run_pure]
    · simp only [Option.some.injEq, Prod.mk.injEq] at h
      obtain ⟨_, rfl⟩ := h
      refine ⟨_, .bool (!b), fun w' o ho => ?_⟩
      unfold execOp
      simp only [ho, hx, hy, Sem.run_bind, k2, Result.andThen_ok, k4, k1, Sem.run_pure]
    · cases h
  · cases h
theorem binV_run {X : IntKind → Bool} {op : BinOp} {t t' : TypeId} {x y : Operand} {m n r : SV} {φ : List Prop} (h : binV X P op t m n = some (φ, r)) (hφ : All φ) (hm : Rep E T w m (a.eval x)) (hn : Rep E T w n (a.eval y)) :
    ∃ u, Rep E T w r u ∧ ∀ (w' : World) (o : Oper), o.op = .binOp op t x y t' → (execOp a.eval o).run P w' = .ok (.value u) w' := by
  generalize hx : a.eval x = vx at hm
  generalize hy : a.eval y = vy at hn
  unfold binV at h
  split at h
  · rename_i k1 n1 k2 n2
    cases hm with
    | int _ _ r1 =>
      cases hn with
      | int _ _ r2 =>
        have fin : (∃ u, Rep E T w r u ∧ ∀ w', (binOp op t (.int k1 n1) (.int k2 n2)).run P w' = .ok u w') → ∃ u, Rep E T w r u ∧ ∀ (w' : World) (o : Oper), o.op = .binOp op t x y t' → (execOp a.eval o).run P w' = .ok (.value u) w' := by
          rintro ⟨u, h1, h2⟩
          refine ⟨u, h1, fun w' o ho => ?_⟩
          unfold execOp
          simp only [ho, hx, hy, Sem.run_bind, run_eqGuard_int, Result.andThen_ok, h2, Sem.run_pure]
        apply fin
        split at h
        · exact shiftV_run h hφ r1
        · rename_i hsh
          split at h
          · rename_i hk
            have := kindB_eq hk
            subst this
            exact intV_run hsh h hφ r1
          · cases h
  · cases hm with
    | str _ r1 =>
      cases hn with
      | str _ r2 =>
        obtain ⟨u, h1, h2⟩ := strV_run (P := P) (t := t) h hφ
        refine ⟨u, h1, fun w' o ho => ?_⟩
        unfold execOp
        simp only [ho, hx, hy, Sem.run_bind, run_eqGuard_str, Result.andThen_ok, h2, Sem.run_pure]
  · split at h
    · rename_i hu
      cases hm with
      | bool b1 =>
        cases hn with
        | bool b2 =>
          unfold boolV at h
          split at h <;> simp at h <;> obtain ⟨_, rfl⟩ := h
          · refine ⟨_, .bool _, fun w' o ho => ?_⟩
            unfold execOp
            simp [ho, hx, hy, run_eqGuard_bool, binOp, Op.equal, Op.maxDepth, run_equalIn_bool' _ _ _ _ _ hu]
          · refine ⟨_, .bool _, fun w' o ho => ?_⟩
            unfold execOp
            simp [ho, hx, hy, run_eqGuard_bool, binOp, Op.equal, Op.maxDepth, run_equalIn_bool' _ _ _ _ _ hu, bne]
    · cases h
  · cases hm with
    | agg _ cx h1 =>
      cases hn with
      | agg _ cy h2 => exact aggV_run h hφ h1 h2 hx hy
  · exact aggV_run h hφ (hm.items rfl) (hn.items rfl) (agg_cells hm hx) (agg_cells hn hy)
  · exact aggV_run h hφ (hm.items rfl) (hn.items rfl) (agg_cells' hm hx) (agg_cells hn hy)
  · exact aggV_run h hφ (hm.items rfl) (hn.items rfl) (agg_cells hm hx) (agg_cells' hn hy)
  · exact nilV_run h hm hn hx hy
end
end Go.Proofs.YtgpggoejkkhceaaDoor.V
