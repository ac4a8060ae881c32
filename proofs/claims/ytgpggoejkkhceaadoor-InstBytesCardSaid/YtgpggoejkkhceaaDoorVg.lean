/-
  A walk by abstract values: zeros, what is built, choices; every operation that leaves memory alone.
-/
import Derived.Test.YtgpggoejkkhceaaDoorVf
namespace Go.Proofs.YtgpggoejkkhceaaDoor.V
open Go.RowKit

section
variable {P : Program} {Γ : Glob} {F : Tr} {M : Mem} {E : Env} {a : Act} {w : World} {T : Nat → Prop}

/-! ### Zeros -/
theorem allInt_eq {k : IntKind} : ∀ {cs : List Value}, allInt k cs = true → cs = List.replicate cs.length (.int k 0)
  | [], _ => rfl
  | v :: r, h => by
    unfold allInt at h
    split at h
    · rename_i h1; cases h1
    · rename_i k' r' h1
      cases h1
      split at h
      · rename_i hk
        have := kindB_eq hk
        subst this
        rw [List.length_cons, List.replicate_succ]
        congr 1
        exact allInt_eq h
      · cases h
    · cases h
theorem inR_zero (k : IntKind) : inR k 0 := by
  cases k <;> simp [inR, IntKind.min, IntKind.max, IntKind.signed, IntKind.bits]
theorem arr_zero (k : IntKind) (n : Nat) : Rep E T w (.arr n (.ints k (List.replicate n 0))) (.agg (List.replicate n (Value.int k 0)).toArray) := by
  refine .arr n _ _ (fun _ => [.int k 0]) (fun i _ => rfl) (by simp) (by simp [EV.len, EV.sz]) (fun v hv => by have := List.eq_of_mem_replicate hv; subst this; rfl) (fun i j v hi hj => ?_) (fun i hi => ?_)
  · simp [EV.len] at hi
    cases j with
    | zero => simp at hj; subst hj; simp [EV.sz, hi]
    | succ j => simp at hj
  · simp [EV.len] at hi
    simp only [EV.items]
    refine .one _ _ _ _ rfl ?_ .nil
    have : (List.replicate n (0 : Int)).getD i 0 = 0 := by simp [List.getD, hi]
    rw [this]
    exact .int _ _ (inR_zero k)
theorem arr_zero8 (n : Nat) : Rep E T w (.arr n (.u8 (List.replicate n 0))) (.agg (List.replicate n (Value.int .u8 0)).toArray) := by
  refine .arr n _ _ (fun _ => [.int .u8 0]) (fun i _ => rfl) (by simp) (by simp [EV.len, EV.sz]) (fun v hv => by have := List.eq_of_mem_replicate hv; subst this; rfl) (fun i j v hi hj => ?_) (fun i hi => ?_)
  · simp [EV.len] at hi
    cases j with
    | zero => simp at hj; subst hj; simp [EV.sz, hi]
    | succ j => simp at hj
  · simp [EV.len] at hi
    simp only [EV.items]
    refine .one _ _ _ _ rfl ?_ .nil
    have : (List.replicate n (0 : UInt8)).getD i 0 = 0 := by simp [List.getD, hi]
    rw [this]
    exact .int _ _ (inR_zero .u8)
theorem takeV_eq : ∀ {cs l : List Value} {n : Nat}, takeV cs n = some l → l = cs.take n
  | cs, l, 0, h => by cases cs <;> simp [takeV] at h <;> subst h <;> simp
  | [], l, n + 1, h => by simp [takeV] at h
  | c :: r, l, n + 1, h => by
    simp only [takeV] at h
    split at h
    · rename_i l' hl
      simp at h
      subst h
      simp [takeV_eq hl]
    · cases h
theorem dropV_eq : ∀ {cs l : List Value} {n : Nat}, dropV cs n = some l → l = cs.drop n
  | cs, l, 0, h => by cases cs <;> simp [dropV] at h <;> subst h <;> simp
  | [], l, n + 1, h => by simp [dropV] at h
  | c :: r, l, n + 1, h => by
    simp only [dropV] at h
    simp [dropV_eq h]
mutual
theorem zeroI_items : ∀ (d : Nat) {t : TypeId} {cs : List Value} {l : List SV}, zeroI P d t cs = some l → Items E T w l cs
  | 0, t, cs, l, h => by simp [zeroI] at h
  | d + 1, t, cs, l, h => by
    simp only [zeroI] at h
    split at h
    · exact zeroIs_items d h
    · rename_i n e _
      split at h
      · rename_i k _
        split at h
        · split at h
          · rename_i hb
            simp only [Bool.and_eq_true] at hb
            have hlen := Nat.eq_of_beq_eq_true hb.1
            have hcs := allInt_eq hb.2
            rw [hlen] at hcs
            rw [hcs]
            split at h
            · simp at h
              subst h
              have := Items.arr (E := E) (T := T) (w := w) n _ [] _ [] (arr_zero8 n) .nil
              simpa using this
            · rename_i k' _
              simp at h
              subst h
              have := Items.arr (E := E) (T := T) (w := w) n _ [] _ [] (arr_zero k n) .nil
              simpa using this
          · cases h
        · exact Items.ofCs h
      · exact Items.ofCs h
    · exact Items.ofCs h
    · cases h
theorem zeroIs_items : ∀ (d : Nat) {fs : List Field} {cs : List Value} {l : List SV}, zeroIs P d fs cs = some l → Items E T w l cs
  | 0, fs, cs, l, h => by simp [zeroIs] at h
  | d + 1, [], cs, l, h => by
    simp only [zeroIs] at h
    split at h
    · simp at h; subst h; exact .nil
    · cases h
  | d + 1, ⟨_, t, _, _, _, _, _⟩ :: fs, cs, l, h => by
    simp only [zeroIs] at h
    split at h
    · split at h
      · rename_i x hx
        split at h
        · rename_i y hy
          split at h
          · rename_i l1 h1
            split at h
            · rename_i l2 h2
              simp at h
              subst h
              have e1 := takeV_eq hx
              have e2 := dropV_eq hy
              have := (zeroI_items d h1).app (zeroIs_items d h2)
              rwa [e1, e2, List.take_append_drop] at this
            · cases h
          · cases h
        · cases h
      · cases h
    · cases h
end
theorem zeroC_info {t : TypeId} {cs : List Value} (h : zeroC P t = some cs) : ∃ i v, P.info? t = some i ∧ i.zero = some v ∧ v.cells = cs.toArray := by
  unfold zeroC at h
  split at h
  · rename_i i hi
    split at h
    · rename_i l hz
      simp at h
      subst h
      exact ⟨i, _, hi, hz, rfl⟩
    · rename_i v hne hz
      simp at h
      subst h
      refine ⟨i, v, hi, hz, ?_⟩
      cases v <;> first | rfl | (rename_i cs; exact (hne cs.toList rfl).elim)
    · cases h
  · cases h
theorem zeroOf_items {t : TypeId} {l : List SV} (h : zeroOf P t = some l) : ∃ i v, P.info? t = some i ∧ i.zero = some v ∧ Items E T w l v.cells.toList := by
  unfold zeroOf at h
  split at h
  · rename_i cs hc
    obtain ⟨i, v, h1, h2, h3⟩ := zeroC_info hc
    exact ⟨i, v, h1, h2, by rw [h3]; simpa using zeroI_items 200 h⟩
  · cases h

/-! ### What is built -/
theorem foldl_set (off : Nat) : ∀ (vs : List Value) (k : Nat) (cs : Array Value), off + k + vs.length ≤ cs.size →
    ((vs.zipIdx k).foldl (fun (cs : Array Value) (p : Value × Nat) => cs.setIfInBounds (off + p.2) p.1) cs).toList = cs.toList.take (off + k) ++ vs ++ cs.toList.drop (off + k + vs.length)
  | [], k, cs, _ => by simp
  | v :: vs, k, cs, h => by
    simp only [List.zipIdx_cons, List.foldl_cons]
    rw [foldl_set off vs (k + 1) _ (by simp at h ⊢; omega)]
    have e := list_seg_step cs.toList (off + k) v vs (by simp at h ⊢; omega)
    simp only [Array.toList_setIfInBounds, ← Nat.add_assoc] at e ⊢
    simpa [Nat.add_assoc] using e
theorem placesF_eq : ∀ {fs : List Field} {l : List (Nat × Nat)}, placesF P fs = some l → fs.mapM (fun f => (P.info? f.type).map fun i => (f.offset, i.size)) = some l
  | [], l, h => by simp [placesF] at h; subst h; simp
  | f :: r, l, h => by
    simp only [placesF, sizeF] at h
    split at h
    · rename_i s hs
      split at h
      · rename_i l' hl
        simp at h
        subst h
        have ih := placesF_eq hl
        cases hi : P.info? f.type with
        | none => simp [hi] at hs
        | some i =>
          simp [hi] at hs
          subst hs
          simp [List.mapM_cons, hi, ih]
      · cases h
    · cases h
theorem nth_eq : ∀ (l : List (Nat × Nat)) (i : Nat), nth l i = l[i]?
  | [], i => by simp [nth]
  | x :: r, 0 => by simp [nth]
  | x :: r, n + 1 => by simp [nth, nth_eq r n]

/-- Parts, and what they are. -/
def PartsOk (E : Env) (T : Nat → Prop) (w : World) : List (Nat × SV) → List (Nat × Value) → Prop
  | [], [] => True
  | (i, s) :: r, (j, v) :: q => i = j ∧ Rep E T w s v ∧ PartsOk E T w r q
  | _, _ => False
theorem partsF_ok (V : Vw Γ F M E T a w) : ∀ {l : List (Nat × Operand)} {r : List (Nat × SV)}, partsF Γ F l = some r → PartsOk E T w r (l.map fun p => (p.1, a.eval p.2))
  | [], r, h => by simp [partsF] at h; subst h; trivial
  | (i, x) :: l, r, h => by
    simp only [partsF] at h
    split at h
    · rename_i s hs
      split at h
      · cases h
      · split at h
        · rename_i l' hl
          simp at h
          subst h
          exact ⟨rfl, opd_rep V hs, partsF_ok V hl⟩
        · cases h
    · cases h
theorem partsC_ok (V : Vw Γ F M E T a w) : ∀ {l : List (Nat × Operand)} {φ : List Prop} {r : List (Nat × SV)}, partsC Γ F l = some (φ, r) → All φ → PartsOk E T w r (l.map fun p => (p.1, a.eval p.2))
  | [], φ, r, h, _ => by
    simp [partsC] at h
    obtain ⟨_, rfl⟩ := h
    trivial
  | (i, x) :: l, φ, r, h, hφ => by
    simp only [partsC] at h
    split at h
    · rename_i s hs
      split at h
      · split at h
        · rename_i ψ l' hl
          simp only [Option.some.injEq, Prod.mk.injEq] at h
          obtain ⟨rfl, rfl⟩ := h
          refine ⟨rfl, ?_, partsC_ok V hl fun p hp => hφ p (List.mem_cons_of_mem _ hp)⟩
          have := opd_rep V hs
          generalize a.eval x = v at this
          cases this with
          | may1 _ _ _ _ hr => exact hr
          | may0 _ _ hg => exact absurd (hφ _ (List.mem_cons_self ..)) hg
        · cases h
      · split at h
        · rename_i ψ l' hl
          simp only [Option.some.injEq, Prod.mk.injEq] at h
          obtain ⟨rfl, rfl⟩ := h
          exact ⟨rfl, opd_rep V hs, partsC_ok V hl hφ⟩
        · cases h
    · cases h
theorem wI_len : ∀ {l : List SV} {cs : List Value}, Items E T w l cs → wI l = cs.length
  | _, _, .nil => rfl
  | _, _, .one s c l cs h1 hr hl => by
    have := wI_len hl
    cases s <;> simp [wI, this] <;> first | omega | (simp [SV.one] at h1)
  | _, _, .arr n e l c1 cs hr hl => by
    have := wI_len hl
    simp [wI, this, hr.arr_len]
theorem fillI_run {place : Nat → Option (Nat × Nat)} : ∀ {ps : List (Nat × SV)} {vs : List (Nat × Value)} {l r : List SV} {cs : List Value}, fillI place l ps = some r → PartsOk E T w ps vs → Items E T w l cs →
    ∃ cs', Instr.fill place cs.toArray vs = some cs'.toArray ∧ Items E T w r cs'
  | [], [], l, r, cs, h, _, hI => by simp [fillI] at h; subst h; exact ⟨cs, by simp [Instr.fill], hI⟩
  | [], _ :: _, l, r, cs, h, hp, hI => hp.elim
  | (_, _) :: _, [], l, r, cs, h, hp, hI => hp.elim
  | (i, s) :: ps, (j, v) :: vs, l, r, cs, h, hp, hI => by
    obtain ⟨rfl, hs, hp'⟩ := hp
    simp only [fillI] at h
    split at h
    · rename_i off n hpl
      split at h
      · rename_i x hx
        split at h
        · rename_i hw
          split at h
          · rename_i l' hl
            have hIx := hs.items hx
            have hsz : v.cells.size = n := by
              have := wI_len hIx
              rw [Nat.eq_of_beq_eq_true hw] at this
              simpa using this.symm
            obtain ⟨hle, hI'⟩ := hI.paste hIx hl
            obtain ⟨cs', h1, h2⟩ := fillI_run h hp' hI'
            refine ⟨cs', ?_, h2⟩
            rw [← h1]
            simp only [Instr.fill, hpl]
            rw [if_neg (by simp [hsz]; omega)]
            congr 1
            apply Array.ext'
            rw [← Array.foldl_toList]
            have := foldl_set off v.cells.toList 0 cs.toArray (by simp [hsz]; omega)
            simp only [Nat.add_zero] at this
            simpa [hsz] using this
          · cases h
        · cases h
      · cases h
    · cases h
end
end Go.Proofs.YtgpggoejkkhceaaDoor.V
