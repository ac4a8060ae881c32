/-
  A walk by abstract values: indexes, conversions, slices, what is built; every operation that leaves memory alone.
-/
import Derived.Test.YtgpggoejkkhceaaDoorVd
namespace Go.Proofs.YtgpggoejkkhceaaDoor.V
open Go.RowKit

section
variable {P : Program} {Γ : Glob} {F : Tr} {M : Mem} {E : Env} {a : Act} {w : World} {T : Nat → Prop}

theorem seg_eq {c cs : List Value} {o : Nat} (hseg : ∀ (j : Nat) (v : Value), c[j]? = some v → cs[o + j]? = some v) {off n : Nat} (h : off + n ≤ c.length) : (cs.drop (o + off)).take n = (c.drop off).take n := by
  apply List.ext_getElem?
  intro j
  simp only [List.getElem?_take, List.getElem?_drop]
  split
  · rename_i hj
    have hlt : off + j < c.length := by omega
    have := hseg (off + j) _ (List.getElem?_eq_getElem hlt)
    rw [List.getElem?_eq_getElem hlt, Nat.add_assoc]
    exact this
  · rfl
/-- A part of a value's cells. -/
theorem see_part_at {t off o : Nat} {l : List SV} {c cs : List Value} {s : SV} (hI : Items E T w l c) (hs : seeI P t l off = some s) (hseg : ∀ (j : Nat) (v : Value), c[j]? = some v → cs[o + j]? = some v) :
    ∃ u, Rep E T w s u ∧ ∀ w' : World, (part t cs.toArray (o + off)).run P w' = .ok u w' := by
  unfold seeI at hs
  split at hs
  · rename_i bb hA
    split at hs
    · rename_i n hn
      split at hs
      · rename_i r hr
        obtain ⟨hle, hI'⟩ := hI.cut hr
        rw [← seg_eq hseg hle] at hI'
        obtain ⟨h1, h2⟩ := ofItems_rep hI' hs
        cases bb with
        | true =>
          refine ⟨_, h1 rfl, fun w' => ?_⟩
          simp only [part, Sem.run_bind, run_isAgg hA, Result.andThen_ok, if_true, run_sizeOf hn, Sem.run_pure]
          congr 2
          apply Array.ext'
          simp [List.take_drop]
        | false =>
          obtain ⟨x, hc1, hrep⟩ := h2 rfl
          refine ⟨x, hrep, fun w' => ?_⟩
          have h0 : cs[o + off]? = some x := by
            have : ((cs.drop (o + off)).take n)[0]? = some x := by rw [hc1]; rfl
            rw [List.getElem?_take] at this
            split at this
            · rw [List.getElem?_drop] at this; simpa using this
            · cases this
          simp [part, run_isAgg hA, h0]
      · cases hs
    · cases hs
  · cases hs
theorem see_part {t off : Nat} {l : List SV} {cs : List Value} {s : SV} (hI : Items E T w l cs) (hs : seeI P t l off = some s) :
    ∃ u, Rep E T w s u ∧ ∀ w' : World, (part t cs.toArray off).run P w' = .ok u w' := by
  have := see_part_at (P := P) (o := 0) (cs := cs) hI hs (fun j v h => by simpa using h)
  simpa using this

theorem indexV_run {t : TypeId} {k : IntKind} {n : Int} {x r : SV} {v : Value} {φ : List Prop} (h : indexV P t n x = some (φ, r)) (hφ : All φ) (hx : Rep E T w x v) :
    ∃ u, Rep E T w r u ∧ ∀ w', (Instr.index t v (.int k n)).run P w' = .ok u w' := by
  unfold indexV at h
  split at h
  · rename_i l
    split at h
    · rename_i hu
      simp at h
      obtain ⟨rfl, rfl⟩ := h
      obtain ⟨h0, h1⟩ := hφ.one
      cases hx with
      | str _ ok =>
        refine ⟨_, .int _ _ (inR_u8 _), fun w' => ?_⟩
        have hlt : n.toNat < l.length := by omega
        have hget : (ByteArray.mk l.toArray)[n.toNat]? = some (l.getD n.toNat 0) := by
          have : n.toNat < (ByteArray.mk l.toArray).size := by simpa [ByteArray.size] using hlt
          rw [getElem?_pos (ByteArray.mk l.toArray) n.toNat this]
          simp only [List.getD_eq_getElem?_getD, List.getElem?_eq_getElem hlt, Option.getD_some]
          rfl
        simp [Instr.index, asIntOf, run_underlying hu, h0, hget]
    · cases h
  · rename_i m' e
    split at h
    · rename_i m elem hu
      split at h
      · rename_i s hsz
        split at h
        · rename_i hes
          have hes' := Nat.eq_of_beq_eq_true hes
          obtain ⟨rfl, h'⟩ := withφ_inv h
          have h0 := hφ _ (List.mem_cons_self ..)
          have h2 : m = e.len := hφ _ (List.mem_cons_of_mem _ (List.mem_cons_self ..))
          cases hx with
          | arr _ _ cs c hn hl he h1 hc hr =>
            have hi : n.toNat < e.len := by omega
            obtain ⟨u, hu1, hu2⟩ := see_part_at (P := P) (o := n.toNat * e.sz) (cs := cs) (hr _ hi) h' (fun j v hj => hc _ j v hi hj)
            refine ⟨u, hu1, fun w' => ?_⟩
            simp only [Instr.index, asIntOf, Sem.run_bind, Sem.run_pure, Result.andThen_ok, run_underlying hu]
            rw [if_pos h0]
            have := hu2 w'
            rw [Nat.add_zero, hes'] at this
            simp only [Sem.run_bind, run_sizeOf hsz, Result.andThen_ok, this]
        · cases h
      · cases h
    · cases h
  · rename_i l
    split at h
    · rename_i m elem hu
      split at h
      · rename_i s hsz
        obtain ⟨rfl, h'⟩ := withφ_inv h
        have h0 := hφ.one
        cases hx with
        | agg _ cs hI =>
          obtain ⟨u, hu1, hu2⟩ := see_part (P := P) hI h'
          refine ⟨u, hu1, fun w' => ?_⟩
          simp only [Instr.index, asIntOf, Sem.run_bind, Sem.run_pure, Result.andThen_ok, run_underlying hu]
          rw [if_pos h0]
          simp only [Sem.run_bind, run_sizeOf hsz, Result.andThen_ok, hu2]
      · cases h
    · cases h
  · cases h

theorem fieldV_run {t : TypeId} {f : Nat} {x r : SV} {v : Value} {φ : List Prop} (h : fieldV P t f x = some (φ, r)) (hx : Rep E T w x v) :
    ∃ u, Rep E T w r u ∧ ∀ w', (Instr.field t v f).run P w' = .ok u w' := by
  unfold fieldV at h
  split at h
  · rename_i fs hu
    split at h
    · rename_i nm ft off e tg pk bo hf
      split at h
      · obtain ⟨rfl, h'⟩ := withφ_inv h
        cases hx with
        | agg _ cs hI =>
          obtain ⟨u, hu1, hu2⟩ := see_part (P := P) hI h'
          refine ⟨u, hu1, fun w' => ?_⟩
          have hfa : fs[f]? = some ⟨nm, ft, off, e, tg, pk, bo⟩ := by simpa using hf
          simp [Instr.field, run_underlying hu, hfa, asAgg, hu2]
      · cases h
    · cases h
  · cases h

theorem unV_run {X : IntKind → Bool} {op : UnOp} {x r : SV} {v : Value} {φ : List Prop} (h : unV X op x = some (φ, r)) (hφ : All φ) (hx : Rep E T w x v) :
    ∃ u, Rep E T w r u ∧ ∀ w', (Op.unary op v).run P w' = .ok u w' := by
  unfold unV at h
  split at h
  · simp at h; obtain ⟨rfl, rfl⟩ := h
    cases hx with
    | bool b => exact ⟨_, .bool _, fun w' => by simp [Op.unary]⟩
  · cases hx with
    | int k n hr =>
      split at h <;> simp at h <;> obtain ⟨rfl, rfl⟩ := h
      · have hr' := hφ.one
        exact ⟨_, .int _ _ hr', fun w' => by have e := wrap_inR hr'; simp only [Op.unary, Op.intArith, Int.zero_sub, e, Sem.run_pure]⟩
      · exact ⟨_, .int _ _ (inR_wrap _ _), fun w' => by simp only [Op.unary, Op.intArith, Int.zero_sub, Sem.run_pure]⟩
  · simp at h; obtain ⟨rfl, rfl⟩ := h
    cases hx with
    | int k n hr => exact ⟨_, .int _ _ (inR_wrap _ _), fun w' => by simp [Op.unary, Op.intBits]⟩
  · cases h
end
end Go.Proofs.YtgpggoejkkhceaaDoor.V
