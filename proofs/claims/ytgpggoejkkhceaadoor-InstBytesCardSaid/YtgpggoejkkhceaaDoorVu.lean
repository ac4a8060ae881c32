/-
  A walk by abstract values: one state seen as another (blocks under other numbers, given up, or not there yet); loops.
-/
import Derived.Test.YtgpggoejkkhceaaDoorVt
import Derived.Deep.LoopGhost
namespace Go.Proofs.YtgpggoejkkhceaaDoor.V
open Go.RowKit

/-! ### What is asked -/
/-- Where a number comes from: the list's word; else it is the same. 'none': from nowhere (a slice that is nil). -/
def sg : List (Nat × Option Nat) → Nat → Option Nat
  | [], j => some j
  | (i, x) :: r, j => match Nat.beq i j with
    | true => x
    | false => sg r j
def hasB : Mem → Nat → Bool
  | [], _ => false
  | (i, _) :: r, j => Nat.beq i j || hasB r j
def fromB (σ : List (Nat × Option Nat)) (M' : Mem) (j i : Nat) : Bool :=
  hasB M' j && match sg σ j with
    | some i' => Nat.beq i' i
    | none => false
def bornB (σ : List (Nat × Option Nat)) (M' : Mem) (j : Nat) : Bool :=
  hasB M' j && match sg σ j with
    | some _ => false
    | none => true
/-- Is block i given up? -/
def goneB (σ : List (Nat × Option Nat)) (i : Nat) : Mem → Bool
  | [] => true
  | (j, _) :: r => (match sg σ j with
    | some i' => !(Nat.beq i' i)
    | none => true) && goneB σ i r
section
variable (σ : List (Nat × Option Nat)) (M M' : Mem)
mutual
def cvq : SV → SV → Option (List Prop)
  | .may g s, s' => match s' with
    | .may g' s1 => match cvq s s1 with
      | some φ => some ((g = g') :: φ.map (g → ·))
      | none => none
    | s' => match cvq s s' with
      | some φ => some (g :: φ)
      | none => none
  | .int k n, s' => match s' with
    | .int k' m => match kindB k k' with
      | true => some [n = m]
      | false => none
    | _ => none
  | .bool a, s' => match s' with
    | .bool b => some [a = b]
    | _ => none
  | .str a, s' => match s' with
    | .str b => some [a = b]
    | _ => none
  | .nilp, s' => match s' with
    | .nilp => some []
    | _ => none
  | .ptr i o, s' => match s' with
    | .ptr j o' => match fromB σ M' j i with
      | true => some [o = o']
      | false => none
    | _ => none
  | .pel i b z n o, s' => match s' with
    | .pel j b' z' n' o' => match fromB σ M' j i with
      | true => some [b = b' ∧ z = z' ∧ n = n' ∧ o = o']
      | false => none
    | _ => none
  | .rop e i j, s' => match s' with
    | .rop e' i' j' => some [e = e', i = i', j = j', pureE e]
    | _ => none
  | .nils, s' => match s' with
    | .nils => some []
    | .row j _ _ _ len => match bornB σ M' j with
      | true => some [len = 0]
      | false => none
    | .ro e => some [e.len = 0]
    | _ => none
  | .row i b z u n, s' => match s' with
    | .row j b' z' u' n' => match fromB σ M' j i with
      | true => some [b = b' ∧ z = z' ∧ u = u' ∧ n = n']
      | false => none
    | .ro e' => match goneB σ i M', runAt M i b with
      | true, some e => some [e.sz = z, pureE e, (u = 0 ∧ n = e.len ∧ e = e') ∨ (u + n ≤ e.len ∧ e.sub u n = e')]
      | _, _ => none
    | _ => none
  | .ro e, s' => match s' with
    | .ro e' => some [e = e', pureE e]
    | _ => none
  | .agg l, s' => match s' with
    | .agg l' => cvqL l l'
    | _ => none
  | .arr n e, s' => match s' with
    | .arr n' e' => some [n = n', e = e', pureE e]
    | _ => none
  | .tup l, s' => match s' with
    | .tup l' => cvqL l l'
    | _ => none
  | .fn f l, s' => match s' with
    | .fn f' l' => match Nat.beq f f' with
      | true => cvqL l l'
      | false => none
    | _ => none
  | .mv f l, s' => match s' with
    | .mv f' l' => match Nat.beq f f' with
      | true => cvqL l l'
      | false => none
    | _ => none
  | .ifc t s, s' => match s' with
    | .ifc t' s1 => match Nat.beq t t' with
      | true => cvq s s1
      | false => none
    | _ => none
  | .nili, s' => match s' with
    | .nili => some []
    | _ => none
  | .nilf, s' => match s' with
    | .nilf => some []
    | _ => none
  | .val x, s' => match s' with
    | .val y => some [x = y]
    | _ => none
def cvqL : List SV → List SV → Option (List Prop)
  | [], l' => match l' with
    | [] => some []
    | _ :: _ => none
  | s :: l, l' => match l' with
    | [] => none
    | s1 :: l1 => match cvq s s1 with
      | some φ => match cvqL l l1 with
        | some ψ => some (φ ++ ψ)
        | none => none
      | none => none
end
def cvqB (B B' : Blk) : Option (List Prop) :=
  match B, B' with
  | .cells t l, .cells t' l' => match Nat.beq t t' with
    | true => cvqL σ M M' l l'
    | false => none
  | .row t e, .row t' e' => match Nat.beq t t' with
    | true => some [e = e', pureE e]
    | false => none
  | .obj o, .obj o' => some [o = o']
  | _, _ => none
def cvqM : Mem → Option (List Prop)
  | [] => some []
  | (j, B') :: r => match (match sg σ j with
      | some i => match find M i with
        | some B => cvqB σ M M' B B'
        | none => none
      | none => match B' with
        | .row _ e => some [e.len = 0]
        | _ => none) with
    | some φ => match cvqM r with
      | some ψ => some (φ ++ ψ)
      | none => none
    | none => none
def cvqT : Tr → Tr → Option (List Prop)
  | _, .e => some []
  | .e, .n _ _ _ => none
  | .n l x r, .n l' x' r' => match (match x' with
      | none => some []
      | some s' => match x with
        | some s => cvq σ M M' s s'
        | none => none) with
    | some φ => match cvqT l l' with
      | some ψ => match cvqT r r' with
        | some χ => some (φ ++ (ψ ++ χ))
        | none => none
      | none => none
    | none => none
end
/-- Numbers that are used are used once, and are not among those that are left. -/
def injB (σ : List (Nat × Option Nat)) : Mem → Bool
  | [] => true
  | (j, _) :: r => (match sg σ j with
    | some i => goneB σ i r
    | none => true) && injB σ r
def freeB (M' : Mem) : List Nat → Bool
  | [] => true
  | i :: r => !(hasB M' i) && !(r.elem i) && freeB M' r
/-- Numbers that have to stay what they were. -/
def pinB (σ : List (Nat × Option Nat)) (M' : Mem) : List Nat → Bool
  | [] => true
  | j :: r => (match hasB M' j with
    | true => match sg σ j with
      | some i => Nat.beq i j
      | none => false
    | false => false) && pinB σ M' r
def intoF (pins : List Nat) (σ : List (Nat × Option Nat)) (F : Tr) (M : Mem) (F' : Tr) (M' : Mem) (ids' : List Nat) : Option (List Prop) :=
  match injB σ M' && freeB M' ids' && pinB σ M' pins with
  | true => match cvqM σ M M' M' with
    | some φ => match cvqT σ M M' F F' with
      | some ψ => fP (φ ++ ψ) some
      | none => none
    | none => none
  | false => none

/-! ### What it says -/
theorem hasB_iff : ∀ {M : Mem} {j : Nat}, hasB M j = true ↔ (find M j).isSome = true
  | [], j => by simp [hasB, find]
  | (i, B) :: r, j => by
    simp only [hasB, find_cons, Bool.or_eq_true, hasB_iff (M := r)]
    by_cases h : j = i
    · subst h; simp
    · rw [if_neg h]
      constructor
      · rintro (h1 | h1)
        · exact absurd (Nat.eq_of_beq_eq_true h1).symm h
        · exact h1
      · exact .inr
/-- Which block a number stands for then. -/
def envOf (σ : List (Nat × Option Nat)) (M' : Mem) (E : Env) : Env := fun j =>
  if hasB M' j = true then (match sg σ j with | some i => E i | none => some none) else none
theorem env_from {σ : List (Nat × Option Nat)} {M' : Mem} {E : Env} {j i : Nat} (h : fromB σ M' j i = true) : envOf σ M' E j = E i := by
  simp only [fromB, Bool.and_eq_true] at h
  obtain ⟨h1, h2⟩ := h
  unfold envOf
  rw [if_pos h1]
  split at h2
  · rw [Nat.eq_of_beq_eq_true h2]
  · cases h2
theorem env_born {σ : List (Nat × Option Nat)} {M' : Mem} {E : Env} {j : Nat} (h : bornB σ M' j = true) : envOf σ M' E j = some none := by
  simp only [bornB, Bool.and_eq_true] at h
  obtain ⟨h1, h2⟩ := h
  unfold envOf
  rw [if_pos h1]
  split at h2
  · cases h2
  · rfl

section
variable {σ : List (Nat × Option Nat)} {M M' : Mem} {E : Env} {T T' : Nat → Prop} {w : World}
theorem AllP.app : ∀ {φ ψ : List Prop}, AllP (φ ++ ψ) → AllP φ ∧ AllP ψ
  | [], _, h => ⟨trivial, h⟩
  | _ :: _, _, h => ⟨⟨h.1, (AllP.app h.2).1⟩, (AllP.app h.2).2⟩
theorem AllP.imp {g : Prop} (hg : g) : ∀ {φ : List Prop}, AllP (φ.map (g → ·)) → AllP φ
  | [], _ => trivial
  | _ :: _, h => ⟨h.1 hg, AllP.imp hg h.2⟩
theorem pure_to (hT : ∀ b, b < w.heap.size → T' b → T b) {E' : Env} {s : SV} {v : Value} (h : Rep E T w s v) (hp : pureS s) : Rep E' T' w s v := by
  have h1 : Rep (fun _ => none) T w s v := h.free_ hp
  exact h1.mono (fun i b hi => by cases hi) hT (Chg.refl _ w)
theorem cvq_one {s s' : SV} {φ : List Prop} (h : cvq σ M M' s s' = some φ) (h1 : s.one = true) : s'.one = true := by
  cases s <;> simp [SV.one] at h1 <;> cases s' <;> first | rfl | (simp [cvq] at h; done)
theorem cvq_arr {n : Nat} {e : EV} {s' : SV} {φ : List Prop} (h : cvq σ M M' (.arr n e) s' = some φ) (hφ : AllP φ) : s' = .arr n e ∧ pureE e := by
  cases s' <;> simp only [cvq] at h <;> first | (cases h; done) | skip
  simp only [Option.some.injEq] at h
  subst h
  obtain ⟨rfl, rfl, hp, _⟩ := hφ
  exact ⟨rfl, hp⟩
mutual
theorem cvq_ok (H : MOk E T M w) (hT : ∀ b, b < w.heap.size → T' b → T b) (hg : ∀ i b, goneB σ i M' = true → (find M i).isSome = true → E i = some (some b) → ¬ T' b) :
    ∀ (s s' : SV) {φ : List Prop} {v : Value}, cvq σ M M' s s' = some φ → AllP φ → Rep E T w s v → Rep (envOf σ M' E) T' w s' v
  | .may g s, s', φ, v, h, hφ, hr => by
    have key : ∀ s1, (∀ {φ : List Prop} {v : Value}, cvq σ M M' s s1 = some φ → AllP φ → Rep E T w s v → Rep (envOf σ M' E) T' w s1 v) := fun s1 => cvq_ok H hT hg s s1
    cases s' with
    | may g' s1 =>
      simp only [cvq] at h
      split at h
      · rename_i ψ hψ
        simp only [Option.some.injEq] at h
        subst h
        obtain ⟨rfl, h2⟩ := hφ
        cases hr with
        | may1 _ _ _ hgg hr' => exact .may1 _ _ _ hgg (key s1 hψ (AllP.imp hgg h2) hr')
        | may0 _ _ hgg => exact .may0 _ _ hgg
      · cases h
    | _ =>
      simp only [cvq] at h
      split at h
      · rename_i ψ hψ
        simp only [Option.some.injEq] at h
        subst h
        exact key _ hψ hφ.2 (hr.unmay hφ.1)
      · cases h
  | .int k n, s', φ, v, h, hφ, hr => by
    cases s' <;> simp only [cvq] at h <;> first | (cases h; done) | skip
    split at h
    · rename_i hk
      cases kindB_eq hk
      simp only [Option.some.injEq] at h
      subst h
      obtain ⟨rfl, _⟩ := hφ
      exact pure_to hT hr (by simp [pureS])
    · cases h
  | .bool a, s', φ, v, h, hφ, hr => by
    cases s' <;> simp only [cvq] at h <;> first | (cases h; done) | skip
    simp only [Option.some.injEq] at h
    subst h
    obtain ⟨rfl, _⟩ := hφ
    exact pure_to hT hr (by simp [pureS])
  | .str a, s', φ, v, h, hφ, hr => by
    cases s' <;> simp only [cvq] at h <;> first | (cases h; done) | skip
    simp only [Option.some.injEq] at h
    subst h
    obtain ⟨rfl, _⟩ := hφ
    exact pure_to hT hr (by simp [pureS])
  | .nilp, s', φ, v, h, hφ, hr => by
    cases s' <;> simp only [cvq] at h <;> first | (cases h; done) | skip
    exact pure_to hT hr (by simp [pureS])
  | .ptr i o, s', φ, v, h, hφ, hr => by
    cases s' <;> simp only [cvq] at h <;> first | (cases h; done) | skip
    split at h
    · rename_i hf
      simp only [Option.some.injEq] at h
      subst h
      obtain ⟨rfl, _⟩ := hφ
      cases hr with
      | ptr _ _ b hE => exact .ptr _ _ b ((env_from hf).trans hE)
    · cases h
  | .pel i b z n o, s', φ, v, h, hφ, hr => by
    cases s' <;> simp only [cvq] at h <;> first | (cases h; done) | skip
    split at h
    · rename_i hf
      simp only [Option.some.injEq] at h
      subst h
      obtain ⟨⟨rfl, rfl, rfl, rfl⟩, _⟩ := hφ
      cases hr with
      | pel _ _ _ _ _ b hE => exact .pel _ _ _ _ _ b ((env_from hf).trans hE)
    · cases h
  | .rop e i j, s', φ, v, h, hφ, hr => by
    cases s' <;> simp only [cvq] at h <;> first | (cases h; done) | skip
    simp only [Option.some.injEq] at h
    subst h
    obtain ⟨rfl, rfl, rfl, hp, _⟩ := hφ
    exact pure_to hT hr (by simpa only [pureS] using hp)
  | .nils, s', φ, v, h, hφ, hr => by
    cases s' <;> simp only [cvq] at h <;> first | (cases h; done) | skip
    · exact pure_to hT hr (by simp [pureS])
    · split at h
      · rename_i hb
        simp only [Option.some.injEq] at h
        subst h
        cases hr
        exact .row0 _ _ _ _ _ (env_born hb) hφ.1
      · cases h
    · simp only [Option.some.injEq] at h
      subst h
      cases hr
      exact .ro0 _ hφ.1
  | .row i b z u n, s', φ, v, h, hφ, hr => by
    cases s' <;> simp only [cvq] at h <;> first | (cases h; done) | skip
    · split at h
      · rename_i hf
        simp only [Option.some.injEq] at h
        subst h
        obtain ⟨⟨rfl, rfl, rfl, rfl⟩, _⟩ := hφ
        cases hr with
        | row _ _ _ _ _ b o c n t hE hs ho hl ok => exact .row _ _ _ _ _ b o c n t ((env_from hf).trans hE) hs ho hl ok
        | row0 _ _ _ _ _ hE hl => exact .row0 _ _ _ _ _ ((env_from hf).trans hE) hl
      · cases h
    · split at h
      · rename_i e hgone hrun
        simp only [Option.some.injEq] at h
        subst h
        obtain ⟨rfl, hp, hq, _⟩ := hφ
        have hone : MOk E T (keep M [i]) w := H.le fun id B hf => (keep_find hf).2
        have hrun' : runAt (keep M [i]) i b = some e := by
          rw [← hrun]
          refine runAt_same ?_
          have := runAt_find hrun
          obtain ⟨B, hB⟩ := Option.isSome_iff_exists.1 this
          simp [keep, hB, find_cons]
        have ho : ∀ id b, (find (keep M [i]) id).isSome = true → E id = some (some b) → ¬ T' b := fun id b hf hE => by
          obtain ⟨B, hB⟩ := Option.isSome_iff_exists.1 hf
          obtain ⟨h1, h2⟩ := keep_find hB
          simp at h1
          subst h1
          exact hg id b hgone (by rw [h2]; rfl) hE
        refine Rep.up ?_
        rcases hq with ⟨rfl, rfl, rfl⟩ | ⟨hle, rfl⟩
        · exact Conv.ok hone hT ho (.all i b _ _ e hrun' rfl rfl hp) hr
        · exact Conv.ok hone hT ho (.row i b _ u n e hrun' rfl hle hp) hr
      · cases h
  | .ro e, s', φ, v, h, hφ, hr => by
    cases s' <;> simp only [cvq] at h <;> first | (cases h; done) | skip
    simp only [Option.some.injEq] at h
    subst h
    obtain ⟨rfl, hp, _⟩ := hφ
    exact pure_to hT hr (by simpa only [pureS] using hp)
  | .agg l, s', φ, v, h, hφ, hr => by
    have key : ∀ l' {φ : List Prop} {cs : List Value}, cvqL σ M M' l l' = some φ → AllP φ → Items E T w l cs → Items (envOf σ M' E) T' w l' cs := fun l' => cvqL_items H hT hg l l'
    cases s' <;> simp only [cvq] at h <;> first | (cases h; done) | skip
    cases hr with
    | agg _ cs hI => exact .agg _ _ (key _ h hφ hI)
  | .arr n e, s', φ, v, h, hφ, hr => by
    obtain ⟨rfl, hp⟩ := cvq_arr h hφ
    exact pure_to hT hr (by simpa only [pureS] using hp)
  | .tup l, s', φ, v, h, hφ, hr => by
    have key : ∀ l' {φ : List Prop} {cs : List Value}, cvqL σ M M' l l' = some φ → AllP φ → Tup E T w l cs → Tup (envOf σ M' E) T' w l' cs := fun l' => cvqL_tup H hT hg l l'
    cases s' <;> simp only [cvq] at h <;> first | (cases h; done) | skip
    cases hr with
    | tup _ vs ht => exact .tup _ _ (key _ h hφ ht)
  | .fn f l, s', φ, v, h, hφ, hr => by
    have key : ∀ l' {φ : List Prop} {cs : List Value}, cvqL σ M M' l l' = some φ → AllP φ → Tup E T w l cs → Tup (envOf σ M' E) T' w l' cs := fun l' => cvqL_tup H hT hg l l'
    cases s' <;> simp only [cvq] at h <;> first | (cases h; done) | skip
    split at h
    · rename_i hf
      cases Nat.eq_of_beq_eq_true hf
      cases hr with
      | fn _ _ vs ht => exact .fn _ _ _ (key _ h hφ ht)
    · cases h
  | .mv f l, s', φ, v, h, hφ, hr => by
    have key : ∀ l' {φ : List Prop} {cs : List Value}, cvqL σ M M' l l' = some φ → AllP φ → Tup E T w l cs → Tup (envOf σ M' E) T' w l' cs := fun l' => cvqL_tup H hT hg l l'
    cases s' <;> simp only [cvq] at h <;> first | (cases h; done) | skip
    split at h
    · rename_i hf
      cases Nat.eq_of_beq_eq_true hf
      cases hr with
      | mv _ _ vs ht => exact .mv _ _ _ (key _ h hφ ht)
    · cases h
  | .ifc t s, s', φ, v, h, hφ, hr => by
    have key : ∀ s1, (∀ {φ : List Prop} {v : Value}, cvq σ M M' s s1 = some φ → AllP φ → Rep E T w s v → Rep (envOf σ M' E) T' w s1 v) := fun s1 => cvq_ok H hT hg s s1
    cases s' <;> simp only [cvq] at h <;> first | (cases h; done) | skip
    split at h
    · rename_i hf
      cases Nat.eq_of_beq_eq_true hf
      cases hr with
      | ifc _ _ v hr' => exact .ifc _ _ _ (key _ h hφ hr')
    · cases h
  | .nili, s', φ, v, h, hφ, hr => by
    cases s' <;> simp only [cvq] at h <;> first | (cases h; done) | skip
    exact pure_to hT hr (by simp [pureS])
  | .nilf, s', φ, v, h, hφ, hr => by
    cases s' <;> simp only [cvq] at h <;> first | (cases h; done) | skip
    exact pure_to hT hr (by simp [pureS])
  | .val x, s', φ, v, h, hφ, hr => by
    cases s' <;> simp only [cvq] at h <;> first | (cases h; done) | skip
    simp only [Option.some.injEq] at h
    subst h
    obtain ⟨rfl, _⟩ := hφ
    exact pure_to hT hr (by simp [pureS])
theorem cvqL_items (H : MOk E T M w) (hT : ∀ b, b < w.heap.size → T' b → T b) (hg : ∀ i b, goneB σ i M' = true → (find M i).isSome = true → E i = some (some b) → ¬ T' b) :
    ∀ (l l' : List SV) {φ : List Prop} {cs : List Value}, cvqL σ M M' l l' = some φ → AllP φ → Items E T w l cs → Items (envOf σ M' E) T' w l' cs
  | [], l', φ, cs, h, hφ, hI => by
    cases l' <;> simp only [cvqL] at h <;> first | (cases h; done) | skip
    cases hI
    exact .nil
  | s :: l, l', φ, cs, h, hφ, hI => by
    have k1 : ∀ s1, (∀ {φ : List Prop} {v : Value}, cvq σ M M' s s1 = some φ → AllP φ → Rep E T w s v → Rep (envOf σ M' E) T' w s1 v) := fun s1 => cvq_ok H hT hg s s1
    have k2 : ∀ l' {φ : List Prop} {cs : List Value}, cvqL σ M M' l l' = some φ → AllP φ → Items E T w l cs → Items (envOf σ M' E) T' w l' cs := fun l' => cvqL_items H hT hg l l'
    cases l' with
    | nil => simp only [cvqL] at h; cases h
    | cons s1 l1 =>
      simp only [cvqL] at h
      split at h
      · rename_i φ1 h1
        split at h
        · rename_i φ2 h2
          simp only [Option.some.injEq] at h
          subst h
          obtain ⟨p1, p2⟩ := AllP.app hφ
          cases hI with
          | one _ c _ r hone hr hI' => exact .one _ _ _ _ (cvq_one h1 hone) (k1 s1 h1 p1 hr) (k2 l1 h2 p2 hI')
          | arr n e _ c1 r hr hI' =>
            have := k1 s1 h1 p1 hr
            obtain ⟨rfl, _⟩ := cvq_arr h1 p1
            exact .arr _ _ _ _ _ this (k2 l1 h2 p2 hI')
        · cases h
      · cases h
theorem cvqL_tup (H : MOk E T M w) (hT : ∀ b, b < w.heap.size → T' b → T b) (hg : ∀ i b, goneB σ i M' = true → (find M i).isSome = true → E i = some (some b) → ¬ T' b) :
    ∀ (l l' : List SV) {φ : List Prop} {cs : List Value}, cvqL σ M M' l l' = some φ → AllP φ → Tup E T w l cs → Tup (envOf σ M' E) T' w l' cs
  | [], l', φ, cs, h, hφ, hI => by
    cases l' <;> simp only [cvqL] at h <;> first | (cases h; done) | skip
    cases hI
    exact .nil
  | s :: l, l', φ, cs, h, hφ, hI => by
    have k1 : ∀ s1, (∀ {φ : List Prop} {v : Value}, cvq σ M M' s s1 = some φ → AllP φ → Rep E T w s v → Rep (envOf σ M' E) T' w s1 v) := fun s1 => cvq_ok H hT hg s s1
    have k2 : ∀ l' {φ : List Prop} {cs : List Value}, cvqL σ M M' l l' = some φ → AllP φ → Tup E T w l cs → Tup (envOf σ M' E) T' w l' cs := fun l' => cvqL_tup H hT hg l l'
    cases l' with
    | nil => simp only [cvqL] at h; cases h
    | cons s1 l1 =>
      simp only [cvqL] at h
      split at h
      · rename_i φ1 h1
        split at h
        · rename_i φ2 h2
          simp only [Option.some.injEq] at h
          subst h
          obtain ⟨p1, p2⟩ := AllP.app hφ
          cases hI with
          | cons _ v _ r hr hI' => exact .cons _ _ _ _ (k1 s1 h1 p1 hr) (k2 l1 h2 p2 hI')
        · cases h
      · cases h
end
end
end Go.Proofs.YtgpggoejkkhceaaDoor.V
