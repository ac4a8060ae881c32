/-
  A walk by abstract values: one state seen as another; loops.
-/
import Derived.Test.YtgpggoejkkhceaaDoorVu
import Derived.LoopN
namespace Go.Proofs.YtgpggoejkkhceaaDoor.V
open Go.RowKit

section
variable {σ : List (Nat × Option Nat)} {M M' : Mem} {E : Env} {T T' : Nat → Prop} {w : World}
theorem goneB_at {i : Nat} : ∀ {L : Mem} {j : Nat}, goneB σ i L = true → (find L j).isSome = true → sg σ j ≠ some i
  | [], j, _, h => by simp [find] at h
  | (j0, B) :: r, j, hg, h => by
    simp only [goneB, Bool.and_eq_true] at hg
    rw [find_cons] at h
    split at h
    · rename_i e
      subst e
      intro hs
      have := hg.1
      rw [hs] at this
      simp at this
    · exact goneB_at hg.2 h
theorem injB_at : ∀ {L : Mem} {j j' i : Nat}, injB σ L = true → (find L j).isSome = true → (find L j').isSome = true → sg σ j = some i → sg σ j' = some i → j = j'
  | [], j, j', i, _, h, _, _, _ => by simp [find] at h
  | (j0, B) :: r, j, j', i, hi, h1, h2, h3, h4 => by
    simp only [injB, Bool.and_eq_true] at hi
    rw [find_cons] at h1 h2
    by_cases e1 : j = j0
    · by_cases e2 : j' = j0
      · omega
      · rw [if_neg e2] at h2
        subst e1
        have := hi.1
        rw [h3] at this
        exact absurd h4 (goneB_at this h2)
    · by_cases e2 : j' = j0
      · rw [if_neg e1] at h1
        subst e2
        have := hi.1
        rw [h4] at this
        exact absurd h3 (goneB_at this h1)
      · rw [if_neg e1] at h1
        rw [if_neg e2] at h2
        exact injB_at hi.2 h1 h2 h3 h4
theorem cvqM_at : ∀ {L : Mem} {φ : List Prop} {j : Nat} {B' : Blk}, cvqM σ M M' L = some φ → AllP φ → find L j = some B' →
    (∃ i B ψ, sg σ j = some i ∧ find M i = some B ∧ cvqB σ M M' B B' = some ψ ∧ AllP ψ) ∨ (sg σ j = none ∧ ∃ t e, B' = .row t e ∧ e.len = 0)
  | [], φ, j, B', _, _, h => by simp [find] at h
  | (j0, B0) :: r, φ, j, B', h, hφ, hf => by
    simp only [cvqM] at h
    split at h
    · rename_i φ1 h1
      split at h
      · rename_i φ2 h2
        simp only [Option.some.injEq] at h
        subst h
        obtain ⟨p1, p2⟩ := AllP.app hφ
        rw [find_cons] at hf
        split at hf
        · rename_i e
          subst e
          cases hf
          split at h1
          · rename_i i hi
            split at h1
            · rename_i B hB
              exact .inl ⟨i, B, φ1, hi, hB, h1, p1⟩
            · cases h1
          · rename_i hi
            split at h1
            · rename_i t e
              simp only [Option.some.injEq] at h1
              subst h1
              exact .inr ⟨hi, t, e, rfl, p1.1⟩
            · cases h1
        · exact cvqM_at h2 p2 hf
      · cases h
    · cases h
theorem cvqT_at : ∀ {F F' : Tr} {φ : List Prop} {t : Nat} {s' : SV}, cvqT σ M M' F F' = some φ → AllP φ → F'.get t = some s' → ∃ s ψ, F.get t = some s ∧ cvq σ M M' s s' = some ψ ∧ AllP ψ
  | F, .e, φ, t, s', _, _, h => by simp [Tr.get] at h
  | .e, .n _ _ _, φ, t, s', h, _, _ => by simp [cvqT] at h
  | .n l x r, .n l' x' r', φ, t, s', h, hφ, hg => by
    simp only [cvqT] at h
    split at h
    · rename_i φ1 h1
      split at h
      · rename_i φ2 h2
        split at h
        · rename_i φ3 h3
          simp only [Option.some.injEq] at h
          subst h
          obtain ⟨p1, p23⟩ := AllP.app hφ
          obtain ⟨p2, p3⟩ := AllP.app p23
          cases t with
          | zero =>
            simp only [Tr.get] at hg ⊢
            subst hg
            simp only at h1
            cases x with
            | none => simp at h1
            | some s => exact ⟨s, φ1, rfl, h1, p1⟩
          | succ t =>
            simp only [Tr.get] at hg ⊢
            cases hb : Nat.beq (Nat.mod t 2) 0 with
            | true => rw [hb] at hg; exact cvqT_at h2 p2 hg
            | false => rw [hb] at hg; exact cvqT_at h3 p3 hg
        · cases h
      · cases h
    · cases h
theorem freeB_sup : ∀ {l : List Nat}, freeB M' l = true → Sup l fun k => hasB M' k = false
  | [], _ => trivial
  | i :: r, h => by
    simp only [freeB, Bool.and_eq_true, Bool.not_eq_true'] at h
    have key : ∀ {l : List Nat} {U U' : Nat → Prop}, (∀ k ∈ l, U k → U' k) → Sup l U → Sup l U' := by
      intro l
      induction l with
      | nil => intro _ _ _ _; trivial
      | cons j l ih =>
        intro U U' hu hs
        exact ⟨hu j (List.mem_cons_self ..) hs.1, ih (fun k hk hr => ⟨hu k (List.mem_cons_of_mem _ hk) hr.1, hr.2⟩) hs.2⟩
    refine ⟨h.1.1, key (fun k hk hu => ⟨hu, fun e => ?_⟩) (freeB_sup h.2)⟩
    subst e
    have := h.1.2
    simp at this
    exact this hk
end

section
variable {X : IntKind → Bool} {C : Ctx} {Q0 : Exit → Act → World → Prop} {σ : List (Nat × Option Nat)} {F F' : Tr} {M M' : Mem} {ids ids' : List Nat} {k : List Kont}
/-- One state seen as another. -/
theorem pinB_at : ∀ {l : List Nat} {j : Nat}, pinB σ M' l = true → l.elem j = true → hasB M' j = true ∧ sg σ j = some j
  | [], j, _, hj => by cases hj
  | i :: r, j, h, hj => by
    simp only [pinB, Bool.and_eq_true] at h
    have hj' : j = i ∨ r.elem j = true := by
      unfold List.elem at hj
      split at hj
      · rename_i hji; exact .inl (eq_of_beq hji)
      · exact .inr hj
    rcases hj' with rfl | hj
    · have h1 := h.1
      split at h1
      · rename_i hb
        split at h1
        · rename_i i hs
          cases Nat.eq_of_beq_eq_true h1
          exact ⟨hb, hs⟩
        · cases h1
      · cases h1
    · exact pinB_at h.2 hj
theorem into_ok {U : Nat → Prop} {E : Env} {a : Act} {w : World} {φ : List Prop} (hst : St C F M U E a w) (h : intoF C.pins σ F M F' M' ids' = some φ) (hφ : AllP φ) : ∃ U' E', Sup ids' U' ∧ St C F' M' U' E' a w := by
  unfold intoF at h
  split at h
  · rename_i hB
    simp only [Bool.and_eq_true] at hB
    obtain ⟨hB, hpin⟩ := hB
    split at h
    · rename_i φ1 hM
      split at h
      · rename_i φ2 hF
        rw [fP_eq] at h
        simp only [Option.some.injEq] at h
        subst h
        obtain ⟨p1, p2⟩ := AllP.app hφ
        have hfrom : ∀ j b, (find M' j).isSome = true → envOf σ M' E j = some (some b) → ∃ i, sg σ j = some i ∧ E i = some (some b) ∧ (find M i).isSome = true := fun j b hj hE => by
          obtain ⟨B', hB'⟩ := Option.isSome_iff_exists.1 hj
          unfold envOf at hE
          rw [if_pos (hasB_iff.2 hj)] at hE
          rcases cvqM_at hM p1 hB' with ⟨i, B, _, h1, h2, _, _⟩ | ⟨h1, _⟩
          · rw [h1] at hE
            exact ⟨i, h1, hE, by rw [h2]; rfl⟩
          · rw [h1] at hE
            simp at hE
        have hT0 : ∀ b, trk C.T0 M' (envOf σ M' E) b → trk C.T0 M E b := by
          rintro b (⟨j, B', h1, h2⟩ | h0)
          · obtain ⟨i, _, h4, h5⟩ := hfrom j b (by rw [h1]; rfl) h2
            obtain ⟨B, hB⟩ := Option.isSome_iff_exists.1 h5
            exact .inl ⟨i, B, hB, h4⟩
          · exact .inr h0
        have hT : ∀ b, b < w.heap.size → trk C.T0 M' (envOf σ M' E) b → trk C.T0 M E b := fun b _ => hT0 b
        have hg : ∀ i b, goneB σ i M' = true → (find M i).isSome = true → E i = some (some b) → ¬ trk C.T0 M' (envOf σ M' E) b := by
          rintro i b hgone hfi hEi (⟨j, B', h1, h2⟩ | h0)
          · obtain ⟨i', h3, h4, h5⟩ := hfrom j b (by rw [h1]; rfl) h2
            have := hst.mem.inj i i' b hfi h5 hEi h4
            subst this
            exact goneB_at hgone (by rw [h1]; rfl) h3
          · exact hst.apart i b hfi hEi h0
        refine ⟨fun j => hasB M' j = false, envOf σ M' E, freeB_sup hB.2, hst.defers, hst.size, fun t s' hs => ?_, ⟨fun j B' hj => ?_, fun j j' b h1 h2 h3 h4 => ?_⟩, fun j b h1 h2 => ?_, fun j hj => ?_, hst.kp, hst.hid, hst.glob.mono hT (Chg.refl _ w), fun id b h1 h2 => ?_⟩
        · obtain ⟨s, ψ, h1, h2, h3⟩ := cvqT_at hF p2 hs
          exact cvq_ok hst.mem hT hg s s' h2 h3 (hst.slots t s h1)
        · rcases cvqM_at hM p1 hj with ⟨i, B, ψ, h1, h2, h3, h4⟩ | ⟨h1, t, e, rfl, h3⟩
          · have hEj : envOf σ M' E j = E i := by
              unfold envOf
              rw [if_pos (hasB_iff.2 (by rw [hj]; rfl)), h1]
            rw [hEj]
            rcases hst.mem.blk i B h2 with ⟨b, q1, q2, q3⟩ | ⟨q1, t, e, rfl, q2⟩
            · left
              refine ⟨b, q1, q2, ?_⟩
              unfold cvqB at h3
              split at h3
              · split at h3
                · rename_i htt
                  cases Nat.eq_of_beq_eq_true htt
                  obtain ⟨cs, r1, r2⟩ := q3
                  exact ⟨cs, r1, cvqL_items hst.mem hT hg _ _ h3 h4 r2⟩
                · cases h3
              · split at h3
                · rename_i htt
                  cases Nat.eq_of_beq_eq_true htt
                  simp only [Option.some.injEq] at h3
                  subst h3
                  obtain ⟨rfl, hp, _⟩ := h4
                  obtain ⟨cs, c, r1, r2, r3, r4, r5⟩ := q3
                  refine ⟨cs, c, r1, r2, r3, r4, fun n hn => ?_⟩
                  have : Items (fun _ => none) (trk C.T0 M E) w _ (c n) := Items.free_ (r5 n hn) (hp.items hn)
                  exact this.mono (fun _ _ h => by cases h) hT (Chg.refl _ w)
                · cases h3
              · simp only [Option.some.injEq] at h3
                subst h3
                obtain ⟨rfl, _⟩ := h4
                exact q3
              · cases h3
            · right
              refine ⟨q1, ?_⟩
              cases B' with
              | cells t' l' => simp [cvqB] at h3
              | row t' e' =>
                simp only [cvqB] at h3
                split at h3
                · simp only [Option.some.injEq] at h3
                  subst h3
                  obtain ⟨rfl, _⟩ := h4
                  exact ⟨_, _, rfl, q2⟩
                · cases h3
              | obj o => simp [cvqB] at h3
          · right
            refine ⟨?_, t, e, rfl, h3⟩
            unfold envOf
            rw [if_pos (hasB_iff.2 (by rw [hj]; rfl)), h1]
        · obtain ⟨i, k1, k2, k3⟩ := hfrom j b h1 h3
          obtain ⟨i', l1, l2, l3⟩ := hfrom j' b h2 h4
          have := hst.mem.inj i i' b k3 l3 k2 l2
          subst this
          exact injB_at hB.1 h1 h2 k1 l1
        · obtain ⟨i, k1, k2, k3⟩ := hfrom j b h1 h2
          exact hst.own i b k3 k2
        · unfold envOf
          rw [if_neg (by rw [hj]; simp)]
        · obtain ⟨q1, q2⟩ := pinB_at hpin h1
          unfold envOf
          rw [if_pos q1, q2]
          exact hst.pin id b h1 h2
      · cases h
    · cases h
  · cases h

theorem Sat.into {c : Code} {φ : List Prop} (σ : List (Nat × Option Nat)) (h : intoF C.pins σ F M F' M' ids' = some φ) (hφ : AllP φ) (hn : Sat C Q0 (.code c F' M' ids' k)) : Sat C Q0 (.code c F M ids k) := by
  intro U E a w hsup hst
  obtain ⟨U', E', h1, h2⟩ := into_ok hst h hφ
  exact hn U' E' a w h1 h2
theorem Sat.intoE {e : Ex} {φ : List Prop} (σ : List (Nat × Option Nat)) (h : intoF C.pins σ F M F' M' ids' = some φ) (hφ : AllP φ) (hn : Sat C Q0 (.ext e F' M' ids' k)) : Sat C Q0 (.ext e F M ids k) := by
  intro U E a w hsup hst
  obtain ⟨U', E', h1, h2⟩ := into_ok hst h hφ
  exact hn U' E' a w h1 h2

/-! ### Loops -/
/-- What holds where a round ends that is walked by itself: n more may come. -/
def RoundsI (C : Ctx) (Q0 : Exit → Act → World → Prop) (k : List Kont) (body : Code) (n : Nat) : Act → World → Prop := Code.rounds C.P body (Kq C.P Q0 k) n
/-- A loop, round by round. -/
theorem Sat.unroll {body : Code} (n : Nat) (h : Sat C Q0 (.code body F M ids (.lp (RoundsI C Q0 k body n) :: k))) : Sat C Q0 (.code (.loop body) F M ids k) :=
  fun U E a w hsup hst => wp_loop_rounds (n + 1) (h U E a w hsup hst)
theorem Sat.again {body : Code} {n : Nat} (h : Sat C Q0 (.code body F M ids (.lp (RoundsI C Q0 k body n) :: k))) : Sat C Q0 (.ext .normal F M ids (.lp (RoundsI C Q0 k body (n + 1)) :: k)) :=
  fun U E a w hsup hst => h U E a w hsup hst
def dstsO : List Oper → List Nat → List Nat
  | [], acc => acc
  | o :: r, acc => match o.dst with
    | some d => dstsO r (d :: acc)
    | none => dstsO r acc
/-- The slots that code writes. -/
def dstsC : Code → List Nat → List Nat
  | .region _ ⟨ops⟩ _, acc => dstsO ops acc
  | .seq a b, acc => dstsC a (dstsC b acc)
  | .cond _ a b, acc => dstsC a (dstsC b acc)
  | .block _ a, acc => dstsC a acc
  | .loop a, acc => dstsC a acc
  | .scope a, acc => dstsC a acc
  | _, acc => acc
def killF : List Nat → Tr → (Tr → Option Tr) → Option Tr
  | [], F, K => K F
  | d :: r, F, K => F.putK d none fun F' => killF r F' K
def putL : List (Nat × SV) → Tr → Option Tr
  | [], F => some F
  | (d, s) :: r, F => F.putK d (some s) fun F' => putL r F'
/-- Without what is there under a condition alone. -/
def dropMay {α : Type} : Tr → (Tr → Option α) → Option α
  | .e, K => K .e
  | .n l x r, K => dropMay l fun l' => dropMay r fun r' => match x with
    | some (.may _ _) => K (.n l' none r')
    | x => K (.n l' x r')
def headT (F : Tr) (c : Code) (l : List (Nat × SV)) : Option Tr := killF (dstsC c []) F fun F' => dropMay F' (putL l)
def dropM (dm : List Nat) : Mem → (Mem → Option Mem) → Option Mem
  | [], K => K []
  | (i, B) :: r, K => match dm.elem i with
    | true => dropM dm r K
    | false => dropM dm r fun r' => K ((i, B) :: r')
def setM : List (Nat × Blk) → Mem → Option Mem
  | [], M => some M
  | (i, B) :: r, M => match upd M i B with
    | some M' => setM r M'
    | none => setM r ((i, B) :: M)
def headM (M : Mem) (dm : List Nat) (l : List (Nat × Blk)) : Option Mem := dropM dm M (setM l)
def dropN : List Nat → Nat → Option (List Nat)
  | l, 0 => some l
  | [], _ + 1 => none
  | _ :: r, n + 1 => dropN r n
/-- What holds where a round ends: a smaller state. -/
def BackI (C : Ctx) (ids : List Nat) {α : Type} (Fh : α → Tr) (Mh : α → Mem) (Cx : α → Prop) (m : α → Nat) (x : α) (a : Act) (w : World) : Prop :=
  ∃ x', Cx x' ∧ m x' < m x ∧ ∃ U E, Sup ids U ∧ St C (Fh x') (Mh x') U E a w
/-- A loop: x: where it stands; fr, mr: the slots and the blocks then (the slots that the body writes are not known else); dm: blocks that are not there at its head; σ: where the head's blocks come from; n: how many numbers the head takes. -/
theorem Sat.loop {α : Type} {body : Code} {Fh : α → Tr} {Mh : α → Mem} {φ : List Prop} (Cx : α → Prop) (m : α → Nat) (x0 : α) (fr : α → List (Nat × SV)) (mr : α → List (Nat × Blk)) (dm : List Nat) (σ : List (Nat × Option Nat)) (n : Nat)
    (_hF : ∀ x, headT F body (fr x) = some (Fh x)) (_hM : ∀ x, headM M dm (mr x) = some (Mh x)) (_hi : dropN ids n = some ids') (hin : intoF C.pins σ F M (Fh x0) (Mh x0) ids' = some φ) (hφ : AllP φ) (h0 : Cx x0)
    (step : ∀ x, Cx x → Sat C Q0 (.code body (Fh x) (Mh x) ids' (.lp (BackI C ids' Fh Mh Cx m x) :: k))) : Sat C Q0 (.code (.loop body) F M ids k) := by
  intro U E a w hsup hst
  obtain ⟨U', E', h1, h2⟩ := into_ok hst hin hφ
  refine wp_loop_ghost (fun n a w => ∃ x, Cx x ∧ m x = n ∧ ∃ U E, Sup ids' U ∧ St C (Fh x) (Mh x) U E a w) (m x0) ⟨x0, h0, rfl, U', E', h1, h2⟩ ?_
  rintro n a w ⟨x, hx, rfl, U, E, hs, hst⟩
  refine wp_mono (step x hx U E a w hs hst) ?_
  intro e a' w' hq
  cases e with
  | normal =>
    obtain ⟨x', q1, q2, U2, E2, q3, q4⟩ := hq
    exact ⟨m x', q2, x', q1, rfl, U2, E2, q3, q4⟩
  | exit id => exact hq
  | goto l => exact hq
  | ret => exact hq
  | panic v => exact hq
  | outgrown => exact hq
/-- A round ends. -/
theorem Sat.back {α : Type} {Fh : α → Tr} {Mh : α → Mem} {Cx : α → Prop} {m : α → Nat} {x : α} {φ : List Prop} {ids0 : List Nat} (x' : α) (σ : List (Nat × Option Nat)) (hin : intoF C.pins σ F M (Fh x') (Mh x') ids0 = some φ) (hφ : AllP φ) (hC : Cx x') (hm : m x' < m x) :
    Sat C Q0 (.ext .normal F M ids (.lp (BackI C ids0 Fh Mh Cx m x) :: k)) := by
  intro U E a w hsup hst
  obtain ⟨U', E', h1, h2⟩ := into_ok hst hin hφ
  exact ⟨x', hC, hm, U', E', h1, h2⟩
end
end Go.Proofs.YtgpggoejkkhceaaDoor.V
