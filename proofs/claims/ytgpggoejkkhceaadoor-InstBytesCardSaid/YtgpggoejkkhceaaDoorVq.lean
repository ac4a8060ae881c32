/-
  A walk by abstract values: what is known more does not change what is reckoned.
-/
import Derived.Test.YtgpggoejkkhceaaDoorVp
namespace Go.Proofs.YtgpggoejkkhceaaDoor.V
open Go.RowKit

section
variable {X : IntKind → Bool} {P : Program} {Γ : Glob} {F F' : Tr} {M M' : Mem}
def OLe (Γ : Glob) (F F' : Tr) (l : List Operand) : Prop := ∀ x ∈ l, ∀ s, opd Γ F x = some s → opd Γ F' x = some s
def MLe (M M' : Mem) : Prop := ∀ id B, find M id = some B → find M' id = some B

theorem op1_le {x : Operand} {k k' : SV → R} {r : List Prop × SV} (hx : ∀ s, opd Γ F x = some s → opd Γ F' x = some s) (hk : ∀ s r, k s = some r → k' s = some r) (h : op1 Γ F x k = some r) : op1 Γ F' x k' = some r := by
  unfold op1 at *
  cases hs : opd Γ F x with
  | none => simp [hs] at h
  | some s =>
    rw [hs] at h
    rw [hx s hs]
    cases s
    case may g s' =>
      simp only at h ⊢
      cases hq : k s' with
      | none => simp [hq] at h
      | some q => rw [hq] at h; rw [hk _ _ hq]; exact h
    all_goals exact hk _ _ h
theorem opds_le : ∀ {l : List Operand} {r : List SV}, OLe Γ F F' l → opds Γ F l = some r → opds Γ F' l = some r
  | [], r, _, h => h
  | x :: l, r, hx, h => by
    unfold opds at *
    cases hs : opd Γ F x with
    | none => simp [hs] at h
    | some s =>
      rw [hs] at h
      rw [hx x (List.mem_cons_self ..) s hs]
      cases s
      case may g s' => exact h
      all_goals
        simp only at h ⊢
        cases hq : opds Γ F l with
        | none => simp [hq] at h
        | some q => rw [hq] at h; rw [opds_le (fun y hy => hx y (List.mem_cons_of_mem _ hy)) hq]; exact h
theorem partsF_le : ∀ {l : List (Nat × Operand)} {r : List (Nat × SV)}, OLe Γ F F' (l.map (·.2)) → partsF Γ F l = some r → partsF Γ F' l = some r
  | [], r, _, h => h
  | (i, x) :: l, r, hx, h => by
    unfold partsF at *
    cases hs : opd Γ F x with
    | none => simp [hs] at h
    | some s =>
      rw [hs] at h
      rw [hx x (by simp) s hs]
      cases s
      case may g s' => exact h
      all_goals
        simp only at h ⊢
        cases hq : partsF Γ F l with
        | none => simp [hq] at h
        | some q => rw [hq] at h; rw [partsF_le (fun y hy => hx y (by simp only [List.map_cons]; exact List.mem_cons_of_mem _ hy)) hq]; exact h
theorem partsC_le : ∀ {l : List (Nat × Operand)} {r : List Prop × List (Nat × SV)}, OLe Γ F F' (l.map (·.2)) → partsC Γ F l = some r → partsC Γ F' l = some r
  | [], r, _, h => h
  | (i, x) :: l, r, hx, h => by
    unfold partsC at *
    cases hs : opd Γ F x with
    | none => simp [hs] at h
    | some s =>
      rw [hs] at h
      rw [hx x (by simp) s hs]
      cases s
      all_goals
        simp only at h ⊢
        cases hq : partsC Γ F l with
        | none => simp [hq] at h
        | some q => rw [hq] at h; rw [partsC_le (fun y hy => hx y (by simp only [List.map_cons]; exact List.mem_cons_of_mem _ hy)) hq]; exact h
theorem runAt_le (hM : MLe M M') {id b : Nat} {e : EV} (h : runAt M id b = some e) : runAt M' id b = some e := by
  unfold runAt at *
  cases hf : find M id with
  | none => simp [hf] at h
  | some B => rw [hM _ _ hf]; rw [hf] at h; exact h
theorem runAt_same {id b : Nat} (h : find M id = find M' id) : runAt M id b = runAt M' id b := by
  unfold runAt
  rw [h]
theorem loadV_le (hM : MLe M M') {t : TypeId} (s : SV) (r : List Prop × SV) (h : loadV P M t s = some r) : loadV P M' t s = some r := by
  unfold loadV at *
  cases s <;> try exact h
  case ptr id off =>
    simp only at *
    cases hf : find M id with
    | none => simp [hf] at h
    | some B => rw [hM _ _ hf]; rw [hf] at h; exact h
  case pel id base sz i j =>
    simp only at *
    cases hf : runAt M id base with
    | none => simp [hf] at h
    | some B => rw [runAt_le hM hf]; rw [hf] at h; exact h
theorem indexAddrV_le (hM : MLe M M') {t : TypeId} {n : Int} {s : SV} {r : List Prop × SV} (h : indexAddrV P M t n s = some r) : indexAddrV P M' t n s = some r := by
  unfold indexAddrV at *
  cases hu : P.underlying t with
  | none => simp [hu] at h
  | some d =>
    rw [hu] at h
    cases d <;> try exact h
    case array m elem =>
      simp only at *
      cases hs : sizeF P elem with
      | none => simp [hs] at h
      | some z =>
        rw [hs] at h
        cases z with
        | zero => exact h
        | succ z =>
          cases s <;> try exact h
          case ptr id off =>
            simp only at *
            cases hf : find M id with
            | none => simp [runAt, hf] at h
            | some B =>
              rw [← runAt_same (hf.trans (hM _ _ hf).symm), hM _ _ hf]
              rw [hf] at h
              exact h
theorem convV_le (hM : MLe M M') {a b : TypeId} (s : SV) (r : List Prop × SV) (h : convV X P M a b s = some r) : convV X P M' a b s = some r := by
  cases s
  case row id base sz sub len =>
    unfold convV at *
    simp only at *
    cases hf : runAt M id base with
    | none =>
      rw [hf] at h
      simp only at h
      repeat' split at h
      all_goals cases h
    | some B => rw [runAt_le hM hf]; rw [hf] at h; exact h
  case ro e => cases e <;> exact h
  all_goals exact h
theorem sliceV_le (hM : MLe M M') {t : TypeId} {lo hi : Option Nat} {φ : List Prop} (s : SV) (r : List Prop × SV) (h : sliceV P M t lo hi φ s = some r) : sliceV P M' t lo hi φ s = some r := by
  unfold sliceV at *
  cases hu : P.underlying t with
  | none => simp [hu] at h
  | some d =>
    rw [hu] at h
    cases d <;> try exact h
    case array m elem =>
      simp only at *
      cases hs : sizeF P elem with
      | none => simp [hs] at h
      | some z =>
        rw [hs] at h
        cases z with
        | zero => exact h
        | succ z =>
          cases s <;> try exact h
          case ptr id off =>
            simp only at *
            cases hf : runAt M id off with
            | none => simp [hf] at h
            | some e => rw [runAt_le hM hf]; rw [hf] at h; exact h
theorem op1_le2 {x y : Operand} {k k' : SV → SV → R} {r : List Prop × SV} (hx : ∀ s, opd Γ F x = some s → opd Γ F' x = some s) (hy : ∀ s, opd Γ F y = some s → opd Γ F' y = some s) (hk : ∀ s t r, k s t = some r → k' s t = some r)
    (h : op1 Γ F x (fun a => op1 Γ F y (k a)) = some r) : op1 Γ F' x (fun a => op1 Γ F' y (k' a)) = some r :=
  op1_le hx (fun s r hr => op1_le hy (fun t r hr => hk s t r hr) hr) h
theorem ev1_le {op : Op} {r : List Prop × SV} (hx : OLe Γ F F' op.operands.toList) (hM : MLe M M') (h : ev1 X P Γ F M op = some r) : ev1 X P Γ F' M' op = some r := by
  unfold ev1 at h
  split at h
  · exact op1_le (hx _ (by simp [Op.operands])) (fun _ _ h => h) h
  · exact op1_le (hx _ (by simp [Op.operands])) (fun _ _ h => h) h
  · rename_i c x y
    refine op1_le (hx _ (by simp [Op.operands])) (fun s r hr => ?_) h
    cases s <;> try exact hr
    simp only at *
    cases ha : opd Γ F x with
    | none => simp [ha] at hr
    | some sa =>
      rw [ha] at hr
      rw [hx x (by simp [Op.operands]) _ ha]
      cases hb : opd Γ F y with
      | none => simp [hb] at hr
      | some sb =>
        rw [hb] at hr
        rw [hx y (by simp [Op.operands]) _ hb]
        exact hr
  · exact op1_le (hx _ (by simp [Op.operands])) (fun s r hr => loadV_le hM s r hr) h
  · rename_i s x f
    unfold ev1
    dsimp only
    cases hq : offF P s f with
    | none => simp [hq] at h
    | some o =>
      rw [hq] at h
      exact op1_le (hx _ (by simp [Op.operands])) (fun _ _ h => h) h
  · refine op1_le2 (hx _ (by simp [Op.operands])) (hx _ (by simp [Op.operands])) (fun s t r hr => ?_) h
    cases t <;> try exact hr
    exact indexAddrV_le hM hr
  · exact op1_le2 (hx _ (by simp [Op.operands])) (hx _ (by simp [Op.operands])) (fun s t r hr => hr) h
  · exact op1_le (hx _ (by simp [Op.operands])) (fun _ _ h => h) h
  · exact op1_le2 (hx _ (by simp [Op.operands])) (hx _ (by simp [Op.operands])) (fun s t r hr => hr) h
  · exact op1_le (hx _ (by simp [Op.operands])) (fun _ _ h => h) h
  · exact op1_le (hx _ (by simp [Op.operands])) (fun s r hr => convV_le hM s r hr) h
  · exact op1_le (hx _ (by simp [Op.operands])) (fun _ _ h => h) h
  · rename_i f cs
    unfold ev1
    dsimp only
    cases hq : opds Γ F cs with
    | none => simp [hq] at h
    | some l =>
      rw [hq] at h
      rw [opds_le (fun y hy => hx y (by simpa [Op.operands] using hy)) hq]
      exact h
  · rename_i f z fs
    unfold ev1
    dsimp only
    cases hq : opds Γ F (z :: fs) with
    | none => simp [hq] at h
    | some l =>
      rw [hq] at h
      rw [opds_le (fun y hy => hx y (by simpa [Op.operands] using hy)) hq]
      exact h
  · rename_i t x
    unfold ev1
    dsimp only
    split at h
    · rename_i hq
      first | rw [hq] | skip
      exact op1_le (hx _ (by simp [Op.operands])) (fun _ _ h => h) h
    · cases h
  · exact op1_le (hx _ (by simp [Op.operands])) (fun _ _ h => h) h
  · rename_i t x lo hi
    refine op1_le (hx _ (by simp [Op.operands])) (fun s r hr => ?_) h
    cases lo with
    | none => cases hi with
      | none => exact sliceV_le hM _ _ hr
      | some y =>
        refine op1_le (hx y (by simp [Op.operands])) (fun q r hr => ?_) hr
        cases q <;> try exact hr
        exact sliceV_le hM _ _ hr
    | some z => cases hi with
      | none =>
        refine op1_le (hx z (by simp [Op.operands])) (fun q r hr => ?_) hr
        cases q <;> try exact hr
        exact sliceV_le hM _ _ hr
      | some y =>
        refine op1_le (hx z (by simp [Op.operands])) (fun q r hr => ?_) hr
        cases q <;> try exact hr
        refine op1_le (hx y (by simp [Op.operands])) (fun q r hr => ?_) hr
        cases q <;> try exact hr
        exact sliceV_le hM _ _ hr
  · rename_i t ps
    unfold ev1
    dsimp only
    cases hq : partsC Γ F ps with
    | none => simp [hq] at h
    | some l =>
      rw [hq] at h
      rw [partsC_le (fun y hy => hx y (by simpa [Op.operands] using hy)) hq]
      exact h
  · rename_i b xs ats
    unfold ev1
    unfold bifV at *
    split at h
    · exact op1_le (hx _ (by simp [Op.operands, Call.operands])) (fun _ _ h => h) h
    · exact op1_le2 (hx _ (by simp [Op.operands, Call.operands])) (hx _ (by simp [Op.operands, Call.operands])) (fun s t r hr => hr) h
    · exact op1_le2 (hx _ (by simp [Op.operands, Call.operands])) (hx _ (by simp [Op.operands, Call.operands])) (fun s t r hr => hr) h
    · cases h
  · cases h

theorem srcE_le (hM : MLe M M') {e0 : EV} {u : Bool} {s : SV} {r : List Prop × EV} (h : srcE M e0 u s = some r) : srcE M' e0 u s = some r := by
  unfold srcE at *
  cases s <;> try exact h
  case row id base sz sub len =>
    simp only at *
    cases hf : runAt M id base with
    | none => simp [hf] at h
    | some B => rw [runAt_le hM hf]; rw [hf] at h; exact h
theorem storeE_le (hM : MLe M M') {t : TypeId} {p s : SV} {e : Eff} (h : storeE P M t p s = some e) : storeE P M' t p s = some e := by
  unfold storeE at *
  split at h
  · rename_i x n hx hn
    split at h
    · cases p <;> try exact h
      case ptr id off =>
        simp only at *
        cases hf : find M id with
        | none => simp [hf] at h
        | some B => rw [hM _ _ hf]; rw [hf] at h; exact h
      case pel id base sz i j =>
        simp only at *
        cases hf : find M id with
        | none => simp [hf] at h
        | some B => rw [hM _ _ hf]; rw [hf] at h; exact h
    · cases h
  · cases h
theorem appendE_le (hM : MLe M M') {nx : Nat} {t : TypeId} {s x : SV} {e : Eff} (h : appendE P M nx t s x = some e) : appendE P M' nx t s x = some e := by
  unfold appendE at *
  split at h
  · rename_i elem hu
    split at h
    · rename_i z b zv h1 h2 h3
      split at h
      · cases h
      · rename_i e0 he0
        split at h
        · rename_i hc
          cases hq : srcE M e0 (isU8 e0) x with
          | none => simp [hq] at h
          | some q =>
            rw [hq] at h
            rw [srcE_le hM hq]
            simp only at *
            split at h
            · cases s <;> try exact h
              case row id base sz sub len =>
                simp only at *
                cases hf : find M id with
                | none =>
                  rw [hf] at h
                  simp only at h
                  split at h <;> cases h
                | some B => rw [hM _ _ hf]; rw [hf] at h; exact h
            · cases h
        · cases h
    · cases h
  · cases h
theorem ev2_le {op : Op} {nx : Nat} {e : Eff} (hx : OLe Γ F F' op.operands.toList) (hM : MLe M M') (h : ev2 P Γ F M nx op = some e) : ev2 P Γ F' M' nx op = some e := by
  unfold ev2 at h
  split at h
  · exact h
  · rename_i t x
    unfold ev2
    dsimp only
    cases hs : opd Γ F x with
    | none => simp [hs] at h
    | some s =>
      rw [hs] at h
      rw [hx x (by simp [Op.operands]) _ hs]
      exact h
  · rename_i t p x
    unfold ev2
    dsimp only
    cases hs : opd Γ F p with
    | none => simp [hs] at h
    | some s =>
      rw [hs] at h
      rw [hx p (by simp [Op.operands]) _ hs]
      simp only at *
      cases hq : opd Γ F x with
      | none => simp [hq] at h
      | some q =>
        rw [hq] at h
        rw [hx x (by simp [Op.operands]) _ hq]
        simp only at *
        cases hz : storeE P M t (core s) (core q) with
        | none => simp [hz] at h
        | some z =>
          rw [hz] at h
          rw [storeE_le hM hz]
          exact h
  · rename_i t n ps
    unfold ev2
    dsimp only
    cases hq : partsF Γ F ps with
    | none =>
      rw [hq] at h
      repeat' split at h
      all_goals first | (cases h; done) | (simp_all; done)
    | some l =>
      rw [partsF_le (fun y hy => hx y (by simpa [Op.operands] using hy)) hq]
      rw [hq] at h
      exact h
  · rename_i t l c
    unfold ev2
    dsimp only
    cases hl : opd Γ F l with
    | none =>
      rw [hl] at h
      repeat' split at h
      all_goals first | (cases h; done) | (simp_all; done)
    | some sl =>
      cases hc : opd Γ F c with
      | none =>
        rw [hc] at h
        repeat' split at h
        all_goals first | (cases h; done) | (simp_all; done)
      | some sc =>
        rw [hx l (by simp [Op.operands]) _ hl, hx c (by simp [Op.operands]) _ hc]
        rw [hl, hc] at h
        exact h
  · rename_i s x t t'
    unfold ev2
    dsimp only
    cases hl : opd Γ F s with
    | none => simp [hl] at h
    | some sl =>
      cases hc : opd Γ F x with
      | none => simp [hl, hc] at h
      | some sc =>
        rw [hx s (by simp [Op.operands, Call.operands]) _ hl, hx x (by simp [Op.operands, Call.operands]) _ hc]
        rw [hl, hc] at h
        split at h
        · rename_i ha hb hu
          split at h
          · cases h
          · rename_i hne
            cases ha
            cases hb
            try simp only [hu]
            cases sc <;> first | exact appendE_le hM h | exact absurd rfl (hne _)
        · rename_i ha hb hu
          cases ha
          cases hb
          try simp only [hu]
          exact appendE_le hM h
        · cases h
  · cases h
end
end Go.Proofs.YtgpggoejkkhceaaDoor.V
