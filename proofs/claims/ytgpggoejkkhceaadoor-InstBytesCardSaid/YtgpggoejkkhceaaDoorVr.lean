/-
  A walk by abstract values: regions that draw their order, and write. They are reckoned once, in the text's order; what does not wait for one another must not meet.
-/
import Derived.Test.YtgpggoejkkhceaaDoorVq
import Derived.Orders
namespace Go.Proofs.YtgpggoejkkhceaaDoor.V
open Go.RowKit

/-! ### What is reckoned -/
/-- What became of an operation: its number, its slot, what the slot holds then, the number of the block that it made, what it wrote, what it looked at. -/
structure Ent where
  j : Nat
  dst : Option Tmp
  val : Option SV
  nid : Option Nat
  ch : List (Nat × Option Blk)
  foot : List Nat
def look : List (Nat × Option Blk) → Nat → Option (Option Blk)
  | [], _ => none
  | (i, B) :: r, k => match Nat.beq i k with
    | true => some B
    | false => look r k
mutual
def idsOf : SV → List Nat
  | .ptr id _ => [id]
  | .pel id _ _ _ _ => [id]
  | .row id _ _ _ _ => [id]
  | .may _ s => idsOf s
  | .agg l => idsL l
  | .tup l => idsL l
  | .fn _ l => idsL l
  | .mv _ l => idsL l
  | .ifc _ s => idsOf s
  | _ => []
def idsL : List SV → List Nat
  | [] => []
  | s :: r => idsOf s ++ idsL r
end
def footF (Γ : Glob) (F : Tr) : List Operand → List Nat
  | [] => []
  | x :: r => match opd Γ F x with
    | some s => idsOf s ++ footF Γ F r
    | none => footF Γ F r
def keep (M : Mem) : List Nat → Mem
  | [] => []
  | i :: r => match find M i with
    | some B => (i, B) :: keep M r
    | none => keep M r
def fN {α : Type} : List Nat → (List Nat → Option α) → Option α
  | [], K => K []
  | i :: r, K => fN r fun r' => K (i :: r')
theorem fN_eq {α : Type} : ∀ {l : List Nat} {K : List Nat → Option α}, fN l K = K l
  | [], _ => rfl
  | i :: r, K => by simp only [fN]; exact fN_eq
structure DRes where
  e : Ent
  F : Tr
  M : Mem
  ids : List Nat
  φ : List Prop
def odCh : Option Nat → List (Nat × Option Blk)
  | some d => [(d, none)]
  | none => []
def dstep (X : IntKind → Bool) (P : Program) (Γ : Glob) (N : Nat) (full : List Oper) (i : Nat) (o : Oper) (F : Tr) (M : Mem) (ids : List Nat) : Option DRes :=
  fN (footF Γ F o.op.operands.toList) fun foot =>
  match ev1 X P Γ F (keep M foot) o.op with
  | some (φ, v) => match o.guard with
    | none => fS v fun v' => putD N F o.dst (some v') fun F' => some ⟨⟨i, o.dst, some v', none, [], foot⟩, F', M, ids, φ⟩
    | some (j, want) => match guardH F full j want with
      | some H => fS v fun v' => putD N F o.dst (some (.may H v')) fun F' => some ⟨⟨i, o.dst, some (.may H v'), none, [], foot⟩, F', M, ids, φ.map (H → ·)⟩
      | none => none
  | none => match o.guard with
    | some _ => none
    | none => match ids with
      | [] => none
      | k :: ids' => match ev2 P Γ F (keep M foot) k o.op with
        | some (.new φ B v) => fB B fun B' => fS v fun v' => putD N F o.dst (some v') fun F' => some ⟨⟨i, o.dst, some v', some k, [(k, some B')], foot⟩, F', (k, B') :: M, ids', φ⟩
        | some (.upd φ id B none) => fB B fun B' => match upd M id B' with
          | some M' => fM M' fun M2 => putD N F o.dst none fun F' => some ⟨⟨i, o.dst, none, none, [(id, some B')], foot⟩, F', M2, k :: ids', φ⟩
          | none => none
        | some (.mov φ od B v) => fB B fun B' => fS v fun v' => fM (delO M od) fun M' => putD N F o.dst (some v') fun F' => some ⟨⟨i, o.dst, some v', some k, (k, some B') :: odCh od, foot⟩, F', (k, B') :: M', ids', φ⟩
        | _ => none
structure DCfg where
  hist : List Ent
  rest : List Oper
  F : Tr
  M : Mem
  ids : List Nat
  φ : List Prop
def runD (X : IntKind → Bool) (P : Program) (Γ : Glob) (N : Nat) (full : List Oper) : List Oper → Nat → List Ent → Tr → Mem → List Nat → List Prop → DCfg
  | [], _, h, F, M, ids, φ => ⟨h, [], F, M, ids, φ⟩
  | o :: r, i, h, F, M, ids, φ => match dstep X P Γ N full i o F M ids with
    | none => ⟨h, o :: r, F, M, ids, φ⟩
    | some ⟨e, F', M', ids', φ'⟩ => runD X P Γ N full r (i + 1) (e :: h) F' M' ids' (φ' ++ φ)

/-! ### What it says -/
theorem keep_find {M : Mem} : ∀ {l : List Nat} {id : Nat} {B : Blk}, find (keep M l) id = some B → id ∈ l ∧ find M id = some B
  | [], id, B, h => by simp [keep, find] at h
  | i :: r, id, B, h => by
    simp only [keep] at h
    split at h
    · rename_i B' hB
      rw [find_cons] at h
      split at h
      · rename_i e
        subst e
        cases h
        exact ⟨List.mem_cons_self .., hB⟩
      · have := keep_find h
        exact ⟨List.mem_cons_of_mem _ this.1, this.2⟩
    · have := keep_find h
      exact ⟨List.mem_cons_of_mem _ this.1, this.2⟩

section
variable {X : IntKind → Bool} {C : Ctx} {Q0 : Exit → Act → World → Prop} {F F' F0 : Tr} {M M' M0 : Mem} {ids ids' ids1 : List Nat} {k : List Kont} {full : List Oper}

/-- The state depends on what it says of slots, blocks and numbers alone. -/
theorem St.ext {U U' : Nat → Prop} {E : Env} {a : Act} {w : World} (h : St C F M U E a w) (hF : ∀ t, F'.get t = F.get t) (hM : ∀ id, find M' id = find M id) (hU : ∀ k, U' k → U k) : St C F' M' U' E a w := by
  have hm : ∀ b, trk C.T0 M' E b ↔ trk C.T0 M E b := fun b => by simp [trk, mine, hM]
  have ht : trk C.T0 M' E = trk C.T0 M E := funext fun b => propext (hm b)
  exact ⟨h.defers, h.size, fun t s hs => by rw [ht]; exact h.slots t s (by rw [← hF]; exact hs), ⟨fun id B hf => by rw [ht]; exact h.mem.blk id B (by rw [← hM]; exact hf), fun id id' b h1 h2 => h.mem.inj id id' b (by rw [← hM]; exact h1) (by rw [← hM]; exact h2)⟩,
    fun id b hf => h.own id b (by rw [← hM]; exact hf), fun k hk => h.fresh k (hU k hk), h.kp, h.hid, by rw [ht]; exact h.glob, h.pin⟩
theorem St.putG {U : Nat → Prop} {E : Env} {a : Act} {w : World} (h : St C F M U E a w) {d : Option Tmp} {s : Option SV} {v : Value} (hd : ∀ k, d = some k → k < C.N) (hF : ∀ t, F'.get t = if d = some t then s else F.get t)
    (hr : ∀ s', s = some s' → Rep E (trk C.T0 M E) w s' v) : St C F' M U E (a.put d v) w := by
  cases d with
  | none => exact h.ext (fun t => by simpa using hF t) (fun _ => rfl) (fun _ h => h)
  | some d =>
    refine ⟨h.defers, by simp [Act.put, h.size], fun t s' hs => ?_, h.mem, h.own, h.fresh, h.kp, h.hid, h.glob, h.pin⟩
    rw [getD_put h.size (hd d rfl)]
    rw [hF] at hs
    split at hs
    · rename_i e
      cases e
      rw [if_pos rfl]
      exact hr s' hs
    · rename_i e
      rw [if_neg fun e' => e (by rw [e'])]
      exact h.slots t s' hs
theorem putD_get {N : Nat} {d : Option Tmp} {v : Option SV} (h : (d = none ∧ F' = F) ∨ ∃ k, d = some k ∧ Nat.blt k N = true ∧ F.put k v = some F') : (∀ k, d = some k → k < N) ∧ ∀ t, F'.get t = if d = some t then v else F.get t := by
  rcases h with ⟨rfl, rfl⟩ | ⟨k, rfl, h1, h2⟩
  · exact ⟨fun k hk => (by cases hk), fun t => by simp⟩
  · refine ⟨fun k' hk => by cases hk; simpa using h1, fun t => ?_⟩
    rw [Tr.get_put F F' k v h2]
    by_cases e : t = k
    · subst e; simp
    · rw [if_neg e, if_neg fun e' => e (by cases e'; rfl)]

/-- What an operation does, wherever what it looks at is as it is here. -/
def OpOk (C : Ctx) (full : List Oper) (o : Oper) (e : Ent) (g : Nat → Option SV) (m : Nat → Option Blk) : Prop :=
  ∀ (Q : Exit → Act → World → Prop) (K : Act → World → Prop) (F : Tr) (M : Mem) (U : Nat → Prop) (E : Env) (a : Act) (w : World),
    (∀ t ∈ o.looksAt full.toArray, F.get t = g t) → (∀ id ∈ e.foot, find M id = m id) → (∀ k, e.nid = some k → U k) → St C F M U E a w →
    (∀ F' M' U' E' a' w', (∀ t, F'.get t = if o.dst = some t then e.val else F.get t) → (∀ id, find M' id = (look e.ch id).getD (find M id)) → (∀ k, U' k ↔ U k ∧ e.nid ≠ some k) → St C F' M' U' E' a' w' → K a' w') →
    wpOp C.P full.toArray Q e.j K a w

theorem looks_op {o : Oper} {t : Nat} (h : Operand.tmp t ∈ o.op.operands.toList) : t ∈ o.looksAt full.toArray :=
  List.mem_append_left _ (List.mem_filterMap.2 ⟨_, h, rfl⟩)
theorem looks_le {o : Oper} {g : Nat → Option SV} (h : ∀ t ∈ o.looksAt full.toArray, F'.get t = g t) (hg : ∀ t, g t = F.get t) : OLe C.Γ F F' o.op.operands.toList := fun x hx s hs => by
  cases x with
  | tmp t => exact (h t (looks_op hx)).trans ((hg t).trans hs)
  | _ => exact hs
theorem foot_le {l : List Nat} {m : Nat → Option Blk} (h : ∀ id ∈ l, find M' id = m id) (hm : ∀ id, m id = find M id) : MLe (keep M l) M' := fun id B hf => by
  obtain ⟨h1, h2⟩ := keep_find hf
  rw [h id h1, hm, h2]
theorem wpOp_plain {o : Oper} {i : Nat} {Q : Exit → Act → World → Prop} {K : Act → World → Prop} {a : Act} {w : World} (hi : full[i]? = some o) (hg : o.guard = none) (h : o.wp C.P a w K Q) : wpOp C.P full.toArray Q i K a w := by
  unfold wpOp
  simp only [List.getElem?_toArray, hi]
  simp only [Region.wanted, hg, if_true]
  exact .inl h

/-- A trie over which any slot below the bound can be written. -/
def trOf : Nat → (Nat → Option SV) → Tr
  | 0, _ => .e
  | d + 1, g => .n (trOf d fun k => g (2 * k + 1)) (g 0) (trOf d fun k => g (2 * k + 2))
theorem trOf_get : ∀ (d : Nat) (g : Nat → Option SV) (t : Nat), t + 1 < 2 ^ d → (trOf d g).get t = g t
  | 0, g, t, h => by simp at h
  | d + 1, g, 0, h => rfl
  | d + 1, g, t + 1, h => by
    simp only [trOf, Tr.get]
    have hp : 2 ^ (d + 1) = 2 * 2 ^ d := by rw [Nat.pow_succ, Nat.mul_comm]
    cases hb : Nat.beq (Nat.mod t 2) 0 with
    | true =>
      have h2 := par_t hb
      simp only
      rw [trOf_get d _ _ (by show t / 2 + 1 < _; omega)]
      show g (2 * (t / 2) + 1) = _
      congr 1
      omega
    | false =>
      have h2 := par_f hb
      simp only
      rw [trOf_get d _ _ (by show t / 2 + 1 < _; omega)]
      show g (2 * (t / 2) + 2) = _
      congr 1
      omega
/-- Any finite table of slots is one of a trie. -/
theorem tr_any (g : Nat → Option SV) (N : Nat) (hg : ∀ t, N ≤ t → g t = none) : ∃ F : Tr, ∀ t, F.get t = g t := by
  have key : ∀ (d : Nat) (g : Nat → Option SV) (t : Nat), 2 ^ d ≤ t + 1 → (trOf d g).get t = none := by
    intro d
    induction d with
    | zero => intro g t _; rfl
    | succ d ih =>
      intro g t ht
      have hp : 2 ^ (d + 1) = 2 * 2 ^ d := by rw [Nat.pow_succ, Nat.mul_comm]
      have h1 : 0 < 2 ^ d := Nat.pow_pos (by omega)
      cases t with
      | zero => omega
      | succ t =>
        simp only [trOf, Tr.get]
        cases hb : Nat.beq (Nat.mod t 2) 0 with
        | true => have h2 := par_t hb; exact ih _ _ (by show _ ≤ t / 2 + 1; omega)
        | false => have h2 := par_f hb; exact ih _ _ (by show _ ≤ t / 2 + 1; omega)
  refine ⟨trOf (N + 1) g, fun t => ?_⟩
  have hlt : N < 2 ^ N := Nat.lt_two_pow_self
  have hp : 2 ^ (N + 1) = 2 * 2 ^ N := by rw [Nat.pow_succ, Nat.mul_comm]
  by_cases h : t + 1 < 2 ^ (N + 1)
  · exact trOf_get _ _ _ h
  · rw [key _ _ _ (by omega), hg t (by omega)]
theorem Tr.bound : ∀ F : Tr, ∃ N, ∀ t, N ≤ t → F.get t = none
  | .e => ⟨0, fun _ _ => rfl⟩
  | .n l x r => by
    obtain ⟨n1, h1⟩ := Tr.bound l
    obtain ⟨n2, h2⟩ := Tr.bound r
    refine ⟨2 * (n1 + n2) + 3, fun t ht => ?_⟩
    cases t with
    | zero => omega
    | succ t =>
      simp only [Tr.get]
      cases hb : Nat.beq (Nat.mod t 2) 0 with
      | true => exact h1 _ (by show _ ≤ t / 2; omega)
      | false => exact h2 _ (by show _ ≤ t / 2; omega)
theorem tr_put (F : Tr) (d : Option Tmp) (s : Option SV) : ∃ F' : Tr, ∀ t, F'.get t = if d = some t then s else F.get t := by
  obtain ⟨n, hn⟩ := Tr.bound F
  refine tr_any _ (max n ((d.getD 0) + 1)) fun t ht => ?_
  rw [if_neg, hn t (by omega)]
  intro e
  subst e
  simp at ht
  omega

theorem appendE_upd {nx : Nat} {t : TypeId} {s x : SV} {φ : List Prop} {id : Nat} {B : Blk} {v : Option SV} : appendE C.P M nx t s x ≠ some (.upd φ id B v) := fun h => by
  unfold appendE at h
  repeat' split at h
  all_goals simp at h
theorem ev2_upd {U : Nat → Prop} {E : Env} {a : Act} {w : World} (h : St C F M U E a w) {nx : Nat} {o : Oper} {φ : List Prop} {id : Nat} {B : Blk} (he : ev2 C.P C.Γ F M nx o.op = some (.upd φ id B none)) (hφ : All φ) :
    ∃ M' w', upd M id B = some M' ∧ (execOp a.eval o).run C.P w = .ok .skip w' ∧ St C F M' U E a w' := by
  generalize ho : o.op = op at he
  unfold ev2 at he
  split at he
  case h_3 =>
    split at he
    · rename_i sp hsp
      split at he
      · rename_i s hs
        split at he
        · rename_i hst
          simp only [Option.some.injEq, Eff.upd.injEq] at he
          obtain ⟨rfl, rfl, rfl, rfl⟩ := he
          obtain ⟨h5, h2⟩ := hφ.app
          obtain ⟨h3, h4⟩ := h5.app
          exact store_ok h (condOf_all h3 (opd_rep h.vw hsp)) (condOf_all h4 (opd_rep h.vw hs)) hst h2 ho
        · cases he
      · cases he
    · cases he
  all_goals (repeat' split at he)
  all_goals first | (exfalso; exact appendE_upd he) | (simp at he; done)
theorem dstep_ok {o : Oper} {i : Nat} {r : DRes} (hi : full[i]? = some o) (h : dstep X C.P C.Γ C.N full i o F M ids = some r) (hφ : All r.φ) :
    OpOk C full o r.e F.get (find M) ∧ r.e.j = i ∧ r.e.dst = o.dst ∧ (∀ t, r.F.get t = if o.dst = some t then r.e.val else F.get t) ∧ (∀ id, find r.M id = (look r.e.ch id).getD (find M id)) ∧ ids = r.e.nid.toList ++ r.ids := by
  unfold dstep at h
  rw [fN_eq] at h
  split at h
  · rename_i φ v hv
    split at h
    · rename_i hg
      rw [fS_eq] at h
      obtain ⟨F', h1, h2⟩ := putD_inv h
      simp at h1
      subst h1
      obtain ⟨p1, p2⟩ := putD_get h2
      refine ⟨fun Q K Fa Ma U E a w q1 q2 q3 hst hK => ?_, rfl, rfl, p2, fun id => rfl, rfl⟩
      obtain ⟨x, hx, hrun⟩ := ev1_run hst.vw (ev1_le (looks_le q1 fun _ => rfl) (foot_le q2 fun _ => rfl) hv) hφ
      obtain ⟨F2, hF2⟩ := tr_put Fa o.dst (some v)
      refine wpOp_plain hi hg ?_
      unfold Oper.wp
      rw [hrun w (Below.refl _ _) o rfl]
      exact hK F2 Ma U E _ w hF2 (fun id => rfl) (fun k => by simp) (hst.putG p1 hF2 fun s' hs' => by cases hs'; exact hx)
    · rename_i j want hg
      split at h
      · rename_i H hH
        rw [fS_eq] at h
        obtain ⟨F', h1, h2⟩ := putD_inv h
        simp at h1
        subst h1
        obtain ⟨p1, p2⟩ := putD_get h2
        refine ⟨fun Q K Fa Ma U E a w q1 q2 q3 hst hK => ?_, rfl, rfl, p2, fun id => rfl, rfl⟩
        have hH' : guardH Fa full j want = some H := by
          unfold guardH at hH ⊢
          split at hH
          · rename_i d hd
            rw [dstOf_eq] at hd
            have : d ∈ o.looksAt full.toArray := List.mem_append_right _ (by simp only [hg]; simp only [List.getElem?_toArray, hd]; simp)
            rw [← dstOf_eq] at hd
            rw [q1 d this]
            exact hH
          · cases hH
        have hiff := guardH_ok (full := full) hst hH'
        unfold wpOp
        simp only [List.getElem?_toArray, hi]
        by_cases hy : (yielded full.toArray a.tmps j == some want) = true
        · have hh := hiff.1 hy
          simp only [Region.wanted, hg, hy, if_true]
          obtain ⟨x, hx, hrun⟩ := ev1_run hst.vw (ev1_le (looks_le q1 fun _ => rfl) (foot_le q2 fun _ => rfl) hv) (All.imp hφ hh)
          obtain ⟨F2, hF2⟩ := tr_put Fa o.dst (some (.may H v))
          left
          unfold Oper.wp
          rw [hrun w (Below.refl _ _) o rfl]
          exact hK F2 Ma U E _ w hF2 (fun id => rfl) (fun k => by simp) (hst.putG p1 hF2 fun s' hs' => by cases hs'; exact .may1 _ _ _ hh hx)
        · have hh : ¬ H := fun hh => hy (hiff.2 hh)
          simp only [Region.wanted, hg, hy]
          obtain ⟨F2, hF2⟩ := tr_put Fa o.dst (some (.may H v))
          exact hK F2 Ma U E _ w hF2 (fun id => rfl) (fun k => by simp) (hst.putG p1 hF2 fun s' hs' => by cases hs'; exact .may0 _ _ hh)
      · cases h
  · split at h
    · cases h
    · rename_i hg
      split at h
      · cases h
      · rename_i k ids'
        split at h
        · rename_i φ B v hv
          rw [fB_eq, fS_eq] at h
          obtain ⟨F', h1, h2⟩ := putD_inv h
          simp at h1
          subst h1
          obtain ⟨p1, p2⟩ := putD_get h2
          refine ⟨fun Q K Fa Ma U E a w q1 q2 q3 hst hK => ?_, rfl, rfl, p2, fun id => ?_, rfl⟩
          · obtain ⟨x, E', w', hrun, hx, hst'⟩ := ev2_run hst (q3 k rfl) (ev2_le (looks_le q1 fun _ => rfl) (foot_le q2 fun _ => rfl) hv) rfl hφ
            obtain ⟨F2, hF2⟩ := tr_put Fa o.dst (some v)
            refine wpOp_plain hi hg ?_
            unfold Oper.wp
            rw [hrun]
            refine hK F2 _ _ E' _ w' hF2 (fun id => ?_) (fun q => ?_) (hst'.putG p1 hF2 fun s' hs' => by cases hs'; exact hx)
            · rw [find_cons]
              simp only [look]
              split
              · rename_i e; subst e; simp
              · rename_i e; rw [show Nat.beq k id = false from by cases hq : Nat.beq k id with | true => exact absurd (Nat.eq_of_beq_eq_true hq).symm e | false => rfl]; rfl
            · simp only [rest, ne_eq, Option.some.injEq]
              exact ⟨fun ⟨z1, z2⟩ => ⟨z1, fun z => z2 z.symm⟩, fun ⟨z1, z2⟩ => ⟨z1, fun z => z2 z.symm⟩⟩
          · rw [find_cons]
            simp only [look]
            split
            · rename_i e; subst e; simp
            · rename_i e; rw [show Nat.beq k id = false from by cases hq : Nat.beq k id with | true => exact absurd (Nat.eq_of_beq_eq_true hq).symm e | false => rfl]; rfl
        · rename_i φ id0 B hv
          rw [fB_eq] at h
          split at h
          · rename_i M1 hM1
            rw [fM_eq] at h
            obtain ⟨F', h1, h2⟩ := putD_inv h
            simp at h1
            subst h1
            obtain ⟨p1, p2⟩ := putD_get h2
            have hlook : ∀ (Mx My : Mem) (_ : upd Mx id0 B = some My) (id : Nat), find My id = (look [(id0, some B)] id).getD (find Mx id) := fun Mx My hu id => by
              rw [find_upd hu]
              simp only [look]
              split
              · rename_i e; subst e; simp
              · rename_i e; rw [show Nat.beq id0 id = false from by cases hq : Nat.beq id0 id with | true => exact absurd (Nat.eq_of_beq_eq_true hq).symm e | false => rfl]; rfl
            refine ⟨fun Q K Fa Ma U E a w q1 q2 q3 hst hK => ?_, rfl, rfl, p2, hlook _ _ hM1, rfl⟩
            -- the number that would be taken is not looked at
            obtain ⟨M2, w', hM2, hrun, hst'⟩ := ev2_upd hst (ev2_le (looks_le q1 fun _ => rfl) (foot_le q2 fun _ => rfl) hv) hφ
            obtain ⟨F2, hF2⟩ := tr_put Fa o.dst none
            refine wpOp_plain hi hg ?_
            unfold Oper.wp
            rw [hrun]
            exact hK F2 M2 U E _ w' hF2 (hlook _ _ hM2) (fun k => by simp) (hst'.putG p1 hF2 fun s' hs' => by cases hs')
          · cases h
        · rename_i φ od B v hv
          rw [fB_eq, fS_eq, fM_eq] at h
          obtain ⟨F', h1, h2⟩ := putD_inv h
          simp at h1
          subst h1
          obtain ⟨p1, p2⟩ := putD_get h2
          have hlook : ∀ (Mx : Mem) (id : Nat), find ((k, B) :: delO Mx od) id = (look ((k, some B) :: odCh od) id).getD (find Mx id) := fun Mx id => by
            rw [find_cons]
            simp only [look]
            split
            · rename_i e; subst e; simp
            · rename_i e
              rw [show Nat.beq k id = false from by cases hq : Nat.beq k id with | true => exact absurd (Nat.eq_of_beq_eq_true hq).symm e | false => rfl]
              cases od with
              | none => rfl
              | some d =>
                simp only [delO, odCh, look, find_del]
                split
                · rename_i e; subst e; simp
                · rename_i e; rw [show Nat.beq d id = false from by cases hq : Nat.beq d id with | true => exact absurd (Nat.eq_of_beq_eq_true hq).symm e | false => rfl]; rfl
          refine ⟨fun Q K Fa Ma U E a w q1 q2 q3 hst hK => ?_, rfl, rfl, p2, hlook M, rfl⟩
          obtain ⟨x, E', w', hrun, hx, hst'⟩ := ev2_run hst (q3 k rfl) (ev2_le (looks_le q1 fun _ => rfl) (foot_le q2 fun _ => rfl) hv) rfl hφ
          obtain ⟨F2, hF2⟩ := tr_put Fa o.dst (some v)
          refine wpOp_plain hi hg ?_
          unfold Oper.wp
          rw [hrun]
          refine hK F2 _ _ E' _ w' hF2 (hlook Ma) (fun q => ?_) (hst'.putG p1 hF2 fun s' hs' => by cases hs'; exact hx)
          simp only [rest, ne_eq, Option.some.injEq]
          exact ⟨fun ⟨z1, z2⟩ => ⟨z1, fun z => z2 z.symm⟩, fun ⟨z1, z2⟩ => ⟨z1, fun z => z2 z.symm⟩⟩
        · cases h
end
end Go.Proofs.YtgpggoejkkhceaaDoor.V
