/-
  A walk by abstract values: regions that draw their order, and write: the rules.
-/
import Derived.Test.YtgpggoejkkhceaaDoorVs
namespace Go.Proofs.YtgpggoejkkhceaaDoor.V
open Go.RowKit

structure DC where
  i : Nat
  hist : List Ent
  rest : List Oper
  F : Tr
  M : Mem
  ids : List Nat
  φ : List Prop
def runE (X : IntKind → Bool) (P : Program) (Γ : Glob) (N : Nat) (full : List Oper) : List Oper → Nat → List Ent → Tr → Mem → List Nat → List Prop → Option DC
  | [], i, h, F, M, ids, φ => some ⟨i, h, [], F, M, ids, φ⟩
  | o :: r, i, h, F, M, ids, φ => match dstep X P Γ N full i o F M ids with
    | none => some ⟨i, h, o :: r, F, M, ids, φ⟩
    | some ⟨e, F', M', ids', φ'⟩ => runE X P Γ N full r (i + 1) (e :: h) F' M' ids' (φ' ++ φ)
def runDS (X : IntKind → Bool) (C : Ctx) (full : List Oper) (i : Nat) (h : List Ent) (rest : List Oper) (F : Tr) (M : Mem) (ids : List Nat) : Option DC :=
  match rest with
  | [] => none
  | o :: r => match dstep X C.P C.Γ C.N full i o F M ids with
    | none => none
    | some ⟨e, F', M', ids', φ'⟩ => match runE X C.P C.Γ C.N full r (i + 1) (e :: h) F' M' ids' φ' with
      | some ⟨i', h', r', F2, M2, ids2, φ2⟩ => fP φ2 fun φ3 => some ⟨i', h', r', F2, M2, ids2, φ3⟩
      | none => none

section
variable {X : IntKind → Bool} {C : Ctx} {Q0 : Exit → Act → World → Prop} {F F' F0 : Tr} {M M' M0 : Mem} {ids ids' ids0 : List Nat} {k : List Kont} {full rest rest' : List Oper} {hist hist' : List Ent} {i i' : Nat}

structure DInv (C : Ctx) (full : List Oper) (F0 : Tr) (M0 : Mem) (ids0 : List Nat) (i : Nat) (hist : List Ent) (rest : List Oper) (F : Tr) (M : Mem) (ids : List Nat) : Prop where
  ok : HOk C full F0 M0 hist
  len : hist.length = i
  rest : ∀ j, rest[j]? = full[i + j]?
  F : ∀ t, F.get t = gF F0 all1 hist t
  M : ∀ id, find M id = gM M0 all1 hist id
  ids : ids0 = hist.reverse.filterMap (·.nid) ++ ids
/-- From here on all goes well: in the midst of a region that draws its order. -/
def DSat (C : Ctx) (Q0 : Exit → Act → World → Prop) (k : List Kont) (full : List Oper) (F0 : Tr) (M0 : Mem) (ids0 : List Nat) (i : Nat) (hist : List Ent) (rest : List Oper) (F : Tr) (M : Mem) (ids : List Nat) : Prop :=
  DInv C full F0 M0 ids0 i hist rest F M ids → ∀ U E a w, Sup ids0 U → St C F0 M0 U E a w → wpAny C.P .any full.toArray (Kq C.P Q0 k) full.length (Array.replicate full.length false) a w

theorem getD_replicate_false' (m j : Nat) : (Array.replicate m false).getD j false = false := by
  rcases Nat.lt_or_ge j m with h | h
  · simp [h]
  · simp [h]
theorem DInv.step {o : Oper} (D : DInv C full F0 M0 ids0 i hist (o :: rest) F M ids) {e : Ent} (hok : full[i]? = some o → OpOk C full o e F.get (find M)) (hj : e.j = i) (hd : e.dst = o.dst) (hF : ∀ t, F'.get t = if o.dst = some t then e.val else F.get t)
    (hM : ∀ id, find M' id = (look e.ch id).getD (find M id)) (hi : ids = e.nid.toList ++ ids') : DInv C full F0 M0 ids0 (i + 1) (e :: hist) rest F' M' ids' := by
  have ho : full[i]? = some o := by simpa using (D.rest 0).symm
  have h1 : F.get = gF F0 all1 hist := funext D.F
  have h2 : find M = gM M0 all1 hist := funext D.M
  refine ⟨.cons D.ok (by rw [D.len]; exact ho) (by rw [D.len]; exact hj) hd (h1 ▸ h2 ▸ hok ho), by simp [D.len], fun j => ?_, fun t => ?_, fun id => ?_, ?_⟩
  · have := D.rest (j + 1)
    simpa [Nat.add_assoc, Nat.add_comm 1 j] using this
  · rw [hF t]
    simp only [gF, all1, true_and, hd, h1]
  · rw [hM id]
    simp only [gM, all1, if_true, h2]
  · rw [D.ids, hi]
    simp only [List.reverse_cons, List.filterMap_append, List.append_assoc]
    cases hn : e.nid with
    | none => simp [hn]
    | some n => simp [hn]
theorem runE_ok : ∀ (rest : List Oper) {i : Nat} {hist : List Ent} {F : Tr} {M : Mem} {ids : List Nat} {φ : List Prop} {d : DC}, runE X C.P C.Γ C.N full rest i hist F M ids φ = some d → All d.φ →
    All φ ∧ (DInv C full F0 M0 ids0 i hist rest F M ids → DInv C full F0 M0 ids0 d.i d.hist d.rest d.F d.M d.ids)
  | [], i, hist, F, M, ids, φ, d, h, hφ => by
    simp only [runE, Option.some.injEq] at h
    subst h
    exact ⟨hφ, id⟩
  | o :: r, i, hist, F, M, ids, φ, d, h, hφ => by
    simp only [runE] at h
    split at h
    · simp only [Option.some.injEq] at h
      subst h
      exact ⟨hφ, id⟩
    · rename_i e F' M' ids' φ' hs
      obtain ⟨h1, h2⟩ := runE_ok r h hφ
      obtain ⟨h3, h4⟩ := h1.app
      refine ⟨h4, fun D => h2 ?_⟩
      have ho : full[i]? = some o := by simpa using (D.rest 0).symm
      obtain ⟨q1, q2, q3, q4, q5, q6⟩ := dstep_ok ho hs h3
      exact D.step (fun _ => q1) q2 q3 q4 q5 q6

theorem Sat.drawn {id : Nat} {ops : List Oper} (hm : C.P.follows .mixedOrders = true) (h : DSat C Q0 k ops F M ids 0 [] ops F M ids) : Sat C Q0 (.code (.region id ⟨ops⟩ true) F M ids k) := by
  intro U E a w hsup hst
  have := h ⟨.nil, rfl, fun j => by simp, fun t => rfl, fun id => rfl, rfl⟩ U E a w.drew hsup hst.drew
  refine wp_region_any hm ?_
  simpa using this
theorem DSat.run {φ : List Prop} (h : runDS X C full i hist rest F M ids = some ⟨i', hist', rest', F', M', ids', φ⟩) (hφ : AllP φ) (hn : DSat C Q0 k full F0 M0 ids0 i' hist' rest' F' M' ids') : DSat C Q0 k full F0 M0 ids0 i hist rest F M ids := by
  intro D
  unfold runDS at h
  split at h
  · cases h
  · rename_i o r
    split at h
    · cases h
    · rename_i e F1 M1 ids1 φ1 hs
      split at h
      · rename_i i2 h2 r2 F2 M2 ids2 φ2 hr
        rw [fP_eq] at h
        simp only [Option.some.injEq, DC.mk.injEq] at h
        obtain ⟨rfl, rfl, rfl, rfl, rfl, rfl, rfl⟩ := h
        obtain ⟨q1, q2⟩ := runE_ok (F0 := F0) (M0 := M0) (ids0 := ids0) r hr hφ.all
        have ho : full[i]? = some o := by simpa using (D.rest 0).symm
        obtain ⟨p1, p2, p3, p4, p5, p6⟩ := dstep_ok ho hs q1
        exact hn (q2 (D.step (fun _ => p1) p2 p3 p4 p5 p6))
      · cases h
theorem DSat.fin (hB : drawnB full (pmsOf full []) hist = true) (h : Sat C Q0 (.ext .normal F M ids k)) : DSat C Q0 k full F0 M0 ids0 i hist [] F M ids := by
  intro D U E a w hsup hst
  have hlen : hist.length = full.length := by
    have h1 : full.length ≤ i := by
      rcases Nat.lt_or_ge i full.length with hlt | hge
      · have := D.rest 0
        simp [List.getElem?_eq_getElem hlt] at this
      · exact hge
    have h2 : hist.length ≤ full.length := by
      rcases Nat.lt_or_ge full.length hist.length with hlt | hge
      · obtain ⟨_, _, _, o, _, _, h3, _⟩ := D.ok.split full.length hlt
        simp at h3
      · exact hge
    have := D.len
    omega
  refine drawn_core (U0 := U) D.ok hlen hB D.ids hsup (fun F1 M1 U1 E1 a1 w1 q1 q2 q3 q4 => h U1 E1 a1 w1 q3 (q4.ext (fun t => (D.F t).trans (q1 t).symm) (fun id => (D.M id).trans (q2 id).symm) fun _ h => h)) full.length _ F0 M0 U E a w (by simp) (fun j o _ hl => ?_) ?_ (fun t => ?_) (fun id => ?_) (fun k hk _ => hk) hst
  · rw [getD_replicate_false'] at hl; cases hl
  · have : ∀ n, unl (fun j => (Array.replicate full.length false).getD j false) n ≤ n := by
      intro n
      induction n with
      | zero => exact Nat.le_refl _
      | succ n ih => simp only [unl]; split <;> omega
    exact this _
  · have := gF_skip (F0 := F0) (L := fun j => (Array.replicate full.length false).getD j false) (t := t) (h := hist) (r := []) fun e _ => getD_replicate_false' _ _
    rw [List.append_nil] at this
    rw [this]; rfl
  · have := gM_skip (M0 := M0) (L := fun j => (Array.replicate full.length false).getD j false) (id := id) (h := hist) (r := []) fun e _ => getD_replicate_false' _ _
    rw [List.append_nil] at this
    rw [this]; rfl

theorem MOk.le {E : Env} {T : Nat → Prop} {w : World} (h : MOk E T M w) (hM : MLe M' M) : MOk E T M' w :=
  ⟨fun id B hf => h.blk id B (hM id B hf), fun id id' b h1 h2 => h.inj id id' b (by obtain ⟨B, hB⟩ := Option.isSome_iff_exists.1 h1; rw [hM _ _ hB]; rfl) (by obtain ⟨B, hB⟩ := Option.isSome_iff_exists.1 h2; rw [hM _ _ hB]; rfl)⟩
theorem opdsC_le {Γ : Glob} : ∀ {l : List Operand} {r : List SV}, OLe Γ F F' l → opdsC Γ F l = some r → opdsC Γ F' l = some r
  | [], r, _, h => h
  | x :: l, r, hx, h => by
    unfold opdsC at *
    cases hs : opd Γ F x with
    | none => simp [hs] at h
    | some s =>
      rw [hs] at h
      rw [hx x (List.mem_cons_self ..) s hs]
      simp only at h ⊢
      cases hq : opdsC Γ F l with
      | none => simp [hq] at h
      | some q => rw [hq] at h; rw [opdsC_le (fun y hy => hx y (List.mem_cons_of_mem _ hy)) hq]; exact h
theorem argsF_le {Γ : Glob} {x : Operand} {xs : List Operand} {ats : Array TypeId} {r : FuncId × List SV} (hx : OLe Γ F F' (Op.call ⟨.value x, ⟨xs⟩, ats⟩).operands.toList) (h : argsF Γ F x xs = some r) : argsF Γ F' x xs = some r := by
  unfold argsF at *
  cases hf : opd Γ F x with
  | none => simp [hf] at h
  | some sf =>
    rw [hf] at h
    rw [hx x (by simp [Op.operands, Call.operands]) _ hf]
    cases sf <;> first | (cases h; done) | skip
    all_goals
      simp only at h ⊢
      cases hs : opdsC Γ F xs with
      | none => simp [hs] at h
      | some svs =>
        rw [hs] at h
        rw [opdsC_le (fun y hy => hx y (by simp [Op.operands, Call.operands, hy])) hs]
        exact h
/-- A call, what is given being read alone. -/
theorem DSat.call {d : Option Tmp} {x : Operand} {f : FuncId} {xs : List Operand} {ats : Array TypeId} {type : TypeId} {pos : String} {after : Array Edge} {svs args : List SV} {res : SV}
    (hspec : Fun C.P C.Γ f args res) (hx : argsF C.Γ F x xs = some (f, svs)) (hc : callable C.P f = true) (hconv : Convs [] svs args) (hp : putD C.N F d (some res) some = some F')
    (h : DSat C Q0 k full F0 M0 ids0 (i + 1) (⟨i, d, some res, none, [], []⟩ :: hist) rest F' M ids) :
    DSat C Q0 k full F0 M0 ids0 i hist (⟨d, .call ⟨.value x, ⟨xs⟩, ats⟩, type, pos, after, none⟩ :: rest) F M ids := by
  intro D
  obtain ⟨F1, h1, h2⟩ := putD_inv hp
  cases h1
  obtain ⟨p1, p2⟩ := putD_get h2
  refine h (D.step (fun ho Q K Fa Ma U E a w q1 q2 q3 hst hK => ?_) rfl rfl p2 (fun id => rfl) rfl)
  refine wpOp_plain ho rfl ?_
  unfold Oper.wp
  obtain ⟨vs, ht, hex⟩ := argsF_ok hst.vw (argsF_le (looks_le (F := F) q1 fun _ => rfl) hx)
  rw [hex, run_callFunc_go hc]
  have hH : MOk E (trk C.T0 Ma E) [] w := ⟨fun id B hf => by simp [find] at hf, fun id id' b hf => by simp [find] at hf⟩
  have ht' := Convs.tups (T' := trk C.T0 Ma E) hH (fun _ _ h => h) (fun id b hf => by simp [find] at hf) hconv ht
  refine (hspec (trk C.T0 Ma E) w _ hst.lt hst.glob ht').mono ?_
  rintro e w' ⟨v, rfl, hr, hb⟩
  obtain ⟨F2, hF2⟩ := tr_put Fa d (some res)
  exact hK F2 Ma U E _ w' hF2 (fun id => rfl) (fun k => by simp) ((hst.below hb).putG p1 hF2 fun s' hs' => by cases hs'; exact hr.up)
/-- A call whose result is no memory. -/
theorem DSat.callR {d : Option Tmp} {x : Operand} {f : FuncId} {xs : List Operand} {ats : Array TypeId} {type : TypeId} {pos : String} {after : Array Edge} {svs args : List SV} {res : SV}
    (hspec : Fun C.P C.Γ f args res) (hrig : rigid res = true) (hx : argsF C.Γ F x xs = some (f, svs)) (hc : callable C.P f = true) (hconv : Convs (keep M (idsL svs)) svs args) (hp : putD C.N F d (some res) some = some F')
    (h : DSat C Q0 k full F0 M0 ids0 (i + 1) (⟨i, d, some res, none, [], idsL svs⟩ :: hist) rest F' M ids) :
    DSat C Q0 k full F0 M0 ids0 i hist (⟨d, .call ⟨.value x, ⟨xs⟩, ats⟩, type, pos, after, none⟩ :: rest) F M ids := by
  intro D
  obtain ⟨F1, h1, h2⟩ := putD_inv hp
  cases h1
  obtain ⟨p1, p2⟩ := putD_get h2
  refine h (D.step (fun ho Q K Fa Ma U E a w q1 q2 q3 hst hK => ?_) rfl rfl p2 (fun id => rfl) rfl)
  refine wpOp_plain ho rfl ?_
  unfold Oper.wp
  obtain ⟨vs, ht, hex⟩ := argsF_ok hst.vw (argsF_le (looks_le (F := F) q1 fun _ => rfl) hx)
  rw [hex, run_callFunc_go hc]
  have hle : MLe (keep M (idsL svs)) Ma := foot_le q2 fun _ => rfl
  have ht' := Convs.tups (T' := C.T0) (hst.mem.le hle) (fun _ _ h => .inr h) (fun id b hf => hst.apart id b (by obtain ⟨B, hB⟩ := Option.isSome_iff_exists.1 hf; rw [hle _ _ hB]; rfl)) hconv ht
  refine (hspec C.T0 w _ (fun b hb => hst.lt b (.inr hb)) (hst.glob.mono (fun _ _ h => .inr h) (Chg.refl _ w)) ht').mono ?_
  rintro e w' ⟨v, rfl, hr, hb⟩
  obtain ⟨F2, hF2⟩ := tr_put Fa d (some res)
  exact hK F2 Ma U E _ w' hF2 (fun id => rfl) (fun k => by simp) ((hst.below hb).putG p1 hF2 fun s' hs' => by cases hs'; exact hr.rigid_ hrig)
theorem guardH_le {o : Oper} {j : Nat} {want : Bool} {H : Prop} (hg : o.guard = some (j, want)) (h : ∀ t ∈ o.looksAt full.toArray, F'.get t = F.get t) (hH : guardH F full j want = some H) : guardH F' full j want = some H := by
  unfold guardH at hH ⊢
  split at hH
  · rename_i d hd
    rw [dstOf_eq] at hd
    have : d ∈ o.looksAt full.toArray := List.mem_append_right _ (by simp only [hg]; simp only [List.getElem?_toArray, hd]; simp)
    rw [h d this]
    exact hH
  · cases hH
/-- The same under a guard. -/
theorem DSat.callG {d : Option Tmp} {x : Operand} {f : FuncId} {xs : List Operand} {ats : Array TypeId} {type : TypeId} {pos : String} {after : Array Edge} {svs args : List SV} {res : SV} {j : Nat} {want : Bool} {H : Prop}
    (hH : guardH F full j want = some H) (hspec : H → Fun C.P C.Γ f args res) (hrig : rigid res = true) (hx : argsF C.Γ F x xs = some (f, svs)) (hc : callable C.P f = true) (hconv : H → Convs (keep M (idsL svs)) svs args) (hp : putD C.N F d (some (.may H res)) some = some F')
    (h : DSat C Q0 k full F0 M0 ids0 (i + 1) (⟨i, d, some (.may H res), none, [], idsL svs⟩ :: hist) rest F' M ids) :
    DSat C Q0 k full F0 M0 ids0 i hist (⟨d, .call ⟨.value x, ⟨xs⟩, ats⟩, type, pos, after, some (j, want)⟩ :: rest) F M ids := by
  intro D
  obtain ⟨F1, h1, h2⟩ := putD_inv hp
  cases h1
  obtain ⟨p1, p2⟩ := putD_get h2
  refine h (D.step (fun ho Q K Fa Ma U E a w q1 q2 q3 hst hK => ?_) rfl rfl p2 (fun id => rfl) rfl)
  have hiff := guardH_ok (full := full) hst (guardH_le rfl q1 hH)
  obtain ⟨F2, hF2⟩ := tr_put Fa d (some (.may H res))
  unfold wpOp
  simp only [List.getElem?_toArray, ho]
  by_cases hy : (yielded full.toArray a.tmps j == some want) = true
  · have hh := hiff.1 hy
    simp only [Region.wanted, hy, if_true]
    left
    unfold Oper.wp
    obtain ⟨vs, ht, hex⟩ := argsF_ok hst.vw (argsF_le (looks_le (F := F) q1 fun _ => rfl) hx)
    rw [hex, run_callFunc_go hc]
    have hle : MLe (keep M (idsL svs)) Ma := foot_le q2 fun _ => rfl
    have ht' := Convs.tups (T' := C.T0) (hst.mem.le hle) (fun _ _ h => .inr h) (fun id b hf => hst.apart id b (by obtain ⟨B, hB⟩ := Option.isSome_iff_exists.1 hf; rw [hle _ _ hB]; rfl)) (hconv hh) ht
    refine (hspec hh C.T0 w _ (fun b hb => hst.lt b (.inr hb)) (hst.glob.mono (fun _ _ h => .inr h) (Chg.refl _ w)) ht').mono ?_
    rintro e w' ⟨v, rfl, hr, hb⟩
    exact hK F2 Ma U E _ w' hF2 (fun id => rfl) (fun k => by simp) ((hst.below hb).putG p1 hF2 fun s' hs' => by cases hs'; exact .may1 _ _ _ hh (hr.rigid_ hrig))
  · have hh : ¬ H := fun hh => hy (hiff.2 hh)
    simp only [Region.wanted, hy]
    exact hK F2 Ma U E _ w hF2 (fun id => rfl) (fun k => by simp) (hst.putG p1 hF2 fun s' hs' => by cases hs'; exact .may0 _ _ hh)
theorem DSat.callG1 {d : Option Tmp} {x : Operand} {f : FuncId} {xs : List Operand} {ats : Array TypeId} {type : TypeId} {pos : String} {after : Array Edge} {svs args : List SV} {res : SV} {j : Nat} {want : Bool} {H : Prop}
    (hspec : Fun C.P C.Γ f args res) (hH : guardH F full j want = some H) (hrig : rigid res = true) (hx : argsF C.Γ F x xs = some (f, svs)) (hc : callable C.P f = true) (hconv : H → Convs (keep M (idsL svs)) svs args) (hp : putD C.N F d (some (.may H res)) some = some F')
    (h : DSat C Q0 k full F0 M0 ids0 (i + 1) (⟨i, d, some (.may H res), none, [], idsL svs⟩ :: hist) rest F' M ids) :
    DSat C Q0 k full F0 M0 ids0 i hist (⟨d, .call ⟨.value x, ⟨xs⟩, ats⟩, type, pos, after, some (j, want)⟩ :: rest) F M ids := DSat.callG hH (fun _ => hspec) hrig hx hc hconv hp h
/-- An operation whose guard is known not to hold. -/
theorem DSat.goff {d : Option Tmp} {op : Op} {type : TypeId} {pos : String} {after : Array Edge} {j : Nat} {want : Bool} {H : Prop} (hH : guardH F full j want = some H) (hh : ¬ H) (hp : putD C.N F d none some = some F')
    (h : DSat C Q0 k full F0 M0 ids0 (i + 1) (⟨i, d, none, none, [], []⟩ :: hist) rest F' M ids) : DSat C Q0 k full F0 M0 ids0 i hist (⟨d, op, type, pos, after, some (j, want)⟩ :: rest) F M ids := by
  intro D
  obtain ⟨F1, h1, h2⟩ := putD_inv hp
  cases h1
  obtain ⟨p1, p2⟩ := putD_get h2
  refine h (D.step (fun ho Q K Fa Ma U E a w q1 q2 q3 hst hK => ?_) rfl rfl p2 (fun id => rfl) rfl)
  have hiff := guardH_ok (full := full) hst (guardH_le rfl q1 hH)
  have hy : ¬ (yielded full.toArray a.tmps j == some want) = true := fun hy => hh (hiff.1 hy)
  obtain ⟨F2, hF2⟩ := tr_put Fa d none
  unfold wpOp
  simp only [List.getElem?_toArray, ho]
  simp only [Region.wanted, hy]
  exact hK F2 Ma U E _ w hF2 (fun id => rfl) (fun k => by simp) (hst.putG p1 hF2 fun s' hs' => by cases hs')
end
end Go.Proofs.YtgpggoejkkhceaaDoor.V
