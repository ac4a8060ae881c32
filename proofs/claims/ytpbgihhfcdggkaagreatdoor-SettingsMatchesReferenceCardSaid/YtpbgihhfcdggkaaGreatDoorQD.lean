/-
  Joined texts: Cn: Contracts of functions that write what they are given; calls by them.
  Cp: Calls by contracts of functions that write what they are given; regions that draw their order, by the rules of plain ones.
  SK: Settings, the reference: values taken out, put in.
  SE: Settings: the store's functions, by contracts of functions that write what they are given.
  SF: Settings: pop, move, and what rules do, by contracts of functions that write what they are given.
  SG: Settings: what each kind of rule does and undoes, by contracts of functions that write what they are given.
  SH: Settings: rules that are right; rules as what they do; a list turned round.
  SM: Settings, the reference: rules done and undone.
  SP1: Settings: the settings and the rules of the laws (Call, Value, Rule), and sameVals, Same.
  SPf: Settings, plain: the digits of the version; what both readings of a text give of a printed one.
  SQ: Settings, plain: texts cut and split, as the library does it.
  Bh: A slice that is read compared with nil; a copy into a part of a row of one's own.
  Bi: A builder's own check: it stores its own address.
  Bj: The text of a builder, at the end of a function: all memory is given up.
  Bk: A region that draws its order, of which the last operation waits for all the others: it is walked alone, in the end.
  Bl: The nil interface compared with nil; what a table's cell holds.
  SR: Settings: what Print and Parse call of the library.
  SS: Settings: Print of the program.
-/
import Derived.Test.YtpbgihhfcdggkaaGreatDoorQC
import Derived.Lib.AtoiAll
import Derived.Lib.ItoaNum
import Derived.WideLaws
import Derived.Shelf.Strings.Builder1
import Derived.Lib.ItoaLen
import Derived.Lib.AppendIntMem
import Derived.Lib.AtoiErrMem
section
namespace Go.Proofs.YtpbgihhfcdggkaaGreatDoor.V
open Go.RowKit
set_option linter.unusedVariables false
structure MPre (Γ : Glob) (dom : List Nat) (args : List SV) (M0 : Mem) (T : Nat → Prop) (w : World) (E : Env) (vs : List Value) : Prop where
  lt : ∀ b, T b → b < w.heap.size
  apart : ∀ i b, (find M0 i).isSome = true → E i = some (some b) → ¬ T b
  glob : GOk Γ (trk T M0 E) w
  mem : MOk E (trk T M0 E) M0 w
  args : Tup E (trk T M0 E) w args vs
  dom : ∀ i x, E i = some x → dom.elem i = true
structure MRet (M0 : Mem) (res : SV) (M1 : Mem) (T : Nat → Prop) (w : World) (E E1 : Env) (v : Value) (w' : World) : Prop where
  env : ∀ i x, E i = some x → E1 i = some x
  mem : MOk E1 (trk T M1 E1) M1 w'
  res : Rep E1 (trk T M1 E1) w' res v
  own : ∀ i b, (find M1 i).isSome = true → E1 i = some (some b) → w.heap.size ≤ b ∨ mine M0 E b
  chg : Chg (mine M0 E) w w'
  os : w'.os = w.os
  tape : w'.tape = w.tape
  output : w'.output = w.output
def MF (P : Program) (Γ : Glob) (f : FuncId) (dom : List Nat) (args : List SV) (M0 : Mem) (res : SV) (M1 : Mem) : Prop :=
  ∀ T w E vs, MPre Γ dom args M0 T w E vs → Calls P f vs.toArray w fun e w' => ∃ v E1, e = .returned v ∧ MRet M0 res M1 T w E E1 v w'
def MX (P : Program) (Γ : Glob) (f : FuncId) (dom : List Nat) (args : List SV) (M0 : Mem) (t : TypeId) : Prop :=
  ∀ T w E vs, MPre Γ dom args M0 T w E vs → Calls P f vs.toArray w fun e w' => e = .panicked [{ v := .iface t (.agg #[]), recovered := false }] ∧ Chg (mine M0 E) w w' ∧ w'.os = w.os ∧ w'.tape = w.tape ∧ w'.output = w.output
theorem MOk.monoT {E : Env} {T T' : Nat → Prop} {M : Mem} {w : World} (h : MOk E T M w) (hT : ∀ b, T' b → T b) : MOk E T' M w :=
  ⟨fun id B hf => by
    rcases h.blk id B hf with ⟨b, h1, h2, h3⟩ | h1
    · exact .inl ⟨b, h1, h2, h3.mono (fun _ _ h => h) (fun b _ hb => hT b hb) (Chg.refl _ w) rfl⟩
    · exact .inr h1, h.inj⟩
def supB (dom : List Nat) : List Nat → Bool
  | [] => true
  | i :: r => !dom.elem i && supB (i :: dom) r
theorem supB_ok : ∀ {ids dom : List Nat} {U : Nat → Prop}, supB dom ids = true → (∀ k, dom.elem k = false → U k) → Sup ids U
  | [], _, _, _, _ => trivial
  | i :: r, dom, U, h, hU => by
    simp only [supB, Bool.and_eq_true, Bool.not_eq_true'] at h
    refine ⟨hU i h.1, supB_ok h.2 fun k hk => ?_⟩
    rw [List.elem] at hk
    split at hk
    · cases hk
    · rename_i hne
      exact ⟨hU k hk, fun e => by subst e; simp at hne⟩
@[reducible] def cxM (P : Program) (Γ : Glob) (N : Nat) (dom : List Nat) (M0 : Mem) (T : Nat → Prop) (w : World) (E : Env) : Ctx := ⟨P, w, mine M0 E, T, Γ, N, dom, [⟨E, .e, fun _ => undef, []⟩], false⟩
section
variable {P : Program} {Γ : Glob} {f : FuncId} {fn : Func} {c : Code} {N : Nat} {dom : List Nat} {args : List SV} {M0 M1 : Mem} {res : SV}
theorem MPre.st {T : Nat → Prop} {w : World} {E : Env} {vs : List Value} {F : Tr} {ids : List Nat} (dep : Nat) (h : MPre Γ dom args M0 T w E vs) (hN : fn.ntmps = N) (hle : Nat.ble args.length N = true) (hF : argT 0 args (Tr.mk dep) = some F) (hids : supB dom ids = true) :
    Sup ids (fun k => dom.elem k = false) ∧ St (cxM P Γ N dom M0 T w E) F M0 (fun k => dom.elem k = false) E { tmps := vs.toArray ++ Array.replicate (fn.ntmps - vs.toArray.size) undef, defers := [] } w := by
  have hle' := Nat.le_of_ble_eq_true hle
  have hlen := h.args.len
  refine ⟨supB_ok hids fun _ hk => hk, rfl, ?_, fun t s hs => ?_, h.mem, fun id b hf hE => ?_, fun k hk => ?_, ⟨rfl, rfl, rfl, Chg.refl _ w⟩, fun b hb => .inl ⟨h.lt b hb, fun ⟨id, B, h1, h2⟩ => h.apart id b (by rw [h1]; rfl) h2 hb⟩, h.glob, fun p hp id b h1 => ?_, fun p hp t s hs => ?_⟩
  · simp only [Array.size_append, List.size_toArray, Array.size_replicate, hlen, hN]; omega
  · rcases argT_get hF h.args t s hs with ⟨q1, _⟩ | ⟨_, v, q2, q3⟩ | ⟨_, q2⟩
    · omega
    · have hlt : t < vs.length := by simpa using (List.getElem?_eq_some_iff.1 q2).1
      have : (vs.toArray ++ Array.replicate (fn.ntmps - vs.toArray.size) undef).getD t undef = v := by
        rw [Array.getD_eq_getD_getElem?, Array.getElem?_append_left (by simpa using hlt)]
        simp only [Nat.sub_zero] at q2
        simp [q2]
      rw [this]
      exact q3
    · rw [mk_get] at q2; cases q2
  · cases hq : find M0 id with
    | none => rw [hq] at hf; cases hf
    | some B => exact .inr ⟨id, B, hq, hE⟩
  · cases hq : E k with
    | none => rfl
    | some x => rw [h.dom k x hq] at hk; cases hk
  · simp only [List.mem_singleton] at hp
    subst hp
    exact ⟨h.dom id b h1, h1⟩
  · simp only [List.mem_singleton] at hp
    subst hp
    cases t <;> simp [Tr.get] at hs
theorem MF.mk {F : Tr} {ids : List Nat} (dep : Nat) (hf : P.funcs[f]? = some fn) (hb : fn.body = some c) (hN : fn.ntmps = N) (hle : Nat.ble args.length N = true) (hF : argT 0 args (Tr.mk dep) = some F) (hids : supB dom ids = true)
    (h : ∀ T w E, Sat (cxM P Γ N dom M0 T w E) (bodyPost P fn (fun e w' => ∃ v E1, e = .returned v ∧ MRet M0 res M1 T w E E1 v w')) (.code c F M0 ids [])) : MF P Γ f dom args M0 res M1 := by
  intro T w E vs hpre
  obtain ⟨h1, h2⟩ := hpre.st (P := P) (fn := fn) dep hN hle hF hids
  exact calls_of_wp hf hb (h T w E _ E _ w h1 h2)
theorem MX.mk {F : Tr} {ids : List Nat} {t : TypeId} (dep : Nat) (hf : P.funcs[f]? = some fn) (hb : fn.body = some c) (hN : fn.ntmps = N) (hle : Nat.ble args.length N = true) (hF : argT 0 args (Tr.mk dep) = some F) (hids : supB dom ids = true)
    (h : ∀ T w E, Sat (cxM P Γ N dom M0 T w E) (bodyPost P fn (fun e w' => e = .panicked [{ v := .iface t (.agg #[]), recovered := false }] ∧ Chg (mine M0 E) w w' ∧ w'.os = w.os ∧ w'.tape = w.tape ∧ w'.output = w.output)) (.code c F M0 ids [])) : MX P Γ f dom args M0 t := by
  intro T w E vs hpre
  obtain ⟨h1, h2⟩ := hpre.st (P := P) (fn := fn) dep hN hle hF hids
  exact calls_of_wp hf hb (h T w E _ E _ w h1 h2)
def subM : Mem → Mem → Prop
  | [], _ => True
  | (i, B) :: r, M => find M i = some B ∧ subM r M
theorem subM_le : ∀ {M1 M : Mem}, subM M1 M → MLe M1 M
  | [], M, _ => fun id B hf => by simp [find] at hf
  | (i, B0) :: r, M, h => fun id B hf => by
    rw [find_cons] at hf
    split at hf
    · rename_i e
      cases hf
      subst e
      exact h.1
    · exact subM_le h.2 id B hf
theorem mret_of {T : Nat → Prop} {w : World} {E : Env} {F : Tr} {M : Mem} {U : Nat → Prop} {E1 : Env} {a : Act} {w' : World} {v : Value} (hM : subM M1 M) (hst : St (cxM P Γ N dom M0 T w E) F M U E1 a w') (hr : Rep E1 (trk T M E1) w' res v) : MRet M0 res M1 T w E E1 v w' := by
  have hle := subM_le hM
  have hT : ∀ b, trk T M1 E1 b → trk T M E1 b := fun b hb => by
    rcases hb with ⟨i, B, h1, h2⟩ | h0
    · exact .inl ⟨i, B, hle i B h1, h2⟩
    · exact .inr h0
  refine ⟨fun i x hi => (hst.pin _ (List.mem_singleton.2 rfl) i x hi).2, (hst.mem.le hle).monoT hT, hr.mono (fun _ _ h => h) (fun b _ hb => hT b hb) (Chg.refl _ w'), fun i b hf hE => ?_, hst.kp.chg, hst.kp.os, hst.kp.tape, hst.kp.output⟩
  cases hq : find M1 i with
  | none => rw [hq] at hf; cases hf
  | some B => exact hst.own i b (by rw [hle i B hq]; rfl) hE
variable {T : Nat → Prop} {w : World} {E : Env} {F : Tr} {M : Mem} {ids : List Nat} {e : Ex}
theorem mfin_core (hM : subM M1 M) (he : e = .ret ∨ e = .normal) (hv : ∀ U E1 a w', Sup ids U → St (cxM P Γ N dom M0 T w E) F M U E1 a w' → ∃ v, (results fn a.tmps).run P w' = .ok v w' ∧ Rep E1 (trk T M E1) w' res v) :
    Sat (cxM P Γ N dom M0 T w E) (bodyPost P fn (fun e w' => ∃ v E1, e = .returned v ∧ MRet M0 res M1 T w E E1 v w')) (.ext e F M ids []) := by
  intro U E1 a w' hsup hst
  obtain ⟨v, h1, h2⟩ := hv U E1 a w' hsup hst
  have hd : a.defers = [] := hst.defers
  rcases he with rfl | rfl <;> exact ⟨hd, v, h1, v, E1, rfl, mret_of hM hst h2⟩
theorem Sat.fend0 (hr : fn.results = #[]) (hres : res = .tup []) (hM : subM M1 M) (he : e = .ret ∨ e = .normal) :
    Sat (cxM P Γ N dom M0 T w E) (bodyPost P fn (fun e w' => ∃ v E1, e = .returned v ∧ MRet M0 res M1 T w E E1 v w')) (.ext e F M ids []) :=
  mfin_core hM he fun _ _ _ _ _ _ => ⟨_, results_none hr _ _ _, hres ▸ .tup _ [] .nil⟩
theorem Sat.fend1 {r : ResultVar} {φ : List Prop} {s : SV} (hr : fn.results = #[r]) (h1 : resV P F M r = some (φ, s)) (hφ : AllP φ) (hres : s = res) (hM : subM M1 M) (he : e = .ret ∨ e = .normal) :
    Sat (cxM P Γ N dom M0 T w E) (bodyPost P fn (fun e w' => ∃ v E1, e = .returned v ∧ MRet M0 res M1 T w E E1 v w')) (.ext e F M ids []) :=
  mfin_core hM he fun U E1 a w' _ hst => by
    obtain ⟨v, q1, q2⟩ := resV_ok hst h1 hφ
    refine ⟨v, ?_, hres ▸ q1⟩
    unfold results
    rw [hr]
    exact mapM_run1 q2
theorem Sat.fend2 {r r' : ResultVar} {φ φ' : List Prop} {s s' : SV} (hr : fn.results = #[r, r']) (h1 : resV P F M r = some (φ, s)) (h2 : resV P F M r' = some (φ', s')) (hφ : AllP φ) (hφ' : AllP φ') (hres : .tup [s, s'] = res) (hM : subM M1 M) (he : e = .ret ∨ e = .normal) :
    Sat (cxM P Γ N dom M0 T w E) (bodyPost P fn (fun e w' => ∃ v E1, e = .returned v ∧ MRet M0 res M1 T w E E1 v w')) (.ext e F M ids []) :=
  mfin_core hM he fun U E1 a w' _ hst => by
    obtain ⟨v, q1, q2⟩ := resV_ok hst h1 hφ
    obtain ⟨v', q1', q2'⟩ := resV_ok hst h2 hφ'
    refine ⟨.tuple #[v, v'], ?_, hres ▸ .tup _ [v, v'] (.cons _ _ _ _ q1 (.cons _ _ _ _ q1' .nil))⟩
    unfold results
    rw [hr]
    exact mapM_run2 q2 q2'
theorem SatP.fend {t : TypeId} : SatP (cxM P Γ N dom M0 T w E) (bodyPost P fn (fun e w' => e = .panicked [{ v := .iface t (.agg #[]), recovered := false }] ∧ Chg (mine M0 E) w w' ∧ w'.os = w.os ∧ w'.tape = w.tape ∧ w'.output = w.output)) F M ids t :=
  fun U E1 a w' _ hst => ⟨hst.defers, rfl, hst.kp.chg, hst.kp.os, hst.kp.tape, hst.kp.output⟩
end
def envC (ρ : List (Nat × Nat)) (dom : List Nat) (E : Env) : Env := fun i => match dom.elem i with
  | true => match rn ρ i with
    | some j => E j
    | none => none
  | false => none
def envR (ρ : List (Nat × Nat)) (news : List Nat) (E E1 : Env) : Env := fun j => match news.elem j with
  | true => match inv ρ j with
    | some i => E1 i
    | none => none
  | false => E j
theorem sup_news : ∀ {news ids : List Nat} {U : Nat → Prop}, Sup (news ++ ids) U → (∀ j, news.elem j = true → U j) ∧ Sup ids (fun k => U k ∧ news.elem k = false)
  | [], ids, U, h => ⟨fun j hj => by simp at hj, by
    have : (fun k => U k ∧ ([] : List Nat).elem k = false) = U := funext fun k => propext ⟨fun h => h.1, fun h => ⟨h, rfl⟩⟩
    rw [this]; exact h⟩
  | n :: r, ids, U, h => by
    obtain ⟨h1, h2⟩ := h
    obtain ⟨q1, q2⟩ := sup_news (news := r) h2
    refine ⟨fun j hj => ?_, ?_⟩
    · rw [List.elem] at hj
      split at hj
      · rename_i e
        rw [beq_iff_eq] at e
        subst e
        exact h1
      · exact (q1 j hj).1
    · have : (fun k => U k ∧ (n :: r).elem k = false) = (fun k => rest U n k ∧ r.elem k = false) := funext fun k => propext (by
        unfold rest
        rw [List.elem]
        constructor
        · rintro ⟨h3, h4⟩
          split at h4
          · cases h4
          · rename_i hne
            exact ⟨⟨h3, fun e => by subst e; simp at hne⟩, h4⟩
        · rintro ⟨⟨h3, h4⟩, h5⟩
          refine ⟨h3, ?_⟩
          split
          · rename_i e
            rw [beq_iff_eq] at e
            exact absurd e h4
          · exact h5)
      rw [this]
      exact q2
section
variable {C : Ctx} {F : Tr} {M M' M0 M1 Mn : Mem} {U : Nat → Prop} {E : Env} {a : Act} {w : World} {τ ρ : List (Nat × Nat)} {dom news : List Nat} {args svs : List SV} {res res' : SV} {f : FuncId} {ids : List Nat} {φ1 φ2 φ3 φ4 : List Prop} {vs : List Value}
theorem call_pre (hst : St C F M U E a w) (hw : C.wide = false) (o : OkN τ ρ dom news M) (hg : grabOk τ ρ M M0 = some φ2) (hφ2 : AllP φ2) (ha : rnL τ svs = some (φ1, args)) (hφ1 : AllP φ1) (ht : Tup E (trk C.T0 M E) w svs vs) :
    MPre C.Γ dom args M0 (fun b => trk C.T0 M E b ∧ ¬ mine M0 (envC ρ dom E) b) w (envC ρ dom E) vs ∧ (∀ b, mine M0 (envC ρ dom E) b → mine M E b) ∧ ∀ b, trk (fun b => trk C.T0 M E b ∧ ¬ mine M0 (envC ρ dom E) b) M0 (envC ρ dom E) b ↔ trk C.T0 M E b := by
  have hE1 : ∀ j i x, rn τ j = some i → E j = some x → envC ρ dom E i = some x := fun j i x h1 h2 => by
    obtain ⟨q1, q2⟩ := o.back j i h1
    unfold envC
    rw [q1, q2]
    exact h2
  have hm : ∀ b, mine M0 (envC ρ dom E) b → mine M E b := by
    rintro b ⟨i, B, h1, h2⟩
    obtain ⟨j, B1, ψ, k1, _, k2, _, _⟩ := grab_at hg hφ2 i B h1
    refine ⟨j, B1, k2, ?_⟩
    unfold envC at h2
    split at h2
    · rw [k1] at h2; exact h2
    · cases h2
  have hT : ∀ b, trk (fun b => trk C.T0 M E b ∧ ¬ mine M0 (envC ρ dom E) b) M0 (envC ρ dom E) b ↔ trk C.T0 M E b := fun b => by
    constructor
    · rintro (h | h)
      · exact .inl (hm b h)
      · exact h.1
    · intro h
      by_cases hb : mine M0 (envC ρ dom E) b
      · exact .inl hb
      · exact .inr ⟨h, hb⟩
  have hTe : trk (fun b => trk C.T0 M E b ∧ ¬ mine M0 (envC ρ dom E) b) M0 (envC ρ dom E) = trk C.T0 M E := funext fun b => propext (hT b)
  refine ⟨⟨fun b hb => hst.lt hw b hb.1, fun i b hf hE hb => ?_, by rw [hTe]; exact hst.glob, ?_, by rw [hTe]; exact rnL_tup hE1 ha hφ1 ht, fun i x hx => ?_⟩, hm, hT⟩
  · cases hq : find M0 i with
    | none => rw [hq] at hf; cases hf
    | some B => exact hb.2 ⟨i, B, hq, hE⟩
  · rw [hTe]
    refine ⟨fun i B hf => ?_, fun i i' b h1 h2 h3 h4 => ?_⟩
    · obtain ⟨j, B1, ψ, k1, hτ, k2, k3, k4⟩ := grab_at hg hφ2 i B hf
      rcases hst.mem.blk j B1 k2 with ⟨b, q1, q2, q3⟩ | ⟨q1, t, e, rfl, q2⟩
      · exact .inl ⟨b, hE1 j i _ hτ q1, q2, rnB_ok hE1 k3 k4 q3⟩
      · exact .inr ⟨hE1 j i _ hτ q1, t, e, rnB_row k3, q2⟩
    · obtain ⟨B, hB⟩ := Option.isSome_iff_exists.1 h1
      obtain ⟨B', hB'⟩ := Option.isSome_iff_exists.1 h2
      obtain ⟨j, B1, ψ, k1, hτ, k2, _, _⟩ := grab_at hg hφ2 i B hB
      obtain ⟨j', B1', ψ', k1', hτ', k2', _, _⟩ := grab_at hg hφ2 i' B' hB'
      have e1 : E j = some (some b) := by
        unfold envC at h3
        rw [(o.back j i hτ).1, k1] at h3
        exact h3
      have e2 : E j' = some (some b) := by
        unfold envC at h4
        rw [(o.back j' i' hτ').1, k1'] at h4
        exact h4
      have := hst.mem.inj j j' b (by rw [k2]; rfl) (by rw [k2']; rfl) e1 e2
      subst this
      rw [hτ] at hτ'
      exact Option.some.inj hτ'
  · unfold envC at hx
    split at hx
    · assumption
    · cases hx
theorem call_post {E1 : Env} {v : Value} {w' : World} (hst : St C F M U E a w) (hw : C.wide = false) (hsup : Sup (news ++ ids) U) (o : OkN τ ρ dom news M) (hg : grabOk τ ρ M M0 = some φ2) (hφ2 : AllP φ2)
    (hM1 : rnMK ρ M1 [] (fun A φ => some (A, φ)) = some (Mn, φ3)) (hφ3 : AllP φ3) (hM' : Mn ++ drop1 (imgs ρ M0) M = M') (hres : rnS ρ res = some (φ4, res')) (hφ4 : AllP φ4)
    (hr : MRet M0 res M1 (fun b => trk C.T0 M E b ∧ ¬ mine M0 (envC ρ dom E) b) w (envC ρ dom E) E1 v w') :
    Sup ids (fun k => U k ∧ news.elem k = false) ∧ St C F M' (fun k => U k ∧ news.elem k = false) (envR ρ news E E1) a w' ∧ Rep (envR ρ news E E1) (trk C.T0 M' (envR ρ news E E1)) w' res' v := by
  subst hM'
  obtain ⟨hU, hsup'⟩ := sup_news hsup
  have hm : ∀ b, mine M0 (envC ρ dom E) b → mine M E b := by
    rintro b ⟨i, B, h1, h2⟩
    obtain ⟨j, B1, ψ, k1, _, k2, _, _⟩ := grab_at hg hφ2 i B h1
    refine ⟨j, B1, k2, ?_⟩
    unfold envC at h2
    split at h2
    · rw [k1] at h2; exact h2
    · cases h2
  have hnone : ∀ j, news.elem j = true → E j = none := fun j hj => hst.fresh j (hU j hj)
  have F1 : ∀ i j x, rn ρ i = some j → E1 i = some x → envR ρ news E E1 j = some x := fun i j x h1 h2 => by
    unfold envR
    split
    · rw [o.iv i j h1]; exact h2
    · rename_i hn
      rcases o.new i j h1 with q | q
      · obtain ⟨j', p1, p2, p3, p4⟩ := o.have_ i q
        rw [h1] at p1
        cases p1
        obtain ⟨B, hB⟩ := Option.isSome_iff_exists.1 p3
        obtain ⟨y, hy⟩ : ∃ y, E j = some y := by
          rcases hst.mem.blk j B hB with ⟨b, q, _⟩ | ⟨q, _⟩
          · exact ⟨_, q⟩
          · exact ⟨_, q⟩
        have hc : envC ρ dom E i = some y := by
          unfold envC
          rw [q, h1]
          exact hy
        have := hr.env i y hc
        rw [h2] at this
        rw [hy, this]
      · rw [q] at hn; cases hn
  have F2 : ∀ j x, E j = some x → envR ρ news E E1 j = some x := fun j x h => by
    unfold envR
    split
    · rename_i hn
      rw [hnone j hn] at h; cases h
    · exact h
  have hinj : ∀ i i' j, rn ρ i = some j → rn ρ i' = some j → i = i' := fun i i' j h1 h2 => by
    have e1 := o.iv i j h1
    rw [o.iv i' j h2] at e1
    exact (Option.some.inj e1).symm
  obtain ⟨Mn', φ', k1, k2⟩ := rnMK_ok hinj hM1
  simp only [Option.some.injEq, Prod.mk.injEq] at k1
  rw [k1.1, k1.2] at k2
  have hnew := (k2 hφ3).2
  have hrest : ∀ j B, find (drop1 (imgs ρ M0) M) j = some B → find M j = some B ∧ (imgs ρ M0).elem j = false := fun j B h => by
    rw [find_drop1] at h
    split at h
    · cases h
    · rename_i q; exact ⟨h, by simpa using q⟩
  have hrE : ∀ j B x, find M j = some B → envR ρ news E E1 j = some x → E j = some x := fun j B x h h2 => by
    unfold envR at h2
    split at h2
    · rename_i hn
      rcases hst.mem.blk j B h with ⟨b, q, _⟩ | ⟨q, _⟩
      · rw [hnone j hn] at q; cases q
      · rw [hnone j hn] at q; cases q
    · exact h2
  have hapart : ∀ j B b, find M j = some B → (imgs ρ M0).elem j = false → E j = some (some b) → ¬ mine M0 (envC ρ dom E) b := by
    rintro j B b h1 h2 h3 ⟨i, B0, q1, q2⟩
    obtain ⟨j', B1, ψ, p1, _, p3, _, _⟩ := grab_at hg hφ2 i B0 q1
    have e : E j' = some (some b) := by
      unfold envC at q2
      split at q2
      · rw [p1] at q2; exact q2
      · cases q2
    have := hst.mem.inj j j' b (by rw [h1]; rfl) (by rw [p3]; rfl) h3 e
    subst this
    rw [imgs_at q1 p1] at h2
    cases h2
  have hcase : ∀ j B', find (Mn ++ drop1 (imgs ρ M0) M) j = some B' → (∃ i B ψ, rn ρ i = some j ∧ find M1 i = some B ∧ rnB ρ B = some (ψ, B') ∧ AllP ψ) ∨ (find M j = some B' ∧ (imgs ρ M0).elem j = false) := fun j B' h => by
    rw [find_app] at h
    split at h
    · rename_i x hx
      cases h
      exact .inl (hnew j _ hx)
    · exact .inr (hrest j B' h)
  have hE1of : ∀ i B j x, find M1 i = some B → rn ρ i = some j → envR ρ news E E1 j = some x → E1 i = some x := fun i B j x h1 h2 h3 => by
    rcases hr.mem.blk i B h1 with ⟨b, q, _⟩ | ⟨q, _⟩
    · have := F1 i j _ h2 q
      rw [h3] at this
      rw [q, this]
    · have := F1 i j _ h2 q
      rw [h3] at this
      rw [q, this]
  have hT1 : ∀ b, trk C.T0 (Mn ++ drop1 (imgs ρ M0) M) (envR ρ news E E1) b → trk (fun b => trk C.T0 M E b ∧ ¬ mine M0 (envC ρ dom E) b) M1 E1 b := by
    rintro b (⟨j, B', h1, h2⟩ | h0)
    · rcases hcase j B' h1 with ⟨i, B, ψ, p1, p2, p3, p4⟩ | ⟨p1, p2⟩
      · exact .inl ⟨i, B, p2, hE1of i B j _ p2 p1 h2⟩
      · have e := hrE j B' _ p1 h2
        exact .inr ⟨.inl ⟨j, B', p1, e⟩, hapart j B' b p1 p2 e⟩
    · refine .inr ⟨.inr h0, fun hq => ?_⟩
      obtain ⟨j, B, p1, p2⟩ := hm b hq
      exact hst.apart hw j b (by rw [p1]; rfl) p2 h0
  have hT2 : ∀ b, b < w.heap.size → trk C.T0 (Mn ++ drop1 (imgs ρ M0) M) (envR ρ news E E1) b → trk C.T0 M E b := fun b hb h => by
    rcases hT1 b h with ⟨i, B, h1, h2⟩ | h0
    · rcases hr.own i b (by rw [h1]; rfl) h2 with q | q
      · omega
      · exact .inl (hm b q)
    · exact h0.1
  have hchg : Chg (mine M E) w w' := hr.chg.weak hm
  have hchg2 : Chg (trk C.T0 M E) w w' := hchg.weak fun _ => .inl
  have hmok : MOk (envR ρ news E E1) (trk C.T0 (Mn ++ drop1 (imgs ρ M0) M) (envR ρ news E E1)) (Mn ++ drop1 (imgs ρ M0) M) w' := by
    refine ⟨fun j B' hf => ?_, fun j j' b h1 h2 h3 h4 => ?_⟩
    · rcases hcase j B' hf with ⟨i, B, ψ, p1, p2, p3, p4⟩ | ⟨p1, p2⟩
      · rcases hr.mem.blk i B p2 with ⟨b, q1, q2, q3⟩ | ⟨q1, t, e, rfl, q2⟩
        · exact .inl ⟨b, F1 i j _ p1 q1, q2, (rnB_ok F1 p3 p4 q3).mono (fun _ _ h => h) (fun b _ hb => hT1 b hb) (Chg.refl _ w') rfl⟩
        · exact .inr ⟨F1 i j _ p1 q1, t, e, rnB_row p3, q2⟩
      · rcases hst.mem.blk j B' p1 with ⟨b, q1, q2, q3⟩ | ⟨q1, t, e, rfl, q2⟩
        · exact .inl ⟨b, F2 j _ q1, Nat.lt_of_lt_of_le q2 hchg.size, q3.mono F2 hT2 hchg2 (hr.chg.keep b q2 (hapart j B' b p1 p2 q1))⟩
        · exact .inr ⟨F2 j _ q1, t, e, rfl, q2⟩
    · obtain ⟨B, hB⟩ := Option.isSome_iff_exists.1 h1
      obtain ⟨B', hB'⟩ := Option.isSome_iff_exists.1 h2
      have hmix : ∀ j j' i B B2, rn ρ i = some j → find M1 i = some B → envR ρ news E E1 j = some (some b) → find M j' = some B2 → (imgs ρ M0).elem j' = false → envR ρ news E E1 j' = some (some b) → False := fun j j' i B B2 p1 p2 p3 p4 p5 p6 => by
        have e := hrE j' B2 _ p4 p6
        rcases hr.own i b (by rw [p2]; rfl) (hE1of i B j _ p2 p1 p3) with q | q
        · have := (hst.mem.at p4 e).1
          omega
        · exact hapart j' B2 b p4 p5 e q
      rcases hcase j B hB with ⟨i, B1, ψ, p1, p2, p3, p4⟩ | ⟨p1, p2⟩
      · rcases hcase j' B' hB' with ⟨i', B1', ψ', p1', p2', p3', p4'⟩ | ⟨p1', p2'⟩
        · have := hr.mem.inj i i' b (by rw [p2]; rfl) (by rw [p2']; rfl) (hE1of i B1 j _ p2 p1 h3) (hE1of i' B1' j' _ p2' p1' h4)
          subst this
          rw [p1] at p1'
          exact Option.some.inj p1'
        · exact (hmix j j' i B1 B' p1 p2 h3 p1' p2' h4).elim
      · rcases hcase j' B' hB' with ⟨i', B1', ψ', p1', p2', p3', p4'⟩ | ⟨p1', p2'⟩
        · exact (hmix j' j i' B1' B p1' p2' h4 p1 p2 h3).elim
        · exact hst.mem.inj j j' b (by rw [p1]; rfl) (by rw [p1']; rfl) (hrE j B _ p1 h3) (hrE j' B' _ p1' h4)
  refine ⟨hsup', hst.go F2 hT2 hchg hr.os hr.tape hr.output hmok (fun j b hf hE => ?_) (fun k hk => ?_), (rnS_ok F1 hres hφ4 hr.res).mono (fun _ _ h => h) (fun b _ hb => hT1 b hb) (Chg.refl _ w')⟩
  · obtain ⟨B, hB⟩ := Option.isSome_iff_exists.1 hf
    rcases hcase j B hB with ⟨i, B1, ψ, p1, p2, p3, p4⟩ | ⟨p1, p2⟩
    · rcases hr.own i b (by rw [p2]; rfl) (hE1of i B1 j _ p2 p1 hE) with q | q
      · exact .inl (Nat.le_trans hst.kp.chg.size q)
      · obtain ⟨j', B2, q1, q2⟩ := hm b q
        exact hst.own j' b (by rw [q1]; rfl) q2
    · exact hst.own j b (by rw [p1]; rfl) (hrE j B _ p1 hE)
  · unfold envR
    rw [hk.2]
    exact hst.fresh k hk.1
theorem call_postX {w' : World} (hst : St C F M U E a w) (hg : grabOk τ ρ M M0 = some φ2) (hφ2 : AllP φ2) (hM' : drop1 (imgs ρ M0) M = M') (hc : Chg (mine M0 (envC ρ dom E)) w w') (h1 : w'.os = w.os) (h2 : w'.tape = w.tape) (h3 : w'.output = w.output) : St C F M' U E a w' := by
  subst hM'
  have hm : ∀ b, mine M0 (envC ρ dom E) b → mine M E b := by
    rintro b ⟨i, B, h1, h2⟩
    obtain ⟨j, B1, ψ, k1, _, k2, _, _⟩ := grab_at hg hφ2 i B h1
    refine ⟨j, B1, k2, ?_⟩
    unfold envC at h2
    split at h2
    · rw [k1] at h2; exact h2
    · cases h2
  have hle : ∀ j B, find (drop1 (imgs ρ M0) M) j = some B → find M j = some B ∧ (imgs ρ M0).elem j = false := fun j B h => by
    rw [find_drop1] at h
    split at h
    · cases h
    · rename_i q; exact ⟨h, by simpa using q⟩
  have hT : ∀ b, trk C.T0 (drop1 (imgs ρ M0) M) E b → trk C.T0 M E b := fun b h => by
    rcases h with ⟨j, B, p1, p2⟩ | h0
    · exact .inl ⟨j, B, (hle j B p1).1, p2⟩
    · exact .inr h0
  have hchg : Chg (mine M E) w w' := hc.weak hm
  have hchg2 : Chg (trk C.T0 M E) w w' := hchg.weak fun _ => .inl
  refine hst.go (fun _ _ h => h) (fun b _ h => hT b h) hchg h1 h2 h3 ⟨fun j B hf => ?_, fun j j' b q1 q2 q3 q4 => ?_⟩ (fun j b hf hE => ?_) hst.fresh
  · obtain ⟨p1, p2⟩ := hle j B hf
    rcases hst.mem.blk j B p1 with ⟨b, q1, q2, q3⟩ | q
    · refine .inl ⟨b, q1, Nat.lt_of_lt_of_le q2 hchg.size, q3.mono (fun _ _ h => h) (fun b _ h => hT b h) hchg2 (hc.keep b q2 ?_)⟩
      rintro ⟨i, B0, r1, r2⟩
      obtain ⟨j', B1, ψ, s1, _, s3, _, _⟩ := grab_at hg hφ2 i B0 r1
      have e : E j' = some (some b) := by
        unfold envC at r2
        split at r2
        · rw [s1] at r2; exact r2
        · cases r2
      have := hst.mem.inj j j' b (by rw [p1]; rfl) (by rw [s3]; rfl) q1 e
      subst this
      rw [imgs_at r1 s1] at p2
      cases p2
    · exact .inr q
  · obtain ⟨B, hB⟩ := Option.isSome_iff_exists.1 q1
    obtain ⟨B', hB'⟩ := Option.isSome_iff_exists.1 q2
    exact hst.mem.inj j j' b (by rw [(hle j B hB).1]; rfl) (by rw [(hle j' B' hB').1]; rfl) q3 q4
  · obtain ⟨B, hB⟩ := Option.isSome_iff_exists.1 hf
    exact hst.own j b (by rw [(hle j B hB).1]; rfl) hE
end
end Go.Proofs.YtpbgihhfcdggkaaGreatDoor.V
end
section
namespace Go.Proofs.YtpbgihhfcdggkaaGreatDoor.V
open Go.RowKit
set_option linter.unusedVariables false
def addP (i j : Nat) (P : List (Nat × Nat)) : List (Nat × Nat) := match rn P i with
  | some _ => P
  | none => (i, j) :: P
mutual
def infS : SV → SV → List (Nat × Nat) → List (Nat × Nat)
  | .ptr i _, s, P => match s with
    | .ptr j _ => addP i j P
    | _ => P
  | .pel i _ _ _ _, s, P => match s with
    | .pel j _ _ _ _ => addP i j P
    | _ => P
  | .row i _ _ _ _, s, P => match s with
    | .row j _ _ _ _ => addP i j P
    | _ => P
  | .bsl i _, s, P => match s with
    | .bsl j _ => addP i j P
    | _ => P
  | .agg l, s, P => match s with
    | .agg l' => infL l l' P
    | _ => P
  | .tup l, s, P => match s with
    | .tup l' => infL l l' P
    | _ => P
  | .fn _ l, s, P => match s with
    | .fn _ l' => infL l l' P
    | _ => P
  | .mv _ l, s, P => match s with
    | .mv _ l' => infL l l' P
    | _ => P
  | .ifc _ t, s, P => match s with
    | .ifc _ t' => infS t t' P
    | _ => P
  | _, _, P => P
def infL : List SV → List SV → List (Nat × Nat) → List (Nat × Nat)
  | [], _, P => P
  | c :: l, s, P => match s with
    | s :: l' => infL l l' (infS c s P)
    | [] => P
end
def infM (M : Mem) : Mem → List (Nat × Nat) → List (Nat × Nat)
  | [], P => P
  | (i, B) :: r, P => match rn P i with
    | some j => match find M j with
      | some (.cells _ l') => match B with
        | .cells _ l => infM M r (infL l l' P)
        | _ => infM M r P
      | _ => infM M r P
    | none => infM M r P
def fPP {α : Type} : List (Nat × Nat) → (List (Nat × Nat) → Option α) → Option α
  | [], K => K []
  | (i, j) :: r, K => fPP r fun r' => K ((i, j) :: r')
def infP (args svs : List SV) (M0 M : Mem) : Option (List (Nat × Nat)) := fPP (infM M M0 (infL args svs [])) some
def swapP : List (Nat × Nat) → List (Nat × Nat)
  | [] => []
  | (i, j) :: r => (j, i) :: swapP r
def newC (dom : List Nat) : Mem → List Nat
  | [] => []
  | (i, _) :: r => match dom.elem i with
    | true => newC dom r
    | false => i :: newC dom r
def zipN : List Nat → List Nat → Option (List (Nat × Nat) × List Nat × List Nat)
  | [], ids => some ([], [], ids)
  | i :: r, ids => match ids with
    | [] => none
    | j :: ids' => match zipN r ids' with
      | some (ρ, news, ids2) => some ((i, j) :: ρ, j :: news, ids2)
      | none => none
theorem zipN_ids : ∀ {l ids ids' news : List Nat} {ρ : List (Nat × Nat)}, zipN l ids = some (ρ, news, ids') → ids = news ++ ids'
  | [], ids, ids', news, ρ, h => by
    simp only [zipN, Option.some.injEq, Prod.mk.injEq] at h
    obtain ⟨_, rfl, rfl⟩ := h
    rfl
  | i :: r, [], ids', news, ρ, h => by simp [zipN] at h
  | i :: r, j :: ids, ids', news, ρ, h => by
    simp only [zipN] at h
    split at h
    · rename_i ρ' news' ids2 hz
      simp only [Option.some.injEq, Prod.mk.injEq] at h
      obtain ⟨_, rfl, rfl⟩ := h
      rw [zipN_ids hz]
      rfl
    · cases h
def callM (P ρn : List (Nat × Nat)) (news dom : List Nat) (args svs : List SV) (M0 M1 M : Mem) (res : SV) : Option (List Prop × Mem × SV) :=
  match okN (swapP P) (P ++ ρn) dom news M with
  | true => match rnL (swapP P) svs with
    | some (φ1, args') => match grabOk (swapP P) (P ++ ρn) M M0 with
      | some φ2 => match rnMK (P ++ ρn) M1 [] (fun A φ => some (A, φ)) with
        | some (Mn, φ3) => match rnS (P ++ ρn) res with
          | some (φ4, res') => fM (Mn ++ drop1 (imgs (P ++ ρn) M0) M) fun M' => fS res' fun r' => fP ((args' = args) :: (φ1 ++ (φ2 ++ (φ3 ++ φ4)))) fun φ => some (φ, M', r')
          | none => none
        | none => none
      | none => none
    | none => none
  | false => none
def callX (P : List (Nat × Nat)) (dom : List Nat) (args svs : List SV) (M0 M : Mem) : Option (List Prop × Mem) :=
  match okN (swapP P) P dom [] M with
  | true => match rnL (swapP P) svs with
    | some (φ1, args') => match grabOk (swapP P) P M M0 with
      | some φ2 => fM (drop1 (imgs P M0) M) fun M' => fP ((args' = args) :: (φ1 ++ φ2)) fun φ => some (φ, M')
      | none => none
    | none => none
  | false => none
section
variable {C : Ctx} {Q0 : Exit → Act → World → Prop} {F F' : Tr} {M M' : Mem} {ids ids' : List Nat} {k : List Kont}
theorem mf_core {full rest : List Oper} {d : Option Tmp} {op : Op} {type : TypeId} {pos : String} {after : Array Edge} {f : FuncId} {svs args : List SV} {dom news : List Nat} {M0 M1 : Mem} {res res' : SV} {P ρn : List (Nat × Nat)} {φ : List Prop}
    (hx : ∀ U E a w, St C F M U E a w → ∃ vs, Tup E (trk C.T0 M E) w svs vs ∧ (execOp a.eval ⟨d, op, type, pos, after, none⟩).run C.P w = (callFunc f vs.toArray).run C.P w) (hspec : MF C.P C.Γ f dom args M0 res M1) (hw : C.wide = false) (hc : callable C.P f = true)
    (hz : zipN (newC dom M1) ids = some (ρn, news, ids')) (hcm : callM P ρn news dom args svs M0 M1 M res = some (φ, M', res')) (hφ : AllP φ) (hp : putD C.N F d (some res') some = some F') (h : Sat C Q0 (.reg full rest F' M' ids' k)) :
    Sat C Q0 (.reg full (⟨d, op, type, pos, after, none⟩ :: rest) F M ids k) := by
  intro U E a w hsup hst
  obtain ⟨F1, e1, e2⟩ := putD_inv hp
  cases e1
  refine wpList_plain rfl fun K hK => ?_
  unfold Oper.wp
  obtain ⟨vs, ht, hex⟩ := hx U E a w hst
  rw [hex, run_callFunc_go hc]
  unfold callM at hcm
  split at hcm
  · rename_i hok
    split at hcm
    · rename_i φ1 args' hargs
      split at hcm
      · rename_i φ2 hg
        split at hcm
        · rename_i Mn φ3 hMn
          split at hcm
          · rename_i φ4 r4 hr4
            rw [fM_eq, fS_eq, fP_eq] at hcm
            simp only [Option.some.injEq, Prod.mk.injEq] at hcm
            obtain ⟨rfl, hM', rfl⟩ := hcm
            obtain ⟨p0, p⟩ := hφ
            subst p0
            obtain ⟨p1, p⟩ := AllP.app p
            obtain ⟨p2, p⟩ := AllP.app p
            obtain ⟨p3, p4⟩ := AllP.app p
            have o := okN_ok hok
            have hi := zipN_ids hz
            subst hi
            obtain ⟨hpre, _, _⟩ := call_pre hst hw o hg p2 hargs p1 ht
            refine (hspec _ _ _ _ hpre).mono ?_
            rintro e w' ⟨v, E1, rfl, hr⟩
            obtain ⟨q1, q2, q3⟩ := call_post hst hw hsup o hg p2 hMn p3 hM' hr4 p4 hr
            exact hK _ _ (h _ _ _ w' q1 (q2.putD e2 fun s' hs' => by cases hs'; exact q3))
          · cases hcm
        · cases hcm
      · cases hcm
    · cases hcm
  · cases hcm
theorem mx_core {full rest : List Oper} {d : Option Tmp} {op : Op} {type : TypeId} {pos : String} {after : Array Edge} {f : FuncId} {svs args : List SV} {dom : List Nat} {M0 : Mem} {P : List (Nat × Nat)} {φ : List Prop} {t : TypeId}
    (hx : ∀ U E a w, St C F M U E a w → ∃ vs, Tup E (trk C.T0 M E) w svs vs ∧ (execOp a.eval ⟨d, op, type, pos, after, none⟩).run C.P w = (callFunc f vs.toArray).run C.P w) (hspec : MX C.P C.Γ f dom args M0 t) (hw : C.wide = false) (hc : callable C.P f = true)
    (hcm : callX P dom args svs M0 M = some (φ, M')) (hφ : AllP φ) (h : SatP C Q0 F M' ids t) :
    Sat C Q0 (.reg full (⟨d, op, type, pos, after, none⟩ :: rest) F M ids k) := by
  intro U E a w hsup hst
  refine wpList_plain rfl fun K hK => ?_
  unfold Oper.wp
  obtain ⟨vs, ht, hex⟩ := hx U E a w hst
  rw [hex, run_callFunc_go hc]
  unfold callX at hcm
  split at hcm
  · rename_i hok
    split at hcm
    · rename_i φ1 args' hargs
      split at hcm
      · rename_i φ2 hg
        rw [fM_eq, fP_eq] at hcm
        simp only [Option.some.injEq, Prod.mk.injEq] at hcm
        obtain ⟨rfl, hM'⟩ := hcm
        obtain ⟨p0, p⟩ := hφ
        subst p0
        obtain ⟨p1, p2⟩ := AllP.app p
        have o := okN_ok hok
        obtain ⟨hpre, _, _⟩ := call_pre hst hw o hg p2 hargs p1 ht
        refine (hspec _ _ _ _ hpre).mono ?_
        rintro e w' ⟨rfl, h1, h2, h3, h4⟩
        exact (Kq_panic k).2 (h U E a w' hsup (call_postX hst hg p2 hM' h1 h2 h3 h4))
      · cases hcm
    · cases hcm
  · cases hcm
theorem hx_val {d : Option Tmp} {x : Operand} {f : FuncId} {xs : List Operand} {ats : Array TypeId} {type : TypeId} {pos : String} {after : Array Edge} {svs : List SV} (hx : argsF C.Γ F x xs = some (f, svs)) : ∀ U E a w, St C F M U E a w → ∃ vs, Tup E (trk C.T0 M E) w svs vs ∧ (execOp a.eval ⟨d, .call ⟨.value x, ⟨xs⟩, ats⟩, type, pos, after, none⟩).run C.P w = (callFunc f vs.toArray).run C.P w :=
  fun U E a w hst => by
    obtain ⟨vs, ht, hex⟩ := argsF_ok hst.vw hx
    exact ⟨vs, ht, by rw [hex]⟩
theorem Sat.mf {full rest : List Oper} {d : Option Tmp} {x : Operand} {f : FuncId} {xs : List Operand} {ats : Array TypeId} {type : TypeId} {pos : String} {after : Array Edge} {svs args : List SV} {dom news : List Nat} {M0 M1 : Mem} {res res' : SV} {P ρn : List (Nat × Nat)} {φ : List Prop}
    (hspec : MF C.P C.Γ f dom args M0 res M1) (hw : C.wide = false) (hx : argsF C.Γ F x xs = some (f, svs)) (hc : callable C.P f = true) (hP : infP args svs M0 M = some P) (hz : zipN (newC dom M1) ids = some (ρn, news, ids'))
    (hcm : callM P ρn news dom args svs M0 M1 M res = some (φ, M', res')) (hφ : AllP φ) (hp : putD C.N F d (some res') some = some F') (h : Sat C Q0 (.reg full rest F' M' ids' k)) :
    Sat C Q0 (.reg full (⟨d, .call ⟨.value x, ⟨xs⟩, ats⟩, type, pos, after, none⟩ :: rest) F M ids k) :=
  mf_core (hx_val hx) hspec hw hc hz hcm hφ hp h
theorem Sat.mx {full rest : List Oper} {d : Option Tmp} {x : Operand} {f : FuncId} {xs : List Operand} {ats : Array TypeId} {type : TypeId} {pos : String} {after : Array Edge} {svs args : List SV} {dom : List Nat} {M0 : Mem} {P : List (Nat × Nat)} {φ : List Prop} {t : TypeId}
    (hspec : MX C.P C.Γ f dom args M0 t) (hw : C.wide = false) (hx : argsF C.Γ F x xs = some (f, svs)) (hc : callable C.P f = true) (hP : infP args svs M0 M = some P)
    (hcm : callX P dom args svs M0 M = some (φ, M')) (hφ : AllP φ) (h : SatP C Q0 F M' ids t) :
    Sat C Q0 (.reg full (⟨d, .call ⟨.value x, ⟨xs⟩, ats⟩, type, pos, after, none⟩ :: rest) F M ids k) :=
  mx_core (hx_val hx) hspec hw hc hcm hφ h
theorem Sat.makeM {full rest : List Oper} {d : Option Tmp} {fn : Fn} {type : TypeId} {pos : String} {after : Array Edge} (hp : putD C.N F d (some (.val (.func fn #[] #[]))) some = some F') (h : Sat C Q0 (.reg full rest F' M ids k)) :
    Sat C Q0 (.reg full (⟨d, .makeFunc fn ⟨[]⟩ ⟨[]⟩, type, pos, after, none⟩ :: rest) F M ids k) := by
  intro U E a w hsup hst
  obtain ⟨F1, e1, e2⟩ := putD_inv hp
  cases e1
  refine wpList_plain rfl fun K hK => ?_
  unfold Oper.wp
  have e : (execOp a.eval ⟨d, .makeFunc fn ⟨[]⟩ ⟨[]⟩, type, pos, after, none⟩).run C.P w = .ok (.value (.func fn #[] #[])) w := by
    unfold execOp
    simp [Instr.makeFunc]
  rw [e]
  exact hK _ _ (h U E _ w hsup (hst.putD e2 fun s' hs' => by cases hs'; exact .val _))
def argsM (Γ : Glob) (F : Tr) (x : Operand) (xs : List Operand) : Option (TypeId × String × TypeId × List SV) :=
  match opd Γ F x with
  | some (.val (.func (.methodOf ti name) ⟨[]⟩ ⟨[]⟩)) => match opdsC Γ F xs with
    | some (.ifc t s :: svs) => some (ti, name, t, s :: svs)
    | _ => none
  | _ => none
theorem hx_meth {d : Option Tmp} {x : Operand} {f : FuncId} {xs : List Operand} {ats : Array TypeId} {type : TypeId} {pos : String} {after : Array Edge} {svs : List SV} {ti t : TypeId} {name : String} (hx : argsM C.Γ F x xs = some (ti, name, t, svs)) (hu : ∃ ms, C.P.underlying ti = some (.interface ms)) (hm : ∀ v w, (method (C.P.types.size + Made.depth) t v name).run C.P w = .ok (f, v) w) :
    ∀ U E a w, St C F M U E a w → ∃ vs, Tup E (trk C.T0 M E) w svs vs ∧ (execOp a.eval ⟨d, .call ⟨.value x, ⟨xs⟩, ats⟩, type, pos, after, none⟩).run C.P w = (callFunc f vs.toArray).run C.P w :=
  fun U E a w hst => by
    obtain ⟨ms, hu⟩ := hu
    unfold argsM at hx
    split at hx
    · rename_i ti' name' hop
      have hr := opd_rep hst.vw hop
      split at hx
      · rename_i t' s svs' hxs
        have ht := opdsC_tup hst.vw hxs
        simp only [Option.some.injEq, Prod.mk.injEq] at hx
        obtain ⟨rfl, rfl, rfl, rfl⟩ := hx
        generalize hv : a.eval x = v at hr
        cases hr
        cases xs with
        | nil => cases ht
        | cons x0 xs =>
          cases ht with
          | cons _ u _ vs hr0 ht =>
            generalize hu0 : a.eval x0 = u0 at hr0
            cases hr0 with
            | ifc _ _ u hu1 =>
              refine ⟨u :: xs.map a.eval, .cons _ _ _ _ hu1 ht, ?_⟩
              have e : (execOp a.eval ⟨d, .call ⟨.value x, ⟨x0 :: xs⟩, ats⟩, type, pos, after, none⟩).run C.P w = (callMethod (.iface t' u) name' (xs.map a.eval).toArray).run C.P w := by
                unfold execOp resolve
                simp [hv, hu0, invoke, Deferred.ofValue, run_underlying hu]
                rw [List.take_of_length_le (by simp)]
              rw [e]
              rcases callMethod_tie C.P w t' u name' (xs.map a.eval).toArray with ⟨f', r', w', h1, h2⟩ | ⟨hh, w', h1, _⟩
              · rw [hm] at h1
                cases h1
                rw [h2]
                simp
              · rw [hm] at h1
                cases h1
      · cases hx
    · cases hx
theorem Sat.mfM {full rest : List Oper} {d : Option Tmp} {x : Operand} {f : FuncId} {xs : List Operand} {ats : Array TypeId} {type : TypeId} {pos : String} {after : Array Edge} {svs args : List SV} {dom news : List Nat} {M0 M1 : Mem} {res res' : SV} {P ρn : List (Nat × Nat)} {φ : List Prop} {ti t : TypeId} {name : String}
    (hspec : MF C.P C.Γ f dom args M0 res M1) (hw : C.wide = false) (hx : argsM C.Γ F x xs = some (ti, name, t, svs)) (hu : ∃ ms, C.P.underlying ti = some (.interface ms)) (hm : ∀ v w, (method (C.P.types.size + Made.depth) t v name).run C.P w = .ok (f, v) w) (hc : callable C.P f = true) (hP : infP args svs M0 M = some P) (hz : zipN (newC dom M1) ids = some (ρn, news, ids'))
    (hcm : callM P ρn news dom args svs M0 M1 M res = some (φ, M', res')) (hφ : AllP φ) (hp : putD C.N F d (some res') some = some F') (h : Sat C Q0 (.reg full rest F' M' ids' k)) :
    Sat C Q0 (.reg full (⟨d, .call ⟨.value x, ⟨xs⟩, ats⟩, type, pos, after, none⟩ :: rest) F M ids k) :=
  mf_core (hx_meth hx hu hm) hspec hw hc hz hcm hφ hp h
theorem Sat.mxM {full rest : List Oper} {d : Option Tmp} {x : Operand} {f : FuncId} {xs : List Operand} {ats : Array TypeId} {type : TypeId} {pos : String} {after : Array Edge} {svs args : List SV} {dom : List Nat} {M0 : Mem} {P : List (Nat × Nat)} {φ : List Prop} {ti t tp : TypeId} {name : String}
    (hspec : MX C.P C.Γ f dom args M0 tp) (hw : C.wide = false) (hx : argsM C.Γ F x xs = some (ti, name, t, svs)) (hu : ∃ ms, C.P.underlying ti = some (.interface ms)) (hm : ∀ v w, (method (C.P.types.size + Made.depth) t v name).run C.P w = .ok (f, v) w) (hc : callable C.P f = true) (hP : infP args svs M0 M = some P)
    (hcm : callX P dom args svs M0 M = some (φ, M')) (hφ : AllP φ) (h : SatP C Q0 F M' ids tp) :
    Sat C Q0 (.reg full (⟨d, .call ⟨.value x, ⟨xs⟩, ats⟩, type, pos, after, none⟩ :: rest) F M ids k) :=
  mx_core (hx_meth hx hu hm) hspec hw hc hcm hφ h
def RestI (C : Ctx) (Q0 : Exit → Act → World → Prop) (k : List Kont) (full : List Oper) (n : Nat) (listed : Array Bool) : Act → World → Prop := wpAny C.P .any full.toArray (Kq C.P Q0 k) n listed
theorem AOp.of {full : List Oper} {n : Nat} {listed : Array Bool} {i : Nat} {o : Oper} (hi : full[i]? = some o) (h : Sat C Q0 (.reg full [o] F M ids (.lp (RestI C Q0 k full n (listed.setIfInBounds i true)) :: k))) : AOp C Q0 k full n listed i F M ids := by
  intro U E a w hs hst
  have hq := h U E a w hs hst
  unfold wpOp
  simp only [List.getElem?_toArray, hi]
  unfold wpList at hq
  split
  · rename_i hw
    rw [if_pos hw] at hq
    rcases hq with hq | ⟨h1, a', w', h2⟩
    · refine .inl ?_
      unfold Oper.wp at hq ⊢
      generalize (execOp a.eval o).run C.P w = r at hq
      cases r with
      | ok n w' =>
        cases n <;> simp only [Oper.upon] at hq ⊢ <;>
          first
            | exact hq
            | exact Calls.mono hq (fun e w'' he => by cases e <;> exact he)
            | exact Rows.mono hq (fun _ _ he => he)
      | halt x w' => cases x <;> simp only [Oper.upon] at hq ⊢ <;> exact hq
    · exact .inr ⟨h1, a', w', h2⟩
  · rename_i hw
    rw [if_neg hw] at hq
    exact hq
theorem ASat.back {full : List Oper} {n : Nat} {listed : Array Bool} (h : ASat C Q0 k full n listed F M ids) : Sat C Q0 (.ext .normal F M ids (.lp (RestI C Q0 k full n listed) :: k)) :=
  fun U E a w hs hst => h U E a w hs hst
theorem Sat.anyN {id : Nat} {ops : List Oper} (n : Nat) (hn : ops.length = n) (hm : C.P.follows .mixedOrders = true) (h : ASat C Q0 k ops n (Array.replicate n false) F M ids) : Sat C Q0 (.code (.region id ⟨ops⟩ true) F M ids k) := by
  subst hn
  exact Sat.anyR hm h
theorem ASat.takeR {X : IntKind → Bool} {full : List Oper} {n : Nat} {listed : Array Bool} (i : Nat) {o : Oper} {φ : List Prop} {v : SV} (hr : (Region.ready .any full.toArray listed).contains i = true) (hf : Region.free .any full.toArray listed i = true) (hs : Region.noSelect full.toArray = true) (hi : full[i]? = some o) (hg : o.guard = none) (hn : noMem o.op = true)
    (hQ : ∀ c a d v w, Q0 (.panic c) (a.put d v) w → Q0 (.panic c) a w) (he : ev1 X C.P C.Γ F M o.op = some (φ, v)) (hφ : AllP φ) (hp : putD C.N F o.dst (some v) some = some F')
    (h : ASat C Q0 k full n (listed.setIfInBounds i true) F' M ids) : ASat C Q0 k full (n + 1) listed F M ids := ASat.take i hi hg hn hs hf hr hQ he hφ hp h
theorem St.reE {U : Nat → Prop} {E : Env} {a : Act} {w : World} {i : Nat} {t : TypeId} {e e' : EV} (hst : St C F M U E a w) (hf : find M i = some (.row t e)) (hM : upd M i (.row t e') = some M') (hl : e'.len ≤ e.len) (hs : e'.sz = e.sz) (hi : ∀ x, x < e'.len → e'.items x = e.items x) : St C F M' U E a w := by
  have hfind := find_upd hM
  have hsome : ∀ j, (find M' j).isSome = true ↔ (find M j).isSome = true := fun j => by
    rw [hfind]
    split
    · rename_i q; subst q; rw [hf]; simp
    · rfl
  have hmine : ∀ b, mine M' E b → mine M E b := by
    rintro b ⟨j, B, h1, h2⟩
    obtain ⟨B', hB'⟩ := Option.isSome_iff_exists.1 ((hsome j).1 (by rw [h1]; rfl))
    exact ⟨j, B', hB', h2⟩
  have hT : ∀ b, trk C.T0 M' E b → trk C.T0 M E b := fun b h => h.imp (hmine b) id
  refine hst.go (fun _ _ h => h) (fun b _ h => hT b h) (Chg.refl _ w) rfl rfl rfl ⟨fun j B hj => ?_, fun j j' b h1 h2 h3 h4 => hst.mem.inj j j' b ((hsome j).1 h1) ((hsome j').1 h2) h3 h4⟩ (fun j b h1 h2 => hst.own j b ((hsome j).1 h1) h2) hst.fresh
  rw [hfind] at hj
  split at hj
  · rename_i q
    subst q
    cases hj
    rcases hst.mem.blk j _ hf with ⟨b, h1, h2, cs, c, k1, k2, k3, k4, k5⟩ | ⟨h1, t2, e2, h3, h4⟩
    · refine .inl ⟨b, h1, h2, cs, c, k1, by rw [hs]; exact Nat.le_trans (Nat.mul_le_mul_right _ hl) k2, fun x hx => by rw [hs]; exact k3 x (Nat.lt_of_lt_of_le hx hl), fun x y v hx hv => by rw [hs]; exact k4 x y v (Nat.lt_of_lt_of_le hx hl) hv, fun x hx => ?_⟩
      rw [hi x hx]
      exact (k5 x (Nat.lt_of_lt_of_le hx hl)).mono (fun _ _ h => h) (fun b _ h => hT b h) (Chg.refl _ w)
    · cases h3
      exact .inr ⟨h1, t, e', rfl, Nat.le_zero.1 (h4 ▸ hl)⟩
  · rcases hst.mem.blk j B hj with ⟨b, h1, h2, h3⟩ | h1
    · exact .inl ⟨b, h1, h2, h3.mono (fun _ _ h => h) (fun b _ h => hT b h) (Chg.refl _ w) rfl⟩
    · exact .inr h1
theorem Sat.reX {e0 : Ex} {i : Nat} {t : TypeId} {e : EV} (e' : EV) (hf : find M i = some (.row t e)) (hM : upd M i (.row t e') = some M') (hl : e'.len ≤ e.len) (hs : e'.sz = e.sz) (hi : ∀ x, x < e'.len → e'.items x = e.items x) (h : Sat C Q0 (.ext e0 F M' ids k)) : Sat C Q0 (.ext e0 F M ids k) :=
  fun U E a w hsup hst => h U E a w hsup (hst.reE hf hM hl hs hi)
theorem Sat.reC {c : Code} {i : Nat} {t : TypeId} {e : EV} (e' : EV) (hf : find M i = some (.row t e)) (hM : upd M i (.row t e') = some M') (hl : e'.len ≤ e.len) (hs : e'.sz = e.sz) (hi : ∀ x, x < e'.len → e'.items x = e.items x) (h : Sat C Q0 (.code c F M' ids k)) : Sat C Q0 (.code c F M ids k) :=
  fun U E a w hsup hst => h U E a w hsup (hst.reE hf hM hl hs hi)
theorem Sat.callRI {full rest : List Oper} {d : Option Tmp} {x : Operand} {f : FuncId} {name : String} {t : TypeId} {xs : List Operand} {ats : Array TypeId} {type : TypeId} {pos : String} {after : Array Edge} {svs args : List SV} {res : SV}
    (hspec : Fun C.P C.Γ f args res) (hm : ∀ v w, (method (C.P.types.size + Made.depth) t v name).run C.P w = .ok (f, v) w) (hn : C.wide = false) (hrig : rigid res = true) (hx : argsI C.Γ F x xs = some (t, svs)) (hc : callable C.P f = true) (hconv : Convs M svs args) (hp : putD C.N F d (some res) some = some F') (h : Sat C Q0 (.reg full rest F' M ids k)) :
    Sat C Q0 (.reg full (⟨d, .call ⟨.invoke x name, ⟨xs⟩, ats⟩, type, pos, after, none⟩ :: rest) F M ids k) := by
  intro U E a w hsup hst
  obtain ⟨F1, h1, h2⟩ := putD_inv hp
  cases h1
  refine wpList_plain rfl fun K hK => ?_
  unfold Oper.wp
  obtain ⟨vs, ht, hex⟩ := argsI_ok hst.vw hx hm d ats type pos after none
  rw [hex, run_callFunc_go hc]
  refine (callR_core hst hn hspec ht hconv hrig).mono ?_
  rintro e w' ⟨v, rfl, hr, hb⟩
  exact hK _ _ (h U E _ w' hsup ((hst.below hb).putD h2 fun s' hs' => by cases hs'; exact hr _ _ _))
end
end Go.Proofs.YtpbgihhfcdggkaaGreatDoor.V
end
section
namespace Go.Proofs.YtpbgihhfcdggkaaGreatDoor
open Go.RowKit V
set_option maxRecDepth 100000
set_option maxHeartbeats 4000000
set_option linter.unusedSimpArgs false
set_option linter.unusedVariables false
attribute [local irreducible] V.Sat V.DSat V.SatP V.ASat V.AOp
theorem take_at (l : List ValL) (x : Nat) (hx : x < l.length) : l.take (x + 1) = l.take x ++ [l.getD x v00] := by
  rw [List.take_add_one, List.getD_eq_getElem?_getD, List.getElem?_eq_getElem hx]
  rfl
theorem del_step (l : List ValL) (n : Nm) (x : Nat) (hx : x < l.length) : delV (l.take (x + 1)) n = if (l.getD x v00).name = n then delV (l.take x) n else delV (l.take x) n ++ [l.getD x v00] := by
  rw [take_at l x hx]
  unfold delV
  rw [List.filter_append]
  split
  · rename_i h
    rw [List.filter_cons_of_neg (by rw [decide_eq_true h]; simp)]
    simp
  · rename_i h
    rw [List.filter_cons_of_pos (by rw [decide_eq_false h]; rfl)]
    simp
theorem getV_app : ∀ (l : List ValL) (v : ValL) (n : Nm), hasV l n = false → getV (l ++ [v]) n = if v.name = n then v else val0
  | [], v, n, _ => by
    rw [List.nil_append, getV]
    split
    · rename_i h; rw [decide_eq_true h]; rfl
    · rename_i h; rw [decide_eq_false h]; rfl
  | x :: l, v, n, h => by
    unfold hasV at h
    rw [List.any_cons, Bool.or_eq_false_iff] at h
    rw [List.cons_append, getV, h.1, cond_false]
    exact getV_app l v n h.2
theorem getV_app2 : ∀ (l : List ValL) (v : ValL) (n : Nm), hasV l n = true → getV (l ++ [v]) n = getV l n
  | [], v, n, h => by cases h
  | x :: l, v, n, h => by
    rw [List.cons_append, getV, getV]
    by_cases q : x.name = n
    · rw [decide_eq_true q]; rfl
    · rw [decide_eq_false q]
      unfold hasV at h
      rw [List.any_cons, decide_eq_false q, Bool.false_or] at h
      exact getV_app2 l v n h
theorem get_step (l : List ValL) (n : Nm) (x : Nat) (hx : x < l.length) (hr : Rising l) : getV (l.take (x + 1)) n = if (l.getD x v00).name = n then l.getD x v00 else getV (l.take x) n := by
  rw [take_at l x hx]
  split
  · rename_i h
    have hno : hasV (l.take x) n = false := (hasV_no _ _).2 fun v hv hn => by
      obtain ⟨i, hi, rfl⟩ := List.mem_iff_getElem.1 hv
      rw [List.length_take] at hi
      have h2 := rise_at hr i x (by omega) hx
      rw [v_at l i (by omega)] at h2
      rw [List.getElem_take] at hn
      rw [hn, h] at h2
      exact nm_irr _ h2
    rw [getV_app _ _ _ hno, if_pos h]
  · rename_i h
    cases hh : hasV (l.take x) n with
    | false => rw [getV_app _ _ _ hh, if_neg h, getV_no _ _ hh]
    | true => exact getV_app2 _ _ _ hh
theorem app_row (K : List ValL) (v : ValL) : ∀ i, i < K.length + 1 → valP ((K ++ [v]).getD i v00) = if i < K.length then valP (K.getD i v00) else nthL [valP v] (0 + (i - K.length)) := by
  intro i hi
  split
  · rename_i h
    rw [List.getD_eq_getElem?_getD, List.getD_eq_getElem?_getD, List.getElem?_append_left h]
  · rename_i h
    have e : i - K.length = 0 := by omega
    rw [e, List.getD_eq_getElem?_getD, List.getElem?_append_right (by omega), e]
    rfl
theorem app_row' (K l : List ValL) (x : Nat) : ∀ i, i < K.length + 1 → valP ((K ++ [l.getD x v00]).getD i v00) = if i < K.length then valP (K.getD i v00) else nthL [valP (l.getD (x : Int).toNat v00)] (0 + (i - K.length)) := by
  rw [Int.toNat_natCast]
  exact app_row K (l.getD x v00)
theorem Out_spec (l : List ValL) (n : Nm) (hr : Rising l) (hlen : l.length ≤ 1000000) : Fun Tryz.prog [] 30 [.ro (valE l), .str n] (.tup [.ro (valE (delV l n)), (getV l n).v]) := by
  have hdl : ∀ x, (delV (l.take x) n).length ≤ 1000000 := fun x => Nat.le_trans (List.length_filter_le ..) (by rw [List.length_take]; omega)
  refine Fun.mk 6 Tryz.func30 rfl Tryz.ntmps30 rfl rfl fun T w0 => ?_
  repeat' (first
    | ((with_reducible apply Sat.run (X := X64)); exact rfl; (first | exact True.intro | (exact phi) | skip)) | fail)
  refine Sat.kill [9] rfl ?_
  apply Sat.loop (α := Nat) (fun x => x ≤ l.length) (fun x => l.length - x) 0 (fun x => [(8, .int .i64 (x : Int)), (6, .row 1 0 2 0 (delV (l.take x) n).length)]) (fun x => [(1, .row 53 (valE (delV (l.take x) n))), (2, .cells 53 (valP (getV (l.take x) n)))]) [] [] 0
  · intro x; exact rfl
  · intro x; exact rfl
  · exact rfl
  · exact rfl
  · ((repeat' (first | exact AllP.nil | with_reducible refine AllP.cons ?_ ?_)) <;> first | exact rfl | exact trivial | exact Int.natCast_add_one _ | exact ⟨rfl, rfl⟩ | exact ⟨rfl, rfl, rfl⟩ | exact ⟨rfl, rfl, rfl, rfl⟩ | exact ⟨rfl, .inl rfl⟩ | exact ⟨rfl, .inr rfl⟩ | exact pur | (intro _; exact rfl) | (intro _; exact trivial) | (intro _; exact pur) | exact pur_val _ | exact ⟨rfl, rfl, rfl, by simp [EV.len, EV.sub]⟩ | (intro i hi; exact absurd hi (Nat.not_lt_zero _)) | (intro _ _; exact rfl) | (simp only [Nat.zero_add, Int.toNat_natCast]; done))
  · exact Nat.zero_le _
  intro x hx0
  have hd := hdl x
  by_cases hx : x < l.length
  · have e1 := del_step l n x hx
    have e2 := get_step l n x hx hr
    by_cases hn : (l.getD (x : Int).toNat v00).name = n
    · rw [Int.toNat_natCast] at hn
      rw [if_pos hn] at e1 e2
      rw [← Int.toNat_natCast x] at hn
      repeat' (first
        | ((with_reducible apply Sat.run (X := X64)); exact rfl; (first | exact True.intro | (exact phi) | skip))
        | ((with_reducible apply Sat.cond_pt); exact rfl; (try dsimp only [V.EV.sub, V.EV.len]); first | assumption | omega) | fail)
      refine Sat.back (x + 1) [] rfl ?_ (by omega) (by omega)
      rw [e1, e2]
      ((repeat' (first | exact AllP.nil | with_reducible refine AllP.cons ?_ ?_)) <;> first | exact rfl | exact trivial | exact Int.natCast_add_one _ | exact ⟨rfl, rfl⟩ | exact ⟨rfl, rfl, rfl⟩ | exact ⟨rfl, rfl, rfl, rfl⟩ | exact ⟨rfl, .inl rfl⟩ | exact ⟨rfl, .inr rfl⟩ | exact pur | (intro _; exact rfl) | (intro _; exact trivial) | (intro _; exact pur) | exact pur_val _ | exact ⟨rfl, rfl, rfl, by simp [EV.len, EV.sub]⟩ | (intro i hi; exact absurd hi (Nat.not_lt_zero _)) | (intro _ _; exact rfl) | (simp only [Nat.zero_add, Int.toNat_natCast]; done))
    · rw [Int.toNat_natCast] at hn
      rw [if_neg hn] at e1 e2
      rw [← Int.toNat_natCast x] at hn
      repeat' (first
        | ((with_reducible apply Sat.run (X := X64)); exact rfl; (first | exact True.intro | (exact phi) | skip))
        | ((with_reducible apply Sat.cond_pt); exact rfl; (try dsimp only [V.EV.sub, V.EV.len]); first | assumption | omega)
        | ((with_reducible apply Sat.cond_pf); exact rfl; (try dsimp only [V.EV.sub, V.EV.len]); first | assumption | omega) | fail)
      refine Sat.reX (i := 4) (valE (delV (l.take x) n ++ [l.getD x v00])) rfl rfl (by simp [EV.len]) rfl (fun y hy => ?_) ?_
      · exact app_row' (delV (l.take x) n) l x y (by simpa [EV.len] using hy)
      refine Sat.back (x + 1) [(1, some 4)] rfl ?_ (by omega) (by omega)
      rw [e1, e2]
      ((repeat' (first | exact AllP.nil | with_reducible refine AllP.cons ?_ ?_)) <;> first | exact rfl | exact trivial | exact Int.natCast_add_one _ | exact ⟨rfl, rfl⟩ | exact ⟨rfl, rfl, rfl⟩ | exact ⟨rfl, rfl, rfl, rfl⟩ | exact ⟨rfl, .inl rfl⟩ | exact ⟨rfl, .inr rfl⟩ | exact pur | (intro _; exact rfl) | (intro _; exact trivial) | (intro _; exact pur) | exact pur_val _ | exact ⟨rfl, rfl, rfl, by simp [EV.len, EV.sub]⟩ | (intro i hi; exact absurd hi (Nat.not_lt_zero _)) | (intro _ _; exact rfl) | (simp only [Nat.zero_add, Int.toNat_natCast]; done))
  · obtain rfl : x = l.length := by omega
    repeat' (first
      | ((with_reducible apply Sat.run (X := X64)); exact rfl; (first | exact True.intro | (exact phi) | skip))
      | ((with_reducible apply Sat.drawn); kernel_rfl)
      | ((with_reducible apply DSat.run (X := X64)); exact rfl; (first | exact True.intro | (exact phi) | skip))
      | ((with_reducible apply DSat.fin); kernel_rfl)
      | ((with_reducible apply Sat.cond_pf); exact rfl; (try dsimp only [V.EV.sub, V.EV.len]); first | assumption | omega) | fail)
    refine Sat.fin (Sat.end2 rfl rfl rfl rfl True.intro True.intro (.all _ _ _ _ _ rfl rfl rfl (pur_val _)) (.refl _ (by simp [pureS, pureL])) (.inl rfl) (fun _ h => h)) ?_
    rw [List.take_length]
def posI : List ValL → Nm → Nat
  | [], _ => 0
  | x :: l, n => bif decide (n < x.name) then 0 else posI l n + 1
theorem posI_le : ∀ (l : List ValL) (n : Nm), posI l n ≤ l.length
  | [], _ => Nat.le_refl _
  | x :: l, n => by
    rw [posI]
    cases decide (n < x.name) with
    | true => exact Nat.zero_le _
    | false => exact Nat.succ_le_succ (posI_le l n)
theorem insV_posI : ∀ (l : List ValL) (v : ValL), insV l v = l.take (posI l v.name) ++ v :: l.drop (posI l v.name)
  | [], _ => rfl
  | x :: l, v => by
    rw [insV, posI]
    cases decide (v.name < x.name) with
    | true => rfl
    | false =>
      show x :: insV l v = _
      rw [insV_posI l v]
      rfl
theorem posI_lt : ∀ (l : List ValL) (n : Nm) (i : Nat), i < posI l n → ¬ n < (l.getD i v00).name
  | [], _, i, h => absurd h (Nat.not_lt_zero _)
  | x :: l, n, i, h => by
    rw [posI] at h
    by_cases q : n < x.name
    · rw [decide_eq_true q] at h; exact absurd h (Nat.not_lt_zero _)
    · rw [decide_eq_false q, cond_false] at h
      cases i with
      | zero => exact q
      | succ i => exact posI_lt l n i (Nat.lt_of_succ_lt_succ h)
theorem posI_at : ∀ (l : List ValL) (n : Nm), posI l n < l.length → n < (l.getD (posI l n) v00).name
  | [], _, h => absurd h (Nat.not_lt_zero _)
  | x :: l, n, h => by
    rw [posI] at h ⊢
    by_cases q : n < x.name
    · rw [decide_eq_true q]; exact q
    · rw [decide_eq_false q, cond_false] at h ⊢
      exact posI_at l n (Nat.lt_of_succ_lt_succ h)
def intoL (l : List ValL) (v : ValL) (x : Nat) : List ValL := if posI l v.name < x then l.take (posI l v.name) ++ v :: (l.take x).drop (posI l v.name) else l.take x
theorem into_lt (l : List ValL) (v : ValL) (x : Nat) (hx : x < l.length) (h : x < posI l v.name) : intoL l v (x + 1) = intoL l v x ++ [l.getD x v00] := by
  unfold intoL
  rw [if_neg (by omega), if_neg (by omega), take_at l x hx]
theorem into_eq (l : List ValL) (v : ValL) (x : Nat) (hx : x < l.length) (h : x = posI l v.name) : intoL l v (x + 1) = (intoL l v x ++ [v]) ++ [l.getD x v00] := by
  unfold intoL
  rw [if_pos (by omega), if_neg (by omega), ← h, take_at l x hx, List.drop_append_of_le_length (by rw [List.length_take]; omega), List.drop_of_length_le (by rw [List.length_take]; omega)]
  simp
theorem into_gt (l : List ValL) (v : ValL) (x : Nat) (hx : x < l.length) (h : posI l v.name < x) : intoL l v (x + 1) = intoL l v x ++ [l.getD x v00] := by
  unfold intoL
  rw [if_pos (by omega), if_pos h, take_at l x hx, List.drop_append_of_le_length (by rw [List.length_take]; omega)]
  simp
theorem into_end (l : List ValL) (v : ValL) : insV l v = if posI l v.name < l.length then intoL l v l.length else intoL l v l.length ++ [v] := by
  have hle := posI_le l v.name
  rw [insV_posI]
  unfold intoL
  split
  · rw [List.take_length]
  · have : posI l v.name = l.length := by omega
    rw [this, List.take_length, List.drop_length]
theorem into_len (l : List ValL) (v : ValL) (x : Nat) : (intoL l v x).length ≤ l.length + 1 := by
  unfold intoL
  split
  · simp only [List.length_append, List.length_cons, List.length_take, List.length_drop]; omega
  · rw [List.length_take]; omega
theorem less_b (a b : Nm) : Op.bytesLess a b = decide (a < b) := Go.Proofs.bytesLess_eq a b
theorem Into_no (l : List ValL) (v : ValL) (hn : v.name = []) (hlen : l.length ≤ 1000000) : Fun Tryz.prog [] 31 [.ro (valE l), v.v] (.ro (valE l)) := by
  refine Fun.mk 6 Tryz.func31 rfl Tryz.ntmps31 rfl rfl fun T w0 => ?_
  repeat' (first
    | ((with_reducible apply Sat.run (X := X64)); exact rfl; (first | exact True.intro | (exact phi) | skip))
    | ((with_reducible apply Sat.drawn); kernel_rfl)
    | ((with_reducible apply DSat.run (X := X64)); exact rfl; (first | exact True.intro | (exact phi) | skip))
    | ((with_reducible apply DSat.fin); kernel_rfl) | fail)
  refine Sat.kill [8] rfl ?_
  apply Sat.loop (α := Nat) (fun x => x ≤ l.length) (fun x => l.length - x) 0 (fun x => [(7, .int .i64 (x : Int)), (5, .row 1 0 2 0 x), (6, .bool true)]) (fun x => [(1, .row 53 (.g x 2 fun i => valP (l.getD i v00)))]) [] [] 0
  · intro x; exact rfl
  · intro x; exact rfl
  · exact rfl
  · exact rfl
  · ((repeat' (first | exact AllP.nil | with_reducible refine AllP.cons ?_ ?_)) <;> first | exact rfl | exact trivial | exact Int.natCast_add_one _ | exact ⟨rfl, rfl⟩ | exact ⟨rfl, rfl, rfl⟩ | exact ⟨rfl, rfl, rfl, rfl⟩ | exact ⟨rfl, .inl rfl⟩ | exact ⟨rfl, .inr rfl⟩ | exact pur | (intro _; exact rfl) | (intro _; exact trivial) | (intro _; exact pur) | exact pur_val _ | (intro i hi; exact absurd hi (Nat.not_lt_zero _)) | exact decide_eq_true hn)
  · exact Nat.zero_le _
  intro x hx0
  by_cases hx : x < l.length
  · repeat' (first
        | ((with_reducible apply Sat.run (X := X64)); exact rfl; (first | exact True.intro | (exact phi) | skip))
        | ((with_reducible apply Sat.drawn); kernel_rfl)
        | ((with_reducible apply DSat.run (X := X64)); exact rfl; (first | exact True.intro | (exact phi) | skip))
        | ((with_reducible apply DSat.fin); kernel_rfl)
        | ((with_reducible apply Sat.cond_t); exact rfl)
        | ((with_reducible apply Sat.cond_f); exact rfl)
        | ((with_reducible apply Sat.cond_pt); exact rfl; (try dsimp only [V.EV.sub, V.EV.len]); first | assumption | omega)
        | ((with_reducible apply Sat.cond_pf); exact rfl; (try dsimp only [V.EV.sub, V.EV.len]); first | assumption | omega)
        | ((with_reducible apply Sat.cond_p); exact rfl; all_goals intro h)
        | ((with_reducible apply Sat.cond); exact rfl; all_goals intro h)
        | ((with_reducible refine (?_ : AllP _)); ((repeat' (first | exact AllP.nil | with_reducible refine AllP.cons ?_ ?_)) <;> (first | (intro hq; exact hq) | (dsimp only [V.EV.len]; omega) | (intro hq; dsimp only [V.EV.len]; omega) | (intro hq; exact absurd hq (by decide)))))
        | ((with_reducible apply Sat.goffM ((.bool true))); exact rfl; (first | (decide +kernel) | assumption); exact rfl)
        | ((with_reducible apply DSat.goffM ((.bool true))); exact rfl; (first | (decide +kernel) | assumption); exact rfl) | fail)
    refine Sat.reX (i := 3) (.g (x + 1) 2 fun i => valP (l.getD i v00)) rfl rfl (Nat.le_refl _) rfl (fun y hy => ?_) ?_
    · show valP (l.getD y v00) = if y < x then valP (l.getD y v00) else nthL [valP (l.getD (x : Int).toNat v00)] (0 + (y - x))
      have hy : y < x + 1 := hy
      split
      · rfl
      · rw [Int.toNat_natCast, show y = x by omega, Nat.sub_self]; rfl
    refine Sat.back (x + 1) [(1, some 3)] rfl ?_ (by omega) (by omega)
    ((repeat' (first | exact AllP.nil | with_reducible refine AllP.cons ?_ ?_)) <;> first | exact rfl | exact trivial | exact Int.natCast_add_one _ | exact ⟨rfl, rfl⟩ | exact ⟨rfl, rfl, rfl⟩ | exact ⟨rfl, rfl, rfl, rfl⟩ | exact ⟨rfl, .inl rfl⟩ | exact ⟨rfl, .inr rfl⟩ | exact pur | (intro _; exact rfl) | (intro _; exact trivial) | (intro _; exact pur) | exact pur_val _ | (intro _ _; exact rfl) | (intro _ _; simp [pureL, pureS, pureE]; done))
  · obtain rfl : x = l.length := by omega
    repeat' (first
      | ((with_reducible apply Sat.run (X := X64)); exact rfl; (first | exact True.intro | (exact phi) | skip))
      | ((with_reducible apply Sat.cond_f); exact rfl)
      | ((with_reducible apply Sat.cond_pf); exact rfl; (try dsimp only [V.EV.sub, V.EV.len]); first | assumption | omega) | fail)
    refine Sat.fin (Sat.end1 rfl rfl rfl True.intro (.all _ _ _ _ _ rfl rfl rfl (pur_val _)) (.inl rfl) (fun _ h => h)) rfl
theorem app_row2 (K : List ValL) (v u : ValL) : ∀ i, i < K.length + 1 + 1 → valP ((K ++ [v] ++ [u]).getD i v00) = if i < K.length + 1 then (if i < K.length then valP (K.getD i v00) else nthL [valP v] (0 + (i - K.length))) else nthL [valP u] (0 + (i - (K.length + 1))) := by
  intro i hi
  have h := app_row (K ++ [v]) u i (by simpa using hi)
  rw [h, List.length_append, List.length_singleton]
  split
  · rename_i q
    exact app_row K v i q
  · rfl
theorem Into_yes (l : List ValL) (v : ValL) (hn : v.name ≠ []) (hlen : l.length ≤ 1000000) : Fun Tryz.prog [] 31 [.ro (valE l), v.v] (.ro (valE (insV l v))) := by
  refine Fun.mk 6 Tryz.func31 rfl Tryz.ntmps31 rfl rfl fun T w0 => ?_
  repeat' (first
    | ((with_reducible apply Sat.run (X := X64)); exact rfl; (first | exact True.intro | (exact phi) | skip))
    | ((with_reducible apply Sat.drawn); kernel_rfl)
    | ((with_reducible apply DSat.run (X := X64)); exact rfl; (first | exact True.intro | (exact phi) | skip))
    | ((with_reducible apply DSat.fin); kernel_rfl) | fail)
  refine Sat.kill [8] rfl ?_
  apply Sat.loop (α := Nat) (fun x => x ≤ l.length) (fun x => l.length - x) 0 (fun x => [(7, .int .i64 (x : Int)), (5, .row 1 0 2 0 (intoL l v x).length), (6, .bool (decide (posI l v.name < x)))]) (fun x => [(1, .row 53 (valE (intoL l v x)))]) [] [] 0
  · intro x; exact rfl
  · intro x; exact rfl
  · exact rfl
  · exact rfl
  · ((repeat' (first | exact AllP.nil | with_reducible refine AllP.cons ?_ ?_)) <;> first | exact rfl | exact trivial | exact Int.natCast_add_one _ | exact ⟨rfl, rfl⟩ | exact ⟨rfl, rfl, rfl⟩ | exact ⟨rfl, rfl, rfl, rfl⟩ | exact ⟨rfl, .inl rfl⟩ | exact ⟨rfl, .inr rfl⟩ | exact pur | (intro _; exact rfl) | (intro _; exact trivial) | (intro _; exact pur) | exact pur_val _ | (intro i hi; exact absurd hi (Nat.not_lt_zero _)) | (rw [decide_eq_false hn, decide_eq_false (Nat.not_lt_zero _)]))
  · exact Nat.zero_le _
  intro x hx0
  have hd := into_len l v x
  by_cases hx : x < l.length
  · rcases Nat.lt_trichotomy x (posI l v.name) with h | h | h
    · have e1 := into_lt l v x hx h
      have h6 : decide (posI l v.name < x) = false := decide_eq_false (by omega)
      have hl : Op.bytesLess v.name (l.getD (x : Int).toNat v00).name = false := by rw [Int.toNat_natCast, less_b]; exact decide_eq_false (posI_lt l v.name x h)
      rw [h6]
      repeat' (first
        | ((with_reducible apply Sat.run (X := X64)); exact rfl; (first | exact True.intro | (exact phi) | skip))
        | ((with_reducible apply Sat.drawn (id := 5)); kernel_rfl)
        | ((with_reducible apply DSat.run (X := X64)); exact rfl; (first | exact True.intro | (exact phi) | skip))
        | ((with_reducible apply DSat.fin); kernel_rfl)
        | ((with_reducible apply Sat.cond_pt); exact rfl; (try dsimp only [V.EV.sub, V.EV.len]); first | assumption | omega)
        | ((with_reducible apply Sat.cond); exact rfl; all_goals intro h) | fail)
      · exfalso; rw [hl] at h; simp at h
      refine Sat.reX (i := 3) (valE (intoL l v x ++ [l.getD x v00])) rfl rfl (by simp [EV.len]) rfl (fun y hy => app_row' (intoL l v x) l x y (by simpa [EV.len] using hy)) ?_
      refine Sat.back (x + 1) [(1, some 3)] rfl ?_ (by omega) (by omega)
      rw [e1]
      ((repeat' (first | exact AllP.nil | with_reducible refine AllP.cons ?_ ?_)) <;> first | exact rfl | exact trivial | exact Int.natCast_add_one _ | exact ⟨rfl, rfl⟩ | exact ⟨rfl, rfl, rfl⟩ | exact ⟨rfl, rfl, rfl, rfl⟩ | exact ⟨rfl, .inl rfl⟩ | exact ⟨rfl, .inr rfl⟩ | exact pur | (intro _; exact rfl) | (intro _; exact trivial) | (intro _; exact pur) | exact pur_val _ | exact ⟨rfl, rfl, rfl, by simp [EV.len, EV.sub]⟩ | (intro _ _; exact rfl) | exact (decide_eq_false (by omega)).symm)
    · have e1 := into_eq l v x hx h
      have h6 : decide (posI l v.name < x) = false := decide_eq_false (by omega)
      have hl : Op.bytesLess v.name (l.getD (x : Int).toNat v00).name = true := by rw [Int.toNat_natCast, less_b, h]; exact decide_eq_true (posI_at l v.name (by omega))
      rw [h6]
      repeat' (first
        | ((with_reducible apply Sat.run (X := X64)); exact rfl; (first | exact True.intro | (exact phi) | skip))
        | ((with_reducible apply Sat.drawn (id := 5)); kernel_rfl)
        | ((with_reducible apply DSat.run (X := X64)); exact rfl; (first | exact True.intro | (exact phi) | skip))
        | ((with_reducible apply DSat.fin); kernel_rfl)
        | ((with_reducible apply Sat.cond_pt); exact rfl; (try dsimp only [V.EV.sub, V.EV.len]); first | assumption | omega)
        | ((with_reducible apply Sat.cond); exact rfl; all_goals intro h) | fail)
      · refine Sat.reX (i := 5) (valE (intoL l v x ++ [v] ++ [l.getD x v00])) rfl rfl (by simp [EV.len]) rfl (fun y hy => (app_row2 (intoL l v x) v (l.getD x v00) y (by simpa [EV.len] using hy)).trans (by rw [Int.toNat_natCast]; rfl)) ?_
        refine Sat.back (x + 1) [(1, some 5)] rfl ?_ (by omega) (by omega)
        rw [e1]
        ((repeat' (first | exact AllP.nil | with_reducible refine AllP.cons ?_ ?_)) <;> first | exact rfl | exact trivial | exact Int.natCast_add_one _ | exact ⟨rfl, rfl⟩ | exact ⟨rfl, rfl, rfl⟩ | exact ⟨rfl, rfl, rfl, rfl⟩ | exact ⟨rfl, .inl rfl⟩ | exact ⟨rfl, .inr rfl⟩ | exact pur | (intro _; exact rfl) | (intro _; exact trivial) | (intro _; exact pur) | exact pur_val _ | exact ⟨rfl, rfl, rfl, by simp [EV.len, EV.sub]⟩ | (intro _ _; exact rfl) | exact (decide_eq_true (by omega)).symm)
      · exfalso; rw [hl] at h; simp at h
    · have e1 := into_gt l v x hx h
      have h6 : decide (posI l v.name < x) = true := decide_eq_true h
      rw [h6]
      repeat' (first
        | ((with_reducible apply Sat.run (X := X64)); exact rfl; (first | exact True.intro | (exact phi) | skip))
        | ((with_reducible apply Sat.drawn (id := 5)); kernel_rfl)
        | ((with_reducible apply DSat.run (X := X64)); exact rfl; (first | exact True.intro | (exact phi) | skip))
        | ((with_reducible apply DSat.fin); kernel_rfl)
        | ((with_reducible apply Sat.cond_f); exact rfl)
        | ((with_reducible apply Sat.cond_pt); exact rfl; (try dsimp only [V.EV.sub, V.EV.len]); first | assumption | omega) | fail)
      refine Sat.reX (i := 3) (valE (intoL l v x ++ [l.getD x v00])) rfl rfl (by simp [EV.len]) rfl (fun y hy => app_row' (intoL l v x) l x y (by simpa [EV.len] using hy)) ?_
      refine Sat.back (x + 1) [(1, some 3)] rfl ?_ (by omega) (by omega)
      rw [e1]
      ((repeat' (first | exact AllP.nil | with_reducible refine AllP.cons ?_ ?_)) <;> first | exact rfl | exact trivial | exact Int.natCast_add_one _ | exact ⟨rfl, rfl⟩ | exact ⟨rfl, rfl, rfl⟩ | exact ⟨rfl, rfl, rfl, rfl⟩ | exact ⟨rfl, .inl rfl⟩ | exact ⟨rfl, .inr rfl⟩ | exact pur | (intro _; exact rfl) | (intro _; exact trivial) | (intro _; exact pur) | exact pur_val _ | exact ⟨rfl, rfl, rfl, by simp [EV.len, EV.sub]⟩ | (intro _ _; exact rfl) | exact (decide_eq_true (by omega)).symm)
  · obtain rfl : x = l.length := by omega
    have he := into_end l v
    by_cases hp : posI l v.name < l.length
    · rw [if_pos hp] at he
      rw [decide_eq_true hp]
      repeat' (first
        | ((with_reducible apply Sat.run (X := X64)); exact rfl; (first | exact True.intro | (exact phi) | skip))
        | ((with_reducible apply Sat.cond_f); exact rfl)
        | ((with_reducible apply Sat.cond_pf); exact rfl; (try dsimp only [V.EV.sub, V.EV.len]); first | assumption | omega) | fail)
      refine Sat.fin (Sat.end1 rfl rfl rfl True.intro (.all _ _ _ _ _ rfl rfl rfl (pur_val _)) (.inl rfl) (fun _ h => h)) ?_
      rw [he]
    · rw [if_neg hp] at he
      rw [decide_eq_false hp]
      repeat' (first
        | ((with_reducible apply Sat.run (X := X64)); exact rfl; (first | exact True.intro | (exact phi) | skip))
        | ((with_reducible apply Sat.cond_t); exact rfl)
        | ((with_reducible apply Sat.cond_pf); exact rfl; (try dsimp only [V.EV.sub, V.EV.len]); first | assumption | omega) | fail)
      refine Sat.reX (i := 3) (valE (intoL l v l.length ++ [v])) rfl rfl (by simp [EV.len]) rfl (fun y hy => app_row (intoL l v l.length) v y (by simpa [EV.len] using hy)) ?_
      refine Sat.fin (Sat.end1 rfl rfl rfl True.intro (.all _ _ _ _ _ rfl rfl (by simp [EV.len, EV.sub]) (pur_val _)) (.inl rfl) (fun _ h => h)) ?_
      rw [he]
end Go.Proofs.YtpbgihhfcdggkaaGreatDoor
end
section
namespace Go.Proofs.YtpbgihhfcdggkaaGreatDoor
open Go.RowKit V
set_option maxRecDepth 100000
set_option maxHeartbeats 4000000
set_option linter.unusedSimpArgs false
set_option linter.unusedVariables false
attribute [local irreducible] V.Sat V.DSat V.SatP V.ASat V.AOp
def ids3 : List Nat := 3 :: 4 :: 5 :: 6 :: 7 :: 8 :: 9 :: 10 :: 11 :: 12 :: 13 :: 14 :: 15 :: 16 :: 17 :: 18 :: 19 :: 20 :: 21 :: 22 :: 23 :: 24 :: 25 :: 26 :: 27 :: 28 :: 29 :: 30 :: 31 :: 32 :: 33 :: 34 :: 35 :: 36 :: 37 :: 38 :: 39 :: 40 :: []
@[reducible] def stC (ver : Int) (v n k m : Nat) : V.Blk := .cells 115 [.int .i64 ver, .row v 0 2 0 n, .row k 0 2 0 m]
theorem req_t : Fun Tryz.prog [] 150 [.bool true] (.tup []) := by
  refine Fun.mk 6 Tryz.func150 rfl Tryz.ntmps150 rfl rfl fun T w0 => ?_
  repeat' (first
    | ((with_reducible apply Sat.run (X := X64)); exact rfl; (first | exact True.intro | (exact phi) | skip))
    | ((with_reducible apply Sat.cond_f); exact rfl) | fail)
  exact Sat.end0 rfl (.inr rfl) (fun _ h => h)
theorem req_f : MX Tryz.prog [] 150 [] [.bool false] [] 131 := by
  refine MX.mk (ids := ids3) 6 Tryz.func150 rfl Tryz.ntmps150 rfl rfl rfl fun T w0 E => ?_
  repeat' (first
    | ((with_reducible apply Sat.panic); exact rfl)
    | ((with_reducible apply Sat.run (X := X64)); exact rfl; (first | exact True.intro | (exact phi) | skip))
    | ((with_reducible apply Sat.cond_t); exact rfl) | fail)
  exact SatP.fend
theorem has_mf (ver : Int) (l K : List ValL) (m : Nat) (n : Nm) (hr : Rising l) (hlen : l.length ≤ 1000000) : MF Tryz.prog [] 145 [0, 1, 2] [.ptr 0 0, .str n] [(0, stC ver 1 l.length 2 m), (1, .row 53 (valE l)), (2, .row 53 (valE K))] (.bool (hasV l n)) [(0, stC ver 1 l.length 2 m), (1, .row 53 (valE l)), (2, .row 53 (valE K))] := by
  have hb := bsf_spec l n hr hlen
  have hpv := pur_val l
  refine MF.mk (ids := ids3) 6 Tryz.func145 rfl Tryz.ntmps145 rfl rfl rfl fun T w0 E => ?_
  repeat' (first
    | ((with_reducible apply Sat.run (X := X64)); exact rfl; (first | exact True.intro | (exact phi) | skip))
    | ((with_reducible apply Sat.callR (hb)); exact rfl; exact rfl; exact rfl; kernel_rfl; (exact cnvX); exact rfl) | fail)
  (apply Sat.fend1; exact rfl; exact rfl; exact True.intro; exact rfl; exact ⟨rfl, rfl, rfl, trivial⟩; (first | exact .inl rfl | exact .inr rfl))
theorem del_at {l : List ValL} {n : Nm} (hr : Rising l) (hh : hasV l n = true) : (delV l n).length = l.length - 1 ∧ ∀ y, y < l.length - 1 → valP ((delV l n).getD y v00) = delG (fun i => valP (l.getD i v00)) (posV l n) y := by
  have hp := (posV_has hr n).1 hh
  have e := (delV_pos hr n hh).1
  have hle := posV_le l n
  refine ⟨by rw [e, List.length_append, List.length_take, List.length_drop]; omega, fun y hy => ?_⟩
  rw [e]
  unfold delG
  split
  · rename_i h
    congr 1
    rw [List.getD_eq_getElem?_getD, List.getD_eq_getElem?_getD, List.getElem?_append_left (by rw [List.length_take]; omega), List.getElem?_take, if_pos h]
  · rename_i h
    congr 1
    rw [List.getD_eq_getElem?_getD, List.getD_eq_getElem?_getD, List.getElem?_append_right (by rw [List.length_take]; omega), List.length_take, List.getElem?_drop]
    congr 2
    omega
theorem ins_at {l : List ValL} {v : ValL} (hr : Rising l) (hh : hasV l v.name = false) : ∀ y, y < l.length + 1 → valP ((insV l v).getD y v00) = insG (fun i => valP (l.getD i v00)) (valP v) (posV l v.name) y := by
  have hle := posV_le l v.name
  intro y hy
  rw [insV_pos hr v hh]
  unfold insG
  have hlt : (l.take (posV l v.name)).length = posV l v.name := by rw [List.length_take]; omega
  split
  · rename_i h
    congr 1
    rw [List.getD_eq_getElem?_getD, List.getD_eq_getElem?_getD, List.getElem?_append_left (by omega), List.getElem?_take, if_pos h]
  · rename_i h
    split
    · rename_i h2
      congr 1
      rw [List.getD_eq_getElem?_getD, List.getElem?_append_right (by omega), hlt, h2, Nat.sub_self]
      rfl
    · rename_i h2
      congr 1
      rw [List.getD_eq_getElem?_getD, List.getD_eq_getElem?_getD, List.getElem?_append_right (by omega), hlt, show y - posV l v.name = (y - 1 - posV l v.name) + 1 by omega, List.getElem?_cons_succ, List.getElem?_drop]
      congr 2
      omega
theorem take_no (ver : Int) (l K : List ValL) (m : Nat) (n : Nm) (hr : Rising l) (hlen : l.length ≤ 1000000) (hh : hasV l n = false) : MF Tryz.prog [] 151 [0, 1, 2] [.ptr 0 0, .str n] [(0, stC ver 1 l.length 2 m), (1, .row 53 (valE l)), (2, .row 53 (valE K))] val0.v [(0, stC ver 1 l.length 2 m), (1, .row 53 (valE l)), (2, .row 53 (valE K))] := by
  have hb := bsf_spec l n hr hlen
  have hpv := pur_val l
  rw [hh] at hb
  refine MF.mk (ids := ids3) 6 Tryz.func151 rfl Tryz.ntmps151 rfl rfl rfl fun T w0 E => ?_
  repeat' (first
    | ((with_reducible apply Sat.run (X := X64)); exact rfl; (first | exact True.intro | (exact phi) | skip))
    | ((with_reducible apply Sat.cond_t); exact rfl)
    | ((with_reducible apply Sat.callR (hb)); exact rfl; exact rfl; exact rfl; kernel_rfl; (exact cnvX); exact rfl) | fail)
  (apply Sat.fend1; exact rfl; exact rfl; exact True.intro; exact rfl; exact ⟨rfl, rfl, rfl, trivial⟩; (first | exact .inl rfl | exact .inr rfl))
theorem take_yes (ver : Int) (l K : List ValL) (m : Nat) (n : Nm) (hr : Rising l) (hlen : l.length ≤ 1000000) (hh : hasV l n = true) : MF Tryz.prog [] 151 [0, 1, 2] [.ptr 0 0, .str n] [(0, stC ver 1 l.length 2 m), (1, .row 53 (valE l)), (2, .row 53 (valE K))] (getV l n).v [(0, stC ver 1 (delV l n).length 2 m), (1, .row 53 (valE (delV l n))), (2, .row 53 (valE K))] := by
  have hb := bsf_spec l n hr hlen
  have hpv := pur_val l
  rw [hh] at hb
  have hp := ((posV_has hr n).1 hh).1
  obtain ⟨hd, hda⟩ := del_at hr hh
  have hge := (delV_pos hr n hh).2
  refine MF.mk (ids := ids3) 6 Tryz.func151 rfl Tryz.ntmps151 rfl rfl rfl fun T w0 E => ?_
  repeat' (first
    | ((with_reducible apply Sat.delCall (k := posV l n) (f' := fun i => valP ((delV l n).getD i v00)) rfl rfl rfl ⟨rfl, rfl, hp⟩ (by kernel_rfl) rfl rfl hda rfl))
    | ((with_reducible apply Sat.run (X := X64)); exact rfl; (first | exact True.intro | (exact phi) | skip))
    | ((with_reducible apply Sat.cond_f); exact rfl)
    | ((with_reducible apply Sat.callR (hb)); exact rfl; exact rfl; exact rfl; kernel_rfl; (exact cnvX); exact rfl) | fail)
  have e1 : ∀ M, V.find M 1 = some (V.Blk.row 53 (.g (l.length - 1) 2 fun i => valP ((delV l n).getD i v00))) → V.find M 1 = some (V.Blk.row 53 (valE (delV l n))) := fun M h => by rw [h]; show some (V.Blk.row 53 (.g (l.length - 1) 2 _)) = some (V.Blk.row 53 (.g (delV l n).length 2 _)); rw [hd]
  (apply Sat.fend1; exact rfl; exact rfl; exact True.intro; (rw [hge]; simp only [Nat.zero_add, Int.toNat_natCast]); exact ⟨by rw [hd]; rfl, e1 _ rfl, rfl, trivial⟩; (first | exact .inl rfl | exact .inr rfl))
theorem put_no (ver : Int) (l K : List ValL) (m : Nat) (v : ValL) (hn : v.name = []) : MF Tryz.prog [] 152 [0, 1, 2] [.ptr 0 0, v.v] [(0, stC ver 1 l.length 2 m), (1, .row 53 (valE l)), (2, .row 53 (valE K))] (.tup []) [(0, stC ver 1 l.length 2 m), (1, .row 53 (valE l)), (2, .row 53 (valE K))] := by
  refine MF.mk (ids := ids3) 6 Tryz.func152 rfl Tryz.ntmps152 rfl rfl rfl fun T w0 E => ?_
  repeat' (first
    | ((with_reducible apply Sat.run (X := X64)); exact rfl; (first | exact True.intro | (exact phi) | skip))
    | ((with_reducible apply Sat.drawn); kernel_rfl)
    | ((with_reducible apply DSat.run (X := X64)); exact rfl; (first | exact True.intro | (exact phi) | skip))
    | ((with_reducible apply Sat.cond_p); exact rfl; all_goals intro h) | fail)
  · exact absurd hn h
  · (apply Sat.fend0; exact rfl; exact rfl; exact ⟨rfl, rfl, rfl, trivial⟩; (first | exact .inl rfl | exact .inr rfl))
theorem put_yes (ver : Int) (l K : List ValL) (m : Nat) (v : ValL) (hn : v.name ≠ []) (hr : Rising l) (hlen : l.length ≤ 1000000) (hh : hasV l v.name = false) : MF Tryz.prog [] 152 [0, 1, 2] [.ptr 0 0, v.v] [(0, stC ver 1 l.length 2 m), (1, .row 53 (valE l)), (2, .row 53 (valE K))] (.tup []) [(0, stC ver 5 (insV l v).length 2 m), (5, .row 53 (valE (insV l v))), (2, .row 53 (valE K))] := by
  have hb := bsf_spec l v.name hr hlen
  have hpv := pur_val l
  have hle := posV_le l v.name
  have hd := insV_len l v
  have hia := ins_at hr hh
  refine MF.mk (ids := ids3) 6 Tryz.func152 rfl Tryz.ntmps152 rfl rfl rfl fun T w0 E => ?_
  repeat' (first
    | ((with_reducible apply Sat.run (X := X64)); exact rfl; (first | exact True.intro | (exact phi) | skip))
    | ((with_reducible apply Sat.drawn (id := 2)); kernel_rfl)
    | ((with_reducible apply DSat.run (X := X64)); exact rfl; (first | exact True.intro | (exact phi) | skip))
    | ((with_reducible apply DSat.fin); kernel_rfl)
    | ((with_reducible apply Sat.cond_pt); exact rfl; (try dsimp only [V.EV.sub, V.EV.len]); first | assumption | omega)
    | ((with_reducible apply DSat.callR (hb)); exact rfl; exact rfl; exact rfl; kernel_rfl; (exact cnvX); exact rfl) | fail)
  · apply cutP
    · intro hP
      repeat' (first
        | ((with_reducible apply Sat.insCall (k := posV l v.name) (f' := fun i => valP ((insV l v).getD i v00)) rfl rfl rfl ⟨rfl, hle, hlen⟩ (by kernel_rfl) rfl rfl rfl rfl hia rfl))
        | ((with_reducible apply Sat.run (X := X64)); exact rfl; (first | exact True.intro | (exact phi) | skip))
        | ((with_reducible apply Sat.anyN 14); exact rfl; kernel_rfl)
        | ((with_reducible apply ASat.done); (decide +kernel); exact hP.out)
        | ((with_reducible apply AOp.of); exact rfl)
        | (with_reducible apply ASat.back)
        | ((with_reducible apply ASat.takeR (X := X64) 0); (decide +kernel); (decide +kernel); (decide +kernel); exact rfl; exact rfl; exact rfl; exact bodyPost_put; exact rfl; (first | exact True.intro | (exact phi) | skip); exact rfl)
        | ((with_reducible apply ASat.takeR (X := X64) 1); (decide +kernel); (decide +kernel); (decide +kernel); exact rfl; exact rfl; exact rfl; exact bodyPost_put; exact rfl; (first | exact True.intro | (exact phi) | skip); exact rfl)
        | ((with_reducible apply ASat.takeR (X := X64) 2); (decide +kernel); (decide +kernel); (decide +kernel); exact rfl; exact rfl; exact rfl; exact bodyPost_put; exact rfl; (first | exact True.intro | (exact phi) | skip); exact rfl)
        | ((with_reducible apply ASat.takeR (X := X64) 3); (decide +kernel); (decide +kernel); (decide +kernel); exact rfl; exact rfl; exact rfl; exact bodyPost_put; exact rfl; (first | exact True.intro | (exact phi) | skip); exact rfl)
        | ((with_reducible apply ASat.takeR (X := X64) 4); (decide +kernel); (decide +kernel); (decide +kernel); exact rfl; exact rfl; exact rfl; exact bodyPost_put; exact rfl; (first | exact True.intro | (exact phi) | skip); exact rfl)
        | ((with_reducible apply ASat.takeR (X := X64) 6); (decide +kernel); (decide +kernel); (decide +kernel); exact rfl; exact rfl; exact rfl; exact bodyPost_put; exact rfl; (first | exact True.intro | (exact phi) | skip); exact rfl)
        | ((with_reducible apply ASat.takeR (X := X64) 10); (decide +kernel); (decide +kernel); (decide +kernel); exact rfl; exact rfl; exact rfl; exact bodyPost_put; exact rfl; (first | exact True.intro | (exact phi) | skip); exact rfl)
        | ((with_reducible apply ASat.takeR (X := X64) 11); (decide +kernel); (decide +kernel); (decide +kernel); exact rfl; exact rfl; exact rfl; exact bodyPost_put; exact rfl; (first | exact True.intro | (exact phi) | skip); exact rfl)
        | ((with_reducible apply ASat.takeR (X := X64) 12); (decide +kernel); (decide +kernel); (decide +kernel); exact rfl; exact rfl; exact rfl; exact bodyPost_put; exact rfl; (first | exact True.intro | (exact phi) | skip); exact rfl)
        | ((with_reducible apply ASat.one 5); (decide +kernel))
        | ((with_reducible apply ASat.one 7); (decide +kernel))
        | ((with_reducible apply ASat.one 8); (decide +kernel))
        | ((with_reducible apply ASat.one 9); (decide +kernel))
        | ((with_reducible apply ASat.one 13); (decide +kernel))
        | ((with_reducible apply ASat.two 5 7); (decide +kernel))
        | ((with_reducible apply ASat.two 5 8); (decide +kernel)) | fail)
    · repeat' (first
          | ((with_reducible apply Sat.run (X := X64)); exact rfl; (first | exact True.intro | (exact phi) | skip))
          | ((with_reducible apply Sat.drawn); kernel_rfl)
          | ((with_reducible apply DSat.run (X := X64)); exact rfl; (first | exact True.intro | (exact phi) | skip))
          | ((with_reducible apply DSat.fin); kernel_rfl)
          | ((with_reducible apply Sat.cond_t); exact rfl)
          | ((with_reducible apply Sat.cond_f); exact rfl)
          | ((with_reducible apply Sat.cond_pt); exact rfl; (try dsimp only [V.EV.sub, V.EV.len]); first | assumption | omega)
          | ((with_reducible apply Sat.cond_pf); exact rfl; (try dsimp only [V.EV.sub, V.EV.len]); first | assumption | omega)
          | ((with_reducible apply Sat.cond_p); exact rfl; all_goals intro h)
          | ((with_reducible apply Sat.cond); exact rfl; all_goals intro h) | fail)
      have e1 : ∀ M, V.find M 5 = some (V.Blk.row 53 (.g (l.length + 1) 2 fun i => valP ((insV l v).getD i v00))) → V.find M 5 = some (V.Blk.row 53 (valE (insV l v))) := fun M h => by rw [h]; show some (V.Blk.row 53 (.g (l.length + 1) 2 _)) = some (V.Blk.row 53 (.g (insV l v).length 2 _)); rw [hd]
      (apply Sat.fend0; exact rfl; exact rfl; exact ⟨by rw [hd]; rfl, e1 _ rfl, rfl, trivial⟩; (first | exact .inl rfl | exact .inr rfl))
end Go.Proofs.YtpbgihhfcdggkaaGreatDoor
end
section
namespace Go.Proofs.YtpbgihhfcdggkaaGreatDoor
open Go.RowKit V
set_option maxRecDepth 100000
set_option maxHeartbeats 4000000
set_option linter.unusedSimpArgs false
set_option linter.unusedVariables false
attribute [local irreducible] V.Sat V.DSat V.SatP V.ASat V.AOp
theorem popc (m : Nat) (K : List ValL) (n : Nm) (b : Bool) (h : ((K.getD m v00).name = [] ∨ (K.getD m v00).name = n) ↔ b = true) : (bif decide ((0 : Int) ≤ ((m + 1 : Nat) : Int) - 1) then bif decide ((K.getD m v00).name = []) then true else decide ((K.getD m v00).name = n) else false) = b := by
  rw [decide_eq_true (show (0 : Int) ≤ ((m + 1 : Nat) : Int) - 1 by omega), cond_true]
  apply Bool.eq_iff_iff.2
  rw [← h]
  by_cases q : (K.getD m v00).name = []
  · rw [decide_eq_true q, cond_true]
    exact ⟨fun _ => .inl q, fun _ => rfl⟩
  · rw [decide_eq_false q, cond_false, decide_eq_true_eq]
    exact ⟨.inr, fun h => h.resolve_left q⟩
theorem pop_yes (ver : Int) (nv m : Nat) (l K : List ValL) (n : Nm) (hm : m < K.length) (hK : K.length ≤ 1000000) (hn : (K.getD m v00).name = [] ∨ (K.getD m v00).name = n) : MF Tryz.prog [] 162 [0, 1, 2] [.ptr 0 0, .str n] [(0, stC ver 1 nv 2 (m + 1)), (1, .row 53 (valE l)), (2, .row 53 (valE K))] (K.getD m v00).v [(0, stC ver 1 nv 2 m), (1, .row 53 (valE l)), (2, .row 53 (valE K))] := by
  have hpv := pur_val K
  have hc := popc m K n true (by simp only [hn])
  have e1 : 0 + (((m + 1 : Nat) : Int) - 1).toNat = m := by omega
  refine MF.mk (ids := ids3) 6 Tryz.func162 rfl Tryz.ntmps162 rfl rfl rfl fun T w0 E => ?_
  repeat' (first
    | ((with_reducible apply Sat.run (X := X64)); exact rfl; (first | exact True.intro | (exact phi) | skip)) | fail)
  rw [e1, hc]
  repeat' (first
    | ((with_reducible apply Sat.run (X := X64)); exact rfl; (first | exact True.intro | (exact phi) | skip))
    | ((with_reducible apply Sat.callR (req_t)); exact rfl; exact rfl; exact rfl; kernel_rfl; (exact cnvX); exact rfl) | fail)
  rw [e1]
  have e2 : ∀ M a b c, a = 0 → b = m → V.find M 0 = some (V.Blk.cells 115 [.int .i64 ver, .row 1 0 2 0 nv, .row 2 0 c a b]) → V.find M 0 = some (V.Blk.cells 115 [.int .i64 ver, .row 1 0 2 0 nv, .row 2 0 c 0 m]) := fun M a b c h1 h2 h => by subst h1 h2; exact h
  (apply Sat.fend1; exact rfl; exact rfl; exact True.intro; rfl; exact ⟨e2 _ _ _ _ rfl (by show (((m + 1 : Nat) : Int) - 1).toNat - 0 = m; omega) rfl, rfl, rfl, trivial⟩; (first | exact .inl rfl | exact .inr rfl))
theorem pop_no (ver : Int) (nv m : Nat) (l K : List ValL) (n : Nm) (hm : m < K.length) (hK : K.length ≤ 1000000) (hn : ¬ ((K.getD m v00).name = [] ∨ (K.getD m v00).name = n)) : MX Tryz.prog [] 162 [0, 1, 2] [.ptr 0 0, .str n] [(0, stC ver 1 nv 2 (m + 1)), (1, .row 53 (valE l)), (2, .row 53 (valE K))] 131 := by
  have hpv := pur_val K
  have hc := popc m K n false (by simp only [hn]; simp)
  have e1 : 0 + (((m + 1 : Nat) : Int) - 1).toNat = m := by omega
  refine MX.mk (ids := ids3) 6 Tryz.func162 rfl Tryz.ntmps162 rfl rfl rfl fun T w0 E => ?_
  repeat' (first
    | ((with_reducible apply Sat.run (X := X64)); exact rfl; (first | exact True.intro | (exact phi) | skip)) | fail)
  rw [e1, hc]
  repeat' (first
    | ((with_reducible apply Sat.mx (req_f)); exact rfl; exact rfl; kernel_rfl; exact rfl; exact rfl; ((repeat' (first | exact AllP.nil | with_reducible refine AllP.cons ?_ ?_)) <;> (first | exact rfl | exact True.intro | assumption | exact purX | omega))) | fail)
  exact SatP.fend
theorem pop_none (ver : Int) (nv : Nat) (l K : List ValL) (n : Nm) : MX Tryz.prog [] 162 [0, 1, 2] [.ptr 0 0, .str n] [(0, stC ver 1 nv 2 0), (1, .row 53 (valE l)), (2, .row 53 (valE K))] 131 := by
  have hpv := pur_val K
  have hc : decide ((0 : Int) ≤ ((0 : Nat) : Int) - 1) = false := by decide
  refine MX.mk (ids := ids3) 6 Tryz.func162 rfl Tryz.ntmps162 rfl rfl rfl fun T w0 E => ?_
  repeat' (first
    | ((with_reducible apply Sat.run (X := X64)); exact rfl; (first | exact True.intro | (exact phi) | skip)) | fail)
  rw [hc]
  repeat' (first
    | ((with_reducible apply Sat.mx (req_f)); exact rfl; exact rfl; kernel_rfl; exact rfl; exact rfl; ((repeat' (first | exact AllP.nil | with_reducible refine AllP.cons ?_ ?_)) <;> (first | exact rfl | exact True.intro | assumption | exact purX | omega))) | fail)
  exact SatP.fend
theorem move_yes (ver : Int) (l K : List ValL) (m : Nat) (a b : Nm) (hr : Rising l) (hlen : l.length ≤ 1000000) (ha : hasV l a = true) (hb : hasV l b = false) (hb0 : b ≠ []) : MF Tryz.prog [] 149 [0, 1, 2] [.ptr 0 0, .str a, .str b] [(0, stC ver 1 l.length 2 m), (1, .row 53 (valE l)), (2, .row 53 (valE K))] (.tup []) [(0, stC ver 4 (insV (delV l a) ⟨b, (getV l a).val⟩).length 2 m), (4, .row 53 (valE (insV (delV l a) ⟨b, (getV l a).val⟩))), (2, .row 53 (valE K))] := by
  have h1 := has_mf ver l K m a hr hlen
  have h2 := has_mf ver l K m b hr hlen
  rw [ha] at h1
  rw [hb] at h2
  have h3 := take_yes ver l K m a hr hlen ha
  have hd := (del_at hr ha).1
  have hb1 : hasV (delV l a) b = false := by rw [hasV_del, hb]; rfl
  have h4 := put_yes ver (delV l a) K m ⟨b, (getV l a).val⟩ hb0 (rising_del hr a) (by omega) hb1
  refine MF.mk (ids := ids3) 6 Tryz.func149 rfl Tryz.ntmps149 rfl rfl rfl fun T w0 E => ?_
  repeat' (first
    | ((with_reducible apply Sat.gon); exact rfl; exact rfl; refine Sat.know 11 rfl rfl rfl (Sat.know 12 rfl rfl rfl ?_))
    | ((with_reducible apply Sat.run (X := X64)); exact rfl; (first | exact True.intro | (exact phi) | skip))
    | ((with_reducible apply Sat.mf (h1)); exact rfl; exact rfl; kernel_rfl; exact rfl; exact rfl; exact rfl; ((repeat' (first | exact AllP.nil | with_reducible refine AllP.cons ?_ ?_)) <;> (first | exact rfl | exact True.intro | assumption | exact purX | omega | (simp only [List.length_cons, List.length_nil, List.length_append]; omega))); exact rfl)
    | ((with_reducible apply Sat.mf (h2)); exact rfl; exact rfl; kernel_rfl; exact rfl; exact rfl; exact rfl; ((repeat' (first | exact AllP.nil | with_reducible refine AllP.cons ?_ ?_)) <;> (first | exact rfl | exact True.intro | assumption | exact purX | omega | (simp only [List.length_cons, List.length_nil, List.length_append]; omega))); exact rfl)
    | ((with_reducible apply Sat.mf (h3)); exact rfl; exact rfl; kernel_rfl; exact rfl; exact rfl; exact rfl; ((repeat' (first | exact AllP.nil | with_reducible refine AllP.cons ?_ ?_)) <;> (first | exact rfl | exact True.intro | assumption | exact purX | omega | (simp only [List.length_cons, List.length_nil, List.length_append]; omega))); exact rfl)
    | ((with_reducible apply Sat.mf (h4)); exact rfl; exact rfl; kernel_rfl; exact rfl; exact rfl; exact rfl; ((repeat' (first | exact AllP.nil | with_reducible refine AllP.cons ?_ ?_)) <;> (first | exact rfl | exact True.intro | assumption | exact purX | omega | (simp only [List.length_cons, List.length_nil, List.length_append]; omega))); exact rfl)
    | ((with_reducible apply Sat.callR (req_t)); exact rfl; exact rfl; exact rfl; kernel_rfl; (exact cnvX); exact rfl) | fail)
  (apply Sat.fend0; exact rfl; exact rfl; exact ⟨rfl, rfl, rfl, trivial⟩; (first | exact .inl rfl | exact .inr rfl))
theorem move_x1 (ver : Int) (l K : List ValL) (m : Nat) (a b : Nm) (hr : Rising l) (hlen : l.length ≤ 1000000) (ha : hasV l a = false) : MX Tryz.prog [] 149 [0, 1, 2] [.ptr 0 0, .str a, .str b] [(0, stC ver 1 l.length 2 m), (1, .row 53 (valE l)), (2, .row 53 (valE K))] 131 := by
  have h1 := has_mf ver l K m a hr hlen
  rw [ha] at h1
  refine MX.mk (ids := ids3) 6 Tryz.func149 rfl Tryz.ntmps149 rfl rfl rfl fun T w0 E => ?_
  repeat' (first
    | ((with_reducible apply Sat.run (X := X64)); exact rfl; (first | exact True.intro | (exact phi) | skip))
    | ((with_reducible apply Sat.goffM ((.bool true))); exact rfl; (first | (decide +kernel) | assumption); exact rfl)
    | ((with_reducible apply Sat.mf (h1)); exact rfl; exact rfl; kernel_rfl; exact rfl; exact rfl; exact rfl; ((repeat' (first | exact AllP.nil | with_reducible refine AllP.cons ?_ ?_)) <;> (first | exact rfl | exact True.intro | assumption | exact purX | omega | (simp only [List.length_cons, List.length_nil, List.length_append]; omega))); exact rfl)
    | ((with_reducible apply Sat.mx (req_f)); exact rfl; exact rfl; kernel_rfl; exact rfl; exact rfl; ((repeat' (first | exact AllP.nil | with_reducible refine AllP.cons ?_ ?_)) <;> (first | exact rfl | exact True.intro | assumption | exact purX | omega))) | fail)
  exact SatP.fend
theorem move_x2 (ver : Int) (l K : List ValL) (m : Nat) (a b : Nm) (hr : Rising l) (hlen : l.length ≤ 1000000) (ha : hasV l a = true) (hb : hasV l b = true) : MX Tryz.prog [] 149 [0, 1, 2] [.ptr 0 0, .str a, .str b] [(0, stC ver 1 l.length 2 m), (1, .row 53 (valE l)), (2, .row 53 (valE K))] 131 := by
  have h1 := has_mf ver l K m a hr hlen
  have h2 := has_mf ver l K m b hr hlen
  rw [ha] at h1
  rw [hb] at h2
  refine MX.mk (ids := ids3) 6 Tryz.func149 rfl Tryz.ntmps149 rfl rfl rfl fun T w0 E => ?_
  repeat' (first
    | ((with_reducible apply Sat.gon); exact rfl; exact rfl; refine Sat.know 11 rfl rfl rfl (Sat.know 12 rfl rfl rfl ?_))
    | ((with_reducible apply Sat.run (X := X64)); exact rfl; (first | exact True.intro | (exact phi) | skip))
    | ((with_reducible apply Sat.mf (h1)); exact rfl; exact rfl; kernel_rfl; exact rfl; exact rfl; exact rfl; ((repeat' (first | exact AllP.nil | with_reducible refine AllP.cons ?_ ?_)) <;> (first | exact rfl | exact True.intro | assumption | exact purX | omega | (simp only [List.length_cons, List.length_nil, List.length_append]; omega))); exact rfl)
    | ((with_reducible apply Sat.mf (h2)); exact rfl; exact rfl; kernel_rfl; exact rfl; exact rfl; exact rfl; ((repeat' (first | exact AllP.nil | with_reducible refine AllP.cons ?_ ?_)) <;> (first | exact rfl | exact True.intro | assumption | exact purX | omega | (simp only [List.length_cons, List.length_nil, List.length_append]; omega))); exact rfl)
    | ((with_reducible apply Sat.mx (req_f)); exact rfl; exact rfl; kernel_rfl; exact rfl; exact rfl; ((repeat' (first | exact AllP.nil | with_reducible refine AllP.cons ?_ ?_)) <;> (first | exact rfl | exact True.intro | assumption | exact purX | omega))) | fail)
  exact SatP.fend
end Go.Proofs.YtpbgihhfcdggkaaGreatDoor
end
section
namespace Go.Proofs.YtpbgihhfcdggkaaGreatDoor
open Go.RowKit V
set_option maxRecDepth 100000
set_option maxHeartbeats 4000000
set_option linter.unusedSimpArgs false
set_option linter.unusedVariables false
attribute [local irreducible] V.Sat V.DSat V.SatP V.ASat V.AOp
@[reducible] def ruleP (r : RuleL) : List SV := [.int .i64 r.kind, .str r.name, .str r.to, .str r.val]
theorem take_mf (ver : Int) (l K : List ValL) (m : Nat) (n : Nm) (hr : Rising l) (hlen : l.length ≤ 1000000) : MF Tryz.prog [] 151 [0, 1, 2] [.ptr 0 0, .str n] [(0, stC ver 1 l.length 2 m), (1, .row 53 (valE l)), (2, .row 53 (valE K))] (getV l n).v [(0, stC ver 1 (delV l n).length 2 m), (1, .row 53 (valE (delV l n))), (2, .row 53 (valE K))] := by
  cases hh : hasV l n with
  | true => exact take_yes ver l K m n hr hlen hh
  | false =>
    rw [getV_no l n hh, delV_no l n hh]
    exact take_no ver l K m n hr hlen hh
@[reducible] def movL (l : List ValL) (a b : Nm) : List ValL := insV (delV l a) ⟨b, (getV l a).val⟩
theorem rendo_yes (ver : Int) (l K : List ValL) (m : Nat) (r : RuleL) (hr : Rising l) (hlen : l.length ≤ 1000000) (ha : hasV l r.name = true) (hb : hasV l r.to = false) (hb0 : r.to ≠ []) : MF Tryz.prog [] 146 [0, 1, 2] [.agg (ruleP r), .ptr 0 0] [(0, stC ver 1 l.length 2 m), (1, .row 53 (valE l)), (2, .row 53 (valE K))] (.tup []) [(0, stC ver 4 (movL l r.name r.to).length 2 m), (4, .row 53 (valE (movL l r.name r.to))), (2, .row 53 (valE K))] := by
  have h1 := move_yes ver l K m r.name r.to hr hlen ha hb hb0
  refine MF.mk (ids := ids3) 6 Tryz.func146 rfl Tryz.ntmps146 rfl rfl rfl fun T w0 E => ?_
  repeat' (first
    | ((with_reducible apply Sat.run (X := X64)); exact rfl; (first | exact True.intro | (exact phi) | skip))
    | ((with_reducible apply Sat.mf (h1)); exact rfl; exact rfl; kernel_rfl; exact rfl; exact rfl; exact rfl; ((repeat' (first | exact AllP.nil | with_reducible refine AllP.cons ?_ ?_)) <;> (first | exact rfl | exact True.intro | assumption | exact purX | omega | (simp only [List.length_cons, List.length_nil, List.length_append]; omega))); exact rfl) | fail)
  (apply Sat.fend0; exact rfl; exact rfl; exact ⟨rfl, rfl, rfl, trivial⟩; (first | exact .inl rfl | exact .inr rfl))
theorem rendo_no (ver : Int) (l K : List ValL) (m : Nat) (r : RuleL) (hr : Rising l) (hlen : l.length ≤ 1000000) (h : ¬ (hasV l r.name = true ∧ hasV l r.to = false)) : MX Tryz.prog [] 146 [0, 1, 2] [.agg (ruleP r), .ptr 0 0] [(0, stC ver 1 l.length 2 m), (1, .row 53 (valE l)), (2, .row 53 (valE K))] 131 := by
  have h1 : MX Tryz.prog [] 149 [0, 1, 2] [.ptr 0 0, .str r.name, .str r.to] [(0, stC ver 1 l.length 2 m), (1, .row 53 (valE l)), (2, .row 53 (valE K))] 131 := by
    cases ha : hasV l r.name with
    | false => exact move_x1 ver l K m r.name r.to hr hlen ha
    | true =>
      cases hb : hasV l r.to with
      | true => exact move_x2 ver l K m r.name r.to hr hlen ha hb
      | false => exact absurd ⟨ha, hb⟩ h
  refine MX.mk (ids := ids3) 6 Tryz.func146 rfl Tryz.ntmps146 rfl rfl rfl fun T w0 E => ?_
  repeat' (first
    | ((with_reducible apply Sat.run (X := X64)); exact rfl; (first | exact True.intro | (exact phi) | skip))
    | ((with_reducible apply Sat.mx (h1)); exact rfl; exact rfl; kernel_rfl; exact rfl; exact rfl; ((repeat' (first | exact AllP.nil | with_reducible refine AllP.cons ?_ ?_)) <;> (first | exact rfl | exact True.intro | assumption | exact purX | omega))) | fail)
  exact SatP.fend
theorem renundo_yes (ver : Int) (l K : List ValL) (m : Nat) (r : RuleL) (hr : Rising l) (hlen : l.length ≤ 1000000) (ha : hasV l r.to = true) (hb : hasV l r.name = false) (hb0 : r.name ≠ []) : MF Tryz.prog [] 148 [0, 1, 2] [.agg (ruleP r), .ptr 0 0] [(0, stC ver 1 l.length 2 m), (1, .row 53 (valE l)), (2, .row 53 (valE K))] (.tup []) [(0, stC ver 4 (movL l r.to r.name).length 2 m), (4, .row 53 (valE (movL l r.to r.name))), (2, .row 53 (valE K))] := by
  have h1 := move_yes ver l K m r.to r.name hr hlen ha hb hb0
  refine MF.mk (ids := ids3) 6 Tryz.func148 rfl Tryz.ntmps148 rfl rfl rfl fun T w0 E => ?_
  repeat' (first
    | ((with_reducible apply Sat.run (X := X64)); exact rfl; (first | exact True.intro | (exact phi) | skip))
    | ((with_reducible apply Sat.mf (h1)); exact rfl; exact rfl; kernel_rfl; exact rfl; exact rfl; exact rfl; ((repeat' (first | exact AllP.nil | with_reducible refine AllP.cons ?_ ?_)) <;> (first | exact rfl | exact True.intro | assumption | exact purX | omega | (simp only [List.length_cons, List.length_nil, List.length_append]; omega))); exact rfl) | fail)
  (apply Sat.fend0; exact rfl; exact rfl; exact ⟨rfl, rfl, rfl, trivial⟩; (first | exact .inl rfl | exact .inr rfl))
theorem renundo_no (ver : Int) (l K : List ValL) (m : Nat) (r : RuleL) (hr : Rising l) (hlen : l.length ≤ 1000000) (h : ¬ (hasV l r.to = true ∧ hasV l r.name = false)) : MX Tryz.prog [] 148 [0, 1, 2] [.agg (ruleP r), .ptr 0 0] [(0, stC ver 1 l.length 2 m), (1, .row 53 (valE l)), (2, .row 53 (valE K))] 131 := by
  have h1 : MX Tryz.prog [] 149 [0, 1, 2] [.ptr 0 0, .str r.to, .str r.name] [(0, stC ver 1 l.length 2 m), (1, .row 53 (valE l)), (2, .row 53 (valE K))] 131 := by
    cases ha : hasV l r.to with
    | false => exact move_x1 ver l K m r.to r.name hr hlen ha
    | true =>
      cases hb : hasV l r.name with
      | true => exact move_x2 ver l K m r.to r.name hr hlen ha hb
      | false => exact absurd ⟨ha, hb⟩ h
  refine MX.mk (ids := ids3) 6 Tryz.func148 rfl Tryz.ntmps148 rfl rfl rfl fun T w0 E => ?_
  repeat' (first
    | ((with_reducible apply Sat.run (X := X64)); exact rfl; (first | exact True.intro | (exact phi) | skip))
    | ((with_reducible apply Sat.mx (h1)); exact rfl; exact rfl; kernel_rfl; exact rfl; exact rfl; ((repeat' (first | exact AllP.nil | with_reducible refine AllP.cons ?_ ?_)) <;> (first | exact rfl | exact True.intro | assumption | exact purX | omega))) | fail)
  exact SatP.fend
theorem app_at (K : List ValL) (v : ValL) (f g : Nat → List SV) (hf : ∀ i, i < K.length → f i = valP (K.getD i v00)) (hg : g 0 = valP v) : ∀ i, i < K.length + 1 → valP ((K ++ [v]).getD i v00) = if i < K.length then f i else g (i - K.length) := by
  intro i hi
  split
  · rename_i h
    rw [hf i h, List.getD_eq_getElem?_getD, List.getD_eq_getElem?_getD, List.getElem?_append_left h]
  · rename_i h
    have e : i - K.length = 0 := by omega
    rw [e, hg, List.getD_eq_getElem?_getD, List.getElem?_append_right (by omega), e]
    rfl
theorem app_at2 (K : List ValL) (v : ValL) : ∀ i, i < K.length + 1 → valP ((K ++ [v]).getD i v00) = if i < K.length then valP (K.getD i v00) else nthL [valP v] (0 + (i - K.length)) :=
  app_at K v (fun i => valP (K.getD i v00)) (fun i => nthL [valP v] (0 + i)) (fun _ _ => rfl) rfl
theorem ddo_mf (ver : Int) (l K : List ValL) (r : RuleL) (hr : Rising l) (hlen : l.length ≤ 1000000) (hK : K.length ≤ 1000000) : MF Tryz.prog [] 163 [0, 1, 2] [.agg (ruleP r), .ptr 0 0] [(0, stC ver 1 l.length 2 K.length), (1, .row 53 (valE l)), (2, .row 53 (valE K))] (.tup []) [(0, stC ver 1 (delV l r.name).length 5 (K.length + 1)), (1, .row 53 (valE (delV l r.name))), (5, .row 53 (valE (K ++ [getV l r.name])))] := by
  have h1 := take_mf ver l K K.length r.name hr hlen
  refine MF.mk (ids := ids3) 6 Tryz.func163 rfl Tryz.ntmps163 rfl rfl rfl fun T w0 E => ?_
  apply cutP
  · intro hP
    repeat' (first
      | ((with_reducible apply Sat.run (X := X64)); exact rfl; (first | exact True.intro | (exact phi) | skip))
      | ((with_reducible apply Sat.anyN 16); exact rfl; kernel_rfl)
      | ((with_reducible apply ASat.done); (decide +kernel); exact hP.out)
      | ((with_reducible apply AOp.of); exact rfl)
      | (with_reducible apply ASat.back)
      | ((with_reducible apply ASat.takeR (X := X64) 0); (decide +kernel); (decide +kernel); (decide +kernel); exact rfl; exact rfl; exact rfl; exact bodyPost_put; exact rfl; (first | exact True.intro | (exact phi) | skip); exact rfl)
      | ((with_reducible apply ASat.takeR (X := X64) 1); (decide +kernel); (decide +kernel); (decide +kernel); exact rfl; exact rfl; exact rfl; exact bodyPost_put; exact rfl; (first | exact True.intro | (exact phi) | skip); exact rfl)
      | ((with_reducible apply ASat.takeR (X := X64) 2); (decide +kernel); (decide +kernel); (decide +kernel); exact rfl; exact rfl; exact rfl; exact bodyPost_put; exact rfl; (first | exact True.intro | (exact phi) | skip); exact rfl)
      | ((with_reducible apply ASat.takeR (X := X64) 3); (decide +kernel); (decide +kernel); (decide +kernel); exact rfl; exact rfl; exact rfl; exact bodyPost_put; exact rfl; (first | exact True.intro | (exact phi) | skip); exact rfl)
      | ((with_reducible apply ASat.takeR (X := X64) 4); (decide +kernel); (decide +kernel); (decide +kernel); exact rfl; exact rfl; exact rfl; exact bodyPost_put; exact rfl; (first | exact True.intro | (exact phi) | skip); exact rfl)
      | ((with_reducible apply ASat.takeR (X := X64) 6); (decide +kernel); (decide +kernel); (decide +kernel); exact rfl; exact rfl; exact rfl; exact bodyPost_put; exact rfl; (first | exact True.intro | (exact phi) | skip); exact rfl)
      | ((with_reducible apply ASat.takeR (X := X64) 7); (decide +kernel); (decide +kernel); (decide +kernel); exact rfl; exact rfl; exact rfl; exact bodyPost_put; exact rfl; (first | exact True.intro | (exact phi) | skip); exact rfl)
      | ((with_reducible apply ASat.takeR (X := X64) 12); (decide +kernel); (decide +kernel); (decide +kernel); exact rfl; exact rfl; exact rfl; exact bodyPost_put; exact rfl; (first | exact True.intro | (exact phi) | skip); exact rfl)
      | ((with_reducible apply ASat.takeR (X := X64) 13); (decide +kernel); (decide +kernel); (decide +kernel); exact rfl; exact rfl; exact rfl; exact bodyPost_put; exact rfl; (first | exact True.intro | (exact phi) | skip); exact rfl)
      | ((with_reducible apply ASat.takeR (X := X64) 14); (decide +kernel); (decide +kernel); (decide +kernel); exact rfl; exact rfl; exact rfl; exact bodyPost_put; exact rfl; (first | exact True.intro | (exact phi) | skip); exact rfl)
      | ((with_reducible apply ASat.one 5); (decide +kernel))
      | ((with_reducible apply ASat.one 8); (decide +kernel))
      | ((with_reducible apply ASat.one 9); (decide +kernel))
      | ((with_reducible apply ASat.one 10); (decide +kernel))
      | ((with_reducible apply ASat.one 11); (decide +kernel))
      | ((with_reducible apply ASat.one 15); (decide +kernel))
      | ((with_reducible apply ASat.two 5 8); (decide +kernel))
      | ((with_reducible apply ASat.two 5 9); (decide +kernel))
      | ((with_reducible apply ASat.two 5 10); (decide +kernel))
      | ((with_reducible apply Sat.mf (h1)); exact rfl; exact rfl; kernel_rfl; exact rfl; exact rfl; exact rfl; ((repeat' (first | exact AllP.nil | with_reducible refine AllP.cons ?_ ?_)) <;> (first | exact rfl | exact True.intro | assumption | exact purX | omega | (simp only [List.length_cons, List.length_nil, List.length_append]; omega))); exact rfl) | fail)
  · refine Sat.reX (i := 5) (valE (K ++ [getV l r.name])) rfl rfl (by simp [EV.len]) rfl (fun x hx => app_at2 K (getV l r.name) x (by simpa [EV.len] using hx)) ?_
    repeat' (first
      | fail | fail)
    (apply Sat.fend0; exact rfl; exact rfl; exact ⟨rfl, rfl, rfl, trivial⟩; (first | exact .inl rfl | exact .inr rfl))
theorem pdo_mf (ver : Int) (l K : List ValL) (r : RuleL) (hr : Rising l) (hlen : l.length ≤ 1000000) (hK : K.length ≤ 1000000) (hn : r.name ≠ []) : MF Tryz.prog [] 159 [0, 1, 2] [.agg (ruleP r), .ptr 0 0] [(0, stC ver 1 l.length 2 K.length), (1, .row 53 (valE l)), (2, .row 53 (valE K))] (.tup []) [(0, stC ver 6 (insV (delV l r.name) ⟨r.name, r.val⟩).length 5 (K.length + 1)), (6, .row 53 (valE (insV (delV l r.name) ⟨r.name, r.val⟩))), (5, .row 53 (valE (K ++ [getV l r.name])))] := by
  have h1 := take_mf ver l K K.length r.name hr hlen
  have hd : (delV l r.name).length ≤ 1000000 := Nat.le_trans (List.length_filter_le ..) hlen
  have h2 := put_yes ver (delV l r.name) (K ++ [getV l r.name]) (K.length + 1) ⟨r.name, r.val⟩ hn (rising_del hr r.name) hd (del_no l r.name)
  refine MF.mk (ids := ids3) 6 Tryz.func159 rfl Tryz.ntmps159 rfl rfl rfl fun T w0 E => ?_
  repeat' (first
    | ((with_reducible apply Sat.run (X := X64)); exact rfl; (first | exact True.intro | (exact phi) | skip)) | fail)
  apply cutP
  · intro hP
    repeat' (first
      | ((with_reducible apply Sat.run (X := X64)); exact rfl; (first | exact True.intro | (exact phi) | skip))
      | ((with_reducible apply Sat.anyN 16); exact rfl; kernel_rfl)
      | ((with_reducible apply ASat.done); (decide +kernel); exact hP.out)
      | ((with_reducible apply AOp.of); exact rfl)
      | (with_reducible apply ASat.back)
      | ((with_reducible apply ASat.takeR (X := X64) 0); (decide +kernel); (decide +kernel); (decide +kernel); exact rfl; exact rfl; exact rfl; exact bodyPost_put; exact rfl; (first | exact True.intro | (exact phi) | skip); exact rfl)
      | ((with_reducible apply ASat.takeR (X := X64) 1); (decide +kernel); (decide +kernel); (decide +kernel); exact rfl; exact rfl; exact rfl; exact bodyPost_put; exact rfl; (first | exact True.intro | (exact phi) | skip); exact rfl)
      | ((with_reducible apply ASat.takeR (X := X64) 2); (decide +kernel); (decide +kernel); (decide +kernel); exact rfl; exact rfl; exact rfl; exact bodyPost_put; exact rfl; (first | exact True.intro | (exact phi) | skip); exact rfl)
      | ((with_reducible apply ASat.takeR (X := X64) 3); (decide +kernel); (decide +kernel); (decide +kernel); exact rfl; exact rfl; exact rfl; exact bodyPost_put; exact rfl; (first | exact True.intro | (exact phi) | skip); exact rfl)
      | ((with_reducible apply ASat.takeR (X := X64) 4); (decide +kernel); (decide +kernel); (decide +kernel); exact rfl; exact rfl; exact rfl; exact bodyPost_put; exact rfl; (first | exact True.intro | (exact phi) | skip); exact rfl)
      | ((with_reducible apply ASat.takeR (X := X64) 6); (decide +kernel); (decide +kernel); (decide +kernel); exact rfl; exact rfl; exact rfl; exact bodyPost_put; exact rfl; (first | exact True.intro | (exact phi) | skip); exact rfl)
      | ((with_reducible apply ASat.takeR (X := X64) 7); (decide +kernel); (decide +kernel); (decide +kernel); exact rfl; exact rfl; exact rfl; exact bodyPost_put; exact rfl; (first | exact True.intro | (exact phi) | skip); exact rfl)
      | ((with_reducible apply ASat.takeR (X := X64) 12); (decide +kernel); (decide +kernel); (decide +kernel); exact rfl; exact rfl; exact rfl; exact bodyPost_put; exact rfl; (first | exact True.intro | (exact phi) | skip); exact rfl)
      | ((with_reducible apply ASat.takeR (X := X64) 13); (decide +kernel); (decide +kernel); (decide +kernel); exact rfl; exact rfl; exact rfl; exact bodyPost_put; exact rfl; (first | exact True.intro | (exact phi) | skip); exact rfl)
      | ((with_reducible apply ASat.takeR (X := X64) 14); (decide +kernel); (decide +kernel); (decide +kernel); exact rfl; exact rfl; exact rfl; exact bodyPost_put; exact rfl; (first | exact True.intro | (exact phi) | skip); exact rfl)
      | ((with_reducible apply ASat.one 5); (decide +kernel))
      | ((with_reducible apply ASat.one 8); (decide +kernel))
      | ((with_reducible apply ASat.one 9); (decide +kernel))
      | ((with_reducible apply ASat.one 10); (decide +kernel))
      | ((with_reducible apply ASat.one 11); (decide +kernel))
      | ((with_reducible apply ASat.one 15); (decide +kernel))
      | ((with_reducible apply ASat.two 5 8); (decide +kernel))
      | ((with_reducible apply ASat.two 5 9); (decide +kernel))
      | ((with_reducible apply ASat.two 5 10); (decide +kernel))
      | ((with_reducible apply Sat.mf (h1)); exact rfl; exact rfl; kernel_rfl; exact rfl; exact rfl; exact rfl; ((repeat' (first | exact AllP.nil | with_reducible refine AllP.cons ?_ ?_)) <;> (first | exact rfl | exact True.intro | assumption | exact purX | omega | (simp only [List.length_cons, List.length_nil, List.length_append]; omega))); exact rfl) | fail)
  · refine Sat.reX (i := 5) (valE (K ++ [getV l r.name])) rfl rfl (by simp [EV.len]) rfl (fun x hx => app_at2 K (getV l r.name) x (by simpa [EV.len] using hx)) ?_
    repeat' (first
      | ((with_reducible apply Sat.run (X := X64)); exact rfl; (first | exact True.intro | (exact phi) | skip))
      | ((with_reducible apply Sat.mf (h2)); exact rfl; exact rfl; kernel_rfl; exact rfl; exact rfl; exact rfl; ((repeat' (first | exact AllP.nil | with_reducible refine AllP.cons ?_ ?_)) <;> (first | exact rfl | exact True.intro | assumption | exact purX | omega | (simp only [List.length_cons, List.length_nil, List.length_append]; omega))); exact rfl) | fail)
    (apply Sat.fend0; exact rfl; exact rfl; exact ⟨rfl, rfl, rfl, trivial⟩; (first | exact .inl rfl | exact .inr rfl))
theorem dundo_no1 (ver : Int) (l K : List ValL) (m : Nat) (r : RuleL) (hr : Rising l) (hlen : l.length ≤ 1000000) (hh : hasV l r.name = true) : MX Tryz.prog [] 165 [0, 1, 2] [.agg (ruleP r), .ptr 0 0] [(0, stC ver 1 l.length 2 m), (1, .row 53 (valE l)), (2, .row 53 (valE K))] 131 := by
  have h1 := has_mf ver l K m r.name hr hlen
  rw [hh] at h1
  refine MX.mk (ids := ids3) 6 Tryz.func165 rfl Tryz.ntmps165 rfl rfl rfl fun T w0 E => ?_
  repeat' (first
    | ((with_reducible apply Sat.run (X := X64)); exact rfl; (first | exact True.intro | (exact phi) | skip))
    | ((with_reducible apply Sat.mf (h1)); exact rfl; exact rfl; kernel_rfl; exact rfl; exact rfl; exact rfl; ((repeat' (first | exact AllP.nil | with_reducible refine AllP.cons ?_ ?_)) <;> (first | exact rfl | exact True.intro | assumption | exact purX | omega | (simp only [List.length_cons, List.length_nil, List.length_append]; omega))); exact rfl)
    | ((with_reducible apply Sat.mx (req_f)); exact rfl; exact rfl; kernel_rfl; exact rfl; exact rfl; ((repeat' (first | exact AllP.nil | with_reducible refine AllP.cons ?_ ?_)) <;> (first | exact rfl | exact True.intro | assumption | exact purX | omega))) | fail)
  exact SatP.fend
theorem pundo_no1 (ver : Int) (l K : List ValL) (m : Nat) (r : RuleL) (hr : Rising l) (hlen : l.length ≤ 1000000) (hh : hasV l r.name = false) : MX Tryz.prog [] 161 [0, 1, 2] [.agg (ruleP r), .ptr 0 0] [(0, stC ver 1 l.length 2 m), (1, .row 53 (valE l)), (2, .row 53 (valE K))] 131 := by
  have h1 := has_mf ver l K m r.name hr hlen
  rw [hh] at h1
  refine MX.mk (ids := ids3) 6 Tryz.func161 rfl Tryz.ntmps161 rfl rfl rfl fun T w0 E => ?_
  repeat' (first
    | ((with_reducible apply Sat.run (X := X64)); exact rfl; (first | exact True.intro | (exact phi) | skip))
    | ((with_reducible apply Sat.mf (h1)); exact rfl; exact rfl; kernel_rfl; exact rfl; exact rfl; exact rfl; ((repeat' (first | exact AllP.nil | with_reducible refine AllP.cons ?_ ?_)) <;> (first | exact rfl | exact True.intro | assumption | exact purX | omega | (simp only [List.length_cons, List.length_nil, List.length_append]; omega))); exact rfl)
    | ((with_reducible apply Sat.mx (req_f)); exact rfl; exact rfl; kernel_rfl; exact rfl; exact rfl; ((repeat' (first | exact AllP.nil | with_reducible refine AllP.cons ?_ ?_)) <;> (first | exact rfl | exact True.intro | assumption | exact purX | omega))) | fail)
  exact SatP.fend
theorem pundo_no2 (ver : Int) (l K : List ValL) (r : RuleL) (hr : Rising l) (hlen : l.length ≤ 1000000) (hh : hasV l r.name = true) : MX Tryz.prog [] 161 [0, 1, 2] [.agg (ruleP r), .ptr 0 0] [(0, stC ver 1 l.length 2 0), (1, .row 53 (valE l)), (2, .row 53 (valE K))] 131 := by
  have h1 := has_mf ver l K 0 r.name hr hlen
  rw [hh] at h1
  have h2 := pop_none ver l.length l K r.name
  refine MX.mk (ids := ids3) 6 Tryz.func161 rfl Tryz.ntmps161 rfl rfl rfl fun T w0 E => ?_
  repeat' (first
    | ((with_reducible apply Sat.run (X := X64)); exact rfl; (first | exact True.intro | (exact phi) | skip))
    | ((with_reducible apply Sat.mf (h1)); exact rfl; exact rfl; kernel_rfl; exact rfl; exact rfl; exact rfl; ((repeat' (first | exact AllP.nil | with_reducible refine AllP.cons ?_ ?_)) <;> (first | exact rfl | exact True.intro | assumption | exact purX | omega | (simp only [List.length_cons, List.length_nil, List.length_append]; omega))); exact rfl)
    | ((with_reducible apply Sat.callR (req_t)); exact rfl; exact rfl; exact rfl; kernel_rfl; (exact cnvX); exact rfl)
    | ((with_reducible apply Sat.mx (h2)); exact rfl; exact rfl; kernel_rfl; exact rfl; exact rfl; ((repeat' (first | exact AllP.nil | with_reducible refine AllP.cons ?_ ?_)) <;> (first | exact rfl | exact True.intro | assumption | exact purX | omega))) | fail)
  exact SatP.fend
theorem pundo_no3 (ver : Int) (l K : List ValL) (m : Nat) (r : RuleL) (hr : Rising l) (hlen : l.length ≤ 1000000) (hh : hasV l r.name = true) (hm : m < K.length) (hK : K.length ≤ 1000000) (hn : ¬ ((K.getD m v00).name = [] ∨ (K.getD m v00).name = r.name)) : MX Tryz.prog [] 161 [0, 1, 2] [.agg (ruleP r), .ptr 0 0] [(0, stC ver 1 l.length 2 (m + 1)), (1, .row 53 (valE l)), (2, .row 53 (valE K))] 131 := by
  have h1 := has_mf ver l K (m + 1) r.name hr hlen
  rw [hh] at h1
  have h2 := pop_no ver l.length m l K r.name hm hK hn
  refine MX.mk (ids := ids3) 6 Tryz.func161 rfl Tryz.ntmps161 rfl rfl rfl fun T w0 E => ?_
  repeat' (first
    | ((with_reducible apply Sat.run (X := X64)); exact rfl; (first | exact True.intro | (exact phi) | skip))
    | ((with_reducible apply Sat.mf (h1)); exact rfl; exact rfl; kernel_rfl; exact rfl; exact rfl; exact rfl; ((repeat' (first | exact AllP.nil | with_reducible refine AllP.cons ?_ ?_)) <;> (first | exact rfl | exact True.intro | assumption | exact purX | omega | (simp only [List.length_cons, List.length_nil, List.length_append]; omega))); exact rfl)
    | ((with_reducible apply Sat.callR (req_t)); exact rfl; exact rfl; exact rfl; kernel_rfl; (exact cnvX); exact rfl)
    | ((with_reducible apply Sat.mx (h2)); exact rfl; exact rfl; kernel_rfl; exact rfl; exact rfl; ((repeat' (first | exact AllP.nil | with_reducible refine AllP.cons ?_ ?_)) <;> (first | exact rfl | exact True.intro | assumption | exact purX | omega))) | fail)
  exact SatP.fend
theorem dundo_no2 (ver : Int) (l K : List ValL) (r : RuleL) (hr : Rising l) (hlen : l.length ≤ 1000000) (hh : hasV l r.name = false) : MX Tryz.prog [] 165 [0, 1, 2] [.agg (ruleP r), .ptr 0 0] [(0, stC ver 1 l.length 2 0), (1, .row 53 (valE l)), (2, .row 53 (valE K))] 131 := by
  have h1 := has_mf ver l K 0 r.name hr hlen
  rw [hh] at h1
  have h2 := pop_none ver l.length l K r.name
  refine MX.mk (ids := ids3) 6 Tryz.func165 rfl Tryz.ntmps165 rfl rfl rfl fun T w0 E => ?_
  repeat' (first
    | ((with_reducible apply Sat.run (X := X64)); exact rfl; (first | exact True.intro | (exact phi) | skip))
    | ((with_reducible apply Sat.mf (h1)); exact rfl; exact rfl; kernel_rfl; exact rfl; exact rfl; exact rfl; ((repeat' (first | exact AllP.nil | with_reducible refine AllP.cons ?_ ?_)) <;> (first | exact rfl | exact True.intro | assumption | exact purX | omega | (simp only [List.length_cons, List.length_nil, List.length_append]; omega))); exact rfl)
    | ((with_reducible apply Sat.callR (req_t)); exact rfl; exact rfl; exact rfl; kernel_rfl; (exact cnvX); exact rfl)
    | ((with_reducible apply Sat.mx (h2)); exact rfl; exact rfl; kernel_rfl; exact rfl; exact rfl; ((repeat' (first | exact AllP.nil | with_reducible refine AllP.cons ?_ ?_)) <;> (first | exact rfl | exact True.intro | assumption | exact purX | omega))) | fail)
  exact SatP.fend
theorem dundo_no3 (ver : Int) (l K : List ValL) (m : Nat) (r : RuleL) (hr : Rising l) (hlen : l.length ≤ 1000000) (hh : hasV l r.name = false) (hm : m < K.length) (hK : K.length ≤ 1000000) (hn : ¬ ((K.getD m v00).name = [] ∨ (K.getD m v00).name = r.name)) : MX Tryz.prog [] 165 [0, 1, 2] [.agg (ruleP r), .ptr 0 0] [(0, stC ver 1 l.length 2 (m + 1)), (1, .row 53 (valE l)), (2, .row 53 (valE K))] 131 := by
  have h1 := has_mf ver l K (m + 1) r.name hr hlen
  rw [hh] at h1
  have h2 := pop_no ver l.length m l K r.name hm hK hn
  refine MX.mk (ids := ids3) 6 Tryz.func165 rfl Tryz.ntmps165 rfl rfl rfl fun T w0 E => ?_
  repeat' (first
    | ((with_reducible apply Sat.run (X := X64)); exact rfl; (first | exact True.intro | (exact phi) | skip))
    | ((with_reducible apply Sat.mf (h1)); exact rfl; exact rfl; kernel_rfl; exact rfl; exact rfl; exact rfl; ((repeat' (first | exact AllP.nil | with_reducible refine AllP.cons ?_ ?_)) <;> (first | exact rfl | exact True.intro | assumption | exact purX | omega | (simp only [List.length_cons, List.length_nil, List.length_append]; omega))); exact rfl)
    | ((with_reducible apply Sat.callR (req_t)); exact rfl; exact rfl; exact rfl; kernel_rfl; (exact cnvX); exact rfl)
    | ((with_reducible apply Sat.mx (h2)); exact rfl; exact rfl; kernel_rfl; exact rfl; exact rfl; ((repeat' (first | exact AllP.nil | with_reducible refine AllP.cons ?_ ?_)) <;> (first | exact rfl | exact True.intro | assumption | exact purX | omega))) | fail)
  exact SatP.fend
theorem pundo_yes0 (ver : Int) (l K : List ValL) (m : Nat) (r : RuleL) (hr : Rising l) (hlen : l.length ≤ 1000000) (hh : hasV l r.name = true) (hm : m < K.length) (hK : K.length ≤ 1000000) (hn : (K.getD m v00).name = []) : MF Tryz.prog [] 161 [0, 1, 2] [.agg (ruleP r), .ptr 0 0] [(0, stC ver 1 l.length 2 (m + 1)), (1, .row 53 (valE l)), (2, .row 53 (valE K))] (.tup []) [(0, stC ver 1 (delV l r.name).length 2 m), (1, .row 53 (valE (delV l r.name))), (2, .row 53 (valE K))] := by
  have h1 := has_mf ver l K (m + 1) r.name hr hlen
  rw [hh] at h1
  have h2 := pop_yes ver l.length m l K r.name hm hK (.inl hn)
  have h3 := take_mf ver l K m r.name hr hlen
  have h4 := put_no ver (delV l r.name) K m (K.getD m v00) hn
  refine MF.mk (ids := ids3) 6 Tryz.func161 rfl Tryz.ntmps161 rfl rfl rfl fun T w0 E => ?_
  repeat' (first
    | ((with_reducible apply Sat.run (X := X64)); exact rfl; (first | exact True.intro | (exact phi) | skip))
    | ((with_reducible apply Sat.mf (h1)); exact rfl; exact rfl; kernel_rfl; exact rfl; exact rfl; exact rfl; ((repeat' (first | exact AllP.nil | with_reducible refine AllP.cons ?_ ?_)) <;> (first | exact rfl | exact True.intro | assumption | exact purX | omega | (simp only [List.length_cons, List.length_nil, List.length_append]; omega))); exact rfl)
    | ((with_reducible apply Sat.callR (req_t)); exact rfl; exact rfl; exact rfl; kernel_rfl; (exact cnvX); exact rfl)
    | ((with_reducible apply Sat.mf (h2)); exact rfl; exact rfl; kernel_rfl; exact rfl; exact rfl; exact rfl; ((repeat' (first | exact AllP.nil | with_reducible refine AllP.cons ?_ ?_)) <;> (first | exact rfl | exact True.intro | assumption | exact purX | omega | (simp only [List.length_cons, List.length_nil, List.length_append]; omega))); exact rfl)
    | ((with_reducible apply Sat.mf (h3)); exact rfl; exact rfl; kernel_rfl; exact rfl; exact rfl; exact rfl; ((repeat' (first | exact AllP.nil | with_reducible refine AllP.cons ?_ ?_)) <;> (first | exact rfl | exact True.intro | assumption | exact purX | omega | (simp only [List.length_cons, List.length_nil, List.length_append]; omega))); exact rfl)
    | ((with_reducible apply Sat.mf (h4)); exact rfl; exact rfl; kernel_rfl; exact rfl; exact rfl; exact rfl; ((repeat' (first | exact AllP.nil | with_reducible refine AllP.cons ?_ ?_)) <;> (first | exact rfl | exact True.intro | assumption | exact purX | omega | (simp only [List.length_cons, List.length_nil, List.length_append]; omega))); exact rfl) | fail)
  (apply Sat.fend0; exact rfl; exact rfl; exact ⟨rfl, rfl, rfl, trivial⟩; (first | exact .inl rfl | exact .inr rfl))
theorem pundo_yes1 (ver : Int) (l K : List ValL) (m : Nat) (r : RuleL) (hr : Rising l) (hlen : l.length ≤ 1000000) (hh : hasV l r.name = true) (hm : m < K.length) (hK : K.length ≤ 1000000) (hn : (K.getD m v00).name = r.name) (hn0 : r.name ≠ []) : MF Tryz.prog [] 161 [0, 1, 2] [.agg (ruleP r), .ptr 0 0] [(0, stC ver 1 l.length 2 (m + 1)), (1, .row 53 (valE l)), (2, .row 53 (valE K))] (.tup []) [(0, stC ver 5 (insV (delV l r.name) (K.getD m v00)).length 2 m), (5, .row 53 (valE (insV (delV l r.name) (K.getD m v00)))), (2, .row 53 (valE K))] := by
  have h1 := has_mf ver l K (m + 1) r.name hr hlen
  rw [hh] at h1
  have h2 := pop_yes ver l.length m l K r.name hm hK (.inr hn)
  have h3 := take_mf ver l K m r.name hr hlen
  have hd : (delV l r.name).length ≤ 1000000 := Nat.le_trans (List.length_filter_le ..) hlen
  have h4 := put_yes ver (delV l r.name) K m (K.getD m v00) (by rw [hn]; exact hn0) (rising_del hr r.name) hd (by rw [hn]; exact del_no l r.name)
  refine MF.mk (ids := ids3) 6 Tryz.func161 rfl Tryz.ntmps161 rfl rfl rfl fun T w0 E => ?_
  repeat' (first
    | ((with_reducible apply Sat.run (X := X64)); exact rfl; (first | exact True.intro | (exact phi) | skip))
    | ((with_reducible apply Sat.mf (h1)); exact rfl; exact rfl; kernel_rfl; exact rfl; exact rfl; exact rfl; ((repeat' (first | exact AllP.nil | with_reducible refine AllP.cons ?_ ?_)) <;> (first | exact rfl | exact True.intro | assumption | exact purX | omega | (simp only [List.length_cons, List.length_nil, List.length_append]; omega))); exact rfl)
    | ((with_reducible apply Sat.callR (req_t)); exact rfl; exact rfl; exact rfl; kernel_rfl; (exact cnvX); exact rfl)
    | ((with_reducible apply Sat.mf (h2)); exact rfl; exact rfl; kernel_rfl; exact rfl; exact rfl; exact rfl; ((repeat' (first | exact AllP.nil | with_reducible refine AllP.cons ?_ ?_)) <;> (first | exact rfl | exact True.intro | assumption | exact purX | omega | (simp only [List.length_cons, List.length_nil, List.length_append]; omega))); exact rfl)
    | ((with_reducible apply Sat.mf (h3)); exact rfl; exact rfl; kernel_rfl; exact rfl; exact rfl; exact rfl; ((repeat' (first | exact AllP.nil | with_reducible refine AllP.cons ?_ ?_)) <;> (first | exact rfl | exact True.intro | assumption | exact purX | omega | (simp only [List.length_cons, List.length_nil, List.length_append]; omega))); exact rfl)
    | ((with_reducible apply Sat.mf (h4)); exact rfl; exact rfl; kernel_rfl; exact rfl; exact rfl; exact rfl; ((repeat' (first | exact AllP.nil | with_reducible refine AllP.cons ?_ ?_)) <;> (first | exact rfl | exact True.intro | assumption | exact purX | omega | (simp only [List.length_cons, List.length_nil, List.length_append]; omega))); exact rfl) | fail)
  (apply Sat.fend0; exact rfl; exact rfl; exact ⟨rfl, rfl, rfl, trivial⟩; (first | exact .inl rfl | exact .inr rfl))
theorem dundo_yes0 (ver : Int) (l K : List ValL) (m : Nat) (r : RuleL) (hr : Rising l) (hlen : l.length ≤ 1000000) (hh : hasV l r.name = false) (hm : m < K.length) (hK : K.length ≤ 1000000) (hn : (K.getD m v00).name = []) : MF Tryz.prog [] 165 [0, 1, 2] [.agg (ruleP r), .ptr 0 0] [(0, stC ver 1 l.length 2 (m + 1)), (1, .row 53 (valE l)), (2, .row 53 (valE K))] (.tup []) [(0, stC ver 1 l.length 2 m), (1, .row 53 (valE l)), (2, .row 53 (valE K))] := by
  have h1 := has_mf ver l K (m + 1) r.name hr hlen
  rw [hh] at h1
  have h2 := pop_yes ver l.length m l K r.name hm hK (.inl hn)
  have h4 := put_no ver l K m (K.getD m v00) hn
  refine MF.mk (ids := ids3) 6 Tryz.func165 rfl Tryz.ntmps165 rfl rfl rfl fun T w0 E => ?_
  repeat' (first
    | ((with_reducible apply Sat.run (X := X64)); exact rfl; (first | exact True.intro | (exact phi) | skip))
    | ((with_reducible apply Sat.mf (h1)); exact rfl; exact rfl; kernel_rfl; exact rfl; exact rfl; exact rfl; ((repeat' (first | exact AllP.nil | with_reducible refine AllP.cons ?_ ?_)) <;> (first | exact rfl | exact True.intro | assumption | exact purX | omega | (simp only [List.length_cons, List.length_nil, List.length_append]; omega))); exact rfl)
    | ((with_reducible apply Sat.callR (req_t)); exact rfl; exact rfl; exact rfl; kernel_rfl; (exact cnvX); exact rfl)
    | ((with_reducible apply Sat.mf (h2)); exact rfl; exact rfl; kernel_rfl; exact rfl; exact rfl; exact rfl; ((repeat' (first | exact AllP.nil | with_reducible refine AllP.cons ?_ ?_)) <;> (first | exact rfl | exact True.intro | assumption | exact purX | omega | (simp only [List.length_cons, List.length_nil, List.length_append]; omega))); exact rfl)
    | ((with_reducible apply Sat.mf (h4)); exact rfl; exact rfl; kernel_rfl; exact rfl; exact rfl; exact rfl; ((repeat' (first | exact AllP.nil | with_reducible refine AllP.cons ?_ ?_)) <;> (first | exact rfl | exact True.intro | assumption | exact purX | omega | (simp only [List.length_cons, List.length_nil, List.length_append]; omega))); exact rfl) | fail)
  (apply Sat.fend0; exact rfl; exact rfl; exact ⟨rfl, rfl, rfl, trivial⟩; (first | exact .inl rfl | exact .inr rfl))
theorem dundo_yes1 (ver : Int) (l K : List ValL) (m : Nat) (r : RuleL) (hr : Rising l) (hlen : l.length ≤ 1000000) (hh : hasV l r.name = false) (hm : m < K.length) (hK : K.length ≤ 1000000) (hn : (K.getD m v00).name = r.name) (hn0 : r.name ≠ []) : MF Tryz.prog [] 165 [0, 1, 2] [.agg (ruleP r), .ptr 0 0] [(0, stC ver 1 l.length 2 (m + 1)), (1, .row 53 (valE l)), (2, .row 53 (valE K))] (.tup []) [(0, stC ver 4 (insV l (K.getD m v00)).length 2 m), (4, .row 53 (valE (insV l (K.getD m v00)))), (2, .row 53 (valE K))] := by
  have h1 := has_mf ver l K (m + 1) r.name hr hlen
  rw [hh] at h1
  have h2 := pop_yes ver l.length m l K r.name hm hK (.inr hn)
  have h4 := put_yes ver l K m (K.getD m v00) (by rw [hn]; exact hn0) hr hlen (by rw [hn]; exact hh)
  refine MF.mk (ids := ids3) 6 Tryz.func165 rfl Tryz.ntmps165 rfl rfl rfl fun T w0 E => ?_
  repeat' (first
    | ((with_reducible apply Sat.run (X := X64)); exact rfl; (first | exact True.intro | (exact phi) | skip))
    | ((with_reducible apply Sat.mf (h1)); exact rfl; exact rfl; kernel_rfl; exact rfl; exact rfl; exact rfl; ((repeat' (first | exact AllP.nil | with_reducible refine AllP.cons ?_ ?_)) <;> (first | exact rfl | exact True.intro | assumption | exact purX | omega | (simp only [List.length_cons, List.length_nil, List.length_append]; omega))); exact rfl)
    | ((with_reducible apply Sat.callR (req_t)); exact rfl; exact rfl; exact rfl; kernel_rfl; (exact cnvX); exact rfl)
    | ((with_reducible apply Sat.mf (h2)); exact rfl; exact rfl; kernel_rfl; exact rfl; exact rfl; exact rfl; ((repeat' (first | exact AllP.nil | with_reducible refine AllP.cons ?_ ?_)) <;> (first | exact rfl | exact True.intro | assumption | exact purX | omega | (simp only [List.length_cons, List.length_nil, List.length_append]; omega))); exact rfl)
    | ((with_reducible apply Sat.mf (h4)); exact rfl; exact rfl; kernel_rfl; exact rfl; exact rfl; exact rfl; ((repeat' (first | exact AllP.nil | with_reducible refine AllP.cons ?_ ?_)) <;> (first | exact rfl | exact True.intro | assumption | exact purX | omega | (simp only [List.length_cons, List.length_nil, List.length_append]; omega))); exact rfl) | fail)
  (apply Sat.fend0; exact rfl; exact rfl; exact ⟨rfl, rfl, rfl, trivial⟩; (first | exact .inl rfl | exact .inr rfl))
end Go.Proofs.YtpbgihhfcdggkaaGreatDoor
end
section
namespace Go.Proofs.YtpbgihhfcdggkaaGreatDoor
open Go.RowKit V
set_option maxRecDepth 100000
set_option maxHeartbeats 4000000
set_option linter.unusedSimpArgs false
set_option linter.unusedVariables false
attribute [local irreducible] V.Sat V.DSat V.SatP V.ASat V.AOp
def r00 : RuleL := ⟨0, [], [], []⟩
@[reducible] def ruleE (l : List RuleL) : EV := .g l.length 4 fun i => ruleP (l.getD i r00)
theorem pur_rule (l : List RuleL) : pureE (ruleE l) := fun _ _ => by simp [pureL, pureS, pureE]
theorem right1 (r : RuleL) (h : r.kind = 1) : Fun Tryz.prog [] 147 [.agg (ruleP r)] (.bool (rightR r)) := by
  have h1 := name_spec r.name
  have h2 := name_spec r.to
  refine Fun.mk 6 Tryz.func147 rfl Tryz.ntmps147 rfl rfl fun T w0 => ?_
  repeat' (first
    | ((with_reducible apply Sat.run (X := X64)); exact rfl; (first | exact True.intro | (exact phi) | skip))
    | ((with_reducible apply Sat.callR (h1)); exact rfl; exact rfl; exact rfl; kernel_rfl; (exact cnvX); exact rfl)
    | ((with_reducible apply Sat.callG1 (h2)); exact rfl; exact rfl; exact rfl; exact rfl; kernel_rfl; (intro hG; (exact cnvX)); exact rfl) | fail)
  (refine Sat.fin (Sat.end1 rfl rfl rfl True.intro (.refl _ purX) (by first | exact .inl rfl | exact .inr rfl) (fun _ h => h)) ?_; (refine congrArg SV.bool ?_; unfold rightR; rw [if_pos h]; cases nmB r.name <;> cases nmB r.to <;> simp))
theorem right2 (r : RuleL) (h : r.kind = 2) : Fun Tryz.prog [] 160 [.agg (ruleP r)] (.bool (rightR r)) := by
  have h1 := name_spec r.name
  have h2 := text_spec r.val
  refine Fun.mk 6 Tryz.func160 rfl Tryz.ntmps160 rfl rfl fun T w0 => ?_
  repeat' (first
    | ((with_reducible apply Sat.run (X := X64)); exact rfl; (first | exact True.intro | (exact phi) | skip))
    | ((with_reducible apply Sat.callR (h1)); exact rfl; exact rfl; exact rfl; kernel_rfl; (exact cnvX); exact rfl)
    | ((with_reducible apply Sat.callG1 (h2)); exact rfl; exact rfl; exact rfl; exact rfl; kernel_rfl; (intro hG; (exact cnvX)); exact rfl) | fail)
  (refine Sat.fin (Sat.end1 rfl rfl rfl True.intro (.refl _ purX) (by first | exact .inl rfl | exact .inr rfl) (fun _ h => h)) ?_; (refine congrArg SV.bool ?_; unfold rightR; rw [if_neg (by omega), if_pos h]; cases nmB r.name <;> cases decide (r.to = []) <;> simp))
theorem right3 (r : RuleL) (h : r.kind = 3) : Fun Tryz.prog [] 164 [.agg (ruleP r)] (.bool (rightR r)) := by
  have h1 := name_spec r.name
  refine Fun.mk 6 Tryz.func164 rfl Tryz.ntmps164 rfl rfl fun T w0 => ?_
  repeat' (first
    | ((with_reducible apply Sat.run (X := X64)); exact rfl; (first | exact True.intro | (exact phi) | skip))
    | ((with_reducible apply Sat.callR (h1)); exact rfl; exact rfl; exact rfl; kernel_rfl; (exact cnvX); exact rfl) | fail)
  (refine Sat.fin (Sat.end1 rfl rfl rfl True.intro (.refl _ purX) (by first | exact .inl rfl | exact .inr rfl) (fun _ h => h)) ?_; (refine congrArg SV.bool ?_; unfold rightR; rw [if_neg (by omega), if_neg (by omega), if_pos h]; cases nmB r.name <;> cases decide (r.to = []) <;> simp))
theorem RR_spec (r : RuleL) : Fun Tryz.prog [] 66 [.agg (ruleP r)] (.bool (rightR r)) := by
  have h1 := Name_spec r.name
  have h2 := Name_spec r.to
  have h3 := Text_spec r.val
  refine Fun.mk 6 Tryz.func66 rfl Tryz.ntmps66 rfl rfl fun T w0 => ?_
  by_cases k1 : r.kind = 1
  · repeat' (first
        | ((with_reducible apply Sat.run (X := X64)); exact rfl; (first | exact True.intro | (exact phi) | skip))
        | ((with_reducible apply Sat.drawn); kernel_rfl)
        | ((with_reducible apply DSat.run (X := X64)); exact rfl; (first | exact True.intro | (exact phi) | skip))
        | ((with_reducible apply DSat.fin); kernel_rfl)
        | ((with_reducible apply Sat.cond_t); exact rfl)
        | ((with_reducible apply Sat.cond_f); exact rfl)
        | ((with_reducible apply Sat.cond_pt); exact rfl; (try dsimp only [V.EV.sub, V.EV.len]); first | assumption | omega)
        | ((with_reducible apply Sat.cond_pf); exact rfl; (try dsimp only [V.EV.sub, V.EV.len]); first | assumption | omega)
        | ((with_reducible apply Sat.cond_p); exact rfl; all_goals intro h)
        | ((with_reducible apply Sat.cond); exact rfl; all_goals intro h)
        | ((with_reducible refine (?_ : AllP _)); ((repeat' (first | exact AllP.nil | with_reducible refine AllP.cons ?_ ?_)) <;> (first | (intro hq; exact hq) | (dsimp only [V.EV.len]; omega) | (intro hq; dsimp only [V.EV.len]; omega) | (intro hq; exact absurd hq (by decide)))))
        | ((with_reducible apply Sat.callR (h1)); exact rfl; exact rfl; exact rfl; kernel_rfl; (exact cnvX); exact rfl)
        | ((with_reducible apply DSat.callR (h1)); exact rfl; exact rfl; exact rfl; kernel_rfl; (exact cnvX); exact rfl)
        | ((with_reducible apply Sat.callG1 (h2)); exact rfl; exact rfl; exact rfl; exact rfl; kernel_rfl; (intro hG; (exact cnvX)); exact rfl)
        | ((with_reducible apply DSat.callG1 (h2)); exact rfl; exact rfl; exact rfl; exact rfl; kernel_rfl; (intro hG; (exact cnvX)); exact rfl) | fail)
    (refine Sat.fin (Sat.end1 rfl rfl rfl True.intro (.refl _ purX) (by first | exact .inl rfl | exact .inr rfl) (fun _ h => h)) ?_; (refine congrArg SV.bool ?_; unfold rightR; rw [if_pos k1]; cases nmB r.name <;> cases nmB r.to <;> simp))
  · by_cases k2 : r.kind = 2
    · repeat' (first
          | ((with_reducible apply Sat.run (X := X64)); exact rfl; (first | exact True.intro | (exact phi) | skip))
          | ((with_reducible apply Sat.drawn); kernel_rfl)
          | ((with_reducible apply DSat.run (X := X64)); exact rfl; (first | exact True.intro | (exact phi) | skip))
          | ((with_reducible apply DSat.fin); kernel_rfl)
          | ((with_reducible apply Sat.cond_t); exact rfl)
          | ((with_reducible apply Sat.cond_f); exact rfl)
          | ((with_reducible apply Sat.cond_pt); exact rfl; (try dsimp only [V.EV.sub, V.EV.len]); first | assumption | omega)
          | ((with_reducible apply Sat.cond_pf); exact rfl; (try dsimp only [V.EV.sub, V.EV.len]); first | assumption | omega)
          | ((with_reducible apply Sat.cond_p); exact rfl; all_goals intro h)
          | ((with_reducible apply Sat.cond); exact rfl; all_goals intro h)
          | ((with_reducible refine (?_ : AllP _)); ((repeat' (first | exact AllP.nil | with_reducible refine AllP.cons ?_ ?_)) <;> (first | (intro hq; exact hq) | (dsimp only [V.EV.len]; omega) | (intro hq; dsimp only [V.EV.len]; omega) | (intro hq; exact absurd hq (by decide)))))
          | ((with_reducible apply Sat.callR (h1)); exact rfl; exact rfl; exact rfl; kernel_rfl; (exact cnvX); exact rfl)
          | ((with_reducible apply DSat.callR (h1)); exact rfl; exact rfl; exact rfl; kernel_rfl; (exact cnvX); exact rfl)
          | ((with_reducible apply Sat.callG1 (h3)); exact rfl; exact rfl; exact rfl; exact rfl; kernel_rfl; (intro hG; (exact cnvX)); exact rfl)
          | ((with_reducible apply DSat.callG1 (h3)); exact rfl; exact rfl; exact rfl; exact rfl; kernel_rfl; (intro hG; (exact cnvX)); exact rfl) | fail)
      (refine Sat.fin (Sat.end1 rfl rfl rfl True.intro (.refl _ purX) (by first | exact .inl rfl | exact .inr rfl) (fun _ h => h)) ?_; (refine congrArg SV.bool ?_; unfold rightR; rw [if_neg k1, if_pos k2]; cases nmB r.name <;> cases decide (r.to = []) <;> simp))
    · by_cases k3 : r.kind = 3
      · repeat' (first
            | ((with_reducible apply Sat.run (X := X64)); exact rfl; (first | exact True.intro | (exact phi) | skip))
            | ((with_reducible apply Sat.drawn); kernel_rfl)
            | ((with_reducible apply DSat.run (X := X64)); exact rfl; (first | exact True.intro | (exact phi) | skip))
            | ((with_reducible apply DSat.fin); kernel_rfl)
            | ((with_reducible apply Sat.cond_t); exact rfl)
            | ((with_reducible apply Sat.cond_f); exact rfl)
            | ((with_reducible apply Sat.cond_pt); exact rfl; (try dsimp only [V.EV.sub, V.EV.len]); first | assumption | omega)
            | ((with_reducible apply Sat.cond_pf); exact rfl; (try dsimp only [V.EV.sub, V.EV.len]); first | assumption | omega)
            | ((with_reducible apply Sat.cond_p); exact rfl; all_goals intro h)
            | ((with_reducible apply Sat.cond); exact rfl; all_goals intro h)
            | ((with_reducible refine (?_ : AllP _)); ((repeat' (first | exact AllP.nil | with_reducible refine AllP.cons ?_ ?_)) <;> (first | (intro hq; exact hq) | (dsimp only [V.EV.len]; omega) | (intro hq; dsimp only [V.EV.len]; omega) | (intro hq; exact absurd hq (by decide)))))
            | ((with_reducible apply Sat.callR (h1)); exact rfl; exact rfl; exact rfl; kernel_rfl; (exact cnvX); exact rfl)
            | ((with_reducible apply DSat.callR (h1)); exact rfl; exact rfl; exact rfl; kernel_rfl; (exact cnvX); exact rfl) | fail)
        (refine Sat.fin (Sat.end1 rfl rfl rfl True.intro (.refl _ purX) (by first | exact .inl rfl | exact .inr rfl) (fun _ h => h)) ?_; (refine congrArg SV.bool ?_; unfold rightR; rw [if_neg k1, if_neg k2, if_pos k3]; cases nmB r.name <;> cases decide (r.to = []) <;> simp))
      · repeat' (first
            | ((with_reducible apply Sat.run (X := X64)); exact rfl; (first | exact True.intro | (exact phi) | skip))
            | ((with_reducible apply Sat.drawn); kernel_rfl)
            | ((with_reducible apply DSat.run (X := X64)); exact rfl; (first | exact True.intro | (exact phi) | skip))
            | ((with_reducible apply DSat.fin); kernel_rfl)
            | ((with_reducible apply Sat.cond_t); exact rfl)
            | ((with_reducible apply Sat.cond_f); exact rfl)
            | ((with_reducible apply Sat.cond_pt); exact rfl; (try dsimp only [V.EV.sub, V.EV.len]); first | assumption | omega)
            | ((with_reducible apply Sat.cond_pf); exact rfl; (try dsimp only [V.EV.sub, V.EV.len]); first | assumption | omega)
            | ((with_reducible apply Sat.cond_p); exact rfl; all_goals intro h)
            | ((with_reducible apply Sat.cond); exact rfl; all_goals intro h)
            | ((with_reducible refine (?_ : AllP _)); ((repeat' (first | exact AllP.nil | with_reducible refine AllP.cons ?_ ?_)) <;> (first | (intro hq; exact hq) | (dsimp only [V.EV.len]; omega) | (intro hq; dsimp only [V.EV.len]; omega) | (intro hq; exact absurd hq (by decide))))) | fail)
        (refine Sat.fin (Sat.end1 rfl rfl rfl True.intro (.refl _ purX) (by first | exact .inl rfl | exact .inr rfl) (fun _ h => h)) ?_; (refine congrArg SV.bool ?_; unfold rightR; rw [if_neg k1, if_neg k2, if_neg k3]))
def tidK (k : Int) : TypeId := if k = 1 then 127 else if k = 2 then 128 else 129
@[reducible] def actV (r : RuleL) : SV := .ifc (tidK r.kind) (.agg (ruleP r))
@[reducible] def actE (l : List RuleL) : EV := .g l.length 1 fun i => [actV (l.getD i r00)]
theorem mr1 (v : Value) (w : World) : (method (Tryz.prog.types.size + Made.depth) 127 v "inlay/settings.right").run Tryz.prog w = .ok (147, v) w := by kernel_rfl
theorem mr2 (v : Value) (w : World) : (method (Tryz.prog.types.size + Made.depth) 128 v "inlay/settings.right").run Tryz.prog w = .ok (160, v) w := by kernel_rfl
theorem mr3 (v : Value) (w : World) : (method (Tryz.prog.types.size + Made.depth) 129 v "inlay/settings.right").run Tryz.prog w = .ok (164, v) w := by kernel_rfl
theorem pur_act (l : List RuleL) (n : Nat) : pureE (.g n 1 fun i => [actV (l.getD i r00)]) := fun _ _ => by simp [pureL, pureS, pureE]
theorem act_at (l : List RuleL) (x : Nat) (V : SV) (hV : V = actV (l.getD x r00)) : ∀ i, i < x + 1 → ([actV (l.getD i r00)] : List SV) = if i < x then [actV (l.getD i r00)] else nthL [[V]] (0 + (i - x)) := by
  intro i hi
  split
  · rfl
  · rename_i h
    have e : i = x := by omega
    subst e
    rw [Nat.sub_self, hV]
    rfl
theorem act_1 (r : RuleL) (h : r.kind = 1) : SV.ifc 127 (.agg (ruleP r)) = actV r := by unfold actV tidK; rw [if_pos h]
theorem act_2 (r : RuleL) (h : r.kind = 2) : SV.ifc 128 (.agg (ruleP r)) = actV r := by unfold actV tidK; rw [if_neg (by omega), if_pos h]
theorem act_3 (r : RuleL) (h : r.kind = 3) : SV.ifc 129 (.agg (ruleP r)) = actV r := by unfold actV tidK; rw [if_neg (by omega), if_neg (by omega)]
theorem right_kind {r : RuleL} (h : rightR r = true) : r.kind = 1 ∨ r.kind = 2 ∨ r.kind = 3 := by
  unfold rightR at h
  split at h
  · rename_i q; exact .inl q
  · split at h
    · rename_i q; exact .inr (.inl q)
    · split at h
      · rename_i q; exact .inr (.inr q)
      · cases h
theorem rules_yes (l : List RuleL) (hlen : l.length ≤ 1000000) (hall : ∀ i, i < l.length → rightR (l.getD i r00) = true) : MF Tryz.prog [] 62 [] [.ro (ruleE l)] [] (.tup [.row 0 0 1 0 l.length, .bool (decide (l.length ≤ 8))]) [(0, .row 111 (actE l))] := by
  refine MF.mk (ids := ids0) 6 Tryz.func62 rfl Tryz.ntmps62 rfl rfl rfl fun T w0 E => ?_
  repeat' (first
    | ((with_reducible apply Sat.run (X := X64)); exact rfl; (first | exact True.intro | (exact phi) | skip)) | fail)
  apply Sat.loop (α := Nat) (fun x => x ≤ l.length) (fun x => l.length - x) 0 (fun x => [(4, .row 0 0 1 0 x), (10, .int .i64 (x : Int))]) (fun x => [(0, .row 111 (.g x 1 fun i => [actV (l.getD i r00)]))]) [] [(0, none)] 1
  · intro x; exact rfl
  · intro x; exact rfl
  · exact rfl
  · exact rfl
  · ((repeat' (first | exact AllP.nil | with_reducible refine AllP.cons ?_ ?_)) <;> first | exact rfl | exact trivial | exact Int.natCast_add_one _ | exact ⟨rfl, rfl⟩ | exact ⟨rfl, rfl, rfl⟩ | exact ⟨rfl, rfl, rfl, rfl⟩ | exact ⟨rfl, .inl rfl⟩ | exact ⟨rfl, .inr rfl⟩ | exact pur | (intro _; exact rfl) | (intro _; exact trivial) | (intro _; exact pur) | exact pur_rule _)
  · exact Nat.zero_le _
  intro x hx0
  by_cases hx : x < l.length
  · have ha := hall x hx
    have hxt : (l.getD (x : Int).toNat r00) = l.getD x r00 := by rw [Int.toNat_natCast]
    have hr := right_kind ha
    rw [← hxt] at hr ha
    rcases hr with k1 | k1 | k1
    · have h1 := right1 _ k1
      rw [ha] at h1
      repeat' (first
        | ((with_reducible apply Sat.run (X := X64)); exact rfl; (first | exact True.intro | (exact phi) | skip))
        | ((with_reducible apply Sat.cond_f); exact rfl)
        | ((with_reducible apply Sat.cond_pt); exact rfl; (try dsimp only [V.EV.sub, V.EV.len]); first | assumption | omega)
        | ((with_reducible apply Sat.callRI (h1) (mr1)); exact rfl; exact rfl; exact rfl; kernel_rfl; (exact cnvX); exact rfl) | fail)
      refine Sat.reX (i := 3) (.g (x + 1) 1 fun i => [actV (l.getD i r00)]) rfl rfl (Nat.le_refl _) rfl (fun i hi => act_at l x _ ((act_1 _ k1).trans (by rw [hxt])) i hi) ?_
      refine Sat.back (x + 1) [(0, some 3)] rfl ?_ (by omega) (by omega)
      ((repeat' (first | exact AllP.nil | with_reducible refine AllP.cons ?_ ?_)) <;> first | exact rfl | exact trivial | exact Int.natCast_add_one _ | exact ⟨rfl, rfl⟩ | exact ⟨rfl, rfl, rfl⟩ | exact ⟨rfl, rfl, rfl, rfl⟩ | exact ⟨rfl, .inl rfl⟩ | exact ⟨rfl, .inr rfl⟩ | exact pur | (intro _; exact rfl) | (intro _; exact trivial) | (intro _; exact pur) | exact pur_rule _ | (intro _ _; exact rfl) | exact pur_act _ _)
    · have h1 := right2 _ k1
      rw [ha] at h1
      repeat' (first
        | ((with_reducible apply Sat.run (X := X64)); exact rfl; (first | exact True.intro | (exact phi) | skip))
        | ((with_reducible apply Sat.cond_f); exact rfl)
        | ((with_reducible apply Sat.cond_pt); exact rfl; (try dsimp only [V.EV.sub, V.EV.len]); first | assumption | omega)
        | ((with_reducible apply Sat.cond_pf); exact rfl; (try dsimp only [V.EV.sub, V.EV.len]); first | assumption | omega)
        | ((with_reducible apply Sat.callRI (h1) (mr2)); exact rfl; exact rfl; exact rfl; kernel_rfl; (exact cnvX); exact rfl) | fail)
      refine Sat.reX (i := 3) (.g (x + 1) 1 fun i => [actV (l.getD i r00)]) rfl rfl (Nat.le_refl _) rfl (fun i hi => act_at l x _ ((act_2 _ k1).trans (by rw [hxt])) i hi) ?_
      refine Sat.back (x + 1) [(0, some 3)] rfl ?_ (by omega) (by omega)
      ((repeat' (first | exact AllP.nil | with_reducible refine AllP.cons ?_ ?_)) <;> first | exact rfl | exact trivial | exact Int.natCast_add_one _ | exact ⟨rfl, rfl⟩ | exact ⟨rfl, rfl, rfl⟩ | exact ⟨rfl, rfl, rfl, rfl⟩ | exact ⟨rfl, .inl rfl⟩ | exact ⟨rfl, .inr rfl⟩ | exact pur | (intro _; exact rfl) | (intro _; exact trivial) | (intro _; exact pur) | exact pur_rule _ | (intro _ _; exact rfl) | exact pur_act _ _)
    · have h1 := right3 _ k1
      rw [ha] at h1
      repeat' (first
        | ((with_reducible apply Sat.run (X := X64)); exact rfl; (first | exact True.intro | (exact phi) | skip))
        | ((with_reducible apply Sat.cond_f); exact rfl)
        | ((with_reducible apply Sat.cond_pt); exact rfl; (try dsimp only [V.EV.sub, V.EV.len]); first | assumption | omega)
        | ((with_reducible apply Sat.cond_pf); exact rfl; (try dsimp only [V.EV.sub, V.EV.len]); first | assumption | omega)
        | ((with_reducible apply Sat.callRI (h1) (mr3)); exact rfl; exact rfl; exact rfl; kernel_rfl; (exact cnvX); exact rfl) | fail)
      refine Sat.reX (i := 3) (.g (x + 1) 1 fun i => [actV (l.getD i r00)]) rfl rfl (Nat.le_refl _) rfl (fun i hi => act_at l x _ ((act_3 _ k1).trans (by rw [hxt])) i hi) ?_
      refine Sat.back (x + 1) [(0, some 3)] rfl ?_ (by omega) (by omega)
      ((repeat' (first | exact AllP.nil | with_reducible refine AllP.cons ?_ ?_)) <;> first | exact rfl | exact trivial | exact Int.natCast_add_one _ | exact ⟨rfl, rfl⟩ | exact ⟨rfl, rfl, rfl⟩ | exact ⟨rfl, rfl, rfl, rfl⟩ | exact ⟨rfl, .inl rfl⟩ | exact ⟨rfl, .inr rfl⟩ | exact pur | (intro _; exact rfl) | (intro _; exact trivial) | (intro _; exact pur) | exact pur_rule _ | (intro _ _; exact rfl) | exact pur_act _ _)
  · obtain rfl : x = l.length := by omega
    repeat' (first
      | ((with_reducible apply Sat.run (X := X64)); exact rfl; (first | exact True.intro | (exact phi) | skip))
      | ((with_reducible apply Sat.cond_pf); exact rfl; (try dsimp only [V.EV.sub, V.EV.len]); first | assumption | omega) | fail)
    (apply Sat.fend2; exact rfl; exact rfl; exact rfl; exact True.intro; exact True.intro; exact congrArg (fun b => SV.tup [SV.row 0 0 1 0 l.length, SV.bool b]) (by have e : (((EV.g l.length 4 fun i => ruleP (l.getD i r00)).len : Nat) : Int) = (l.length : Int) := rfl; rw [e]; apply Bool.eq_iff_iff.2; rw [decide_eq_true_eq, decide_eq_true_eq]; omega); exact ⟨rfl, trivial⟩; (first | exact .inl rfl | exact .inr rfl))
theorem first_bad {p : Nat → Bool} {n : Nat} (h : ¬ ∀ i, i < n → p i = true) : ∃ x, x < n ∧ p x = false ∧ ∀ i, i < x → p i = true := by
  induction n with
  | zero => exact absurd (fun i hi => absurd hi (Nat.not_lt_zero _)) h
  | succ n ih =>
    by_cases q : ∀ i, i < n → p i = true
    · refine ⟨n, Nat.lt_succ_self n, ?_, q⟩
      cases hp : p n with
      | false => rfl
      | true =>
        refine absurd (fun i hi => ?_) h
        rcases Nat.lt_succ_iff_lt_or_eq.1 hi with h1 | rfl
        · exact q i h1
        · exact hp
    · obtain ⟨x, h1, h2, h3⟩ := ih q
      exact ⟨x, Nat.lt_succ_of_lt h1, h2, h3⟩
theorem rules_no (l : List RuleL) (hlen : l.length ≤ 1000000) (hbad : ¬ ∀ i, i < l.length → rightR (l.getD i r00) = true) : MF Tryz.prog [] 62 [] [.ro (ruleE l)] [] (.tup [.nils, .bool false]) [] := by
  obtain ⟨x0, hx1, hx2, hx3⟩ := first_bad (p := fun i => rightR (l.getD i r00)) hbad
  refine MF.mk (ids := ids0) 6 Tryz.func62 rfl Tryz.ntmps62 rfl rfl rfl fun T w0 E => ?_
  repeat' (first
    | ((with_reducible apply Sat.run (X := X64)); exact rfl; (first | exact True.intro | (exact phi) | skip)) | fail)
  apply Sat.loop (α := Nat) (fun x => x ≤ x0) (fun x => l.length - x) 0 (fun x => [(4, .row 0 0 1 0 x), (10, .int .i64 (x : Int))]) (fun x => [(0, .row 111 (.g x 1 fun i => [actV (l.getD i r00)]))]) [] [(0, none)] 1
  · intro x; exact rfl
  · intro x; exact rfl
  · exact rfl
  · exact rfl
  · ((repeat' (first | exact AllP.nil | with_reducible refine AllP.cons ?_ ?_)) <;> first | exact rfl | exact trivial | exact Int.natCast_add_one _ | exact ⟨rfl, rfl⟩ | exact ⟨rfl, rfl, rfl⟩ | exact ⟨rfl, rfl, rfl, rfl⟩ | exact ⟨rfl, .inl rfl⟩ | exact ⟨rfl, .inr rfl⟩ | exact pur | (intro _; exact rfl) | (intro _; exact trivial) | (intro _; exact pur) | exact pur_rule _)
  · exact Nat.zero_le _
  intro x hx0
  have hxt : (l.getD (x : Int).toNat r00) = l.getD x r00 := by rw [Int.toNat_natCast]
  have hx : x < l.length := by omega
  by_cases hb : x < x0
  · have ha := hx3 x hb
    have hr := right_kind ha
    rw [← hxt] at hr ha
    rcases hr with k1 | k1 | k1
    · have h1 := right1 _ k1
      rw [ha] at h1
      repeat' (first
        | ((with_reducible apply Sat.run (X := X64)); exact rfl; (first | exact True.intro | (exact phi) | skip))
        | ((with_reducible apply Sat.cond_f); exact rfl)
        | ((with_reducible apply Sat.cond_pt); exact rfl; (try dsimp only [V.EV.sub, V.EV.len]); first | assumption | omega)
        | ((with_reducible apply Sat.callRI (h1) (mr1)); exact rfl; exact rfl; exact rfl; kernel_rfl; (exact cnvX); exact rfl) | fail)
      refine Sat.reX (i := 3) (.g (x + 1) 1 fun i => [actV (l.getD i r00)]) rfl rfl (Nat.le_refl _) rfl (fun i hi => act_at l x _ ((act_1 _ k1).trans (by rw [hxt])) i hi) ?_
      refine Sat.back (x + 1) [(0, some 3)] rfl ?_ (by omega) (by omega)
      ((repeat' (first | exact AllP.nil | with_reducible refine AllP.cons ?_ ?_)) <;> first | exact rfl | exact trivial | exact Int.natCast_add_one _ | exact ⟨rfl, rfl⟩ | exact ⟨rfl, rfl, rfl⟩ | exact ⟨rfl, rfl, rfl, rfl⟩ | exact ⟨rfl, .inl rfl⟩ | exact ⟨rfl, .inr rfl⟩ | exact pur | (intro _; exact rfl) | (intro _; exact trivial) | (intro _; exact pur) | exact pur_rule _ | (intro _ _; exact rfl) | exact pur_act _ _)
    · have h1 := right2 _ k1
      rw [ha] at h1
      repeat' (first
        | ((with_reducible apply Sat.run (X := X64)); exact rfl; (first | exact True.intro | (exact phi) | skip))
        | ((with_reducible apply Sat.cond_f); exact rfl)
        | ((with_reducible apply Sat.cond_pt); exact rfl; (try dsimp only [V.EV.sub, V.EV.len]); first | assumption | omega)
        | ((with_reducible apply Sat.cond_pf); exact rfl; (try dsimp only [V.EV.sub, V.EV.len]); first | assumption | omega)
        | ((with_reducible apply Sat.callRI (h1) (mr2)); exact rfl; exact rfl; exact rfl; kernel_rfl; (exact cnvX); exact rfl) | fail)
      refine Sat.reX (i := 3) (.g (x + 1) 1 fun i => [actV (l.getD i r00)]) rfl rfl (Nat.le_refl _) rfl (fun i hi => act_at l x _ ((act_2 _ k1).trans (by rw [hxt])) i hi) ?_
      refine Sat.back (x + 1) [(0, some 3)] rfl ?_ (by omega) (by omega)
      ((repeat' (first | exact AllP.nil | with_reducible refine AllP.cons ?_ ?_)) <;> first | exact rfl | exact trivial | exact Int.natCast_add_one _ | exact ⟨rfl, rfl⟩ | exact ⟨rfl, rfl, rfl⟩ | exact ⟨rfl, rfl, rfl, rfl⟩ | exact ⟨rfl, .inl rfl⟩ | exact ⟨rfl, .inr rfl⟩ | exact pur | (intro _; exact rfl) | (intro _; exact trivial) | (intro _; exact pur) | exact pur_rule _ | (intro _ _; exact rfl) | exact pur_act _ _)
    · have h1 := right3 _ k1
      rw [ha] at h1
      repeat' (first
        | ((with_reducible apply Sat.run (X := X64)); exact rfl; (first | exact True.intro | (exact phi) | skip))
        | ((with_reducible apply Sat.cond_f); exact rfl)
        | ((with_reducible apply Sat.cond_pt); exact rfl; (try dsimp only [V.EV.sub, V.EV.len]); first | assumption | omega)
        | ((with_reducible apply Sat.cond_pf); exact rfl; (try dsimp only [V.EV.sub, V.EV.len]); first | assumption | omega)
        | ((with_reducible apply Sat.callRI (h1) (mr3)); exact rfl; exact rfl; exact rfl; kernel_rfl; (exact cnvX); exact rfl) | fail)
      refine Sat.reX (i := 3) (.g (x + 1) 1 fun i => [actV (l.getD i r00)]) rfl rfl (Nat.le_refl _) rfl (fun i hi => act_at l x _ ((act_3 _ k1).trans (by rw [hxt])) i hi) ?_
      refine Sat.back (x + 1) [(0, some 3)] rfl ?_ (by omega) (by omega)
      ((repeat' (first | exact AllP.nil | with_reducible refine AllP.cons ?_ ?_)) <;> first | exact rfl | exact trivial | exact Int.natCast_add_one _ | exact ⟨rfl, rfl⟩ | exact ⟨rfl, rfl, rfl⟩ | exact ⟨rfl, rfl, rfl, rfl⟩ | exact ⟨rfl, .inl rfl⟩ | exact ⟨rfl, .inr rfl⟩ | exact pur | (intro _; exact rfl) | (intro _; exact trivial) | (intro _; exact pur) | exact pur_rule _ | (intro _ _; exact rfl) | exact pur_act _ _)
  · obtain rfl : x = x0 := by omega
    have ha : rightR (l.getD x r00) = false := hx2
    rw [← hxt] at ha
    by_cases k1 : (l.getD (x : Int).toNat r00).kind = 1
    · have h1 := right1 _ k1
      rw [ha] at h1
      repeat' (first
        | ((with_reducible apply Sat.run (X := X64)); exact rfl; (first | exact True.intro | (exact phi) | skip))
        | ((with_reducible apply Sat.cond_t); exact rfl)
        | ((with_reducible apply Sat.cond_pt); exact rfl; (try dsimp only [V.EV.sub, V.EV.len]); first | assumption | omega)
        | ((with_reducible apply Sat.callRI (h1) (mr1)); exact rfl; exact rfl; exact rfl; kernel_rfl; (exact cnvX); exact rfl) | fail)
      (apply Sat.fend2; exact rfl; exact rfl; exact rfl; exact True.intro; exact True.intro; rfl; exact trivial; (first | exact .inl rfl | exact .inr rfl))
    · by_cases k2 : (l.getD (x : Int).toNat r00).kind = 2
      · have h1 := right2 _ k2
        rw [ha] at h1
        repeat' (first
          | ((with_reducible apply Sat.run (X := X64)); exact rfl; (first | exact True.intro | (exact phi) | skip))
          | ((with_reducible apply Sat.cond_t); exact rfl)
          | ((with_reducible apply Sat.cond_pt); exact rfl; (try dsimp only [V.EV.sub, V.EV.len]); first | assumption | omega)
          | ((with_reducible apply Sat.cond_pf); exact rfl; (try dsimp only [V.EV.sub, V.EV.len]); first | assumption | omega)
          | ((with_reducible apply Sat.callRI (h1) (mr2)); exact rfl; exact rfl; exact rfl; kernel_rfl; (exact cnvX); exact rfl) | fail)
        (apply Sat.fend2; exact rfl; exact rfl; exact rfl; exact True.intro; exact True.intro; rfl; exact trivial; (first | exact .inl rfl | exact .inr rfl))
      · by_cases k3 : (l.getD (x : Int).toNat r00).kind = 3
        · have h1 := right3 _ k3
          rw [ha] at h1
          repeat' (first
            | ((with_reducible apply Sat.run (X := X64)); exact rfl; (first | exact True.intro | (exact phi) | skip))
            | ((with_reducible apply Sat.cond_t); exact rfl)
            | ((with_reducible apply Sat.cond_pt); exact rfl; (try dsimp only [V.EV.sub, V.EV.len]); first | assumption | omega)
            | ((with_reducible apply Sat.cond_pf); exact rfl; (try dsimp only [V.EV.sub, V.EV.len]); first | assumption | omega)
            | ((with_reducible apply Sat.callRI (h1) (mr3)); exact rfl; exact rfl; exact rfl; kernel_rfl; (exact cnvX); exact rfl) | fail)
          (apply Sat.fend2; exact rfl; exact rfl; exact rfl; exact True.intro; exact True.intro; rfl; exact trivial; (first | exact .inl rfl | exact .inr rfl))
        · repeat' (first
              | ((with_reducible apply Sat.run (X := X64)); exact rfl; (first | exact True.intro | (exact phi) | skip))
              | ((with_reducible apply Sat.drawn); kernel_rfl)
              | ((with_reducible apply DSat.run (X := X64)); exact rfl; (first | exact True.intro | (exact phi) | skip))
              | ((with_reducible apply DSat.fin); kernel_rfl)
              | ((with_reducible apply Sat.cond_t); exact rfl)
              | ((with_reducible apply Sat.cond_f); exact rfl)
              | ((with_reducible apply Sat.cond_pt); exact rfl; (try dsimp only [V.EV.sub, V.EV.len]); first | assumption | omega)
              | ((with_reducible apply Sat.cond_pf); exact rfl; (try dsimp only [V.EV.sub, V.EV.len]); first | assumption | omega)
              | ((with_reducible apply Sat.cond_p); exact rfl; all_goals intro h)
              | ((with_reducible apply Sat.cond); exact rfl; all_goals intro h)
              | ((with_reducible refine (?_ : AllP _)); ((repeat' (first | exact AllP.nil | with_reducible refine AllP.cons ?_ ?_)) <;> (first | (intro hq; exact hq) | (dsimp only [V.EV.len]; omega) | (intro hq; dsimp only [V.EV.len]; omega) | (intro hq; exact absurd hq (by decide))))) | fail)
          (apply Sat.fend2; exact rfl; exact rfl; exact rfl; exact True.intro; exact True.intro; rfl; exact trivial; (first | exact .inl rfl | exact .inr rfl))
def revX (l : List RuleL) (x i : Nat) : RuleL := if i < x ∨ l.length - x ≤ i then l.reverse.getD i r00 else l.getD i r00
theorem rev_get (l : List RuleL) (i : Nat) (hi : i < l.length) : l.reverse.getD i r00 = l.getD (l.length - 1 - i) r00 := by
  rw [List.getD_eq_getElem?_getD, List.getD_eq_getElem?_getD, List.getElem?_reverse hi]
theorem rev_step (l : List RuleL) (x : Nat) (hx : (x : Int) < (l.length : Int) - 1 - (x : Int)) : ∀ y, y < l.length → ([actV (revX l (x + 1) y)] : List SV) = if y = 0 + ((l.length : Int) - 1 - (x : Int)).toNat then [actV (revX l x (0 + (x : Int).toNat))] else if y = 0 + (x : Int).toNat then [actV (revX l x (0 + ((l.length : Int) - 1 - (x : Int)).toNat))] else [actV (revX l x y)] := by
  intro y hy
  have e1 : 0 + ((l.length : Int) - 1 - (x : Int)).toNat = l.length - 1 - x := by omega
  have e2 : 0 + (x : Int).toNat = x := by omega
  rw [e1, e2]
  split
  · rename_i h
    subst h
    unfold revX
    rw [if_pos (.inr (by omega)), if_neg (by omega), rev_get l _ (by omega), show l.length - 1 - (l.length - 1 - x) = x by omega]
  · rename_i h
    split
    · rename_i h2
      subst h2
      unfold revX
      rw [if_pos (.inl (by omega)), if_neg (by omega), rev_get l _ (by omega)]
    · rename_i h2
      unfold revX
      congr 2
      by_cases q : y < x ∨ l.length - x ≤ y
      · rw [if_pos q, if_pos (by omega)]
      · rw [if_neg q, if_neg (by omega)]
theorem rev_end (l : List RuleL) (x : Nat) (hx : ¬ (x : Int) < (l.length : Int) - 1 - (x : Int)) : ∀ y, y < l.length → ([actV (l.reverse.getD y r00)] : List SV) = [actV (revX l x y)] := by
  intro y hy
  unfold revX
  congr 2
  by_cases q : y < x ∨ l.length - x ≤ y
  · rw [if_pos q]
  · rw [if_neg q, rev_get l y hy, show l.length - 1 - y = y by omega]
theorem rev_mf (l : List RuleL) (hlen : l.length ≤ 1000000) : MF Tryz.prog [] 63 [0] [.row 0 0 1 0 l.length] [(0, .row 111 (actE l))] (.tup []) [(0, .row 111 (actE l.reverse))] := by
  refine MF.mk (ids := ids3) 6 Tryz.func63 rfl Tryz.ntmps63 rfl rfl rfl fun T w0 E => ?_
  repeat' (first
    | ((with_reducible apply Sat.run (X := X64)); exact rfl; (first | exact True.intro | (exact phi) | skip)) | fail)
  apply Sat.loop (α := Nat) (fun x => x ≤ l.length) (fun x => l.length - x) 0 (fun x => [(2, .int .i64 (x : Int)), (3, .int .i64 ((l.length : Int) - 1 - (x : Int)))]) (fun x => [(0, .row 111 (.g l.length 1 fun i => [actV (revX l x i)]))]) [] [] 0
  · intro x; exact rfl
  · intro x; exact rfl
  · exact rfl
  · exact rfl
  · ((repeat' (first | exact AllP.nil | with_reducible refine AllP.cons ?_ ?_)) <;> first | exact rfl | exact trivial | exact Int.natCast_add_one _ | exact ⟨rfl, rfl⟩ | exact ⟨rfl, rfl, rfl⟩ | exact ⟨rfl, rfl, rfl, rfl⟩ | exact ⟨rfl, .inl rfl⟩ | exact ⟨rfl, .inr rfl⟩ | exact pur | (intro _; exact rfl) | (intro _; exact trivial) | (intro _; exact pur) | exact pur_act _ _ | (show (l.length : Int) - 1 = (l.length : Int) - 1 - ((0 : Nat) : Int); omega) | (intro i hi; dsimp only [revX]; rw [if_neg (by omega)]))
  · exact Nat.zero_le _
  intro x hx0
  by_cases hx : (x : Int) < (l.length : Int) - 1 - (x : Int)
  · repeat' (first
        | ((with_reducible apply Sat.run (X := X64)); exact rfl; (first | exact True.intro | (exact phi) | skip))
        | ((with_reducible apply Sat.drawn); kernel_rfl)
        | ((with_reducible apply DSat.run (X := X64)); exact rfl; (first | exact True.intro | (exact phi) | skip))
        | ((with_reducible apply DSat.fin); kernel_rfl)
        | ((with_reducible apply Sat.cond_t); exact rfl)
        | ((with_reducible apply Sat.cond_f); exact rfl)
        | ((with_reducible apply Sat.cond_pt); exact rfl; (try dsimp only [V.EV.sub, V.EV.len]); first | assumption | omega)
        | ((with_reducible apply Sat.cond_pf); exact rfl; (try dsimp only [V.EV.sub, V.EV.len]); first | assumption | omega)
        | ((with_reducible apply Sat.cond_p); exact rfl; all_goals intro h)
        | ((with_reducible apply Sat.cond); exact rfl; all_goals intro h)
        | ((with_reducible refine (?_ : AllP _)); ((repeat' (first | exact AllP.nil | with_reducible refine AllP.cons ?_ ?_)) <;> (first | (intro hq; exact hq) | (dsimp only [V.EV.len]; omega) | (intro hq; dsimp only [V.EV.len]; omega) | (intro hq; exact absurd hq (by decide))))) | fail)
    refine Sat.reX (i := 0) (.g l.length 1 fun i => [actV (revX l (x + 1) i)]) rfl rfl (Nat.le_refl _) rfl (rev_step l x hx) ?_
    repeat' (first
      | fail | fail)
    refine Sat.back (x + 1) [] rfl ?_ (by omega) (by omega)
    ((repeat' (first | exact AllP.nil | with_reducible refine AllP.cons ?_ ?_)) <;> first | exact rfl | exact trivial | exact Int.natCast_add_one _ | exact ⟨rfl, rfl⟩ | exact ⟨rfl, rfl, rfl⟩ | exact ⟨rfl, rfl, rfl, rfl⟩ | exact ⟨rfl, .inl rfl⟩ | exact ⟨rfl, .inr rfl⟩ | exact pur | (intro _; exact rfl) | (intro _; exact trivial) | (intro _; exact pur) | (intro _ _; exact rfl) | (intro _ _; simp [pureL, pureS, pureE]; done) | (show (l.length : Int) - 1 - (x : Int) - 1 = (l.length : Int) - 1 - ((x + 1 : Nat) : Int); omega))
  · repeat' (first
        | ((with_reducible apply Sat.run (X := X64)); exact rfl; (first | exact True.intro | (exact phi) | skip))
        | ((with_reducible apply Sat.drawn); kernel_rfl)
        | ((with_reducible apply DSat.run (X := X64)); exact rfl; (first | exact True.intro | (exact phi) | skip))
        | ((with_reducible apply DSat.fin); kernel_rfl)
        | ((with_reducible apply Sat.cond_t); exact rfl)
        | ((with_reducible apply Sat.cond_f); exact rfl)
        | ((with_reducible apply Sat.cond_pt); exact rfl; (try dsimp only [V.EV.sub, V.EV.len]); first | assumption | omega)
        | ((with_reducible apply Sat.cond_pf); exact rfl; (try dsimp only [V.EV.sub, V.EV.len]); first | assumption | omega)
        | ((with_reducible apply Sat.cond_p); exact rfl; all_goals intro h)
        | ((with_reducible apply Sat.cond); exact rfl; all_goals intro h)
        | ((with_reducible refine (?_ : AllP _)); ((repeat' (first | exact AllP.nil | with_reducible refine AllP.cons ?_ ?_)) <;> (first | (intro hq; exact hq) | (dsimp only [V.EV.len]; omega) | (intro hq; dsimp only [V.EV.len]; omega) | (intro hq; exact absurd hq (by decide))))) | fail)
    refine Sat.reX (i := 0) (actE l.reverse) rfl rfl (by simp [EV.len]) rfl (fun y hy => rev_end l x hx y (by simpa [EV.len] using hy)) ?_
    (apply Sat.fend0; exact rfl; exact rfl; exact ⟨rfl, trivial⟩; (first | exact .inl rfl | exact .inr rfl))
end Go.Proofs.YtpbgihhfcdggkaaGreatDoor
end
section
namespace Go.Proofs.YtpbgihhfcdggkaaGreatDoor
open Go.RowKit V
set_option maxRecDepth 100000
set_option maxHeartbeats 4000000
set_option linter.unusedSimpArgs false
set_option linter.unusedVariables false
attribute [local irreducible] V.Sat V.DSat V.SatP V.ASat V.AOp
theorem pur_s' (s : SetL) : pureS s.v := by simp [pureS, pureL, pureE]
theorem fin_no (s : SetL) (v : Int) (h : 16 < s.vals.length ∨ 16 < s.kept.length) : Fun Tryz.prog [] 39 [s.v, .int .i64 v] (.tup [zeroS.v, .int .i64 2]) := by
  refine Fun.mk 6 Tryz.func39 rfl Tryz.ntmps39 rfl rfl fun T w0 => ?_
  have hc : (bif decide ((16 : Int) < (s.vals.length : Int)) then true else decide ((16 : Int) < (s.kept.length : Int))) = true := by
    by_cases q : (16 : Int) < (s.vals.length : Int)
    · rw [decide_eq_true q]; rfl
    · rw [decide_eq_true (show (16 : Int) < (s.kept.length : Int) by omega)]
      cases decide ((16 : Int) < (s.vals.length : Int)) <;> rfl
  repeat' (first
    | ((with_reducible apply Sat.run (X := X64)); exact rfl; (first | exact True.intro | (exact phi) | skip))
    | ((with_reducible apply Sat.cond); exact rfl; all_goals intro h) | fail)
  · refine Sat.fin (Sat.end2 rfl rfl rfl rfl True.intro True.intro (by apply Conv.agg; exact cnvX) (.refl _ trivial) (.inl rfl) (fun _ h => h)) rfl
  · exfalso
    have h' : (bif decide ((16 : Int) < (s.vals.length : Int)) then true else decide ((16 : Int) < (s.kept.length : Int))) = false := ‹_›
    rw [hc] at h'
    cases h'
theorem fin_yes (s : SetL) (v : Int) (h : ¬ (16 < s.vals.length ∨ 16 < s.kept.length)) : Fun Tryz.prog [] 39 [s.v, .int .i64 v] (.tup [(verS v s).v, .int .i64 0]) := by
  refine Fun.mk 6 Tryz.func39 rfl Tryz.ntmps39 rfl rfl fun T w0 => ?_
  have hc : (bif decide ((16 : Int) < (s.vals.length : Int)) then true else decide ((16 : Int) < (s.kept.length : Int))) = false := by
    rw [decide_eq_false (show ¬ (16 : Int) < (s.vals.length : Int) by omega), decide_eq_false (show ¬ (16 : Int) < (s.kept.length : Int) by omega)]
    rfl
  repeat' (first
    | ((with_reducible apply Sat.run (X := X64)); exact rfl; (first | exact True.intro | (exact phi) | skip))
    | ((with_reducible apply Sat.cond); exact rfl; all_goals intro h) | fail)
  · exfalso
    have h' : (bif decide ((16 : Int) < (s.vals.length : Int)) then true else decide ((16 : Int) < (s.kept.length : Int))) = true := ‹_›
    rw [hc] at h'
    cases h'
  · refine Sat.fin (Sat.end2 rfl rfl rfl rfl True.intro True.intro (.refl _ (pur_s' (verS v s))) (.refl _ trivial) (.inl rfl) (fun _ h => h)) rfl
theorem ren_yes (s : SetL) (a b : Nm) (hr : Rising s.vals) (hlen : s.vals.length ≤ 1000000) (hb : b ≠ []) (h : hasV s.vals a = true ∧ hasV s.vals b = false) : Fun Tryz.prog [] 61 [s.v, .agg [.str a, .str b]] (.tup [SetL.v ⟨s.version, insV (delV s.vals a) ⟨b, (getV s.vals a).val⟩, s.kept⟩, .bool true]) := by
  have h1 := find_spec s.vals a
  have h2 := find_spec s.vals b
  obtain ⟨x, hx, e1, e2⟩ := idx_yes _ _ h.1
  rw [e1] at h1
  rw [idx_no _ _ h.2] at h2
  have h3 := Out_spec s.vals a hr hlen
  have hd : (delV s.vals a).length ≤ 1000000 := Nat.le_trans (List.length_filter_le ..) hlen
  have h4 := Into_yes (delV s.vals a) ⟨b, (getV s.vals a).val⟩ hb hd
  refine Fun.mk 6 Tryz.func61 rfl Tryz.ntmps61 rfl rfl fun T w0 => ?_
  repeat' (first
    | ((with_reducible apply Sat.run (X := X64)); exact rfl; (first | exact True.intro | (exact phi) | skip))
    | ((with_reducible apply Sat.cond_f); exact rfl)
    | ((with_reducible apply Sat.callR (h1)); exact rfl; exact rfl; exact rfl; kernel_rfl; (exact cnvX); exact rfl)
    | ((with_reducible apply Sat.callG1 (h2)); exact rfl; exact rfl; exact rfl; exact rfl; kernel_rfl; (intro hG; (exact cnvX)); exact rfl)
    | ((with_reducible apply Sat.call (h3)); exact rfl; exact rfl; kernel_rfl; (exact cnvX); exact rfl)
    | ((with_reducible apply Sat.call (h4)); exact rfl; exact rfl; kernel_rfl; (exact cnvX); exact rfl) | fail)
  refine Sat.fin (Sat.end2 rfl rfl rfl rfl True.intro True.intro (.refl _ (by simp [pureS, pureL, pureE])) (.refl _ trivial) (.inl rfl) (fun _ h => h)) rfl
theorem ren_no (s : SetL) (a b : Nm) (h : ¬ (hasV s.vals a = true ∧ hasV s.vals b = false)) : Fun Tryz.prog [] 61 [s.v, .agg [.str a, .str b]] (.tup [s.v, .bool false]) := by
  have h1 := find_spec s.vals a
  have h2 := find_spec s.vals b
  refine Fun.mk 6 Tryz.func61 rfl Tryz.ntmps61 rfl rfl fun T w0 => ?_
  cases ha : hasV s.vals a with
  | false =>
    rw [idx_no _ _ ha] at h1
    repeat' (first
      | ((with_reducible apply Sat.run (X := X64)); exact rfl; (first | exact True.intro | (exact phi) | skip))
      | ((with_reducible apply Sat.cond_t); exact rfl)
      | ((with_reducible apply Sat.callR (h1)); exact rfl; exact rfl; exact rfl; kernel_rfl; (exact cnvX); exact rfl)
      | ((with_reducible apply Sat.callG1 (h2)); exact rfl; exact rfl; exact rfl; exact rfl; kernel_rfl; (intro hG; (exact cnvX)); exact rfl) | fail)
    refine Sat.fin (Sat.end2 rfl rfl rfl rfl True.intro True.intro (.refl _ (pur_s' s)) (.refl _ trivial) (.inl rfl) (fun _ h => h)) rfl
  | true =>
    cases hb : hasV s.vals b with
    | false => exact absurd ⟨ha, hb⟩ h
    | true =>
      obtain ⟨x, hx, e1, e2⟩ := idx_yes _ _ ha
      obtain ⟨y, hy, f1, f2⟩ := idx_yes _ _ hb
      rw [e1] at h1
      rw [f1] at h2
      repeat' (first
        | ((with_reducible apply Sat.run (X := X64)); exact rfl; (first | exact True.intro | (exact phi) | skip))
        | ((with_reducible apply Sat.cond_t); exact rfl)
        | ((with_reducible apply Sat.callR (h1)); exact rfl; exact rfl; exact rfl; kernel_rfl; (exact cnvX); exact rfl)
        | ((with_reducible apply Sat.callG1 (h2)); exact rfl; exact rfl; exact rfl; exact rfl; kernel_rfl; (intro hG; (exact cnvX)); exact rfl) | fail)
      refine Sat.fin (Sat.end2 rfl rfl rfl rfl True.intro True.intro (.refl _ (pur_s' s)) (.refl _ trivial) (.inl rfl) (fun _ h => h)) rfl
theorem kept_app (K : List ValL) (v : ValL) : ∀ y, y < K.length + 1 → valP ((K ++ [v]).getD y v00) = if y < 0 + K.length then (if y < 0 then nthL [] y else valP (K.getD (y - 0) v00)) else nthL [valP v] (0 + (y - (0 + K.length))) := by
  intro y hy
  rw [app_row K v y hy, Nat.zero_add K.length]
  by_cases h : y < K.length
  · rw [if_pos h, if_pos h, if_neg (Nat.not_lt_zero _)]; rfl
  · rw [if_neg h, if_neg h]
theorem rdo_spec (s : SetL) (r : RuleL) (hr : Rising s.vals) (hlen : s.vals.length ≤ 1000000) (hk : s.kept.length ≤ 1000000) (ho : RuleOk r) : Fun Tryz.prog [] 36 [s.v, .agg (ruleP r)] (.tup [SetL.v ((doS s r).getD s), .bool (doS s r).isSome]) := by
  refine Fun.mk 6 Tryz.func36 rfl Tryz.ntmps36 rfl rfl fun T w0 => ?_
  by_cases k1 : r.kind = 1
  · by_cases h : hasV s.vals r.name = true ∧ hasV s.vals r.to = false
    · have h1 := ren_yes s r.name r.to hr hlen (ho.to k1).1 h
      have e : doS s r = some ⟨s.version, insV (delV s.vals r.name) ⟨r.to, (getV s.vals r.name).val⟩, s.kept⟩ := by unfold doS movV; rw [if_pos k1, if_pos h]; rfl
      rw [e]
      repeat' (first
        | ((with_reducible apply Sat.run (X := X64)); exact rfl; (first | exact True.intro | (exact phi) | skip))
        | ((with_reducible apply Sat.cond_pt); exact rfl; (try dsimp only [V.EV.sub, V.EV.len]); first | assumption | omega)
        | ((with_reducible apply Sat.call (h1)); exact rfl; exact rfl; kernel_rfl; (exact cnvX); exact rfl) | fail)
      refine Sat.fin (Sat.end2 rfl rfl rfl rfl True.intro True.intro (.refl _ (by simp [pureS, pureL, pureE])) (.refl _ trivial) (.inl rfl) (fun _ h => h)) rfl
    · have h1 := ren_no s r.name r.to h
      have e : doS s r = none := by unfold doS movV; rw [if_pos k1, if_neg h]; rfl
      rw [e]
      repeat' (first
        | ((with_reducible apply Sat.run (X := X64)); exact rfl; (first | exact True.intro | (exact phi) | skip))
        | ((with_reducible apply Sat.cond_pt); exact rfl; (try dsimp only [V.EV.sub, V.EV.len]); first | assumption | omega)
        | ((with_reducible apply Sat.call (h1)); exact rfl; exact rfl; kernel_rfl; (exact cnvX); exact rfl) | fail)
      refine Sat.fin (Sat.end2 rfl rfl rfl rfl True.intro True.intro (.refl _ (pur_s' s)) (.refl _ trivial) (.inl rfl) (fun _ h => h)) rfl
  · have h3 := Out_spec s.vals r.name hr hlen
    have hd : (delV s.vals r.name).length ≤ 1000000 := Nat.le_trans (List.length_filter_le ..) hlen
    by_cases k2 : r.kind = 2
    · have h4 := Into_yes (delV s.vals r.name) ⟨r.name, r.val⟩ ho.name hd
      have e : doS s r = some ⟨s.version, insV (delV s.vals r.name) ⟨r.name, r.val⟩, s.kept ++ [getV s.vals r.name]⟩ := by unfold doS; rw [if_neg k1, if_pos k2]
      rw [e]
      repeat' (first
        | ((with_reducible apply Sat.run (X := X64)); exact rfl; (first | exact True.intro | (exact phi) | skip))
        | ((with_reducible apply Sat.drawn); kernel_rfl)
        | ((with_reducible apply DSat.run (X := X64)); exact rfl; (first | exact True.intro | (exact phi) | skip))
        | ((with_reducible apply DSat.fin); kernel_rfl)
        | ((with_reducible apply Sat.cond_pt); exact rfl; (try dsimp only [V.EV.sub, V.EV.len]); first | assumption | omega)
        | ((with_reducible apply Sat.cond_pf); exact rfl; (try dsimp only [V.EV.sub, V.EV.len]); first | assumption | omega)
        | ((with_reducible apply Sat.call (h3)); exact rfl; exact rfl; kernel_rfl; (exact cnvX); exact rfl)
        | ((with_reducible apply Sat.call (h4)); exact rfl; exact rfl; kernel_rfl; (exact cnvX); exact rfl) | fail)
      refine Sat.reX (i := 7) (valE (s.kept ++ [getV s.vals r.name])) rfl rfl (by simp [EV.len]) rfl (fun y hy => kept_app s.kept (getV s.vals r.name) y (by simpa [EV.len] using hy)) ?_
      refine Sat.fin (Sat.end2 rfl rfl rfl rfl True.intro True.intro (.agg _ _ (.cons _ _ _ _ (.refl _ trivial) (.cons _ _ _ _ (.refl _ (by simp [pureS, pureL, pureE])) (.cons _ _ _ _ (.all _ _ _ _ _ rfl rfl (by simp [EV.len, EV.sub]) (pur_val _)) .nil)))) (.refl _ trivial) (.inl rfl) (fun _ h => h)) rfl
    · have e : doS s r = some ⟨s.version, delV s.vals r.name, s.kept ++ [getV s.vals r.name]⟩ := by unfold doS; rw [if_neg k1, if_neg k2]
      rw [e]
      repeat' (first
        | ((with_reducible apply Sat.run (X := X64)); exact rfl; (first | exact True.intro | (exact phi) | skip))
        | ((with_reducible apply Sat.drawn); kernel_rfl)
        | ((with_reducible apply DSat.run (X := X64)); exact rfl; (first | exact True.intro | (exact phi) | skip))
        | ((with_reducible apply DSat.fin); kernel_rfl)
        | ((with_reducible apply Sat.cond_pf); exact rfl; (try dsimp only [V.EV.sub, V.EV.len]); first | assumption | omega)
        | ((with_reducible apply Sat.call (h3)); exact rfl; exact rfl; kernel_rfl; (exact cnvX); exact rfl) | fail)
      refine Sat.reX (i := 7) (valE (s.kept ++ [getV s.vals r.name])) rfl rfl (by simp [EV.len]) rfl (fun y hy => kept_app s.kept (getV s.vals r.name) y (by simpa [EV.len] using hy)) ?_
      refine Sat.fin (Sat.end2 rfl rfl rfl rfl True.intro True.intro (.agg _ _ (.cons _ _ _ _ (.refl _ trivial) (.cons _ _ _ _ (.refl _ (by simp [pureS, pureL, pureE])) (.cons _ _ _ _ (.all _ _ _ _ _ rfl rfl (by simp [EV.len, EV.sub]) (pur_val _)) .nil)))) (.refl _ trivial) (.inl rfl) (fun _ h => h)) rfl
theorem last_k (K : List ValL) (m : Nat) (h : K.length = m + 1) : K.getLast? = some (K.getD m v00) ∧ K.dropLast.length = m ∧ ∀ i, i < m → K.dropLast.getD i v00 = K.getD i v00 := by
  refine ⟨?_, by rw [List.length_dropLast, h]; rfl, fun i hi => ?_⟩
  · rw [List.getLast?_eq_getElem?, h, Nat.add_sub_cancel, List.getD_eq_getElem?_getD, List.getElem?_eq_getElem (by omega)]
    rfl
  · rw [List.getD_eq_getElem?_getD, List.getD_eq_getElem?_getD, List.getElem?_dropLast, if_pos (by omega)]
theorem undo_some (s : SetL) (r : RuleL) (k1 : ¬ r.kind = 1) (t : SetL) (h : undoS s r = some t) : ∃ m, s.kept.length = m + 1 ∧ s.kept.dropLast.length = m ∧ (∀ i, i < m → s.kept.dropLast.getD i v00 = s.kept.getD i v00) ∧ ((s.kept.getD m v00).name = [] ∨ (s.kept.getD m v00).name = r.name) ∧ t = ⟨s.version, putV (delV s.vals r.name) (s.kept.getD m v00), s.kept.dropLast⟩ := by
  unfold undoS at h
  rw [if_neg k1] at h
  split at h
  · obtain ⟨p, h1, rfl⟩ := Option.map_eq_some_iff.1 h
    rcases Nat.eq_zero_or_pos s.kept.length with hm | hm
    · rw [List.eq_nil_of_length_eq_zero hm] at h1
      cases h1
    · obtain ⟨m, hm⟩ : ∃ m, s.kept.length = m + 1 := ⟨s.kept.length - 1, by omega⟩
      obtain ⟨q1, q2, q3⟩ := last_k s.kept m hm
      unfold popV at h1
      rw [q1] at h1
      dsimp only at h1
      split at h1
      · rename_i q
        cases h1
        exact ⟨m, hm, q2, q3, q, rfl⟩
      · cases h1
  · cases h
theorem undo_cond (s : SetL) (r : RuleL) (k1 : ¬ r.kind = 1) : (bif bif decide ((s.kept.length : Int) - 1 < 0) then true else bif decide ((s.kept.getD ((s.kept.length : Int) - 1).toNat v00).name ≠ []) then decide ((s.kept.getD ((s.kept.length : Int) - 1).toNat v00).name ≠ r.name) else false then true else decide ((0 : Int) ≤ idxL (fun v => decide (v.name = r.name)) s.vals 0) != decide (r.kind = 2)) = !(undoS s r).isSome := by
  have hfd : decide ((0 : Int) ≤ idxL (fun v => decide (v.name = r.name)) s.vals 0) = hasV s.vals r.name := idxL_any _ s.vals 0
  rw [hfd]
  unfold undoS
  rw [if_neg k1]
  rcases Nat.eq_zero_or_pos s.kept.length with hm | hm
  · rw [decide_eq_true (show (s.kept.length : Int) - 1 < 0 by omega), List.eq_nil_of_length_eq_zero hm]
    simp only [cond_true]
    split <;> rfl
  · obtain ⟨m, hm⟩ : ∃ m, s.kept.length = m + 1 := ⟨s.kept.length - 1, by omega⟩
    obtain ⟨q1, q2, q3⟩ := last_k s.kept m hm
    rw [decide_eq_false (show ¬ (s.kept.length : Int) - 1 < 0 by omega), show ((s.kept.length : Int) - 1).toNat = m by omega, cond_false]
    unfold popV
    rw [q1]
    dsimp only
    by_cases q : hasV s.vals r.name = decide (r.kind = 2)
    · rw [if_pos q, q, bne_self_eq_false]
      by_cases n1 : (s.kept.getD m v00).name = []
      · rw [decide_eq_false (not_not_intro n1), if_pos (Or.inl n1)]
        rfl
      · by_cases n2 : (s.kept.getD m v00).name = r.name
        · rw [decide_eq_false (p := (s.kept.getD m v00).name ≠ r.name) (not_not_intro n2), if_pos (Or.inr n2)]
          cases decide ((s.kept.getD m v00).name ≠ []) <;> rfl
        · rw [decide_eq_true (p := (s.kept.getD m v00).name ≠ []) n1, decide_eq_true (p := (s.kept.getD m v00).name ≠ r.name) n2, if_neg (by rintro (h | h) <;> contradiction)]
          rfl
    · rw [if_neg q]
      have hne : (hasV s.vals r.name != decide (r.kind = 2)) = true := by simpa using q
      rw [hne]
      cases (bif decide ((s.kept.getD m v00).name ≠ []) then decide ((s.kept.getD m v00).name ≠ r.name) else false) <;> rfl
theorem conv_take {M : Mem} (K : List ValL) (m n' : Nat) (hl2 : K.dropLast.length = m) (hl3 : ∀ i, i < m → K.dropLast.getD i v00 = K.getD i v00) (hn : n' = m) : Conv M (.ro (.g n' 2 fun i => valP (K.getD (0 + i) v00))) (.ro (valE K.dropLast)) := by
  subst hn
  refine .gx _ _ _ _ _ (.eq _ _ _ (.refl _ (by simp [pureS, pureL, pureE])) (by rw [hl2])) fun i hi => ?_
  rw [Nat.zero_add, hl3 i (by omega)]
theorem rundo_spec (s : SetL) (r : RuleL) (hr : Rising s.vals) (hlen : s.vals.length ≤ 1000000) (hk : s.kept.length ≤ 1000000) (ho : RuleOk r) : Fun Tryz.prog [] 40 [s.v, .agg (ruleP r)] (.tup [SetL.v ((undoS s r).getD s), .bool (undoS s r).isSome]) := by
  refine Fun.mk 7 Tryz.func40 rfl Tryz.ntmps40 rfl rfl fun T w0 => ?_
  by_cases k1 : r.kind = 1
  · by_cases h : hasV s.vals r.to = true ∧ hasV s.vals r.name = false
    · have h1 := ren_yes s r.to r.name hr hlen ho.name h
      have e : undoS s r = some ⟨s.version, insV (delV s.vals r.to) ⟨r.name, (getV s.vals r.to).val⟩, s.kept⟩ := by unfold undoS movV; rw [if_pos k1, if_pos h]; rfl
      rw [e]
      repeat' (first
        | ((with_reducible apply Sat.run (X := X64)); exact rfl; (first | exact True.intro | (exact phi) | skip))
        | ((with_reducible apply Sat.cond_pt); exact rfl; (try dsimp only [V.EV.sub, V.EV.len]); first | assumption | omega)
        | ((with_reducible apply Sat.call (h1)); exact rfl; exact rfl; kernel_rfl; (exact cnvX); exact rfl) | fail)
      refine Sat.fin (Sat.end2 rfl rfl rfl rfl True.intro True.intro (.refl _ (by simp [pureS, pureL, pureE])) (.refl _ trivial) (.inl rfl) (fun _ h => h)) rfl
    · have h1 := ren_no s r.to r.name h
      have e : undoS s r = none := by unfold undoS movV; rw [if_pos k1, if_neg h]; rfl
      rw [e]
      repeat' (first
        | ((with_reducible apply Sat.run (X := X64)); exact rfl; (first | exact True.intro | (exact phi) | skip))
        | ((with_reducible apply Sat.cond_pt); exact rfl; (try dsimp only [V.EV.sub, V.EV.len]); first | assumption | omega)
        | ((with_reducible apply Sat.call (h1)); exact rfl; exact rfl; kernel_rfl; (exact cnvX); exact rfl) | fail)
      refine Sat.fin (Sat.end2 rfl rfl rfl rfl True.intro True.intro (.refl _ (pur_s' s)) (.refl _ trivial) (.inl rfl) (fun _ h => h)) rfl
  · have h3 := Out_spec s.vals r.name hr hlen
    have hd : (delV s.vals r.name).length ≤ 1000000 := Nat.le_trans (List.length_filter_le ..) hlen
    have hf := find_spec s.vals r.name
    have hfd : decide ((0 : Int) ≤ idxL (fun v => decide (v.name = r.name)) s.vals 0) = hasV s.vals r.name := idxL_any _ s.vals 0
    have hcond := undo_cond s r k1
    cases e : undoS s r with
    | none =>
      rw [e] at hcond
      rcases Nat.eq_zero_or_pos s.kept.length with hm | hm
      · repeat' (first
            | ((with_reducible apply Sat.run (X := X64)); exact rfl; (first | exact True.intro | (exact phi) | skip))
            | ((with_reducible apply Sat.drawn); kernel_rfl)
            | ((with_reducible apply DSat.run (X := X64)); exact rfl; (first | exact True.intro | (exact phi) | skip))
            | ((with_reducible apply DSat.fin); kernel_rfl)
            | ((with_reducible apply Sat.cond_t); exact rfl)
            | ((with_reducible apply Sat.cond_f); exact rfl)
            | ((with_reducible apply Sat.cond_pt); exact rfl; (try dsimp only [V.EV.sub, V.EV.len]); first | assumption | omega)
            | ((with_reducible apply Sat.cond_pf); exact rfl; (try dsimp only [V.EV.sub, V.EV.len]); first | assumption | omega)
            | ((with_reducible apply Sat.cond_p); exact rfl; all_goals intro h)
            | ((with_reducible apply Sat.cond); exact rfl; all_goals intro h)
            | ((with_reducible refine (?_ : AllP _)); ((repeat' (first | exact AllP.nil | with_reducible refine AllP.cons ?_ ?_)) <;> (first | (intro hq; exact hq) | (dsimp only [V.EV.len]; omega) | (intro hq; dsimp only [V.EV.len]; omega) | (intro hq; exact absurd hq (by decide)))))
            | ((with_reducible apply Sat.callG1 (hf)); exact rfl; exact rfl; exact rfl; exact rfl; kernel_rfl; (intro hG; (exact cnvX)); exact rfl)
            | ((with_reducible apply DSat.callG1 (hf)); exact rfl; exact rfl; exact rfl; exact rfl; kernel_rfl; (intro hG; (exact cnvX)); exact rfl) | fail)
        · refine Sat.fin (Sat.end2 rfl rfl rfl rfl True.intro True.intro (.refl _ (pur_s' s)) (.refl _ trivial) (.inl rfl) (fun _ h => h)) rfl
        · exfalso
          have q := hcond.symm.trans ‹_›
          cases q
      · repeat' (first
            | ((with_reducible apply Sat.run (X := X64)); exact rfl; (first | exact True.intro | (exact phi) | skip))
            | ((with_reducible apply Sat.drawn); kernel_rfl)
            | ((with_reducible apply DSat.run (X := X64)); exact rfl; (first | exact True.intro | (exact phi) | skip))
            | ((with_reducible apply DSat.fin); kernel_rfl)
            | ((with_reducible apply Sat.cond_t); exact rfl)
            | ((with_reducible apply Sat.cond_f); exact rfl)
            | ((with_reducible apply Sat.cond_pt); exact rfl; (try dsimp only [V.EV.sub, V.EV.len]); first | assumption | omega)
            | ((with_reducible apply Sat.cond_pf); exact rfl; (try dsimp only [V.EV.sub, V.EV.len]); first | assumption | omega)
            | ((with_reducible apply Sat.cond_p); exact rfl; all_goals intro h)
            | ((with_reducible apply Sat.cond); exact rfl; all_goals intro h)
            | ((with_reducible refine (?_ : AllP _)); ((repeat' (first | exact AllP.nil | with_reducible refine AllP.cons ?_ ?_)) <;> (first | (intro hq; exact hq) | (dsimp only [V.EV.len]; omega) | (intro hq; dsimp only [V.EV.len]; omega) | (intro hq; exact absurd hq (by decide)))))
            | ((with_reducible apply Sat.callG1 (hf)); exact rfl; exact rfl; exact rfl; exact rfl; kernel_rfl; (intro hG; (exact cnvX)); exact rfl)
            | ((with_reducible apply DSat.callG1 (hf)); exact rfl; exact rfl; exact rfl; exact rfl; kernel_rfl; (intro hG; (exact cnvX)); exact rfl) | fail)
        · refine Sat.fin (Sat.end2 rfl rfl rfl rfl True.intro True.intro (.refl _ (pur_s' s)) (.refl _ trivial) (.inl rfl) (fun _ h => h)) rfl
        · exfalso
          have q := hcond.symm.trans ‹_›
          cases q
    | some t =>
      rw [e] at hcond
      obtain ⟨m, hm, hl2, hl3, hnn, rfl⟩ := undo_some s r k1 t e
      have e1 : ((s.kept.length : Int) - 1).toNat = m := by omega
      by_cases hn : (s.kept.getD m v00).name = []
      · have h4 := Into_no (delV s.vals r.name) (s.kept.getD m v00) hn hd
        rw [← e1] at h4
        repeat' (first
          | ((with_reducible apply Sat.run (X := X64)); exact rfl; (first | exact True.intro | (exact phi) | skip))
          | ((with_reducible apply Sat.drawn); kernel_rfl)
          | ((with_reducible apply DSat.run (X := X64)); exact rfl; (first | exact True.intro | (exact phi) | skip))
          | ((with_reducible apply DSat.fin); kernel_rfl)
          | ((with_reducible apply Sat.cond_pf); exact rfl; (try dsimp only [V.EV.sub, V.EV.len]); first | assumption | omega)
          | ((with_reducible apply Sat.cond); exact rfl; all_goals intro h)
          | ((with_reducible apply DSat.callG1 (hf)); exact rfl; exact rfl; exact rfl; exact rfl; kernel_rfl; (intro hG; (exact cnvX)); exact rfl)
          | ((with_reducible apply Sat.call (h3)); exact rfl; exact rfl; kernel_rfl; (exact cnvX); exact rfl)
          | ((with_reducible apply DSat.call (h4)); exact rfl; exact rfl; kernel_rfl; (exact cnvX); exact rfl) | fail)
        · exfalso
          have q := hcond.symm.trans ‹_›
          cases q
        · refine Sat.fin (Sat.end2 rfl rfl rfl rfl True.intro True.intro (.agg _ _ (.cons _ _ _ _ (.refl _ trivial) (.cons _ _ _ _ (.refl _ (by simp [pureS, pureL, pureE])) (.cons _ _ _ _ (conv_take s.kept m _ hl2 hl3 (by show ((s.kept.length : Int) - 1).toNat - 0 = m; omega)) .nil)))) (.refl _ trivial) (.inl rfl) (fun _ h => h)) ?_
          unfold putV; rw [if_pos hn]; rfl
      · have h4 := Into_yes (delV s.vals r.name) (s.kept.getD m v00) hn hd
        rw [← e1] at h4
        repeat' (first
          | ((with_reducible apply Sat.run (X := X64)); exact rfl; (first | exact True.intro | (exact phi) | skip))
          | ((with_reducible apply Sat.drawn); kernel_rfl)
          | ((with_reducible apply DSat.run (X := X64)); exact rfl; (first | exact True.intro | (exact phi) | skip))
          | ((with_reducible apply DSat.fin); kernel_rfl)
          | ((with_reducible apply Sat.cond_pf); exact rfl; (try dsimp only [V.EV.sub, V.EV.len]); first | assumption | omega)
          | ((with_reducible apply Sat.cond); exact rfl; all_goals intro h)
          | ((with_reducible apply DSat.callG1 (hf)); exact rfl; exact rfl; exact rfl; exact rfl; kernel_rfl; (intro hG; (exact cnvX)); exact rfl)
          | ((with_reducible apply Sat.call (h3)); exact rfl; exact rfl; kernel_rfl; (exact cnvX); exact rfl)
          | ((with_reducible apply DSat.call (h4)); exact rfl; exact rfl; kernel_rfl; (exact cnvX); exact rfl) | fail)
        · exfalso
          have q := hcond.symm.trans ‹_›
          cases q
        · refine Sat.fin (Sat.end2 rfl rfl rfl rfl True.intro True.intro (.agg _ _ (.cons _ _ _ _ (.refl _ trivial) (.cons _ _ _ _ (.refl _ (by simp [pureS, pureL, pureE])) (.cons _ _ _ _ (conv_take s.kept m _ hl2 hl3 (by show ((s.kept.length : Int) - 1).toNat - 0 = m; omega)) .nil)))) (.refl _ trivial) (.inl rfl) (fun _ h => h)) ?_
          rw [e1]; unfold putV; rw [if_neg hn]; rfl
end Go.Proofs.YtpbgihhfcdggkaaGreatDoor
end
section
namespace Go.Proofs.YtpbgihhfcdggkaaGreatDoor
open Go.RowKit V
set_option maxRecDepth 100000
set_option maxHeartbeats 4000000
set_option linter.unusedSimpArgs false
set_option linter.unusedVariables false
attribute [local irreducible] V.Sat V.DSat V.SatP V.ASat V.AOp
def callT : List Nm := [[97], [98], [99], [100], [101, 49], [70], [103, 103], [104]]
def callN (n : Int) : Nm := callT.getD (n.tmod 8).toNat []
def textT : List Nm := [[], [49], [120, 32, 121], [126]]
def valN (a b : Int) : ValL := ⟨callN a, textT.getD (b.tmod 4).toNat []⟩
theorem call_spec (n : Int) (h0 : 0 ≤ n) (h1 : n < 256) : Fun Tryz.prog [] 21 [.int .u8 n] (.str (callN n)) := by
  have e1 : n.tmod 8 = n % 8 := Int.tmod_eq_emod_of_nonneg h0
  refine Fun.mk 6 Tryz.func21 rfl Tryz.ntmps21 rfl rfl fun T w0 => ?_
  repeat' (first
    | ((with_reducible apply Sat.run (X := X64)); exact rfl; (first | exact True.intro | (exact phi) | skip)) | fail)
  (refine Sat.fin (Sat.end1 rfl rfl rfl True.intro (.refl _ purX) (by first | exact .inl rfl | exact .inr rfl) (fun _ h => h)) ?_; (rw [Nat.zero_add]; rfl))
theorem tm (b : Int) (hb : 0 ≤ b) (m : Int) (hm : 0 < m) : 0 ≤ b.tmod m ∧ b.tmod m < m := by
  rw [Int.tmod_eq_emod_of_nonneg hb]
  exact ⟨Int.emod_nonneg _ (by omega), Int.emod_lt_of_pos _ hm⟩
theorem value_spec (a b : Int) (ha : 0 ≤ a) (ha1 : a < 256) (hb : 0 ≤ b) (hb1 : b < 256) : Fun Tryz.prog [] 34 [.agg [.int .u8 a, .int .u8 b]] (valN a b).v := by
  have h1 := call_spec a ha ha1
  obtain ⟨e1, e2⟩ := tm b hb 4 (by decide)
  refine Fun.mk 6 Tryz.func34 rfl Tryz.ntmps34 rfl rfl fun T w0 => ?_
  repeat' (first
    | ((with_reducible apply Sat.run (X := X64)); exact rfl; (first | exact True.intro | (exact phi) | skip))
    | ((with_reducible apply Sat.drawn); kernel_rfl)
    | ((with_reducible apply DSat.run (X := X64)); exact rfl; (first | exact True.intro | (exact phi) | skip))
    | ((with_reducible apply DSat.fin); kernel_rfl)
    | ((with_reducible apply DSat.callR (h1)); exact rfl; exact rfl; exact rfl; kernel_rfl; (exact cnvX); exact rfl) | fail)
  (refine Sat.fin (Sat.end1 rfl rfl rfl True.intro (.refl _ purX) (by first | exact .inl rfl | exact .inr rfl) (fun _ h => h)) ?_; (rw [Nat.zero_add]; rfl))
def wrU (n : Int) : Int := IntKind.u8.wrap n
theorem wrU_rng (n : Int) : 0 ≤ wrU n ∧ wrU n < 256 := by
  have e : wrU n = n % 256 := by simp [wrU, IntKind.wrap, IntKind.bits, IntKind.signed]
  rw [e]
  omega
def toN (b d : Int) : Int := if (wrU (d - b)).tmod 8 = 0 then wrU (d + 1) else d
structure Quad where
  a : Int
  b : Int
  c : Int
  d : Int
structure QuadOk (q : Quad) : Prop where
  a : 0 ≤ q.a ∧ q.a < 256
  b : 0 ≤ q.b ∧ q.b < 256
  c : 0 ≤ q.c ∧ q.c < 256
  d : 0 ≤ q.d ∧ q.d < 256
@[reducible] def quadP (q : Quad) : List SV := [.int .u8 q.a, .int .u8 q.b, .int .u8 q.c, .int .u8 q.d]
def ruleN (q : Quad) : RuleL := if q.a.tmod 3 = 0 then ⟨1, callN q.b, callN (toN q.b q.d), []⟩ else if q.a.tmod 3 = 1 then ⟨2, callN q.b, [], (valN q.b q.c).val⟩ else ⟨3, callN q.b, [], []⟩
theorem rule_spec (q : Quad) (hq : QuadOk q) : Fun Tryz.prog [] 29 [.agg (quadP q)] (.agg (ruleP (ruleN q))) := by
  obtain ⟨⟨a0, a1⟩, ⟨b0, b1⟩, ⟨c0, c1⟩, ⟨d0, d1⟩⟩ := hq
  have h1 := value_spec q.b q.c b0 b1 c0 c1
  obtain ⟨e1, e2⟩ := tm q.a a0 3 (by decide)
  refine Fun.mk 6 Tryz.func29 rfl Tryz.ntmps29 rfl rfl fun T w0 => ?_
  by_cases k1 : q.a.tmod 3 = 0
  · by_cases k2 : (wrU (q.d - q.b)).tmod 8 = 0
    · have h2 := call_spec (wrU (q.d + 1)) (wrU_rng _).1 (wrU_rng _).2
      repeat' (first
        | ((with_reducible apply Sat.run (X := X64)); exact rfl; (first | exact True.intro | (exact phi) | skip))
        | ((with_reducible apply Sat.drawn); kernel_rfl)
        | ((with_reducible apply DSat.run (X := X64)); exact rfl; (first | exact True.intro | (exact phi) | skip))
        | ((with_reducible apply DSat.fin); kernel_rfl)
        | ((with_reducible apply Sat.cond_pt); exact rfl; (try dsimp only [V.EV.sub, V.EV.len]); first | assumption | omega)
        | ((with_reducible apply Sat.callR (h1)); exact rfl; exact rfl; exact rfl; kernel_rfl; (exact cnvX); exact rfl)
        | ((with_reducible apply DSat.callR (h2)); exact rfl; exact rfl; exact rfl; kernel_rfl; (exact cnvX); exact rfl) | fail)
      (refine Sat.fin (Sat.end1 rfl rfl rfl True.intro (.refl _ purX) (by first | exact .inl rfl | exact .inr rfl) (fun _ h => h)) ?_; (unfold ruleN toN; rw [if_pos k1, if_pos k2]; rfl))
    · have h2 := call_spec q.d d0 d1
      repeat' (first
        | ((with_reducible apply Sat.run (X := X64)); exact rfl; (first | exact True.intro | (exact phi) | skip))
        | ((with_reducible apply Sat.drawn); kernel_rfl)
        | ((with_reducible apply DSat.run (X := X64)); exact rfl; (first | exact True.intro | (exact phi) | skip))
        | ((with_reducible apply DSat.fin); kernel_rfl)
        | ((with_reducible apply Sat.cond_pt); exact rfl; (try dsimp only [V.EV.sub, V.EV.len]); first | assumption | omega)
        | ((with_reducible apply Sat.cond_pf); exact rfl; (try dsimp only [V.EV.sub, V.EV.len]); first | assumption | omega)
        | ((with_reducible apply Sat.callR (h1)); exact rfl; exact rfl; exact rfl; kernel_rfl; (exact cnvX); exact rfl)
        | ((with_reducible apply DSat.callR (h2)); exact rfl; exact rfl; exact rfl; kernel_rfl; (exact cnvX); exact rfl) | fail)
      (refine Sat.fin (Sat.end1 rfl rfl rfl True.intro (.refl _ purX) (by first | exact .inl rfl | exact .inr rfl) (fun _ h => h)) ?_; (unfold ruleN toN; rw [if_pos k1, if_neg k2]; rfl))
  · by_cases k2 : q.a.tmod 3 = 1
    · repeat' (first
          | ((with_reducible apply Sat.run (X := X64)); exact rfl; (first | exact True.intro | (exact phi) | skip))
          | ((with_reducible apply Sat.drawn); kernel_rfl)
          | ((with_reducible apply DSat.run (X := X64)); exact rfl; (first | exact True.intro | (exact phi) | skip))
          | ((with_reducible apply DSat.fin); kernel_rfl)
          | ((with_reducible apply Sat.cond_t); exact rfl)
          | ((with_reducible apply Sat.cond_f); exact rfl)
          | ((with_reducible apply Sat.cond_pt); exact rfl; (try dsimp only [V.EV.sub, V.EV.len]); first | assumption | omega)
          | ((with_reducible apply Sat.cond_pf); exact rfl; (try dsimp only [V.EV.sub, V.EV.len]); first | assumption | omega)
          | ((with_reducible apply Sat.cond_p); exact rfl; all_goals intro h)
          | ((with_reducible apply Sat.cond); exact rfl; all_goals intro h)
          | ((with_reducible refine (?_ : AllP _)); ((repeat' (first | exact AllP.nil | with_reducible refine AllP.cons ?_ ?_)) <;> (first | (intro hq; exact hq) | (dsimp only [V.EV.len]; omega) | (intro hq; dsimp only [V.EV.len]; omega) | (intro hq; exact absurd hq (by decide)))))
          | ((with_reducible apply Sat.callR (h1)); exact rfl; exact rfl; exact rfl; kernel_rfl; (exact cnvX); exact rfl)
          | ((with_reducible apply DSat.callR (h1)); exact rfl; exact rfl; exact rfl; kernel_rfl; (exact cnvX); exact rfl) | fail)
      (refine Sat.fin (Sat.end1 rfl rfl rfl True.intro (.refl _ purX) (by first | exact .inl rfl | exact .inr rfl) (fun _ h => h)) ?_; (unfold ruleN; rw [if_neg k1, if_pos k2]; rfl))
    · repeat' (first
          | ((with_reducible apply Sat.run (X := X64)); exact rfl; (first | exact True.intro | (exact phi) | skip))
          | ((with_reducible apply Sat.drawn); kernel_rfl)
          | ((with_reducible apply DSat.run (X := X64)); exact rfl; (first | exact True.intro | (exact phi) | skip))
          | ((with_reducible apply DSat.fin); kernel_rfl)
          | ((with_reducible apply Sat.cond_t); exact rfl)
          | ((with_reducible apply Sat.cond_f); exact rfl)
          | ((with_reducible apply Sat.cond_pt); exact rfl; (try dsimp only [V.EV.sub, V.EV.len]); first | assumption | omega)
          | ((with_reducible apply Sat.cond_pf); exact rfl; (try dsimp only [V.EV.sub, V.EV.len]); first | assumption | omega)
          | ((with_reducible apply Sat.cond_p); exact rfl; all_goals intro h)
          | ((with_reducible apply Sat.cond); exact rfl; all_goals intro h)
          | ((with_reducible refine (?_ : AllP _)); ((repeat' (first | exact AllP.nil | with_reducible refine AllP.cons ?_ ?_)) <;> (first | (intro hq; exact hq) | (dsimp only [V.EV.len]; omega) | (intro hq; dsimp only [V.EV.len]; omega) | (intro hq; exact absurd hq (by decide)))))
          | ((with_reducible apply Sat.callR (h1)); exact rfl; exact rfl; exact rfl; kernel_rfl; (exact cnvX); exact rfl)
          | ((with_reducible apply DSat.callR (h1)); exact rfl; exact rfl; exact rfl; kernel_rfl; (exact cnvX); exact rfl) | fail)
      (refine Sat.fin (Sat.end1 rfl rfl rfl True.intro (.refl _ purX) (by first | exact .inl rfl | exact .inr rfl) (fun _ h => h)) ?_; (unfold ruleN; rw [if_neg k1, if_neg k2]; rfl))
def eqV (a b : ValL) : Bool := decide (a.name = b.name) && decide (a.val = b.val)
theorem eqV_iff (a b : ValL) : eqV a b = true ↔ a = b := by
  unfold eqV
  rw [Bool.and_eq_true, decide_eq_true_eq, decide_eq_true_eq]
  constructor
  · rintro ⟨h1, h2⟩
    cases a; cases b
    exact congr (congrArg ValL.mk h1) h2
  · rintro rfl; exact ⟨rfl, rfl⟩
def sameB : List ValL → List ValL → Bool
  | [], [] => true
  | a :: l, b :: m => eqV a b && sameB l m
  | [], _ :: _ => false
  | _ :: _, [] => false
theorem sameB_iff : ∀ l m : List ValL, sameB l m = true ↔ l = m
  | [], [] => by simp [sameB]
  | a :: l, b :: m => by rw [sameB, Bool.and_eq_true, eqV_iff, sameB_iff l m, List.cons.injEq]
  | [], _ :: _ => by simp [sameB]
  | _ :: _, [] => by simp [sameB]
theorem sameB_no {l m : List ValL} (h : l ≠ m) : sameB l m = false := by
  cases q : sameB l m with
  | false => rfl
  | true => exact absurd ((sameB_iff l m).1 q) h
theorem list_eq {l m : List ValL} (hl : l.length = m.length) (h : ∀ i, i < l.length → l.getD i v00 = m.getD i v00) : l = m := by
  apply List.ext_getElem hl
  intro i h1 h2
  have := h i h1
  rwa [List.getD_eq_getElem?_getD, List.getD_eq_getElem?_getD, List.getElem?_eq_getElem h1, List.getElem?_eq_getElem h2] at this
theorem ne_cond (a b : ValL) : (!(decide (a.name = b.name) && (decide (a.val = b.val) && true))) = !eqV a b := by
  unfold eqV
  rw [Bool.and_true]
theorem same_vals (l m : List ValL) : Fun Tryz.prog [] 41 [.ro (valE l), .ro (valE m)] (.bool (sameB l m)) := by
  refine Fun.mkF 6 Tryz.func41 rfl Tryz.ntmps41 rfl rfl fun hf T w0 => ?_
  obtain ⟨⟨hl, _⟩, ⟨hl2, _⟩, _⟩ := hf
  dsimp only [EV.len] at hl hl2
  unfold okLen at hl hl2
  by_cases hlen : l.length = m.length
  · repeat' (first
        | ((with_reducible apply Sat.run (X := X64)); exact rfl; (first | exact True.intro | (exact phi) | skip))
        | ((with_reducible apply Sat.drawn); kernel_rfl)
        | ((with_reducible apply DSat.run (X := X64)); exact rfl; (first | exact True.intro | (exact phi) | skip))
        | ((with_reducible apply DSat.fin); kernel_rfl)
        | ((with_reducible apply Sat.cond_t); exact rfl)
        | ((with_reducible apply Sat.cond_f); exact rfl)
        | ((with_reducible apply Sat.cond_pt); exact rfl; (try dsimp only [V.EV.sub, V.EV.len]); first | assumption | omega)
        | ((with_reducible apply Sat.cond_pf); exact rfl; (try dsimp only [V.EV.sub, V.EV.len]); first | assumption | omega)
        | ((with_reducible apply Sat.cond_p); exact rfl; all_goals intro h)
        | ((with_reducible apply Sat.cond); exact rfl; all_goals intro h) | fail)
    apply Sat.loop (α := Nat) (fun x => x ≤ l.length ∧ ∀ i, i < x → l.getD i v00 = m.getD i v00) (fun x => l.length - x) 0 (fun x => [(5, .int .i64 (x : Int))]) (fun _ => []) [] [] 0
    · intro x; exact rfl
    · intro x; exact rfl
    · exact rfl
    · exact rfl
    · ((repeat' (first | exact AllP.nil | with_reducible refine AllP.cons ?_ ?_)) <;> first | exact rfl | exact trivial | exact Int.natCast_add_one _ | exact ⟨rfl, rfl⟩ | exact ⟨rfl, rfl, rfl⟩ | exact ⟨rfl, rfl, rfl, rfl⟩ | exact ⟨rfl, .inl rfl⟩ | exact ⟨rfl, .inr rfl⟩ | exact pur | (intro _; exact rfl) | (intro _; exact trivial) | (intro _; exact pur) | exact pur_val _)
    · exact ⟨Nat.zero_le _, fun i hi => by omega⟩
    · rintro x ⟨x1, x2⟩
      by_cases hx : x < l.length
      · repeat' (first
            | ((with_reducible apply Sat.run (X := X64)); exact rfl; (first | exact True.intro | (exact phi) | skip))
            | ((with_reducible apply Sat.drawn); kernel_rfl)
            | ((with_reducible apply DSat.run (X := X64)); exact rfl; (first | exact True.intro | (exact phi) | skip))
            | ((with_reducible apply DSat.fin); kernel_rfl)
            | ((with_reducible apply Sat.cond_t); exact rfl)
            | ((with_reducible apply Sat.cond_f); exact rfl)
            | ((with_reducible apply Sat.cond_pt); exact rfl; (try dsimp only [V.EV.sub, V.EV.len]); first | assumption | omega)
            | ((with_reducible apply Sat.cond_pf); exact rfl; (try dsimp only [V.EV.sub, V.EV.len]); first | assumption | omega)
            | ((with_reducible apply Sat.cond_p); exact rfl; all_goals intro h)
            | ((with_reducible apply Sat.cond); exact rfl; all_goals intro h)
            | ((with_reducible refine (?_ : AllP _)); ((repeat' (first | exact AllP.nil | with_reducible refine AllP.cons ?_ ?_)) <;> (first | (intro hq; exact hq) | (dsimp only [V.EV.len]; omega) | (intro hq; dsimp only [V.EV.len]; omega) | (intro hq; exact absurd hq (by decide))))) | fail)
        · have hne : l ≠ m := fun e => by
            have h' : (!(decide ((l.getD (x : Int).toNat v00).name = (m.getD (x : Int).toNat v00).name) && (decide ((l.getD (x : Int).toNat v00).val = (m.getD (x : Int).toNat v00).val) && true))) = true := h
            rw [ne_cond, e, (eqV_iff _ _).2 rfl] at h'
            cases h'
          (refine Sat.fin (Sat.end1 rfl rfl rfl True.intro (.refl _ purX) (by first | exact .inl rfl | exact .inr rfl) (fun _ h => h)) ?_; (rw [sameB_no hne]))
        · have hh : l.getD x v00 = m.getD x v00 := by
            have h' : (!(decide ((l.getD (x : Int).toNat v00).name = (m.getD (x : Int).toNat v00).name) && (decide ((l.getD (x : Int).toNat v00).val = (m.getD (x : Int).toNat v00).val) && true))) = false := h
            rw [ne_cond, Int.toNat_natCast] at h'
            exact (eqV_iff _ _).1 (by simpa using h')
          refine Sat.back (x + 1) [] rfl ?_ ?_ ?_
          · ((repeat' (first | exact AllP.nil | with_reducible refine AllP.cons ?_ ?_)) <;> first | exact rfl | exact trivial | exact Int.natCast_add_one _ | exact ⟨rfl, rfl⟩ | exact ⟨rfl, rfl, rfl⟩ | exact ⟨rfl, rfl, rfl, rfl⟩ | exact ⟨rfl, .inl rfl⟩ | exact ⟨rfl, .inr rfl⟩ | exact pur | (intro _; exact rfl) | (intro _; exact trivial) | (intro _; exact pur) | exact pur_val _)
          · refine ⟨by omega, fun i hi => ?_⟩
            rcases Nat.lt_succ_iff_lt_or_eq.1 hi with h1 | rfl
            · exact x2 i h1
            · exact hh
          · omega
      · repeat' (first
            | ((with_reducible apply Sat.run (X := X64)); exact rfl; (first | exact True.intro | (exact phi) | skip))
            | ((with_reducible apply Sat.drawn); kernel_rfl)
            | ((with_reducible apply DSat.run (X := X64)); exact rfl; (first | exact True.intro | (exact phi) | skip))
            | ((with_reducible apply DSat.fin); kernel_rfl)
            | ((with_reducible apply Sat.cond_t); exact rfl)
            | ((with_reducible apply Sat.cond_f); exact rfl)
            | ((with_reducible apply Sat.cond_pt); exact rfl; (try dsimp only [V.EV.sub, V.EV.len]); first | assumption | omega)
            | ((with_reducible apply Sat.cond_pf); exact rfl; (try dsimp only [V.EV.sub, V.EV.len]); first | assumption | omega)
            | ((with_reducible apply Sat.cond_p); exact rfl; all_goals intro h)
            | ((with_reducible apply Sat.cond); exact rfl; all_goals intro h)
            | ((with_reducible refine (?_ : AllP _)); ((repeat' (first | exact AllP.nil | with_reducible refine AllP.cons ?_ ?_)) <;> (first | (intro hq; exact hq) | (dsimp only [V.EV.len]; omega) | (intro hq; dsimp only [V.EV.len]; omega) | (intro hq; exact absurd hq (by decide))))) | fail)
        (refine Sat.fin (Sat.end1 rfl rfl rfl True.intro (.refl _ purX) (by first | exact .inl rfl | exact .inr rfl) (fun _ h => h)) ?_; (rw [(sameB_iff l m).2 (list_eq hlen fun i hi => x2 i (by omega))]))
  · repeat' (first
        | ((with_reducible apply Sat.run (X := X64)); exact rfl; (first | exact True.intro | (exact phi) | skip))
        | ((with_reducible apply Sat.drawn); kernel_rfl)
        | ((with_reducible apply DSat.run (X := X64)); exact rfl; (first | exact True.intro | (exact phi) | skip))
        | ((with_reducible apply DSat.fin); kernel_rfl)
        | ((with_reducible apply Sat.cond_t); exact rfl)
        | ((with_reducible apply Sat.cond_f); exact rfl)
        | ((with_reducible apply Sat.cond_pt); exact rfl; (try dsimp only [V.EV.sub, V.EV.len]); first | assumption | omega)
        | ((with_reducible apply Sat.cond_pf); exact rfl; (try dsimp only [V.EV.sub, V.EV.len]); first | assumption | omega)
        | ((with_reducible apply Sat.cond_p); exact rfl; all_goals intro h)
        | ((with_reducible apply Sat.cond); exact rfl; all_goals intro h) | fail)
    (refine Sat.fin (Sat.end1 rfl rfl rfl True.intro (.refl _ purX) (by first | exact .inl rfl | exact .inr rfl) (fun _ h => h)) ?_; (rw [sameB_no fun e => hlen (by rw [e])]))
def sameS (s t : SetL) : Bool := decide (s.version = t.version) && (sameB s.vals t.vals && sameB s.kept t.kept)
theorem sameS_iff (s t : SetL) : sameS s t = true ↔ s = t := by
  unfold sameS
  rw [Bool.and_eq_true, Bool.and_eq_true, decide_eq_true_eq, sameB_iff, sameB_iff]
  constructor
  · rintro ⟨h1, h2, h3⟩
    cases s; cases t
    exact congr (congr (congrArg SetL.mk h1) h2) h3
  · rintro rfl; exact ⟨rfl, rfl, rfl⟩
theorem same_spec (s t : SetL) : Fun Tryz.prog [] 19 [s.v, t.v] (.bool (sameS s t)) := by
  have h1 := same_vals s.vals t.vals
  have h2 := same_vals s.kept t.kept
  refine Fun.mk 6 Tryz.func19 rfl Tryz.ntmps19 rfl rfl fun T w0 => ?_
  repeat' (first
    | ((with_reducible apply Sat.run (X := X64)); exact rfl; (first | exact True.intro | (exact phi) | skip))
    | ((with_reducible apply Sat.callG1 (h1)); exact rfl; exact rfl; exact rfl; exact rfl; kernel_rfl; (intro hG; (exact cnvX)); exact rfl)
    | ((with_reducible apply Sat.callG1 (h2)); exact rfl; exact rfl; exact rfl; exact rfl; kernel_rfl; (intro hG; (exact cnvX)); exact rfl) | fail)
  (refine Sat.fin (Sat.end1 rfl rfl rfl True.intro (.refl _ purX) (by first | exact .inl rfl | exact .inr rfl) (fun _ h => h)) ?_; (unfold sameS; cases decide (s.version = t.version) <;> cases sameB s.vals t.vals <;> rfl))
end Go.Proofs.YtpbgihhfcdggkaaGreatDoor
end
section
namespace Go.Proofs.YtpbgihhfcdggkaaGreatDoor
open Go.RowKit
set_option linter.unusedVariables false
theorem dec_small {u : Nat} (h : u < 10) : Lib.decDigits u = [UInt8.ofNat (48 + u)] := by rw [Lib.decDigits, dif_pos h]
theorem dec_big {u : Nat} (h : ¬ u < 10) : Lib.decDigits u = Lib.decDigits (u / 10) ++ [UInt8.ofNat (48 + u % 10)] := by rw [Lib.decDigits, dif_neg h]
theorem dig_val {d : Nat} (h : d < 10) : (UInt8.ofNat (48 + d)).toNat = 48 + d := by
  rw [UInt8.toNat_ofNat']
  omega
theorem dec_ind {P : Nat → Prop} (h1 : ∀ u, u < 10 → P u) (h2 : ∀ u, ¬ u < 10 → P (u / 10) → P u) : ∀ u, P u := by
  intro u
  induction u using Nat.strongRecOn with
  | ind u ih =>
    by_cases h : u < 10
    · exact h1 u h
    · exact h2 u h (ih (u / 10) (by omega))
theorem dec_dig : ∀ u : Nat, ∀ c ∈ Lib.decDigits u, 48 ≤ c.toNat ∧ c.toNat ≤ 57 := by
  refine dec_ind (fun u h => ?_) (fun u h ih => ?_)
  · rw [dec_small h]
    intro c hc
    rw [List.mem_singleton.1 hc, dig_val h]
    omega
  · rw [dec_big h]
    intro c hc
    rcases List.mem_append.1 hc with hc | hc
    · exact ih c hc
    · rw [List.mem_singleton.1 hc, dig_val (Nat.mod_lt u (by decide))]
      omega
theorem dec_ne (u : Nat) : Lib.decDigits u ≠ [] := by
  by_cases h : u < 10
  · rw [dec_small h]; simp
  · rw [dec_big h]; simp
theorem dec_len : ∀ (k u : Nat), u < 10 ^ (k + 1) → (Lib.decDigits u).length ≤ k + 1
  | 0, u, h => by rw [dec_small (by simpa using h)]; simp
  | k + 1, u, h => by
    by_cases h1 : u < 10
    · rw [dec_small h1]; simp
    · rw [dec_big h1, List.length_append, List.length_singleton]
      have := dec_len k (u / 10) (by rw [Nat.pow_succ] at h; omega)
      omega
def numD (s : List UInt8) : Int := s.foldl (fun n c => 10 * n + (c.toNat : Int) - 48) 0
theorem numD_dec : ∀ u : Nat, numD (Lib.decDigits u) = (u : Int) := by
  refine dec_ind (fun u h => ?_) (fun u h ih => ?_)
  · unfold numD
    rw [dec_small h, List.foldl_cons, List.foldl_nil, dig_val h]
    omega
  · unfold numD at ih ⊢
    rw [dec_big h, List.foldl_append, ih, List.foldl_cons, List.foldl_nil, dig_val (Nat.mod_lt u (by decide))]
    omega
theorem parse_app : ∀ (l : List UInt8) (acc : Nat) (c : UInt8), Lib.parseUint10 acc (l ++ [c]) = match Lib.parseUint10 acc l with
    | .ok a => Lib.parseUint10 a [c]
    | .syntax => .syntax
    | .range => .range
  | [], acc, c => rfl
  | x :: l, acc, c => by
    simp only [List.cons_append, Lib.parseUint10]
    split
    · split
      · rfl
      · split
        · rfl
        · exact parse_app l _ c
    · rfl
theorem parse_dec : ∀ u : Nat, u ≤ 100000000000000000 → Lib.parseUint10 0 (Lib.decDigits u) = .ok u := by
  refine dec_ind (fun u h _ => ?_) (fun u h ih hu => ?_)
  · rw [dec_small h]
    simp only [Lib.parseUint10]
    rw [dig_val h, if_pos (by omega), if_neg (by omega), if_neg (by omega)]
    congr 1
    omega
  · rw [dec_big h, parse_app, ih (by omega)]
    dsimp only
    simp only [Lib.parseUint10]
    have hm := Nat.mod_lt u (show 0 < 10 by decide)
    rw [dig_val hm, if_pos (by omega), if_neg (by omega), if_neg (by omega)]
    congr 1
    omega
def numV (s : List UInt8) : Int := match Lib.atoiAll s with
  | .ok v => v
  | .range => Lib.atoiSat s
  | _ => 0
theorem itoa_nat {v : Int} (h : 0 ≤ v) : Lib.itoa v = Lib.decDigits v.toNat := by
  unfold Lib.itoa
  rw [if_neg (by omega)]
theorem atoi_itoa {v : Int} (h0 : 0 ≤ v) (h1 : v ≤ 60000) : Lib.atoiAll (Lib.itoa v) = .ok v := by
  rw [itoa_nat h0]
  have hp := parse_dec v.toNat (by omega)
  have hd := dec_dig v.toNat
  have hne := dec_ne v.toNat
  generalize Lib.decDigits v.toNat = l at *
  cases l with
  | nil => exact absurd rfl hne
  | cons c r =>
    have hc := hd c (List.mem_cons_self ..)
    unfold Lib.atoiAll
    dsimp only
    rw [if_neg (show ¬ (c.toNat = 43 ∨ c.toNat = 45) by omega)]
    unfold Lib.parseMag
    rw [if_neg hne, hp]
    dsimp only
    rw [if_neg (by omega), if_neg (by omega), if_neg (by omega)]
    congr 1
    omega
theorem numV_itoa {v : Int} (h0 : 0 ≤ v) (h1 : v ≤ 60000) : numV (Lib.itoa v) = v := by
  unfold numV
  rw [atoi_itoa h0 h1]
theorem itoa_not {v : Int} (h0 : 0 ≤ v) (c : UInt8) (hc : c.toNat < 48) : c ∉ Lib.itoa v := fun hm => by
  rw [itoa_nat h0] at hm
  have := dec_dig _ c hm
  omega
def cutP (s : List UInt8) : List UInt8 := if (setW ++ [32]).isPrefixOf s then s.drop 9 else s
def readP (s : List UInt8) : SetL := ⟨numV (cutP ((linesB s).headD [])), ((linesB s).tail.foldl stepB ([], [])).1, ((linesB s).tail.foldl stepB ([], [])).2⟩
theorem cutP_set (d : List UInt8) : cutP (setW ++ 32 :: d) = d := by
  unfold cutP setW
  simp [List.isPrefixOf]
theorem readP_print (s : SetL) (h : ValidS s) : readP (printS Lib.itoa s) = s := by
  have hv := (validS_iff s).2 h
  unfold printS
  rw [if_pos hv]
  have h0 := h.ver
  obtain ⟨h1, h2⟩ := read_print (Lib.itoa s.version) (itoa_not h.ver.1 10 (by decide)) s.vals s.kept h.right h.kept
  unfold readP
  rw [h1, h2, cutP_set, numV_itoa h.ver.1 h.ver.2]
def numR (s : List UInt8) : Int := numD (s.take 5)
def stepR (acc : List ValL × List ValL) (l : List UInt8) : List ValL × List ValL :=
  let v : ValL := ⟨(cutF 32 (cutF 32 l).2).1, (cutF 32 (cutF 32 l).2).2⟩
  if (cutF 32 l).1 = valW then (acc.1 ++ [v], acc.2) else if l = keptZ then (acc.1, acc.2 ++ [val0]) else (acc.1, acc.2 ++ [v])
def refK : Nat → List ValL × List ValL → List UInt8 → List ValL × List ValL
  | 0, acc, _ => acc
  | n + 1, acc, r => if r ≠ [] ∧ acc.1.length + acc.2.length ≤ 32 then refK n (stepR acc (cutF 10 r).1) (cutF 10 r).2 else acc
def readR (s : List UInt8) : SetL := ⟨numR (cutF 32 (cutF 10 s).1).2, (refK s.length ([], []) (cutF 10 s).2).1, (refK s.length ([], []) (cutF 10 s).2).2⟩
theorem stepR_val (acc : List ValL × List ValL) (v : ValL) (h : rightV v = true) : stepR acc (valLn v) = stepB acc (valLn v) := by
  have hw : (cutF 32 (valLn v)).1 = valW := by
    unfold valLn
    rw [cutF_app 32 valW _ (by decide)]
  unfold stepR stepB
  rw [if_pos hw, if_pos hw]
theorem stepR_kept (acc : List ValL × List ValL) (v : ValL) (h : v = val0 ∨ rightV v = true) : stepR acc (keptLn v) = stepB acc (keptLn v) := by
  unfold keptLn
  split
  · rfl
  · have hw : (cutF 32 (keptW ++ 32 :: (v.name ++ 32 :: v.val))).1 = keptW := by rw [cutF_app 32 keptW _ (by decide)]
    unfold stepR stepB
    rw [hw]
    simp only [if_pos]
theorem refK_lines : ∀ (L : List (List UInt8)) (n : Nat) (acc : List ValL × List ValL), (∀ x ∈ L, (10 : UInt8) ∉ x ∧ ∀ a, stepR a x = stepB a x) → (∀ x ∈ L, ∀ a, (stepB a x).1.length + (stepB a x).2.length = a.1.length + a.2.length + 1) → L.length ≤ n → acc.1.length + acc.2.length + L.length ≤ 33 → refK n acc (joinB L) = L.foldl stepB acc
  | [], n, acc, _, _, _, _ => by
    cases n with
    | zero => rfl
    | succ n => rw [refK, if_neg (by simp [joinB])]; rfl
  | x :: L, 0, acc, _, _, h, _ => by simp at h
  | x :: L, n + 1, acc, h1, h2, h3, h4 => by
    have e : joinB (x :: L) = x ++ 10 :: joinB L := by simp [joinB]
    have hx := h1 x (List.mem_cons_self ..)
    rw [refK, if_pos ⟨by rw [e]; simp, by simp at h4; omega⟩, e, cutF_app 10 x _ hx.1, List.foldl_cons, hx.2]
    refine refK_lines L n _ (fun y hy => h1 y (List.mem_cons_of_mem _ hy)) (fun y hy => h2 y (List.mem_cons_of_mem _ hy)) (by simpa using h3) ?_
    rw [h2 x (List.mem_cons_self ..)]
    simp at h4
    omega
theorem joinB_len : ∀ L : List (List UInt8), L.length ≤ (joinB L).length
  | [] => Nat.zero_le _
  | x :: L => by
    have := joinB_len L
    have e : joinB (x :: L) = x ++ 10 :: joinB L := by simp [joinB]
    rw [e]
    simp
    omega
theorem readR_print (s : SetL) (h : ValidS s) : readR (printS Lib.itoa s) = s := by
  have hv := (validS_iff s).2 h
  unfold printS
  rw [if_pos hv]
  have e : printD (Lib.itoa s.version) s.vals s.kept = (setW ++ 32 :: Lib.itoa s.version) ++ 10 :: joinB (s.vals.map valLn ++ s.kept.map keptLn) := by simp [printD, joinB]
  have h10 : (10 : UInt8) ∉ setW ++ 32 :: Lib.itoa s.version := by
    have := itoa_not h.ver.1 10 (by decide)
    simp [setW, this]
  have hn : numR (Lib.itoa s.version) = s.version := by
    have hd := dec_len 4 s.version.toNat (by have := h.ver; omega)
    unfold numR
    rw [itoa_nat h.ver.1, List.take_of_length_le hd, numD_dec]
    have := h.ver
    omega
  have hk : refK (printD (Lib.itoa s.version) s.vals s.kept).length ([], []) (joinB (s.vals.map valLn ++ s.kept.map keptLn)) = (s.vals, s.kept) := by
    rw [refK_lines]
    · rw [List.foldl_append, fold_val s.vals _ h.right, fold_kept s.kept _ h.kept]
      simp
    · intro x hx
      rcases List.mem_append.1 hx with hx | hx
      · obtain ⟨v, h1, rfl⟩ := List.mem_map.1 hx
        exact ⟨valLn_10 v (h.right v h1), fun a => stepR_val a v (h.right v h1)⟩
      · obtain ⟨v, h1, rfl⟩ := List.mem_map.1 hx
        exact ⟨keptLn_10 v (h.kept v h1), fun a => stepR_kept a v (h.kept v h1)⟩
    · intro x hx a
      rcases List.mem_append.1 hx with hx | hx
      · obtain ⟨v, h1, rfl⟩ := List.mem_map.1 hx
        rw [step_val a v (h.right v h1)]
        simp
        omega
      · obtain ⟨v, h1, rfl⟩ := List.mem_map.1 hx
        rw [step_kept a v (h.kept v h1)]
        simp
        omega
    · rw [e]
      have := joinB_len (s.vals.map valLn ++ s.kept.map keptLn)
      simp only [List.length_append, List.length_cons] at this ⊢
      omega
    · have := h.few
      simp
      omega
  have hc : cutF 10 (printD (Lib.itoa s.version) s.vals s.kept) = (setW ++ 32 :: Lib.itoa s.version, joinB (s.vals.map valLn ++ s.kept.map keptLn)) := by rw [e, cutF_app 10 _ _ h10]
  unfold readR
  rw [hc]
  dsimp only
  rw [hk, cutF_app 32 setW _ (by decide), hn]
end Go.Proofs.YtpbgihhfcdggkaaGreatDoor
end
section
namespace Go.Proofs.YtpbgihhfcdggkaaGreatDoor
open Go.RowKit
set_option linter.unusedVariables false
def spl (c : UInt8) : List UInt8 → List (List UInt8)
  | [] => [[]]
  | b :: r => if b = c then [] :: spl c r else match spl c r with
    | [] => [[b]]
    | x :: y => (b :: x) :: y
theorem spl_miss (c : UInt8) : ∀ s : List UInt8, c ∉ s → spl c s = [s]
  | [], _ => rfl
  | b :: r, h => by
    simp only [List.mem_cons, not_or] at h
    rw [spl, if_neg (Ne.symm h.1), spl_miss c r h.2]
theorem spl_hit (c : UInt8) (r : List UInt8) : ∀ p : List UInt8, c ∉ p → spl c (p ++ c :: r) = p :: spl c r
  | [], _ => by rw [List.nil_append, spl, if_pos rfl]
  | b :: p, h => by
    simp only [List.mem_cons, not_or] at h
    rw [List.cons_append, spl, if_neg (Ne.symm h.1), spl_hit c r p h.2]
theorem ib_miss (c : UInt8) : ∀ s : List UInt8, c ∉ s → Lib.indexByte s c = -1
  | [], _ => rfl
  | b :: r, h => by
    simp only [List.mem_cons, not_or] at h
    have e : (b == c) = false := by simpa using Ne.symm h.1
    simp [Lib.indexByte, e, ib_miss c r h.2]
theorem ib_hit (c : UInt8) (r : List UInt8) : ∀ p : List UInt8, c ∉ p → Lib.indexByte (p ++ c :: r) c = p.length
  | [], _ => by simp [Lib.indexByte]
  | b :: p, h => by
    simp only [List.mem_cons, not_or] at h
    have e : (b == c) = false := by simpa using Ne.symm h.1
    have e2 : (((p.length : Nat) : Int) == -1) = false := by
      cases hq : (((p.length : Nat) : Int) == -1) with
      | false => rfl
      | true => have := beq_iff_eq.1 hq; omega
    simp only [List.cons_append, Lib.indexByte, e, ib_hit c r p h.2, e2, List.length_cons]
    simp
theorem at_first (c : UInt8) (s : List UInt8) : c ∉ s ∨ ∃ p r, c ∉ p ∧ s = p ++ c :: r := by
  by_cases h : c ∈ s
  · obtain ⟨p, r, h1, h2⟩ := List.eq_append_cons_of_mem h
    exact .inr ⟨p, r, h2, h1⟩
  · exact .inl h
theorem split_spl (c : UInt8) : ∀ (n : Nat) (s : List UInt8), s.length ≤ n → Lib.splitK [c] 0 (Lib.count s [c]) s = spl c s := by
  intro n
  induction n with
  | zero =>
    intro s hs
    obtain rfl : s = [] := List.eq_nil_of_length_eq_zero (by omega)
    rw [Lib.count_miss (by rw [Lib.index_one]; rfl)]
    rfl
  | succ n ih =>
    intro s hs
    rcases at_first c s with h | ⟨p, r, h, rfl⟩
    · rw [Lib.count_miss (by rw [Lib.index_one, ib_miss c s h]), spl_miss c s h]
      rfl
    · have hi : Lib.index (p ++ c :: r) [c] = (p.length : Int) := by rw [Lib.index_one, ib_hit c r p h]
      have hd : (p ++ c :: r).drop (p.length + 1) = r := by
        rw [← List.drop_drop, List.drop_left]
        rfl
      have hcount := Lib.count_hit (s := p ++ c :: r) (sub := [c]) (i := p.length) (by simp) hi
      rw [show p.length + ([c] : List UInt8).length = p.length + 1 from rfl, hd] at hcount
      rw [hcount, Nat.add_comm 1, Lib.splitK, hi]
      have e2 : (((p.length : Nat) : Int) == -1) = false := by
        cases hq : (((p.length : Nat) : Int) == -1) with
        | false => rfl
        | true => have := beq_iff_eq.1 hq; omega
      rw [e2, spl_hit c r p h, Int.toNat_natCast, show p.length + ([c] : List UInt8).length = p.length + 1 from rfl, hd, Nat.add_zero, List.take_left]
      simp only [Bool.false_eq_true, if_false]
      rw [ih r (by simp only [List.length_append, List.length_cons] at hs; omega)]
theorem cut_miss (c : UInt8) (s : List UInt8) (h : c ∉ s) : Lib.cut s [c] = (s, [], false) := by
  unfold Lib.cut
  rw [Lib.index_one, ib_miss c s h]
  rfl
theorem cut_hit (c : UInt8) (p r : List UInt8) (h : c ∉ p) : Lib.cut (p ++ c :: r) [c] = (p, r, true) := by
  unfold Lib.cut
  rw [Lib.index_one, ib_hit c r p h, if_pos (by omega), Int.toNat_natCast, List.take_left, show p.length + ([c] : List UInt8).length = p.length + 1 from rfl, ← List.drop_drop, List.drop_left]
  rfl
theorem spl_len (c : UInt8) : ∀ s : List UInt8, (spl c s).length ≤ s.length + 1 ∧ ∀ x ∈ spl c s, x.length ≤ s.length
  | [] => by simp [spl]
  | b :: r => by
    obtain ⟨h1, h2⟩ := spl_len c r
    rw [spl]
    split
    · refine ⟨by simp only [List.length_cons]; omega, fun x hx => ?_⟩
      rcases List.mem_cons.1 hx with rfl | hx
      · simp
      · have := h2 x hx
        simp only [List.length_cons]
        omega
    · split
      · exact ⟨by simp, fun x hx => by simp only [List.mem_singleton] at hx; subst hx; simp⟩
      · rename_i x y hy
        rw [hy] at h1 h2
        refine ⟨by simp only [List.length_cons] at h1 ⊢; omega, fun z hz => ?_⟩
        rcases List.mem_cons.1 hz with rfl | hz
        · have := h2 x (List.mem_cons_self ..)
          simp only [List.length_cons]
          omega
        · have := h2 z (List.mem_cons_of_mem _ hz)
          simp only [List.length_cons]
          omega
theorem spl_get (c : UInt8) (s : List UInt8) (i : Nat) : ((spl c s).getD i []).length ≤ s.length := by
  rw [List.getD_eq_getElem?_getD]
  cases h : (spl c s)[i]? with
  | none => simp
  | some x => exact (spl_len c s).2 x (List.mem_of_getElem? h)
theorem cut_len (s p : List UInt8) : (Lib.cut s p).1.length ≤ s.length ∧ (Lib.cut s p).2.1.length ≤ s.length := by
  unfold Lib.cut
  split
  · exact ⟨by rw [List.length_take]; omega, by rw [List.length_drop]; omega⟩
  · exact ⟨Nat.le_refl _, Nat.zero_le _⟩
theorem spl_lines : ∀ s : List UInt8, spl 10 s = linesB s
  | [] => rfl
  | x :: s => by
    rw [spl, linesB, spl_lines s]
    by_cases h : x = 10
    · rw [if_pos h, decide_eq_true h]; rfl
    · rw [if_neg h, decide_eq_false h, cond_false]
      cases linesB s <;> rfl
theorem cutF_miss (c : UInt8) : ∀ s : List UInt8, c ∉ s → cutF c s = (s, [])
  | [], _ => rfl
  | x :: s, h => by
    simp only [List.mem_cons, not_or] at h
    rw [cutF, decide_eq_false (Ne.symm h.1), cond_false, cutF_miss c s h.2]
theorem cut_F (c : UInt8) (s : List UInt8) : (Lib.cut s [c]).1 = (cutF c s).1 ∧ (Lib.cut s [c]).2.1 = (cutF c s).2 := by
  rcases at_first c s with h | ⟨p, r, h, rfl⟩
  · rw [cut_miss c s h, cutF_miss c s h]; exact ⟨rfl, rfl⟩
  · rw [cut_hit c p r h, cutF_app c p r h]; exact ⟨rfl, rfl⟩
theorem cutP_len (s : List UInt8) : (cutP s).length ≤ s.length := by
  unfold cutP
  split
  · rw [List.length_drop]; omega
  · exact Nat.le_refl _
end Go.Proofs.YtpbgihhfcdggkaaGreatDoor
end
section
namespace Go.Proofs.YtpbgihhfcdggkaaGreatDoor.V
open Go.RowKit
section
variable {C : Ctx} {Q0 : Exit → Act → World → Prop} {F F' F1 F2 : Tr} {M M' : Mem} {ids : List Nat} {k : List Kont} {full rest : List Oper}
variable {i s n : Nat} {ta tb elem t : TypeId} {old m : List UInt8}
end
end Go.Proofs.YtpbgihhfcdggkaaGreatDoor.V
end
section
namespace Go.Proofs.YtpbgihhfcdggkaaGreatDoor.V
open Go.RowKit
structure CheckOk (P : Program) (f : FuncId) (t : TypeId) : Prop where
  used : ∀ (b : Nat) (w : World), w.cell? ⟨b, 0, none⟩ = some (.pointer (some ⟨b, 0, none⟩)) → Calls P f #[.pointer (some ⟨b, 0, none⟩)] w fun e w' => e = .returned (.tuple #[]) ∧ w' = w
  fresh : ∀ (b : Nat) (w : World), w.cell? ⟨b, 0, none⟩ = some (.pointer none) → w.shape? b = some (t, 2) → w.frozen? ⟨b, 0, none⟩ = false →
    Calls P f #[.pointer (some ⟨b, 0, none⟩)] w fun e w' => e = .returned (.tuple #[]) ∧ w' = w.setCell ⟨b, 0, none⟩ (.pointer (some ⟨b, 0, none⟩))
section
variable {C : Ctx} {Q0 : Exit → Act → World → Prop} {F F' : Tr} {M M' : Mem} {ids : List Nat} {k : List Kont} {full rest : List Oper} {i : Nat} {t : TypeId} {s0 : SV}
theorem Sat.checkF {d : Option Tmp} {x : Operand} {f : FuncId} {xs : List Operand} {ats : Array TypeId} {type : TypeId} {pos : String} {after : Array Edge}
    (hspec : CheckOk C.P f t) (hx : argsF C.Γ F x xs = some (f, [.ptr i 0])) (hc : callable C.P f = true) (hf : find M i = some (.cells t [.nilp, s0])) (h1 : s0.one = true) (hM : upd M i (.cells t [.ptr i 0, s0]) = some M')
    (hp : putD C.N F d (some (.tup [])) some = some F') (h : Sat C Q0 (.reg full rest F' M' ids k)) :
    Sat C Q0 (.reg full (⟨d, .call ⟨.value x, ⟨xs⟩, ats⟩, type, pos, after, none⟩ :: rest) F M ids k) := by
  intro U E a w hsup hst
  obtain ⟨F1, e1, e2⟩ := putD_inv hp
  cases e1
  refine wpList_plain rfl fun K hK => ?_
  unfold Oper.wp
  obtain ⟨vs, ht, hex⟩ := argsF_ok hst.vw hx
  rw [hex, run_callFunc_go hc]
  cases ht with
  | cons _ v0 _ vs hr ht =>
  cases ht
  cases hr with
  | ptr _ _ b hE =>
  obtain ⟨hlt, cs, hh, hI⟩ := hst.mem.at hf hE
  cases hI with
  | one _ c0 _ cs1 p0 pr pI =>
  cases pr
  cases pI with
  | arr _ _ _ _ _ _ _ => simp [SV.one] at h1
  | one _ c1 _ cs2 q0 qr qI =>
  cases qI
  refine (hspec.fresh b w (by simp [World.cell?, hh]) (by simp [World.shape?, hh]) (by simp [World.frozen?, hh])).mono ?_
  rintro en w' ⟨rfl, rfl⟩
  have hw : w.setCell ⟨b, 0, none⟩ (.pointer (some ⟨b, 0, none⟩)) = w.setRow b ([Value.pointer (some ⟨b, 0, none⟩), c1]).toArray := by
    rw [setCell_eq_setRow w b 0 _ t (0, 0) _ hh]
    rfl
  rw [hw]
  have hst' : St C F M' U E a (w.setRow b ([Value.pointer (some ⟨b, 0, none⟩), c1]).toArray) := hst.upd_ hM hf hE hh rfl ⟨_, setRow_heap w b _ _ t (0, 0) hh, .one _ _ _ _ rfl (.ptr i 0 b hE) (upd_items hst hM hf hE hh rfl (.one _ _ _ _ h1 qr .nil))⟩
  exact hK _ _ (h U E _ _ hsup (hst'.putD e2 fun s' hs' => by cases hs'; exact .tup [] [] .nil))
theorem Sat.checkU {d : Option Tmp} {x : Operand} {f : FuncId} {xs : List Operand} {ats : Array TypeId} {type : TypeId} {pos : String} {after : Array Edge} {l : List SV}
    (hspec : CheckOk C.P f t) (hx : argsF C.Γ F x xs = some (f, [.ptr i 0])) (hc : callable C.P f = true) (hf : find M i = some (.cells t (.ptr i 0 :: l)))
    (hp : putD C.N F d (some (.tup [])) some = some F') (h : Sat C Q0 (.reg full rest F' M ids k)) :
    Sat C Q0 (.reg full (⟨d, .call ⟨.value x, ⟨xs⟩, ats⟩, type, pos, after, none⟩ :: rest) F M ids k) := by
  intro U E a w hsup hst
  obtain ⟨F1, e1, e2⟩ := putD_inv hp
  cases e1
  refine wpList_plain rfl fun K hK => ?_
  unfold Oper.wp
  obtain ⟨vs, ht, hex⟩ := argsF_ok hst.vw hx
  rw [hex, run_callFunc_go hc]
  cases ht with
  | cons _ v0 _ vs hr ht =>
  cases ht
  cases hr with
  | ptr _ _ b hE =>
  obtain ⟨hlt, cs, hh, hI⟩ := hst.mem.at hf hE
  cases hI with
  | one _ c0 _ cs1 p0 pr pI =>
  cases pr with
  | ptr _ _ b2 hE2 =>
  have hbb : b2 = b := by rw [hE] at hE2; cases hE2; rfl
  subst hbb
  refine (hspec.used b2 w (by simp [World.cell?, hh])).mono ?_
  rintro en w' ⟨rfl, rfl⟩
  exact hK _ _ (h U E _ _ hsup (hst.putD e2 fun s' hs' => by cases hs'; exact .tup [] [] .nil))
end
end Go.Proofs.YtpbgihhfcdggkaaGreatDoor.V
end
section
namespace Go.Proofs.YtpbgihhfcdggkaaGreatDoor.V
open Go.RowKit
structure BStrOk (P : Program) (f : FuncId) (t e : TypeId) : Prop where
  row : ∀ (B b g cap : Nat) (p : Value) (cur : Array Value) (l : List UInt8) (w : World), w.heap[b]? = some (.cells #[p, .slice (some ⟨g, 0, none⟩) l.length cap] t (0, 0)) → w.heap[g]? = some (.cells cur e (0, 0)) → B ≤ g →
    l.length ≤ cap → cap ≤ maxLen → l.length ≤ cur.size → (∀ j x, l[j]? = some x → w.cell? ⟨g, j, none⟩ = some (.int .u8 x.toNat)) → l ≠ [] →
    Calls P f #[.pointer (some ⟨b, 0, none⟩)] w fun en w' => en = .returned (.string ⟨l.toArray⟩) ∧ Below B w w'
  nil : ∀ (B b : Nat) (p : Value) (w : World), (p = .pointer none ∨ p = .pointer (some ⟨b, 0, none⟩)) → w.heap[b]? = some (.cells #[p, .slice none 0 0] t (0, 0)) → B ≤ b → B ≤ w.heap.size →
    Calls P f #[.pointer (some ⟨b, 0, none⟩)] w fun en w' => en = .returned (.string ⟨#[]⟩) ∧ Below B w w'
section
variable {C : Ctx} {Q0 : Exit → Act → World → Prop} {F F' : Tr} {M : Mem} {ids : List Nat} {k : List Kont} {full rest : List Oper} {i : Nat} {t e : TypeId} {s0 : SV} {U : Nat → Prop} {E : Env} {a : Act} {w w' : World}
theorem St.forgetAll (hst : St C F M U E a w) (hh : C.hold = []) (hG : ∀ w', Below C.W0.heap.size C.W0 w' → GOk C.Γ C.T0 w') (hS : ∀ b, ¬ C.S b) (hb : Below C.W0.heap.size w w') (D : Nat) : St C (Tr.mk D) [] U E a w' where
  defers := hst.defers
  size := hst.size
  slots := fun t s h => by rw [mk_get] at h; cases h
  mem := ⟨fun id B hf => by simp [find] at hf, fun id id' b hf => by simp [find] at hf⟩
  own := fun id b hf => by simp [find] at hf
  fresh := hst.fresh
  kp := ⟨hb.os.trans hst.kp.os, hb.tape.trans hst.kp.tape, hb.output.trans hst.kp.output, ⟨Nat.le_trans hst.kp.chg.size hb.size, fun x hx hn => (hb.block x hx).trans (hst.kp.chg.keep x hx hn), fun x hx => by
    have := hst.kp.chg.shape x hx
    rw [← this]
    simp only [World.shape?, hb.block x hx]⟩⟩
  hid := hst.hid
  glob := (hG w' ⟨hb.os.trans hst.kp.os, hb.tape.trans hst.kp.tape, hb.output.trans hst.kp.output, Nat.le_trans hst.kp.chg.size hb.size, fun x hx => (hb.block x hx).trans (hst.kp.chg.keep x hx (hS x))⟩).mono (fun b _ h => by
    rcases h with ⟨id, B, hf, _⟩ | h
    · simp [find] at hf
    · exact h) (Chg.refl _ w')
  pin := fun p hp => by rw [hh] at hp; cases hp
  held := fun p hp => by rw [hh] at hp; cases hp
theorem Sat.bstr {d : Option Tmp} {x : Operand} {f : FuncId} {xs : List Operand} {ats : Array TypeId} {type : TypeId} {pos : String} {after : Array Edge} {j n : Nat} {l : List UInt8} (D : Nat)
    (hspec : BStrOk C.P f t e) (hx : argsF C.Γ F x xs = some (f, [.ptr i 0])) (hc : callable C.P f = true) (hf : find M i = some (.cells t [s0, .row j 0 1 0 n])) (h1 : s0.one = true) (hj : find M j = some (.row e (.u8 l)))
    (hh : C.hold = []) (hG : ∀ w', Below C.W0.heap.size C.W0 w' → GOk C.Γ C.T0 w') (hS : ∀ b, ¬ C.S b) (hp : putD C.N (Tr.mk D) d (some (.str l)) some = some F') (hn : n = l.length) (h0 : l ≠ []) (h : Sat C Q0 (.reg full rest F' [] ids k)) :
    Sat C Q0 (.reg full (⟨d, .call ⟨.value x, ⟨xs⟩, ats⟩, type, pos, after, none⟩ :: rest) F M ids k) := by
  intro U E a w hsup hst
  obtain ⟨F1, e1, e2⟩ := putD_inv hp
  cases e1
  refine wpList_plain rfl fun K hK => ?_
  unfold Oper.wp
  obtain ⟨vs, ht, hex⟩ := argsF_ok hst.vw hx
  rw [hex, run_callFunc_go hc]
  cases ht with
  | cons _ v0 _ vs hr ht =>
  cases ht
  cases hr with
  | ptr _ _ b hE =>
  obtain ⟨hlt, cs, hh1, hI⟩ := hst.mem.at hf hE
  have hpos : 0 < l.length := List.length_pos_iff.2 h0
  cases hI with
  | arr _ _ _ _ _ _ _ => simp [SV.one] at h1
  | one _ c0 _ cs1 p0 pr pI =>
  cases pI with
  | one _ c1 _ cs2 q0 qr qI =>
  cases qI
  cases qr with
  | row0 _ _ _ _ _ hEj hz => omega
  | row _ _ _ _ _ g o c n' t' hEj hs hoff hl ok =>
  have hc0 : c ≠ 0 := by omega
  obtain ⟨ho1, ho2⟩ := hoff hc0
  simp only [Nat.zero_mul, Nat.add_zero] at ho1
  subst ho1
  obtain ⟨hg, cur, cc, hc0', hc1, hc2, hc3, hc4⟩ := hst.mem.at hj hEj
  simp only [EV.len, EV.sz, Nat.mul_one] at hc1 hc2 hc3 hc4
  have hgo : C.W0.heap.size ≤ g := (hst.own j g (by rw [hj]; rfl) hEj).resolve_right (hS g)
  have hh2 : w.heap[b]? = some (.cells #[c0, .slice (some ⟨g, 0, none⟩) l.length c] t (0, 0)) := by rw [← hn]; exact hh1
  refine (hspec.row C.W0.heap.size b g c c0 cur.toArray l w hh2 hc0' hgo (by omega) ok (by simpa using hc1) (fun y x hx => ?_) h0).mono ?_
  · have hy : y < l.length := (List.getElem?_eq_some_iff.1 hx).1
    have hI4 := hc4 y hy
    simp only [EV.items] at hI4
    have hc5 := hc3 y 0
    generalize cc y = cx at hI4 hc5
    cases hI4 with
    | one _ cv _ _ p0 pr pI =>
      have h4 := hc5 cv hy rfl
      cases pr
      rw [List.getD_eq_getElem?_getD, hx] at h4
      simp only [World.cell?, hc0']
      simpa using h4
  · rintro en w' ⟨rfl, hb⟩
    have hokl : okLen l.length := by unfold okLen at ok ⊢; omega
    exact hK _ _ (h U E _ _ hsup ((hst.forgetAll hh hG hS hb D).putD e2 fun s' hs' => by cases hs'; exact .str l hokl))
theorem Fun.mkG {P : Program} {Γ : Glob} {f : FuncId} {fn : Func} {c : Code} {N : Nat} {args : List SV} {res : SV} {F : Tr} (dep : Nat) (hf : P.funcs[f]? = some fn) (hb : fn.body = some c) (hN : fn.ntmps = N) (hle : Nat.ble args.length N = true) (hF : argT 0 args (Tr.mk dep) = some F)
    (h : factsL args → ∀ (T : Nat → Prop) (w : World), (∀ w', Below w.heap.size w w' → GOk Γ T w') → Sat ⟨P, w, fun _ => False, T, Γ, N, [], [], false⟩ (bodyPost P fn (Post T w res)) (.code c F [] ids0 [])) : Fun P Γ f args res := by
  intro T w vs hT hG ht
  have hle' := Nat.le_of_ble_eq_true hle
  have hlen := ht.len
  refine calls_of_wp hf hb (h ht.facts T w (fun w' hb => hG.mono (fun _ _ h => h) (Chg.of_below hb)) (fun _ => True) E0 _ w ?_ ⟨rfl, ?_, fun t s hs => ?_, ⟨fun id B hf => by simp [find] at hf, fun id id' b hf => by simp [find] at hf⟩, fun id b hf => by simp [find] at hf, fun _ _ => rfl, ⟨rfl, rfl, rfl, Chg.refl _ w⟩, fun b hb => .inl ⟨hT b hb, fun h => h⟩, hG.mono (fun b _ hb => by rcases hb with ⟨id, B, hf, _⟩ | h0 <;> first | (simp [find] at hf; done) | exact h0) (Chg.refl _ w), fun p hp => (by cases hp), fun p hp => (by cases hp)⟩)
  · have : ∀ (l : List Nat) (n : Nat) (U : Nat → Prop), (∀ i, i < l.length → l[i]? = some (n + i)) → (∀ k, n ≤ k → U k) → Sup l U := by
      intro l
      induction l with
      | nil => intro n _ _ _; trivial
      | cons i r ih =>
        intro n U hl hU
        have hi : i = n := by simpa using hl 0 (by simp)
        refine ⟨hU i (by omega), ih (n + 1) _ (fun j hj => ?_) fun k hk => ⟨hU k (by omega), by omega⟩⟩
        have := hl (j + 1) (by simpa using hj)
        simpa [Nat.add_assoc, Nat.add_comm 1 j] using this
    exact this ids0 0 _ (by decide) fun _ _ => trivial
  · simp only [Array.size_append, List.size_toArray, Array.size_replicate, hlen, hN]; omega
  · rcases argT_get hF ht t s hs with ⟨q1, _⟩ | ⟨_, v, q2, q3⟩ | ⟨_, q2⟩
    · omega
    · have hlt : t < vs.length := by simpa using (List.getElem?_eq_some_iff.1 q2).1
      have : (vs.toArray ++ Array.replicate (fn.ntmps - vs.toArray.size) undef).getD t undef = v := by
        rw [Array.getD_eq_getD_getElem?, Array.getElem?_append_left (by simpa using hlt)]
        simp only [Nat.sub_zero] at q2
        simp [q2]
      rw [this]
      exact q3.mono (fun _ _ h => h) (fun b _ hb => by rcases hb with ⟨id, B, hf, _⟩ | h0 <;> first | (simp [find] at hf; done) | exact h0) (Chg.refl _ w)
    · rw [mk_get] at q2; cases q2
end
end Go.Proofs.YtpbgihhfcdggkaaGreatDoor.V
end
section
namespace Go.Proofs.YtpbgihhfcdggkaaGreatDoor.V
open Go.RowKit
section
variable {P : Program} {Q : Exit → Act → World → Prop} {pre : List Oper} {last : Oper}
end
section
variable {C : Ctx} {Q0 : Exit → Act → World → Prop} {F : Tr} {M : Mem} {ids : List Nat} {k : List Kont}
end
end Go.Proofs.YtpbgihhfcdggkaaGreatDoor.V
end
section
namespace Go.Proofs.YtpbgihhfcdggkaaGreatDoor.V
open Go.RowKit
section
variable {C : Ctx} {Q0 : Exit → Act → World → Prop} {F F1 : Tr} {M : Mem} {ids : List Nat} {k : List Kont} {full rest : List Oper}
end
theorem GOk.one {Γ : Glob} {T : Nat → Prop} {w : World} (h : GOk Γ T w) {g : Nat} {s : SV} (hg : gl Γ g = some (.g 1 1 fun _ => [s])) (h1 : s.one = true) : ∃ v, w.cell? ⟨g, 0, none⟩ = some v ∧ Rep E0 T w s v := by
  have hr := h.rep g _ hg
  generalize hv : Value.pointer (some ⟨g, 0, none⟩) = v at hr
  cases hr with
  | rop e i j b o c hT hn hc hr hi hj hb =>
    simp at hv
    obtain ⟨rfl, rfl⟩ := hv
    have hI := hr 0 (Nat.lt_succ_self 0)
    simp only [EV.items] at hI
    obtain ⟨cc, r, e1, hr1, _⟩ := hI.head h1
    have := hc 0 0 cc (Nat.lt_succ_self 0) (by simp [e1])
    exact ⟨cc, by simpa [EV.sz] using this, hr1⟩
end Go.Proofs.YtpbgihhfcdggkaaGreatDoor.V
end
section
namespace Go.Proofs.YtpbgihhfcdggkaaGreatDoor
open Go.RowKit Go.Shelf V
set_option maxRecDepth 100000
set_option maxHeartbeats 8000000
theorem bld_size : (Tryz.prog.info? 83).map (·.size) = some 2 := by kernel_rfl
theorem bld_lies : liesAt Tryz.prog Tryz.prog.depth 83 (2 / Tryz.prog.cellsOf 83) 0 83 1 = true := by kernel_rfl
theorem check_used (b : Nat) (w : World) (h0 : w.cell? ⟨b, 0, none⟩ = some (.pointer (some ⟨b, 0, none⟩))) :
    Calls Tryz.prog 68 #[.pointer (some ⟨b, 0, none⟩)] w fun e w' => e = .returned (.tuple #[]) ∧ w' = w := by
  obtain ⟨j, hj, _⟩ := Option.map_eq_some_iff.1 bld_size
  have mixed : Tryz.prog.follows .mixedOrders = true := by kernel_rfl
  have t72 := Tryz.underlying83; have a72 := Tryz.isAgg83; have z72 := Tryz.sizeOf83; have v72 := Tryz.zeroValue83; have u72 := run_underlying Tryz.underlying83
  have t70 := Tryz.underlying81; have a70 := Tryz.isAgg81; have z70 := Tryz.sizeOf81; have v70 := Tryz.zeroValue81; have u70 := run_underlying Tryz.underlying81
  have t164 := Tryz.underlying133; have a164 := Tryz.isAgg133; have z164 := Tryz.sizeOf133; have v164 := Tryz.zeroValue133; have u164 := run_underlying Tryz.underlying133
  go_enter Tryz.func68, Tryz.ntmps68
  go_wp2
  rw [Lib.run_neq_ptr_same w _ Tryz.underlying81 hj]
  go_wp2
  go_end0
  exact ⟨rfl, rfl⟩
theorem check_fresh (b : Nat) (w : World) (h0 : w.cell? ⟨b, 0, none⟩ = some (.pointer none)) (hsh : w.shape? b = some (83, 2)) (hfz : w.frozen? ⟨b, 0, none⟩ = false) :
    Calls Tryz.prog 68 #[.pointer (some ⟨b, 0, none⟩)] w fun e w' => e = .returned (.tuple #[]) ∧ w' = w.setCell ⟨b, 0, none⟩ (.pointer (some ⟨b, 0, none⟩)) := by
  obtain ⟨j, hj, hjs⟩ := Option.map_eq_some_iff.1 bld_size
  have mixed : Tryz.prog.follows .mixedOrders = true := by kernel_rfl
  have t72 := Tryz.underlying83; have a72 := Tryz.isAgg83; have z72 := Tryz.sizeOf83; have v72 := Tryz.zeroValue83; have u72 := run_underlying Tryz.underlying83
  have t70 := Tryz.underlying81; have a70 := Tryz.isAgg81; have z70 := Tryz.sizeOf81; have v70 := Tryz.zeroValue81; have u70 := run_underlying Tryz.underlying81
  have t164 := Tryz.underlying133; have a164 := Tryz.isAgg133; have z164 := Tryz.sizeOf133; have v164 := Tryz.zeroValue133; have u164 := run_underlying Tryz.underlying133
  go_enter Tryz.func68, Tryz.ntmps68
  go_wp2
  rw [Lib.run_to_unsafe w ⟨b, 0, none⟩ Tryz.underlying81 Tryz.underlying133 hj (by rw [hjs]; decide) hsh (Nat.zero_lt_succ 1)]
  simp only [Result.andThen]
  rw [Oper.upon_value]
  go_wp2
  rw [run_callFunc_extern Tryz.func83 (by kernel_rfl) (by kernel_rfl) (by kernel_rfl) (e := Extern.AbiNoEscape.same) (by kernel_rfl)]
  rw [Lib.run_noEscape]
  simp only [Result.andThen]
  rw [Oper.upon_value]
  go_wp2
  rw [Lib.run_from_unsafe w ⟨b, 0, none⟩ Tryz.underlying133 Tryz.underlying81 hj hsh bld_lies]
  simp only [Result.andThen]
  rw [Oper.upon_value]
  go_wp2
  go_end0
  exact ⟨rfl, rfl⟩
theorem bld_cells5 : Tryz.prog.cellsOf 5 = 1 := by kernel_rfl
theorem bld_string (B b g cap : Nat) (p : Value) (cur : Array Value) (l : List UInt8) (w : World) (hbk : w.heap[b]? = some (.cells #[p, .slice (some ⟨g, 0, none⟩) l.length cap] 83 (0, 0))) (hg : w.heap[g]? = some (.cells cur 5 (0, 0))) (hbg : B ≤ g)
    (hnc : l.length ≤ cap) (hcm : cap ≤ maxLen) (hcs : l.length ≤ cur.size) (hat : ∀ j x, l[j]? = some x → w.cell? ⟨g, j, none⟩ = some (.int .u8 x.toNat)) (h0 : l ≠ []) :
    Calls Tryz.prog 48 #[.pointer (some ⟨b, 0, none⟩)] w fun e w' => e = .returned (.string ⟨l.toArray⟩) ∧ Below B w w' := by
  have hl0 : l.length ≠ 0 := by simpa using h0
  have c1 : w.drew.cell? ⟨b, 1, none⟩ = some (.slice (some ⟨g, 0, none⟩) l.length cap) := by
    have : w.drew.heap[b]? = some (.cells #[p, .slice (some ⟨g, 0, none⟩) l.length cap] 83 (0, 0)) := hbk
    rw [Lib.cell_of_heap this]; rfl
  have hSD : (Builtin.unsafeSliceData_ #[66] 122 #[.slice (some ⟨g, 0, none⟩) l.length cap]).run Tryz.prog w.drew = .ok (.pointer (some ⟨g, 0, none⟩)) w.drew :=
    Lib.run_unsafeSliceData_row _ _ _ _ _ _ (by omega)
  have hUS : (Builtin.unsafeString_ #[122, 3] 9 #[.pointer (some ⟨g, 0, none⟩), .int .i64 l.length]).run Tryz.prog w.drew = .ok (.string ⟨l.toArray⟩) (w.drew.freeze ⟨g, 0, none⟩ l.length) := by
    refine Lib.run_unsafeString_row w.drew 122 3 9 5 Tryz.underlying122 bld_cells5 g cur.size (by have hg' : w.drew.heap[g]? = some (.cells cur 5 (0, 0)) := hg; simp [World.shape?, hg']) l h0 (by omega) (by unfold maxLen at hcm; omega) ?_
    intro j x hx
    rw [Lib.addr_add, Nat.zero_add]
    exact hat j x hx
  have mixed : Tryz.prog.follows .mixedOrders = true := by kernel_rfl
  have t72 := Tryz.underlying83; have a72 := Tryz.isAgg83; have z72 := Tryz.sizeOf83; have v72 := Tryz.zeroValue83; have u72 := run_underlying Tryz.underlying83
  have t70 := Tryz.underlying81; have a70 := Tryz.isAgg81; have z70 := Tryz.sizeOf81; have v70 := Tryz.zeroValue81; have u70 := run_underlying Tryz.underlying81
  have t37 := Tryz.underlying66; have a37 := Tryz.isAgg66; have z37 := Tryz.sizeOf66; have v37 := Tryz.zeroValue66; have u37 := run_underlying Tryz.underlying66
  have t127 := Tryz.underlying122; have a127 := Tryz.isAgg122; have z127 := Tryz.sizeOf122; have v127 := Tryz.zeroValue122; have u127 := run_underlying Tryz.underlying122
  have t3 := Tryz.underlying3; have a3 := Tryz.isAgg3; have z3 := Tryz.sizeOf3; have v3 := Tryz.zeroValue3; have u3 := run_underlying Tryz.underlying3
  have t9 := Tryz.underlying9; have a9 := Tryz.isAgg9; have z9 := Tryz.sizeOf9; have v9 := Tryz.zeroValue9; have u9 := run_underlying Tryz.underlying9
  have t5 := Tryz.underlying5; have a5 := Tryz.isAgg5; have z5 := Tryz.sizeOf5; have v5 := Tryz.zeroValue5; have u5 := run_underlying Tryz.underlying5
  go_enter Tryz.func48, Tryz.ntmps48
  go_wp2
  go_region_o
  all_goals (go_wp2; go_ret; exact ⟨rfl, Lib.below_freeze (Below.drew (Below.refl B w)) (p := ⟨g, 0, none⟩) hbg _⟩)
@[reducible] def Γs (a b : TypeId) (p q : Value) : Glob := [(3, .ints .u64 Lib.pow10Tab), (0, .g 1 1 fun _ => [.anyi .i64]), (1, .g 1 1 fun _ => [.ifc a (.val p)]), (2, .g 1 1 fun _ => [.ifc b (.val q)])]
@[reducible] def strE (l : List (List UInt8)) : EV := .g l.length 1 fun i => [.str (l.getD i [])]
section
variable {a b : TypeId} {p q : Value}
theorem gPow : Tryz.prog.globalNamed "internal/strconv.uint64pow10" = some 3 := by kernel_rfl
theorem tab_of {T : Nat → Prop} {w : World} (h : GOk (Γs a b p q) T w) : Lib.TabIs Tryz.prog w "internal/strconv.uint64pow10" .u64 Lib.pow10Tab := by
  obtain ⟨t, hs⟩ := h.shp 3 _ rfl
  have hr := h.rep 3 _ rfl
  have hcell : ∀ i, i < 20 → w.cell? ⟨3, i, none⟩ = some (.int .u64 (Lib.pow10Tab.getD i 0)) := by
    generalize hv : Value.pointer (some ⟨3, 0, none⟩) = v at hr
    cases hr with
    | rop e i j b o c hT hn hc hr hi hj hb =>
      simp at hv
      obtain ⟨rfl, rfl⟩ := hv
      intro i hi2
      have hlen : i < (EV.ints .u64 Lib.pow10Tab).len := by simpa [EV.len, Lib.pow10Tab_length] using hi2
      have hI := hr i hlen
      simp only [EV.items] at hI
      obtain ⟨cc, r, e1, hr1, _⟩ := hI.head rfl
      have := hc i 0 cc hlen (by simp [e1])
      cases hr1
      simpa [EV.sz] using this
  have hlen : (EV.ints .u64 Lib.pow10Tab).len * (EV.ints .u64 Lib.pow10Tab).sz = 20 := by simp [EV.len, EV.sz, Lib.pow10Tab_length]
  rw [hlen] at hs
  unfold World.shape? at hs
  split at hs
  · rename_i c elem fr hh
    simp only [Option.some.injEq, Prod.mk.injEq] at hs
    unfold Lib.TabIs World.var?
    simp only [gPow, Option.bind_some, hh]
    congr 1
    apply Array.ext
    · simp [hs.2, Lib.pow10Tab_length]
    · intro i h1 h2
      have := hcell i (by omega)
      unfold World.cell? at this
      rw [hh] at this
      simp only [Option.isSome_none, Bool.false_eq_true, if_false] at this
      rw [Array.getElem?_eq_getElem h1, Option.some.injEq] at this
      rw [this]
      have h3 : i < Lib.pow10Tab.length := by rw [Lib.pow10Tab_length]; omega
      simp [List.getD, List.getElem?_eq_getElem h3]
  · cases hs
theorem itoa_spec (n : Int) : Fun Tryz.prog (Γs a b p q) 47 [.int .i64 n] (.str (Lib.itoa n)) := by
  intro T w vs hT hG ht
  obtain ⟨hn, _⟩ := ht.facts
  cases ht with
  | cons s v l vs1 hr hl =>
    cases hl
    cases hr
    obtain ⟨h0, h1⟩ := i64_iff hn
    refine (Tryz.strconv_Itoa n h0 h1 w (tab_of hG)).mono ?_
    rintro e w' ⟨rfl, k, os, rfl⟩
    have := Lib.itoa_length_le n h0 h1
    exact ⟨_, rfl, .str _ (by unfold okLen; omega), Lib.below_grow _ _ (Nat.le_refl _) k os⟩
theorem bld_check : CheckOk Tryz.prog 68 83 := ⟨check_used, check_fresh⟩
theorem bld_text : BStrOk Tryz.prog 48 83 5 where
  row := fun B b g cap p cur l w h1 h2 h3 h4 h5 h6 h7 h8 => bld_string B b g cap p cur l w h1 h2 h3 h4 h5 h6 h7 h8
  nil := fun B b p w hp hh hb hB => by
    have h : Lib.IsBuilder 83 5 B b [] w := by
      rcases hp with rfl | rfl
      · exact .inl ⟨hb, _, hh, World.ownsRow_nil _ _ _ _, by simp [Value.ownBlock]⟩
      · exact .inr ⟨hb, _, hh, World.ownsRow_nil _ _ _ _, by simp [Value.ownBlock]⟩
    exact Tryz.Builder_String_empty B b w h hB
theorem join_spec (ss : List (List UInt8)) (sep : List UInt8) (hl : (Lib.join ss sep).length ≤ 140737488355328) (hN : ss.length ≤ 140737488355328) : Fun Tryz.prog (Γs a b p q) 46 [.ro (strE ss), .str sep] (.str (Lib.join ss sep)) := by
  intro T w vs hT hG ht
  cases ht with
  | cons s v l vs1 hr hl2 =>
    cases hl2 with
    | cons s2 v2 l2 vs2 hr2 hl3 =>
      cases hl3
      cases hr2
      have h0 : ∀ a c, ss.length = 0 → Calls Tryz.prog 46 #[.slice a 0 c, .string ⟨sep.toArray⟩] w fun e w' => ∃ v, e = .returned v ∧ Rep E0 T w' (.str (Lib.join ss sep)) v ∧ Below w.heap.size w w' := fun a c hs => by
        have hss : ss = [] := List.eq_nil_of_length_eq_zero hs
        subst hss
        refine (Tryz.strings_Join_none a c ⟨sep.toArray⟩ w).mono ?_
        rintro e w' ⟨rfl, rfl⟩
        exact ⟨_, rfl, .str _ (by simp [Lib.join_nil, okLen]), Below.refl _ _⟩
      cases hr with
      | ro0 _ hs => exact h0 none 0 (by simpa [EV.len] using hs)
      | ro1 _ a hs => exact h0 (some a) 0 (by simpa [EV.len] using hs)
      | ro _ b o n k c hT' hn hc hrr he hlk ok hb =>
        simp only [EV.len] at he hn hc hrr
        subst he
        have := Tryz.strings_Join b o k (ss.map fun l => ⟨l.toArray⟩) ⟨sep.toArray⟩ w (fun j x hx => ?_) hb (by simpa using hN) (by simpa using hlk) (by simpa [Function.comp_def] using hl)
        · simp only [List.length_map, List.map_map, Function.comp_def, List.map_id'] at this
          refine this.mono ?_
          rintro e w' ⟨rfl, hbw⟩
          exact ⟨_, rfl, .str _ (by unfold okLen; omega), hbw⟩
        · have hj : j < ss.length := by simpa using (List.getElem?_eq_some_iff.1 hx).1
          have hI := hrr j hj
          simp only [EV.items] at hI
          obtain ⟨cc, r, e1, hr1, _⟩ := hI.head rfl
          have h3 := hc j 0 cc hj (by simp [e1])
          cases hr1
          simp only [List.getElem?_map, List.getElem?_eq_getElem hj, Option.map_some, Option.some.injEq] at hx
          subst hx
          simpa [EV.sz, List.getD, List.getElem?_eq_getElem hj] using h3
theorem atoi_rng {s : List UInt8} {v : Int} (h : Lib.atoiAll s = .ok v) : inR .i64 v := by
  unfold Lib.atoiAll at h
  split at h
  · cases h
  · dsimp only at h
    split at h
    · cases h
    · cases h
    · rename_i u hu
      split at h
      · cases h
      · split at h
        · cases h
        · rename_i h1 h2
          simp only [Lib.NumEnd.ok.injEq] at h
          subst h
          split
          · rename_i hn
            exact inR_i64 (by have : ¬ 9223372036854775808 < u := fun e => h2 ⟨hn, e⟩; omega) (by omega)
          · rename_i hn
            exact inR_i64 (by omega) (by have : ¬ 9223372036854775808 ≤ u := fun e => h1 ⟨hn, e⟩; omega)
theorem atoi_ok (Γ : Glob) (s : List UInt8) (hs : s.length ≤ 1000000) (v : Int) (h : Lib.atoiAll s = .ok v) (hv : inR .i64 v) : Fun Tryz.prog Γ 51 [.str s] (.tup [.int .i64 v, .nili]) := by
  intro T w vs hT hG ht
  cases ht with
  | cons s0 v0 l vs1 hr hl =>
  cases hl
  cases hr with
  | str _ hok =>
  refine (Tryz.strconv_Atoi_ok ⟨s.toArray⟩ (by show s.toArray.size ≤ _; simp; omega) v h w).mono ?_
  rintro e w' ⟨rfl, hw⟩
  refine ⟨_, rfl, .tup _ [_, _] (.cons _ _ _ _ (.int _ _ hv) (.cons _ _ _ _ .nili .nil)), ?_⟩
  rcases hw with rfl | ⟨t, rfl⟩
  · exact Below.refl _ _
  · exact Lib.bytesWorld_below w 5 t
@[reducible] def errV : SV := .ifc 141 (.rop (.g 1 1 fun _ => [.str [65, 116, 111, 105]]) 0 0)
theorem err_rep {T : Nat → Prop} {w w' : World} {N : Nat} {x y : Value} (hT : ∀ b, T b → b < w.heap.size) (hN : w.heap.size ≤ N) (hh : w'.heap[N]? = some (.cells #[.string ⟨#[65, 116, 111, 105]⟩, x, y] 160 (0, 0))) : Rep E0 T w' errV (.iface 141 (.pointer (some ⟨N, 0, none⟩))) := by
  refine .ifc _ _ _ (.rop _ 0 0 N 0 (fun _ => [.string ⟨#[65, 116, 111, 105]⟩]) (fun h => by have := hT N h; omega) (fun i hi => rfl) (fun i j v hi hj => ?_) (fun i hi => ?_) (by decide) (by decide) (Array.getElem?_eq_some_iff.1 hh).1)
  · have hi0 : i = 0 := by have : i < 1 := hi; omega
    subst hi0
    cases j with
    | zero =>
      simp only [List.getElem?_cons_zero, Option.some.injEq] at hj
      subst hj
      simp [World.cell?, hh]
    | succ j => simp at hj
  · exact .one _ _ _ _ rfl (.str _ (by unfold okLen; simp)) .nil
theorem atoi_bad (s : List UInt8) (hs : s.length ≤ 1000000) (h : ∀ v, Lib.atoiAll s ≠ .ok v) : Fun Tryz.prog (Γs a b p q) 51 [.str s] (.tup [.int .i64 (numV s), errV]) := by
  intro T w vs hT hG ht
  cases ht with
  | cons s0 v0 l vs1 hr hl =>
  cases hl
  cases hr with
  | str _ hok =>
  obtain ⟨x2, hc2, hr2⟩ := hG.one (g := 1) (s := .ifc a (.val p)) rfl rfl
  obtain ⟨x3, hc3, hr3⟩ := hG.one (g := 2) (s := .ifc b (.val q)) rfl rfl
  cases hr2 with
  | ifc _ _ p2 hp2 =>
  cases hr3 with
  | ifc _ _ q3 hq3 =>
  unfold numV
  cases hq : Lib.atoiAll s
  · exact absurd hq (h _)
  · refine (Any.strconv_Atoi_syntax Tryz.laysC172 ⟨s.toArray⟩ (by show s.toArray.size ≤ _; simp; omega) hq _ w hc2 (.inr ⟨_, _, rfl⟩)).mono ?_
    rintro e w' ⟨N, rfl, hN, hh, hb⟩
    exact ⟨_, rfl, .tup _ [_, _] (.cons _ _ _ _ (.int _ 0 (inR_i64 (by decide) (by decide))) (.cons _ _ _ _ (err_rep hT hN hh) .nil)), hb⟩
  · refine (Tryz.strconv_Atoi_range ⟨s.toArray⟩ (by show s.toArray.size ≤ _; simp; omega) hq _ w hc3 (.inr ⟨_, _, rfl⟩)).mono ?_
    rintro e w' ⟨N, rfl, hN, hh, hb⟩
    refine ⟨_, rfl, .tup _ [_, _] (.cons _ _ _ _ (.int _ _ ?_) (.cons _ _ _ _ (err_rep hT hN hh) .nil)), hb⟩
    show inR .i64 (Lib.atoiSat s)
    unfold Lib.atoiSat
    split <;> exact inR_i64 (by decide) (by decide)
theorem cut_spec (s : List UInt8) (hs : s.length ≤ 1000000) : Fun Tryz.prog (Γs a b p q) 52 [.str s, .str [32]] (.tup [.str (Lib.cut s [32]).1, .str (Lib.cut s [32]).2.1, .bool (Lib.cut s [32]).2.2]) := by
  intro T w vs hT hG ht
  obtain ⟨x0, hc0, hr0⟩ := hG.one (g := 0) (s := .anyi .i64) rfl rfl
  cases hr0 with
  | anyi _ m =>
  cases ht with
  | cons s0 v0 l vs1 hr hl =>
  cases hl with
  | cons s1 v1 l1 vs2 hr1 hl1 =>
  cases hl1
  cases hr
  cases hr1
  refine (Tryz.strings_Cut ⟨s.toArray⟩ ⟨#[32]⟩ m w (by show s.toArray.size < _; simp; omega) hc0).mono ?_
  rintro e w' ⟨rfl, n, rfl⟩
  obtain ⟨h1, h2⟩ := cut_len s [32]
  exact ⟨_, rfl, .tup _ [_, _, _] (.cons _ _ _ _ (.str _ (by unfold okLen; omega)) (.cons _ _ _ _ (.str _ (by unfold okLen; omega)) (.cons _ _ _ _ (.bool _) .nil))), ⟨rfl, rfl, rfl, Nat.le_refl _, fun _ _ => rfl⟩⟩
theorem split_spec (s : List UInt8) (hs : s.length ≤ 1000000) : Fun Tryz.prog (Γs a b p q) 49 [.str s, .str [10]] (.ro (strE (spl 10 s))) := by
  intro T w vs hT hG ht
  obtain ⟨x0, hc0, hr0⟩ := hG.one (g := 0) (s := .anyi .i64) rfl rfl
  cases hr0 with
  | anyi _ m =>
  cases ht with
  | cons s0 v0 l vs1 hr hl =>
  cases hl with
  | cons s1 v1 l1 vs2 hr1 hl1 =>
  cases hl1
  cases hr
  cases hr1
  refine (Tryz.strings_Split ⟨s.toArray⟩ ⟨#[10]⟩ m w (by show s.toArray.size < _; simp; omega) hc0 (by decide)).mono ?_
  rintro e w' ⟨rfl, rfl⟩
  have hd : (Lib.splitB ⟨#[10]⟩ 0 (Lib.countB ⟨s.toArray⟩ ⟨#[10]⟩) ⟨s.toArray⟩).map (·.data.toList) = spl 10 s := (Lib.splitB_data _ _ _ _).trans (split_spl 10 s.length s (Nat.le_refl _))
  generalize hL : Lib.splitB ⟨#[10]⟩ 0 (Lib.countB ⟨s.toArray⟩ ⟨#[10]⟩) ⟨s.toArray⟩ = L at hd
  have hlen : L.length = Lib.countB ⟨s.toArray⟩ ⟨#[10]⟩ + 1 := by rw [← hL]; exact Lib.splitB_all ⟨#[10]⟩ (by decide) 0 _ _ rfl
  have hlen2 : L.length = (spl 10 s).length := by rw [← hd, List.length_map]
  have hle := (spl_len 10 s).1
  have hget : ∀ i, i < (spl 10 s).length → (L.map Value.string)[i]? = some (.string ⟨((spl 10 s).getD i []).toArray⟩) := fun i hi => by
    rw [List.getElem?_map, ← hd, List.getD_eq_getElem?_getD, List.getElem?_map]
    rw [List.getElem?_eq_getElem (by omega)]
    rfl
  refine ⟨_, rfl, ?_, (Below.refl _ w).alloc (Nat.le_refl _) _⟩
  rw [← hlen, hlen2]
  refine .ro (strE (spl 10 s)) w.heap.size 0 _ _ (fun i => [.string ⟨((spl 10 s).getD i []).toArray⟩]) (fun h => by have := hT _ h; omega) (fun i hi => rfl) (fun i j v hi hj => ?_) (fun i hi => ?_) rfl (Nat.le_refl _) (by unfold okLen; omega) (by simp)
  · cases j with
    | zero =>
      simp only [List.getElem?_cons_zero, Option.some.injEq] at hj
      subst hj
      have h1 : (w.alloc (.cells (L.map Value.string).toArray 9)).heap[w.heap.size]? = some (.cells (L.map Value.string).toArray 9 (0, 0)) := heap_alloc_new w _
      have e : 0 + i * (strE (spl 10 s)).sz + 0 = i := by show 0 + i * 1 + 0 = i; omega
      rw [e]
      simp only [World.cell?, h1]
      have := hget i hi
      simpa using this
    | succ j => simp at hj
  · have := spl_get 10 s i
    exact .one _ _ _ _ rfl (.str _ (by unfold okLen; omega)) .nil
theorem cutp_spec (Γ : Glob) (s : List UInt8) : Fun Tryz.prog Γ 50 [.str s, .str [115, 101, 116, 116, 105, 110, 103, 115, 32]] (.tup [.str (cutP s), .bool (Lib.hasPrefix s [115, 101, 116, 116, 105, 110, 103, 115, 32])]) := by
  intro T w vs hT hG ht
  cases ht with
  | cons s0 v0 l vs1 hr hl =>
  cases hl with
  | cons s1 v1 l1 vs2 hr1 hl1 =>
  cases hl1
  cases hr with
  | str _ hok =>
  cases hr1
  refine (Tryz.strings_CutPrefix ⟨s.toArray⟩ ⟨#[115, 101, 116, 116, 105, 110, 103, 115, 32]⟩ w).mono ?_
  rintro e w' ⟨rfl, rfl⟩
  have := cutP_len s
  unfold okLen at hok
  exact ⟨_, rfl, .tup _ [_, _] (.cons _ _ _ _ (.str _ (by unfold okLen; omega)) (.cons _ _ _ _ (.bool _) .nil)), Below.refl _ _⟩
end
end Go.Proofs.YtpbgihhfcdggkaaGreatDoor
end
section
namespace Go.Proofs.YtpbgihhfcdggkaaGreatDoor
open Go.RowKit V
set_option maxRecDepth 100000
set_option maxHeartbeats 4000000
set_option linter.unusedSimpArgs false
set_option linter.unusedVariables false
attribute [local irreducible] V.Sat V.DSat
theorem rep_gx {E : Env} {T : Nat → Prop} {w : World} {n sz : Nat} {f g : Nat → List SV} {v : Value} (h : Rep E T w (.ro (.g n sz f)) v) (he : ∀ i, i < n → f i = g i) : Rep E T w (.ro (.g n sz g)) v := by
  generalize hs : SV.ro (.g n sz f) = s at h
  cases h with
  | ro0 e hl =>
    cases hs
    exact .ro0 _ hl
  | ro1 e a hl =>
    cases hs
    exact .ro1 _ a hl
  | ro e b o m k c hT hn hc hr hl hk ok hb =>
    cases hs
    exact .ro _ b o m k c hT hn hc (fun i hi => by have := hr i hi; show Items E T w (g i) _; rw [← he i hi]; exact this) hl hk ok hb
  | _ => cases hs
section
variable {a b : TypeId} {p q : Value}
theorem join2 (x y : List UInt8) (hx : x.length ≤ 1000) (hy : y.length ≤ 1000) : Fun Tryz.prog (Γs a b p q) 46 [.ro (.g 2 1 (nthL [[.str x], [.str y]])), .str [32]] (.str (x ++ 32 :: y)) := by
  have e : Lib.join [x, y] [32] = x ++ 32 :: y := by rw [Lib.join_cons]; simp [Lib.joinTail]
  have h := join_spec (a := a) (b := b) (p := p) (q := q) [x, y] [32] (by rw [e]; simp; omega) (by simp)
  rw [e] at h
  intro T w vs hT hG ht
  cases ht with
  | cons s v l vs1 hr hl2 =>
    exact h T w _ hT hG (.cons _ _ _ _ (rep_gx hr fun i hi => match i, hi with | 0, _ => rfl | 1, _ => rfl) hl2)
theorem join3 (x y z : List UInt8) (hx : x.length ≤ 1000) (hy : y.length ≤ 1000) (hz : z.length ≤ 1000) : Fun Tryz.prog (Γs a b p q) 46 [.ro (.g 3 1 (nthL [[.str x], [.str y], [.str z]])), .str [32]] (.str (x ++ 32 :: (y ++ 32 :: z))) := by
  have e : Lib.join [x, y, z] [32] = x ++ 32 :: (y ++ 32 :: z) := by rw [Lib.join_cons]; simp [Lib.joinTail]
  have h := join_spec (a := a) (b := b) (p := p) (q := q) [x, y, z] [32] (by rw [e]; simp; omega) (by simp)
  rw [e] at h
  intro T w vs hT hG ht
  cases ht with
  | cons s v l vs1 hr hl2 =>
    exact h T w _ hT hG (.cons _ _ _ _ (rep_gx hr fun i hi => match i, hi with | 0, _ => rfl | 1, _ => rfl | 2, _ => rfl) hl2)
theorem print_bad (s : SetL) (h : validS s = false) : Fun Tryz.prog (Γs a b p q) 23 [s.v] (.str []) := by
  have h1 := Fun.weak (Γ := Γs a b p q) (Valid_spec s)
  rw [h] at h1
  refine Fun.mk 6 Tryz.func23 rfl Tryz.ntmps23 rfl rfl fun T w0 => ?_
  repeat' (first
    | ((with_reducible apply Sat.run (X := X64)); exact rfl; (first | exact True.intro | (exact phi) | skip))
    | ((with_reducible apply Sat.cond_t); exact rfl)
    | ((with_reducible apply Sat.callR (h1)); exact rfl; exact rfl; exact rfl; kernel_rfl; (exact cnvX); exact rfl) | fail)
  (refine Sat.fin (Sat.end1 rfl rfl rfl True.intro (.refl _ purX) (by first | exact .inl rfl | exact .inr rfl) (fun _ h => h)) ?_; rfl)
def pr1 (s : SetL) (x : Nat) : List UInt8 := joinB ((setW ++ 32 :: Lib.itoa s.version) :: (s.vals.take x).map valLn)
def pr2 (s : SetL) (x : Nat) : List UInt8 := joinB ((setW ++ 32 :: Lib.itoa s.version) :: (s.vals.map valLn ++ (s.kept.take x).map keptLn))
theorem joinB_snoc (l : List (List UInt8)) (x : List UInt8) : joinB (l ++ [x]) = joinB l ++ (x ++ [10]) := by simp [joinB]
theorem pr1_at (s : SetL) (x : Nat) (hx : x < s.vals.length) : pr1 s (x + 1) = pr1 s x ++ (valLn (s.vals.getD x v00) ++ [10]) := by
  have e : s.vals.take (x + 1) = s.vals.take x ++ [s.vals.getD x v00] := by
    rw [List.take_add_one, List.getD_eq_getElem?_getD, List.getElem?_eq_getElem hx]
    rfl
  unfold pr1
  rw [e, List.map_append, List.map_cons, List.map_nil, ← List.cons_append, joinB_snoc]
theorem pr2_at (s : SetL) (x : Nat) (hx : x < s.kept.length) : pr2 s (x + 1) = pr2 s x ++ (keptLn (s.kept.getD x v00) ++ [10]) := by
  have e : s.kept.take (x + 1) = s.kept.take x ++ [s.kept.getD x v00] := by
    rw [List.take_add_one, List.getD_eq_getElem?_getD, List.getElem?_eq_getElem hx]
    rfl
  unfold pr2
  rw [e, List.map_append, List.map_cons, List.map_nil, ← List.append_assoc, ← List.cons_append, joinB_snoc]
theorem pr12 (s : SetL) : pr1 s s.vals.length = pr2 s 0 := by
  unfold pr1 pr2
  rw [List.take_length, List.take_zero]
  simp
theorem pr2_end (s : SetL) (h : ValidS s) : pr2 s s.kept.length = printS Lib.itoa s := by
  unfold pr2 printS printD
  rw [if_pos ((validS_iff s).2 h), List.take_length]
theorem pure_lit2 (x y : List UInt8) : pureE (.g 2 (0 + 1) (litF 2 (0 + 1) [[.str x], [.str y]])) := fun i hi => match i, hi with
  | 0, _ => ⟨trivial, trivial⟩
  | 1, _ => ⟨trivial, trivial⟩
theorem right_len {v : ValL} (h : rightV v = true) : v.name.length ≤ 1000 ∧ v.val.length ≤ 1000 := by
  unfold rightV nmB txB at h
  simp only [Bool.and_eq_true, decide_eq_true_eq] at h
  omega
structure Hd (p : Prop) : Prop where
  get : p
theorem print_good (s : SetL) (h : ValidS s) : Fun Tryz.prog (Γs a b p q) 23 [s.v] (.str (printS Lib.itoa s)) := by
  have h1 := Fun.weak (Γ := Γs a b p q) (Valid_spec s)
  rw [(validS_iff s).2 h] at h1
  have h2 := itoa_spec (a := a) (b := b) (p := p) (q := q) s.version
  have hv1 := h.ver
  have hl := Lib.itoa_length_le s.version (by omega) (by omega)
  have h3 := join2 (a := a) (b := b) (p := p) (q := q) setW (Lib.itoa s.version) (by decide) (by omega)
  have hpv1 := pur_val s.vals
  have hpv2 := pur_val s.kept
  have hfew := h.few
  refine Fun.mkG 6 Tryz.func23 rfl Tryz.ntmps23 rfl rfl fun hf T w0 hG => ?_
  repeat' (first
    | ((with_reducible apply Sat.run (X := X64)); exact rfl; (first | exact True.intro | (exact phi) | skip))
    | ((with_reducible apply Sat.cond_f); exact rfl)
    | ((with_reducible apply Sat.callR (h1)); exact rfl; exact rfl; exact rfl; kernel_rfl; (exact cnvX); exact rfl)
    | ((with_reducible apply Sat.callR (h2)); exact rfl; exact rfl; exact rfl; kernel_rfl; (exact cnvX); exact rfl)
    | ((with_reducible apply Sat.callR (h3)); exact rfl; exact rfl; exact rfl; kernel_rfl; (exact cnvX); exact rfl)
    | ((with_reducible apply Sat.inl 7 [] Tryz.func44 Tryz.ntmps44); exact rfl; exact rfl; kernel_rfl; exact rfl; exact rfl; exact rfl; exact rfl; ((repeat' (first | exact AllP.nil | with_reducible refine AllP.cons ?_ ?_)) <;> (first | exact True.intro | exact purX)); intro _ _)
    | ((with_reducible apply Sat.inl 7 [] Tryz.func45 Tryz.ntmps45); exact rfl; exact rfl; kernel_rfl; exact rfl; exact rfl; exact rfl; exact rfl; ((repeat' (first | exact AllP.nil | with_reducible refine AllP.cons ?_ ?_)) <;> (first | exact True.intro | exact purX)); intro _ _)
    | ((with_reducible apply Sat.checkF bld_check); exact rfl; kernel_rfl; exact rfl; exact rfl; exact rfl; exact rfl)
    | ((with_reducible apply Sat.out0 (C := ⟨_, _, _, _, _, _, _, _, _⟩)); exact rfl; (first | exact .inl rfl | exact .inr rfl); exact rfl)
    | ((with_reducible apply Sat.out2 (C := ⟨_, _, _, _, _, _, _, _, _⟩)); exact rfl; (first | exact .inl rfl | exact .inr rfl); exact rfl; (exact phi); exact rfl; (exact phi); exact rfl) | fail)
  · refine AllP.cons ?_ .nil
    show okLen ((setW ++ 32 :: Lib.itoa s.version).length + [10].length)
    simp only [okLen, setW, List.length_append, List.length_cons, List.length_nil]; omega
  · refine AllP.cons ?_ .nil
    show (setW ++ 32 :: Lib.itoa s.version ++ [10]).length * (0 + 1) ≤ _
    simp only [setW, List.length_append, List.length_cons, List.length_nil]; omega
  · apply Sat.loop (α := Nat × List UInt8) (fun x => x.1 ≤ s.vals.length ∧ Hd (x.2 = pr1 s x.1) ∧ x.2.length ≤ 3000 * (x.1 + 1)) (fun x => s.vals.length - x.1) (0, setW ++ 32 :: Lib.itoa s.version ++ [10]) (fun x => [(22, .int .i64 (x.1 : Int))]) (fun x => [(1, .cells 83 [.ptr 1 0, .row 3 0 1 0 x.2.length]), (3, .row 5 (.u8 x.2))]) [] [] 0
    · intro x; exact rfl
    · intro x; exact rfl
    · exact rfl
    · exact rfl
    · ((repeat' (first | exact AllP.nil | with_reducible refine AllP.cons ?_ ?_)) <;> first | exact rfl | exact trivial | exact Int.natCast_add_one _ | exact ⟨rfl, rfl⟩ | exact ⟨rfl, rfl, rfl⟩ | exact ⟨rfl, rfl, rfl, rfl⟩ | exact ⟨rfl, .inl rfl⟩ | exact ⟨rfl, .inr rfl⟩ | exact pur | (intro _; exact rfl) | (intro _; exact trivial) | (intro _; exact pur) | first | exact pur_val _ | (intro _ _; simp [pureL, pureS, pureE]; done) | exact pure_lit2 _ _)
    · refine ⟨Nat.zero_le _, ⟨by simp [pr1, joinB]⟩, ?_⟩
      show (setW ++ 32 :: Lib.itoa s.version ++ [10]).length ≤ _
      simp only [setW, List.length_append, List.length_cons, List.length_nil]; omega
    · rintro ⟨x, out⟩ ⟨x1, x2, x3⟩
      dsimp only at x1 x2 x3 ⊢
      by_cases hx : x < s.vals.length
      · obtain ⟨n1, n2⟩ := right_len (h.right (s.vals.getD (x : Int).toNat v00) (by rw [Int.toNat_natCast, List.getD_eq_getElem?_getD, List.getElem?_eq_getElem hx]; exact List.getElem_mem hx))
        have h4 := join3 (a := a) (b := b) (p := p) (q := q) valW (s.vals.getD (x : Int).toNat v00).name (s.vals.getD (x : Int).toNat v00).val (by decide) n1 n2
        repeat' (first
          | ((with_reducible apply Sat.run (X := X64)); exact rfl; (first | exact True.intro | (exact phi) | skip))
          | ((with_reducible apply Sat.cond_pt); exact rfl; (try dsimp only [V.EV.sub, V.EV.len]); first | assumption | omega)
          | ((with_reducible apply Sat.callR (h4)); exact rfl; exact rfl; exact rfl; kernel_rfl; (exact cnvX); exact rfl)
          | ((with_reducible apply Sat.inl 7 [] Tryz.func44 Tryz.ntmps44); exact rfl; exact rfl; kernel_rfl; exact rfl; exact rfl; exact rfl; exact rfl; ((repeat' (first | exact AllP.nil | with_reducible refine AllP.cons ?_ ?_)) <;> (first | exact True.intro | exact purX)); intro _ _)
          | ((with_reducible apply Sat.inl 7 [] Tryz.func45 Tryz.ntmps45); exact rfl; exact rfl; kernel_rfl; exact rfl; exact rfl; exact rfl; exact rfl; ((repeat' (first | exact AllP.nil | with_reducible refine AllP.cons ?_ ?_)) <;> (first | exact True.intro | exact purX)); intro _ _)
          | ((with_reducible apply Sat.checkU bld_check); exact rfl; kernel_rfl; exact rfl; exact rfl)
          | ((with_reducible apply Sat.out0 (C := ⟨_, _, _, _, _, _, _, _, _⟩)); exact rfl; (first | exact .inl rfl | exact .inr rfl); exact rfl)
          | ((with_reducible apply Sat.out2 (C := ⟨_, _, _, _, _, _, _, _, _⟩)); exact rfl; (first | exact .inl rfl | exact .inr rfl); exact rfl; (exact phi); exact rfl; (exact phi); exact rfl) | fail)
        · refine AllP.cons ?_ .nil
          show okLen ((valW ++ 32 :: ((s.vals.getD (x : Int).toNat v00).name ++ 32 :: (s.vals.getD (x : Int).toNat v00).val)).length + [10].length)
          simp only [okLen, valW, List.length_append, List.length_cons, List.length_nil]; omega
        · refine AllP.cons rfl (.cons ?_ .nil)
          show (out.length + (valW ++ 32 :: ((s.vals.getD (x : Int).toNat v00).name ++ 32 :: (s.vals.getD (x : Int).toNat v00).val) ++ [10]).length) * (0 + 1) ≤ _
          simp only [valW, List.length_append, List.length_cons, List.length_nil]; omega
        · have k3 : out ++ (valW ++ 32 :: ((s.vals.getD (x : Int).toNat v00).name ++ 32 :: (s.vals.getD (x : Int).toNat v00).val) ++ [10]) = pr1 s (x + 1) := by
            rw [pr1_at s x hx, x2.get, Int.toNat_natCast]; rfl
          have k4 := congrArg List.length k3
          refine Sat.back (x + 1, pr1 s (x + 1)) [(3, some 6)] rfl ?_ ?_ ?_
          · (repeat' (first | exact AllP.nil | with_reducible refine AllP.cons ?_ ?_)) <;> first | exact rfl | exact trivial | exact congrArg EV.u8 k3 | exact Int.natCast_add_one _ | exact ⟨rfl, rfl, rfl, rfl⟩ | exact ⟨rfl, rfl, rfl, List.length_append.symm.trans k4⟩ | exact purX | exact pur_val _ | exact pure_lit2 _ _
          · refine ⟨hx, ⟨rfl⟩, ?_⟩
            show (pr1 s (x + 1)).length ≤ 3000 * (x + 1 + 1)
            rw [← k4]
            simp only [valW, List.length_append, List.length_cons, List.length_nil]; omega
          · show s.vals.length - (x + 1) < s.vals.length - x
            omega
      · obtain rfl : x = s.vals.length := by omega
        repeat' (first
          | ((with_reducible apply Sat.run (X := X64)); exact rfl; (first | exact True.intro | (exact phi) | skip))
          | ((with_reducible apply Sat.cond_pf); exact rfl; (try dsimp only [V.EV.sub, V.EV.len]); first | assumption | omega) | fail)
        have hb1 : out.length ≤ 60000 := by omega
        have hb2 : Hd (out = pr2 s 0) := ⟨x2.get.trans (pr12 s)⟩
        clear x2 x3
        apply Sat.loop (α := Nat × List UInt8) (fun x => x.1 ≤ s.kept.length ∧ Hd (x.2 = pr2 s x.1) ∧ x.2.length ≤ 60000 + 3000 * x.1) (fun x => s.kept.length - x.1) (0, out) (fun x => [(37, .int .i64 (x.1 : Int))]) (fun x => [(1, .cells 83 [.ptr 1 0, .row 3 0 1 0 x.2.length]), (3, .row 5 (.u8 x.2))]) [] [] 0
        · intro x; exact rfl
        · intro x; exact rfl
        · exact rfl
        · exact rfl
        · ((repeat' (first | exact AllP.nil | with_reducible refine AllP.cons ?_ ?_)) <;> first | exact rfl | exact trivial | exact Int.natCast_add_one _ | exact ⟨rfl, rfl⟩ | exact ⟨rfl, rfl, rfl⟩ | exact ⟨rfl, rfl, rfl, rfl⟩ | exact ⟨rfl, .inl rfl⟩ | exact ⟨rfl, .inr rfl⟩ | exact pur | (intro _; exact rfl) | (intro _; exact trivial) | (intro _; exact pur) | first | exact pur_val _ | (intro _ _; simp [pureL, pureS, pureE]; done) | exact pure_lit2 _ _)
        · exact ⟨Nat.zero_le _, hb2, by dsimp only; omega⟩
        · clear hb1 hb2 hx
          rintro ⟨x, out⟩ ⟨x1, x2, x3⟩
          dsimp only at x1 x2 x3 ⊢
          by_cases hx : x < s.kept.length
          · by_cases hn : (s.kept.getD (x : Int).toNat v00).name = []
            · have h4 := join2 (a := a) (b := b) (p := p) (q := q) keptW [45] (by decide) (by decide)
              repeat' (first
                | ((with_reducible apply Sat.run (X := X64)); exact rfl; (first | exact True.intro | (exact phi) | skip))
                | ((with_reducible apply Sat.cond_pt); exact rfl; (try dsimp only [V.EV.sub, V.EV.len]); first | assumption | omega)
                | ((with_reducible apply Sat.callR (h4)); exact rfl; exact rfl; exact rfl; kernel_rfl; (exact cnvX); exact rfl)
                | ((with_reducible apply Sat.inl 7 [] Tryz.func44 Tryz.ntmps44); exact rfl; exact rfl; kernel_rfl; exact rfl; exact rfl; exact rfl; exact rfl; ((repeat' (first | exact AllP.nil | with_reducible refine AllP.cons ?_ ?_)) <;> (first | exact True.intro | exact purX)); intro _ _)
                | ((with_reducible apply Sat.inl 7 [] Tryz.func45 Tryz.ntmps45); exact rfl; exact rfl; kernel_rfl; exact rfl; exact rfl; exact rfl; exact rfl; ((repeat' (first | exact AllP.nil | with_reducible refine AllP.cons ?_ ?_)) <;> (first | exact True.intro | exact purX)); intro _ _)
                | ((with_reducible apply Sat.checkU bld_check); exact rfl; kernel_rfl; exact rfl; exact rfl)
                | ((with_reducible apply Sat.out0 (C := ⟨_, _, _, _, _, _, _, _, _⟩)); exact rfl; (first | exact .inl rfl | exact .inr rfl); exact rfl)
                | ((with_reducible apply Sat.out2 (C := ⟨_, _, _, _, _, _, _, _, _⟩)); exact rfl; (first | exact .inl rfl | exact .inr rfl); exact rfl; (exact phi); exact rfl; (exact phi); exact rfl) | fail)
              · refine AllP.cons ?_ .nil
                show okLen (((keptW ++ 32 :: [45])).length + [10].length)
                simp only [okLen, keptW, List.length_append, List.length_cons, List.length_nil]; omega
              · refine AllP.cons rfl (.cons ?_ .nil)
                show (out.length + ((keptW ++ 32 :: [45]) ++ [10]).length) * (0 + 1) ≤ _
                simp only [keptW, List.length_append, List.length_cons, List.length_nil]; omega
              · have k3 : out ++ ((keptW ++ 32 :: [45]) ++ [10]) = pr2 s (x + 1) := by
                  rw [pr2_at s x hx, x2.get]
                  unfold keptLn
                  rw [if_pos (by rw [Int.toNat_natCast] at hn; exact hn)]; rfl
                have k4 := congrArg List.length k3
                refine Sat.back (x + 1, pr2 s (x + 1)) [(3, some 6)] rfl ?_ ?_ ?_
                · (repeat' (first | exact AllP.nil | with_reducible refine AllP.cons ?_ ?_)) <;> first | exact rfl | exact trivial | exact congrArg EV.u8 k3 | exact Int.natCast_add_one _ | exact ⟨rfl, rfl, rfl, rfl⟩ | exact ⟨rfl, rfl, rfl, List.length_append.symm.trans k4⟩ | exact purX | exact pur_val _ | exact pure_lit2 _ _
                · refine ⟨hx, ⟨rfl⟩, ?_⟩
                  show (pr2 s (x + 1)).length ≤ 60000 + 3000 * (x + 1)
                  rw [← k4]
                  simp only [keptW, List.length_append, List.length_cons, List.length_nil]; omega
                · show s.kept.length - (x + 1) < s.kept.length - x
                  omega
            · have hm : s.kept.getD (x : Int).toNat v00 ∈ s.kept := by rw [Int.toNat_natCast, List.getD_eq_getElem?_getD, List.getElem?_eq_getElem hx]; exact List.getElem_mem hx
              obtain ⟨n1, n2⟩ := right_len (((h.kept _ hm).resolve_left fun e => hn (by rw [e])))
              have h4 := join3 (a := a) (b := b) (p := p) (q := q) keptW (s.kept.getD (x : Int).toNat v00).name (s.kept.getD (x : Int).toNat v00).val (by decide) n1 n2
              repeat' (first
                | ((with_reducible apply Sat.run (X := X64)); exact rfl; (first | exact True.intro | (exact phi) | skip))
                | ((with_reducible apply Sat.cond_pt); exact rfl; (try dsimp only [V.EV.sub, V.EV.len]); first | assumption | omega)
                | ((with_reducible apply Sat.cond_pf); exact rfl; (try dsimp only [V.EV.sub, V.EV.len]); first | assumption | omega)
                | ((with_reducible apply Sat.callR (h4)); exact rfl; exact rfl; exact rfl; kernel_rfl; (exact cnvX); exact rfl)
                | ((with_reducible apply Sat.inl 7 [] Tryz.func44 Tryz.ntmps44); exact rfl; exact rfl; kernel_rfl; exact rfl; exact rfl; exact rfl; exact rfl; ((repeat' (first | exact AllP.nil | with_reducible refine AllP.cons ?_ ?_)) <;> (first | exact True.intro | exact purX)); intro _ _)
                | ((with_reducible apply Sat.inl 7 [] Tryz.func45 Tryz.ntmps45); exact rfl; exact rfl; kernel_rfl; exact rfl; exact rfl; exact rfl; exact rfl; ((repeat' (first | exact AllP.nil | with_reducible refine AllP.cons ?_ ?_)) <;> (first | exact True.intro | exact purX)); intro _ _)
                | ((with_reducible apply Sat.checkU bld_check); exact rfl; kernel_rfl; exact rfl; exact rfl)
                | ((with_reducible apply Sat.out0 (C := ⟨_, _, _, _, _, _, _, _, _⟩)); exact rfl; (first | exact .inl rfl | exact .inr rfl); exact rfl)
                | ((with_reducible apply Sat.out2 (C := ⟨_, _, _, _, _, _, _, _, _⟩)); exact rfl; (first | exact .inl rfl | exact .inr rfl); exact rfl; (exact phi); exact rfl; (exact phi); exact rfl) | fail)
              · refine AllP.cons ?_ .nil
                show okLen ((keptW ++ 32 :: ((s.kept.getD (x : Int).toNat v00).name ++ 32 :: (s.kept.getD (x : Int).toNat v00).val)).length + [10].length)
                simp only [okLen, keptW, List.length_append, List.length_cons, List.length_nil]; omega
              · refine AllP.cons rfl (.cons ?_ .nil)
                show (out.length + (keptW ++ 32 :: ((s.kept.getD (x : Int).toNat v00).name ++ 32 :: (s.kept.getD (x : Int).toNat v00).val) ++ [10]).length) * (0 + 1) ≤ _
                simp only [keptW, List.length_append, List.length_cons, List.length_nil]; omega
              · have k3 : out ++ (keptW ++ 32 :: ((s.kept.getD (x : Int).toNat v00).name ++ 32 :: (s.kept.getD (x : Int).toNat v00).val) ++ [10]) = pr2 s (x + 1) := by
                  rw [pr2_at s x hx, x2.get]
                  unfold keptLn
                  rw [if_neg (by rw [Int.toNat_natCast] at hn; exact hn), Int.toNat_natCast]
                have k4 := congrArg List.length k3
                refine Sat.back (x + 1, pr2 s (x + 1)) [(3, some 6)] rfl ?_ ?_ ?_
                · (repeat' (first | exact AllP.nil | with_reducible refine AllP.cons ?_ ?_)) <;> first | exact rfl | exact trivial | exact congrArg EV.u8 k3 | exact Int.natCast_add_one _ | exact ⟨rfl, rfl, rfl, rfl⟩ | exact ⟨rfl, rfl, rfl, List.length_append.symm.trans k4⟩ | exact purX | exact pur_val _ | exact pure_lit2 _ _
                · refine ⟨hx, ⟨rfl⟩, ?_⟩
                  show (pr2 s (x + 1)).length ≤ 60000 + 3000 * (x + 1)
                  rw [← k4]
                  simp only [keptW, List.length_append, List.length_cons, List.length_nil]; omega
                · show s.kept.length - (x + 1) < s.kept.length - x
                  omega
          · obtain rfl : x = s.kept.length := by omega
            repeat' (first
              | ((with_reducible apply Sat.run (X := X64)); exact rfl; (first | exact True.intro | (exact phi) | skip))
              | ((with_reducible apply Sat.cond_pf); exact rfl; (try dsimp only [V.EV.sub, V.EV.len]); first | assumption | omega) | fail)
            have x3 := x2.get.trans (pr2_end s h)
            subst x3
            have hne := printS_ne (dec := Lib.itoa) h
            with_reducible apply Sat.bstr 6 bld_text
            · exact rfl
            · kernel_rfl
            · exact rfl
            · exact rfl
            · exact rfl
            · exact rfl
            · exact hG
            · exact fun _ h => h
            · exact rfl
            · exact rfl
            · exact hne
            repeat' (first
              | ((with_reducible apply Sat.run (X := X64)); exact rfl; (first | exact True.intro | (exact phi) | skip)) | fail)
            (refine Sat.fin (Sat.end1 rfl rfl rfl True.intro (.refl _ purX) (by first | exact .inl rfl | exact .inr rfl) (fun _ h => h)) ?_; rfl)
theorem print_spec (s : SetL) : Fun Tryz.prog (Γs a b p q) 23 [s.v] (.str (printS Lib.itoa s)) := by
  by_cases h : validS s = true
  · exact print_good s ((validS_iff s).1 h)
  · have e : printS Lib.itoa s = [] := by unfold printS; rw [if_neg h]
    rw [e]
    exact print_bad s (by simpa using h)
end
end Go.Proofs.YtpbgihhfcdggkaaGreatDoor
end
