/-
  A walk by abstract values: a run through regions and code, as far as nothing has to be decided.
-/
import Derived.Test.YtgpggoejkkhceaaDoorVm
namespace Go.Proofs.YtgpggoejkkhceaaDoor.V
open Go.RowKit

/-! ### Where the walk stands -/
inductive Kont where
  | seq (c : Code)
  | blk (id : Nat)
  | lp (I : Act → World → Prop)
inductive Ex where
  | normal
  | exit (id : Nat)
  | ret
def Ex.out : Ex → Exit
  | .normal => .normal
  | .exit id => .exit id
  | .ret => .ret
inductive Cfg where
  | reg (full rest : List Oper) (F : Tr) (M : Mem) (ids : List Nat) (k : List Kont)
  | qreg (full rest : List Oper) (F : Tr) (M : Mem) (ids : List Nat) (k : List Kont)
  | code (c : Code) (F : Tr) (M : Mem) (ids : List Nat) (k : List Kont)
  | ext (e : Ex) (F : Tr) (M : Mem) (ids : List Nat) (k : List Kont)
/-- The numbers that new blocks get. -/
def Sup : List Nat → (Nat → Prop) → Prop
  | [], _ => True
  | i :: r, U => U i ∧ Sup r (rest U i)
def ids0 : List Nat := 0 :: 1 :: 2 :: 3 :: 4 :: 5 :: 6 :: 7 :: 8 :: 9 :: 10 :: 11 :: 12 :: 13 :: 14 :: 15 :: 16 :: 17 :: 18 :: 19 :: 20 :: 21 :: 22 :: 23 :: 24 :: 25 :: 26 :: 27 :: 28 :: 29 :: 30 :: 31 :: 32 :: 33 :: 34 :: 35 :: 36 :: 37 :: 38 :: 39 :: 40 :: 41 :: 42 :: 43 :: 44 :: 45 :: 46 :: 47 :: 48 :: 49 :: 50 :: 51 :: 52 :: 53 :: 54 :: 55 :: 56 :: 57 :: 58 :: 59 :: []

/-! ### A run -/
def dstOf : List Oper → Nat → Option Tmp
  | [], _ => none
  | o :: _, 0 => o.dst
  | _ :: r, n + 1 => dstOf r n
def guardH (F : Tr) (full : List Oper) (j : Nat) (want : Bool) : Option Prop :=
  match dstOf full j with
  | some d => match F.get d with
    | some (.bool b) => some (b = want)
    | some (.may g (.bool b)) => some (g ∧ b = want)
    | _ => none
  | none => none
def fE {α : Type} (e : EV) (K : EV → Option α) : Option α :=
  match e with
  | .u8 l => K (.u8 l)
  | .ints k l => K (.ints k l)
  | .g n sz f => K (.g n sz f)
def fH {α : Type} (s : SV) (K : SV → Option α) : Option α :=
  match s with
  | .bool b => K (.bool b)
  | .int k n => K (.int k n)
  | .str l => K (.str l)
  | .nilp => K .nilp
  | .ptr id off => K (.ptr id off)
  | .pel id base sz i j => K (.pel id base sz i j)
  | .rop e i j => K (.rop e i j)
  | .nils => K .nils
  | .row id base sz sub len => K (.row id base sz sub len)
  | .ro e => K (.ro e)
  | .agg l => K (.agg l)
  | .arr n e => K (.arr n e)
  | .tup l => K (.tup l)
  | .fn f cap => K (.fn f cap)
  | .mv f cap => K (.mv f cap)
  | .ifc t v => K (.ifc t v)
  | .nili => K .nili
  | .nilf => K .nilf
  | .may g v => K (.may g v)
  | .val x => K (.val x)
def fL {α : Type} : List SV → (List SV → Option α) → Option α
  | [], K => K []
  | s :: r, K => fH s fun s' => fL r fun r' => K (s' :: r')
def fP {α : Type} : List Prop → (List Prop → Option α) → Option α
  | [], K => K []
  | p :: r, K => fP r fun r' => K (p :: r')
/-- A value's head. -/
def fS {α : Type} (s : SV) (K : SV → Option α) : Option α :=
  match s with
  | .bool b => K (.bool b)
  | .int k n => K (.int k n)
  | .str l => K (.str l)
  | .nilp => K .nilp
  | .ptr id off => K (.ptr id off)
  | .pel id base sz i j => K (.pel id base sz i j)
  | .rop e i j => fE e fun e' => K (.rop e' i j)
  | .nils => K .nils
  | .row id base sz sub len => K (.row id base sz sub len)
  | .ro e => fE e fun e' => K (.ro e')
  | .agg l => fL l fun l' => K (.agg l')
  | .arr n e => fE e fun e' => K (.arr n e')
  | .tup l => fL l fun l' => K (.tup l')
  | .fn f cap => fL cap fun l' => K (.fn f l')
  | .mv f cap => fL cap fun l' => K (.mv f l')
  | .ifc t v => K (.ifc t v)
  | .nili => K .nili
  | .nilf => K .nilf
  | .may g v => K (.may g v)
  | .val x => K (.val x)
def fB {α : Type} (B : Blk) (K : Blk → Option α) : Option α :=
  match B with
  | .cells t l => fL l fun l' => K (.cells t l')
  | .row t e => fE e fun e' => K (.row t e')
  | .obj o => K (.obj o)
def fM {α : Type} : Mem → (Mem → Option α) → Option α
  | [], K => K []
  | (i, B) :: r, K => fM r fun r' => K ((i, B) :: r')
theorem fE_eq {α : Type} {e : EV} {K : EV → Option α} : fE e K = K e := by cases e <;> rfl
theorem fH_eq {α : Type} {s : SV} {K : SV → Option α} : fH s K = K s := by cases s <;> rfl
theorem fL_eq {α : Type} : ∀ {l : List SV} {K : List SV → Option α}, fL l K = K l
  | [], _ => rfl
  | s :: r, K => by simp only [fL, fH_eq]; exact fL_eq
theorem fP_eq {α : Type} : ∀ {l : List Prop} {K : List Prop → Option α}, fP l K = K l
  | [], _ => rfl
  | s :: r, K => by simp only [fP]; exact fP_eq
theorem fS_eq {α : Type} {s : SV} {K : SV → Option α} : fS s K = K s := by
  cases s <;> simp only [fS, fE_eq, fL_eq]
theorem fB_eq {α : Type} {B : Blk} {K : Blk → Option α} : fB B K = K B := by
  cases B <;> simp only [fB, fE_eq, fL_eq]
theorem fM_eq {α : Type} : ∀ {M : Mem} {K : Mem → Option α}, fM M K = K M
  | [], _ => rfl
  | (i, B) :: r, K => by simp only [fM]; exact fM_eq

structure Res where
  F : Tr
  M : Mem
  ids : List Nat
  φ : List Prop
def putD {α : Type} (N : Nat) (F : Tr) (d : Option Tmp) (v : Option SV) (K : Tr → Option α) : Option α :=
  match d with
  | none => K F
  | some d => match Nat.blt d N with
    | true => F.putK d v K
    | false => none
/-- One operation, without its guard. -/
def stepV (X : IntKind → Bool) (P : Program) (Γ : Glob) (N : Nat) (o : Oper) (F : Tr) (M : Mem) (ids : List Nat) : Option Res :=
  match ev1 X P Γ F M o.op with
  | some (φ, v) => fS v fun v' => putD N F o.dst (some v') fun F' => some ⟨F', M, ids, φ⟩
  | none => match ids with
    | [] => none
    | i :: ids' => match ev2 P Γ F M i o.op with
      | some (.new φ B v) => fB B fun B' => fS v fun v' => putD N F o.dst (some v') fun F' => some ⟨F', (i, B') :: M, ids', φ⟩
      | some (.upd φ id B none) => fB B fun B' => match upd M id B' with
        | some M' => fM M' fun M2 => putD N F o.dst none fun F' => some ⟨F', M2, i :: ids', φ⟩
        | none => none
      | some (.mov φ od B v) => fB B fun B' => fS v fun v' => fM (delO M od) fun M' => putD N F o.dst (some v') fun F' => some ⟨F', (i, B') :: M', ids', φ⟩
      | _ => none
/-- One operation. -/
def step1 (X : IntKind → Bool) (P : Program) (Γ : Glob) (N : Nat) (full : List Oper) (o : Oper) (F : Tr) (M : Mem) (ids : List Nat) : Option Res :=
  match o.guard with
  | none => stepV X P Γ N o F M ids
  | some (j, want) => match guardH F full j want with
    | some H => match ev1 X P Γ F M o.op with
      | some (φ, v) => fS v fun v' => putD N F o.dst (some (.may H v')) fun F' => some ⟨F', M, ids, φ.map (H → ·)⟩
      | none => none
    | none => none
/-- One operation that leaves memory alone. -/
def stepQ (X : IntKind → Bool) (P : Program) (Γ : Glob) (N : Nat) (full : List Oper) (o : Oper) (F : Tr) (M : Mem) : Option (Tr × List Prop) :=
  match ev1 X P Γ F M o.op with
  | some (φ, v) => match o.guard with
    | none => fS v fun v' => putD N F o.dst (some v') fun F' => some (F', φ)
    | some (j, want) => match guardH F full j want with
      | some H => fS v fun v' => putD N F o.dst (some (.may H v')) fun F' => some (F', φ.map (H → ·))
      | none => none
  | none => none
structure Stop where
  rest : List Oper
  F : Tr
  M : Mem
  ids : List Nat
  φ : List Prop
def runR (X : IntKind → Bool) (P : Program) (Γ : Glob) (N : Nat) (full : List Oper) : List Oper → Tr → Mem → List Nat → List Prop → Option Stop
  | [], F, M, ids, φ => some ⟨[], F, M, ids, φ⟩
  | o :: r, F, M, ids, φ => match step1 X P Γ N full o F M ids with
    | none => some ⟨o :: r, F, M, ids, φ⟩
    | some ⟨F', M', ids', φ'⟩ => runR X P Γ N full r F' M' ids' (φ' ++ φ)
def runQ (X : IntKind → Bool) (P : Program) (Γ : Glob) (N : Nat) (full : List Oper) (M : Mem) (ids : List Nat) : List Oper → Tr → List Prop → Option Stop
  | [], F, φ => some ⟨[], F, M, ids, φ⟩
  | o :: r, F, φ => match stepQ X P Γ N full o F M with
    | none => some ⟨o :: r, F, M, ids, φ⟩
    | some (F', φ') => runQ X P Γ N full M ids r F' (φ' ++ φ)
/-- The run; it stops where something has to be decided, or said. -/
def runC (X : IntKind → Bool) (P : Program) (Γ : Glob) (N : Nat) : Nat → Cfg → List Prop → Option (Cfg × List Prop)
  | 0, c, φ => some (c, φ)
  | n + 1, .reg full rest F M ids k, φ => match runR X P Γ N full rest F M ids φ with
    | none => none
    | some ⟨[], F', M', ids', φ'⟩ => runC X P Γ N n (.ext .normal F' M' ids' k) φ'
    | some ⟨o :: r, F', M', ids', φ'⟩ => some (.reg full (o :: r) F' M' ids' k, φ')
  | n + 1, .qreg full rest F M ids k, φ => match runQ X P Γ N full M ids rest F φ with
    | none => none
    | some ⟨[], F', M', ids', φ'⟩ => runC X P Γ N n (.ext .normal F' M' ids' k) φ'
    | some ⟨o :: r, F', M', ids', φ'⟩ => some (.qreg full (o :: r) F' M' ids' k, φ')
  | n + 1, .code c F M ids k, φ => match c with
    | .skip => runC X P Γ N n (.ext .normal F M ids k) φ
    | .label _ => runC X P Γ N n (.ext .normal F M ids k) φ
    | .seq a b => runC X P Γ N n (.code a F M ids (.seq b :: k)) φ
    | .block id b => runC X P Γ N n (.code b F M ids (.blk id :: k)) φ
    | .region _ ⟨ops⟩ false => runC X P Γ N n (.reg ops ops F M ids k) φ
    | .exit id => runC X P Γ N n (.ext (.exit id) F M ids k) φ
    | .ret => runC X P Γ N n (.ext .ret F M ids k) φ
    | c => some (.code c F M ids k, φ)
  | n + 1, .ext e F M ids k, φ => match e, k with
    | .normal, .seq b :: k => runC X P Γ N n (.code b F M ids k) φ
    | .normal, .blk _ :: k => runC X P Γ N n (.ext .normal F M ids k) φ
    | .exit i, .seq _ :: k => runC X P Γ N n (.ext (.exit i) F M ids k) φ
    | .exit i, .blk j :: k => match Nat.beq i j with
      | true => runC X P Γ N n (.ext .normal F M ids k) φ
      | false => runC X P Γ N n (.ext (.exit i) F M ids k) φ
    | .exit i, .lp _ :: k => runC X P Γ N n (.ext (.exit i) F M ids k) φ
    | .ret, .seq _ :: k => runC X P Γ N n (.ext .ret F M ids k) φ
    | .ret, .blk _ :: k => runC X P Γ N n (.ext .ret F M ids k) φ
    | .ret, .lp _ :: k => runC X P Γ N n (.ext .ret F M ids k) φ
    | e, k => some (.ext e F M ids k, φ)
/-- Can it go on? -/
def moves (X : IntKind → Bool) (P : Program) (Γ : Glob) (N : Nat) : Cfg → Bool
  | .reg full (o :: _) F M ids _ => (step1 X P Γ N full o F M ids).isSome
  | .reg _ [] _ _ _ _ => true
  | .qreg full (o :: _) F M _ _ => (stepQ X P Γ N full o F M).isSome
  | .qreg _ [] _ _ _ _ => true
  | .code c _ _ _ _ => match c with
    | .skip | .label _ | .seq _ _ | .block _ _ | .exit _ | .ret => true
    | .region _ _ d => !d
    | _ => false
  | .ext e _ _ _ k => match e, k with
    | .normal, .seq _ :: _ | .normal, .blk _ :: _ => true
    | .exit _, _ :: _ | .ret, _ :: _ => true
    | _, _ => false
def runS (X : IntKind → Bool) (C : Ctx) (c : Cfg) : Option (Cfg × List Prop) :=
  match moves X C.P C.Γ C.N c with
  | true => match runC X C.P C.Γ C.N 1000 c [] with
    | some (c', φ) => fP φ fun φ' => some (c', φ')
    | none => none
  | false => none

/-! ### What it says -/
def Kq (P : Program) (Q0 : Exit → Act → World → Prop) : List Kont → Exit → Act → World → Prop
  | [] => Q0
  | .seq c :: k => Exit.then (fun a w => c.wp P (Kq P Q0 k) a w) (Kq P Q0 k)
  | .blk id :: k => Exit.inBlock id (Kq P Q0 k)
  | .lp I :: k => Exit.then I (Kq P Q0 k)
/-- From here on all goes well. -/
def Sat (C : Ctx) (Q0 : Exit → Act → World → Prop) : Cfg → Prop
  | .reg full rest F M ids k => ∀ U E a w, Sup ids U → St C F M U E a w → wpList C.P full.toArray (Kq C.P Q0 k) rest a w
  | .qreg full rest F M ids k => ∀ U E a w, Sup ids U → St C F M U E a w → wpQuiet C.P full.toArray (fun w' => Below w.heap.size w w') (fun a' => ∀ w', Below w.heap.size w w' → Kq C.P Q0 k .normal a' w') rest a
  | .code c F M ids k => ∀ U E a w, Sup ids U → St C F M U E a w → c.wp C.P (Kq C.P Q0 k) a w
  | .ext e F M ids k => ∀ U E a w, Sup ids U → St C F M U E a w → Kq C.P Q0 k e.out a w

/-! ### The run is sound -/
section
variable {X : IntKind → Bool} {C : Ctx} {Q0 : Exit → Act → World → Prop} {F F' : Tr} {M M' : Mem} {ids ids' : List Nat} {U : Nat → Prop} {E : Env} {a : Act} {w : World} {full : List Oper}

theorem putD_inv {α : Type} {N : Nat} {d : Option Tmp} {v : Option SV} {K : Tr → Option α} {r : α} (h : putD N F d v K = some r) : ∃ F', K F' = some r ∧ ((d = none ∧ F' = F) ∨ ∃ k, d = some k ∧ Nat.blt k N = true ∧ F.put k v = some F') := by
  unfold putD at h
  split at h
  · exact ⟨F, h, .inl ⟨rfl, rfl⟩⟩
  · rename_i k
    split at h
    · rename_i hk
      obtain ⟨F', h1, h2⟩ := Tr.putK_eq F k v K r h
      exact ⟨F', h2, .inr ⟨k, rfl, hk, h1⟩⟩
    · cases h
theorem St.putD (h : St C F M U E a w) {d : Option Tmp} {s : Option SV} {v : Value} (hF : (d = none ∧ F' = F) ∨ ∃ k, d = some k ∧ Nat.blt k C.N = true ∧ F.put k s = some F') (hr : ∀ s', s = some s' → Rep E (trk C.T0 M E) w s' v) : St C F' M U E (a.put d v) w := by
  rcases hF with ⟨rfl, rfl⟩ | ⟨k, rfl, hk, hp⟩
  · exact h
  · exact h.put hk hp hr

/-- What a step of the run comes to. -/
def Went (C : Ctx) (F' : Tr) (M' : Mem) (ids' : List Nat) (a : Act) (w : World) (o : Oper) : Prop :=
  ∃ U' E' w', Sup ids' U' ∧ ((∃ x, (execOp a.eval o).run C.P w = .ok (.value x) w' ∧ St C F' M' U' E' (a.put o.dst x) w') ∨ ((execOp a.eval o).run C.P w = .ok .skip w' ∧ St C F' M' U' E' (a.put o.dst undef) w'))

theorem stepV_ok (h : St C F M U E a w) (hs : Sup ids U) {o : Oper} {r : Res} (he : stepV X C.P C.Γ C.N o F M ids = some r) (hφ : All r.φ) : Went C r.F r.M r.ids a w o := by
  unfold stepV at he
  split at he
  · rename_i φ v hv
    rw [fS_eq] at he
    obtain ⟨F', h1, h2⟩ := putD_inv he
    simp at h1
    subst h1
    obtain ⟨x, hx, hrun⟩ := ev1_run h.vw hv hφ
    exact ⟨U, E, w, hs, .inl ⟨x, hrun w (Below.refl _ _) o rfl, h.putD h2 fun s' hs' => by cases hs'; exact hx⟩⟩
  · split at he
    · cases he
    · rename_i i ids'
      obtain ⟨hi, hs'⟩ := hs
      split at he
      · rename_i φ B v hv
        rw [fB_eq, fS_eq] at he
        obtain ⟨F', h1, h2⟩ := putD_inv he
        simp at h1
        subst h1
        obtain ⟨x, E', w', hrun, hx, hst⟩ := ev2_run h hi hv rfl hφ
        exact ⟨_, E', w', hs', .inl ⟨x, hrun, hst.putD h2 fun s' hs' => by cases hs'; exact hx⟩⟩
      · rename_i φ id B hv
        rw [fB_eq] at he
        split at he
        · rename_i M1 hM1
          rw [fM_eq] at he
          obtain ⟨F', h1, h2⟩ := putD_inv he
          simp at h1
          subst h1
          obtain ⟨M2, w', hM2, hrun, hst⟩ := ev2_run h hi hv rfl hφ
          rw [hM1] at hM2
          cases hM2
          exact ⟨_, E, w', ⟨hi, hs'⟩, .inr ⟨hrun, hst.putD h2 fun s' hs' => by cases hs'⟩⟩
        · cases he
      · rename_i φ od B v hv
        rw [fB_eq, fS_eq, fM_eq] at he
        obtain ⟨F', h1, h2⟩ := putD_inv he
        simp at h1
        subst h1
        obtain ⟨x, E', w', hrun, hx, hst⟩ := ev2_run h hi hv rfl hφ
        exact ⟨_, E', w', hs', .inl ⟨x, hrun, hst.putD h2 fun s' hs' => by cases hs'; exact hx⟩⟩
      · cases he

theorem dstOf_eq : ∀ (l : List Oper) (j : Nat), dstOf l j = (l[j]?).bind (·.dst)
  | [], j => by simp [dstOf]
  | o :: r, 0 => by simp [dstOf]
  | o :: r, j + 1 => by simp [dstOf, dstOf_eq r j]
theorem guardH_ok (h : St C F M U E a w) {j : Nat} {want : Bool} {H : Prop} (hg : guardH F full j want = some H) : (yielded full.toArray a.tmps j == some want) = true ↔ H := by
  unfold guardH at hg
  split at hg
  · rename_i d hd
    rw [dstOf_eq] at hd
    have hy : yielded full.toArray a.tmps j = match a.tmps[d]? with | some (.bool b) => some b | _ => none := by
      unfold yielded
      simp only [List.getElem?_toArray, hd, Option.bind_some]
      cases a.tmps[d]? with
      | none => rfl
      | some z => cases z <;> rfl
    have hget : a.tmps.getD d undef = (a.tmps[d]?).getD undef := Array.getD_eq_getD_getElem? ..
    split at hg
    · rename_i b hb
      have hg' := Option.some.inj hg
      subst hg'
      have hr := h.slots d _ hb
      generalize hv : a.tmps.getD d undef = v at hr
      cases hr
      rw [hget] at hv
      cases hq : a.tmps[d]? with
      | none => rw [hq] at hv; simp [undef] at hv
      | some z =>
        rw [hq] at hv
        simp at hv
        subst hv
        rw [hy, hq]
        simp
    · rename_i g b hb
      have hg' := Option.some.inj hg
      subst hg'
      have hr := h.slots d _ hb
      generalize hv : a.tmps.getD d undef = v at hr
      rw [hget] at hv
      cases hr with
      | may1 _ _ _ hgg hr =>
        cases hr
        cases hq : a.tmps[d]? with
        | none => rw [hq] at hv; simp [undef] at hv
        | some z =>
          rw [hq] at hv
          simp at hv
          subst hv
          rw [hy, hq]
          simp [hgg]
      | may0 _ _ hgg =>
        rw [hy]
        cases hq : a.tmps[d]? with
        | none => simp [hgg]
        | some z =>
          rw [hq] at hv
          simp at hv
          subst hv
          simp [undef, hgg]
    · cases hg
  · cases hg

theorem All.imp {φ : List Prop} {H : Prop} (h : All (φ.map (H → ·))) (hH : H) : All φ := fun p hp => h (H → p) (List.mem_map.2 ⟨p, hp, rfl⟩) hH

theorem step1_ok (h : St C F M U E a w) (hs : Sup ids U) {o : Oper} {r : Res} {rest : List Oper} {Q : Exit → Act → World → Prop} (he : step1 X C.P C.Γ C.N full o F M ids = some r) (hφ : All r.φ)
    (hn : ∀ U E a w, Sup r.ids U → St C r.F r.M U E a w → wpList C.P full.toArray Q rest a w) : wpList C.P full.toArray Q (o :: rest) a w := by
  unfold step1 at he
  split at he
  · rename_i hg
    obtain ⟨U', E', w', hs', hw⟩ := stepV_ok h hs he hφ
    refine wpList_plain hg fun K hK => ?_
    unfold Oper.wp
    rcases hw with ⟨x, hrun, hst⟩ | ⟨hrun, hst⟩
    · rw [hrun]; exact hK _ _ (hn _ _ _ _ hs' hst)
    · rw [hrun]; exact hK _ _ (hn _ _ _ _ hs' hst)
  · rename_i j want hg
    split at he
    · rename_i H hH
      have hiff := guardH_ok (full := full) h hH
      split at he
      · rename_i φ v hv
        rw [fS_eq] at he
        obtain ⟨F', h1, h2⟩ := putD_inv he
        simp at h1
        subst h1
        refine wpList_step fun K hK => ?_
        simp only [Region.wanted, hg]
        split
        · rename_i hy
          have hHt := hiff.1 hy
          obtain ⟨x, hx, hrun⟩ := ev1_run h.vw hv (All.imp hφ hHt)
          unfold Oper.wp
          rw [hrun w (Below.refl _ _) o rfl]
          exact hK _ _ (hn _ _ _ _ hs (h.putD h2 fun s' hs' => by cases hs'; exact .may1 _ _ _ hHt hx))
        · rename_i hy
          have hHf : ¬ H := fun hh => hy (hiff.2 hh)
          exact hK _ _ (hn _ _ _ _ hs (h.putD h2 fun s' hs' => by cases hs'; exact .may0 _ _ hHf))
      · cases he
    · cases he

theorem runR_ok {Q : Exit → Act → World → Prop} : ∀ (rest : List Oper) {F : Tr} {M : Mem} {ids : List Nat} {φ : List Prop} {s : Stop}, runR X C.P C.Γ C.N full rest F M ids φ = some s → All s.φ →
    (∀ U E a w, Sup s.ids U → St C s.F s.M U E a w → wpList C.P full.toArray Q s.rest a w) → All φ ∧ ∀ U E a w, Sup ids U → St C F M U E a w → wpList C.P full.toArray Q rest a w
  | [], F, M, ids, φ, s, h, hφ, hn => by
    simp only [runR, Option.some.injEq] at h
    subst h
    exact ⟨hφ, hn⟩
  | o :: r, F, M, ids, φ, s, h, hφ, hn => by
    simp only [runR] at h
    split at h
    · simp only [Option.some.injEq] at h
      subst h
      exact ⟨hφ, hn⟩
    · rename_i F' M' ids' φ' hst
      obtain ⟨h1, h2⟩ := runR_ok r h hφ hn
      obtain ⟨h3, h4⟩ := h1.app
      exact ⟨h4, fun U E a w hs hS => step1_ok hS hs hst h3 h2⟩

theorem St.below (h : St C F M U E a w) {w' : World} (hb : Below w.heap.size w w') : St C F M U E a w' := by
  refine h.go (fun _ _ h => h) (fun _ _ h => h) (Chg.of_below hb) hb.os hb.tape hb.output ⟨fun id B hf => ?_, h.mem.inj⟩ h.own h.fresh
  rcases h.mem.blk id B hf with ⟨b, h1, h2, h3⟩ | h1
  · left
    exact ⟨b, h1, Nat.lt_of_lt_of_le h2 hb.size, h3.mono (fun _ _ h => h) (fun _ _ h => h) (Chg.of_below hb) (hb.block b h2)⟩
  · right; exact h1

theorem stepQ_ok (h : St C F M U E a w) {o : Oper} {φ : List Prop} {rest : List Oper} {Q : Act → Prop} (he : stepQ X C.P C.Γ C.N full o F M = some (F', φ)) (hφ : All φ)
    (hn : ∀ a, St C F' M U E a w → wpQuiet C.P full.toArray (fun w' => Below w.heap.size w w') Q rest a) : wpQuiet C.P full.toArray (fun w' => Below w.heap.size w w') Q (o :: rest) a := by
  unfold stepQ at he
  split at he
  · rename_i φ0 v hv
    split at he
    · rename_i hg
      rw [fS_eq] at he
      obtain ⟨F1, h1, h2⟩ := putD_inv he
      simp at h1
      obtain ⟨rfl, rfl⟩ := h1
      obtain ⟨x, hx, hrun⟩ := ev1_run h.vw hv hφ
      refine wpQuiet_step fun K hK => ?_
      simp only [Region.wanted, hg, if_true]
      refine ⟨x, fun w' hw' => ?_, hK _ (hn _ (h.putD h2 fun s' hs' => by cases hs'; exact hx))⟩
      unfold Oper.quietAt
      rw [hrun w' hw' o rfl]
      exact ⟨rfl, rfl⟩
    · rename_i j want hg
      split at he
      · rename_i H hH
        have hiff := guardH_ok (full := full) h hH
        rw [fS_eq] at he
        obtain ⟨F1, h1, h2⟩ := putD_inv he
        simp at h1
        obtain ⟨rfl, rfl⟩ := h1
        refine wpQuiet_step fun K hK => ?_
        simp only [Region.wanted, hg]
        split
        · rename_i hy
          have hHt := hiff.1 hy
          obtain ⟨x, hx, hrun⟩ := ev1_run h.vw hv (All.imp hφ hHt)
          refine ⟨x, fun w' hw' => ?_, hK _ (hn _ (h.putD h2 fun s' hs' => by cases hs'; exact .may1 _ _ _ hHt hx))⟩
          unfold Oper.quietAt
          rw [hrun w' hw' o rfl]
          exact ⟨rfl, rfl⟩
        · rename_i hy
          have hHf : ¬ H := fun hh => hy (hiff.2 hh)
          exact hK _ (hn _ (h.putD h2 fun s' hs' => by cases hs'; exact .may0 _ _ hHf))
      · cases he
  · cases he
theorem runQ_ok {Q : Act → Prop} : ∀ (rest : List Oper) {F : Tr} {φ : List Prop} {s : Stop}, runQ X C.P C.Γ C.N full M ids rest F φ = some s → All s.φ →
    s.M = M ∧ s.ids = ids ∧ All φ ∧ ∀ U E w, (∀ a, St C s.F M U E a w → wpQuiet C.P full.toArray (fun w' => Below w.heap.size w w') Q s.rest a) → ∀ a, St C F M U E a w → wpQuiet C.P full.toArray (fun w' => Below w.heap.size w w') Q rest a
  | [], F, φ, s, h, hφ => by
    simp only [runQ, Option.some.injEq] at h
    subst h
    exact ⟨rfl, rfl, hφ, fun U E w hn a hS => hn a hS⟩
  | o :: r, F, φ, s, h, hφ => by
    simp only [runQ] at h
    split at h
    · simp only [Option.some.injEq] at h
      subst h
      exact ⟨rfl, rfl, hφ, fun U E w hn a hS => hn a hS⟩
    · rename_i F' φ' hst
      obtain ⟨e1, e2, h1, h2⟩ := runQ_ok (Q := Q) r h hφ
      obtain ⟨h3, h4⟩ := h1.app
      exact ⟨e1, e2, h4, fun U E w hn a hS => stepQ_ok hS hst h3 (h2 U E w hn)⟩
end
end Go.Proofs.YtgpggoejkkhceaaDoor.V
