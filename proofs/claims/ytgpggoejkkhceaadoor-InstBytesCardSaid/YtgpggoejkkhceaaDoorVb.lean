/-
  A walk by abstract values: frames, memory, the state; what an operation reckons.
-/
import Derived.Test.YtgpggoejkkhceaaDoorVa
namespace Go.Proofs.YtgpggoejkkhceaaDoor.V
open Go.RowKit

/-! ### Frames -/
/-- The slots that are known: a tree by the slot's number. -/
inductive Tr where
  | e
  | n (l : Tr) (x : Option SV) (r : Tr)
def Tr.mk : Nat → Tr
  | 0 => .e
  | d + 1 => .n (Tr.mk d) none (Tr.mk d)
def Tr.get : Tr → Nat → Option SV
  | .e, _ => none
  | .n l x r, k => match k with
    | 0 => x
    | k + 1 => match Nat.beq (Nat.mod k 2) 0 with
      | true => l.get (Nat.div k 2)
      | false => r.get (Nat.div k 2)
def Tr.put : Tr → Nat → Option SV → Option Tr
  | .e, _, _ => none
  | .n l x r, k, v => match k with
    | 0 => some (.n l v r)
    | k + 1 => match Nat.beq (Nat.mod k 2) 0 with
      | true => match l.put (Nat.div k 2) v with
        | some l' => some (.n l' x r)
        | none => none
      | false => match r.put (Nat.div k 2) v with
        | some r' => some (.n l x r')
        | none => none
/-- The same, handed on. -/
def Tr.putK {α : Type} : Tr → Nat → Option SV → (Tr → Option α) → Option α
  | .e, _, _, _ => none
  | .n l x r, k, v, K => match k with
    | 0 => K (.n l v r)
    | k + 1 => match Nat.beq (Nat.mod k 2) 0 with
      | true => l.putK (Nat.div k 2) v fun l' => K (.n l' x r)
      | false => r.putK (Nat.div k 2) v fun r' => K (.n l x r')

theorem Tr.putK_eq {α : Type} : ∀ (F : Tr) (k : Nat) (v : Option SV) (K : Tr → Option α) (r : α), F.putK k v K = some r → ∃ F', F.put k v = some F' ∧ K F' = some r
  | .e, k, v, K, r, h => by simp [Tr.putK] at h
  | .n l x r, 0, v, K, z, h => ⟨_, rfl, h⟩
  | .n l x r, k + 1, v, K, z, h => by
    simp only [Tr.putK] at h
    simp only [Tr.put]
    split at h
    · rename_i hb
      obtain ⟨l', h1, h2⟩ := Tr.putK_eq l _ v _ z h
      exact ⟨.n l' x r, by simp only [h1], h2⟩
    · rename_i hb
      obtain ⟨r', h1, h2⟩ := Tr.putK_eq r _ v _ z h
      exact ⟨.n l x r', by simp only [h1], h2⟩

theorem par_t {k : Nat} (h : Nat.beq (Nat.mod k 2) 0 = true) : k % 2 = 0 := Nat.eq_of_beq_eq_true h
theorem par_f {k : Nat} (h : Nat.beq (Nat.mod k 2) 0 = false) : k % 2 ≠ 0 := Nat.ne_of_beq_eq_false h
theorem Tr.get_put : ∀ (F F' : Tr) (k : Nat) (v : Option SV), F.put k v = some F' → ∀ t, F'.get t = if t = k then v else F.get t
  | .e, F', k, v, h, t => by simp [Tr.put] at h
  | .n l x r, F', 0, v, h, t => by
    simp [Tr.put] at h
    subst h
    cases t <;> simp [Tr.get]
  | .n l x r, F', k + 1, v, h, t => by
    simp only [Tr.put] at h
    cases hb : Nat.beq (Nat.mod k 2) 0 with
    | true =>
      simp only [hb] at h
      split at h
      · rename_i l' hl
        simp at h
        subst h
        have ih := Tr.get_put l l' _ v hl
        cases t with
        | zero => simp [Tr.get]
        | succ t =>
          simp only [Tr.get]
          have hk := par_t hb
          cases ht : Nat.beq (Nat.mod t 2) 0 with
          | true =>
            simp only [ih]
            have h2 := par_t ht
            have : (Nat.div t 2 = Nat.div k 2) ↔ (t + 1 = k + 1) := by
              show t / 2 = k / 2 ↔ _
              omega
            simp only [this]
          | false =>
            have h2 := par_f ht
            have : ¬ (t + 1 = k + 1) := by omega
            simp only [if_neg this]
      · cases h
    | false =>
      simp only [hb] at h
      split at h
      · rename_i r' hr
        simp at h
        subst h
        have ih := Tr.get_put r r' _ v hr
        cases t with
        | zero => simp [Tr.get]
        | succ t =>
          simp only [Tr.get]
          have hk := par_f hb
          cases ht : Nat.beq (Nat.mod t 2) 0 with
          | false =>
            simp only [ih]
            have h2 := par_f ht
            have : (Nat.div t 2 = Nat.div k 2) ↔ (t + 1 = k + 1) := by
              show t / 2 = k / 2 ↔ _
              omega
            simp only [this]
          | true =>
            have h2 := par_t ht
            have : ¬ (t + 1 = k + 1) := by omega
            simp only [if_neg this]
      · cases h

/-! ### Memory -/
/-- A block of the call's own: its cells' parts; a row of elements, with room behind; another object. -/
inductive Blk where
  | cells (t : TypeId) (l : List SV)
  | row (t : TypeId) (e : EV)
  | obj (o : Obj)
abbrev Mem := List (Nat × Blk)
def find : Mem → Nat → Option Blk
  | [], _ => none
  | (i, B) :: r, k => match Nat.beq i k with
    | true => some B
    | false => find r k
def upd : Mem → Nat → Blk → Option Mem
  | [], _, _ => none
  | (i, B) :: r, k, B' => match Nat.beq i k with
    | true => some ((i, B') :: r)
    | false => match upd r k B' with
      | some r' => some ((i, B) :: r')
      | none => none
def del : Mem → Nat → Mem
  | [], _ => []
  | (i, B) :: r, k => match Nat.beq i k with
    | true => del r k
    | false => (i, B) :: del r k
theorem find_cons (i k : Nat) (B : Blk) (M : Mem) : find ((i, B) :: M) k = if k = i then some B else find M k := by
  simp only [find]
  split
  · rename_i h; have := Nat.eq_of_beq_eq_true h; simp [this]
  · rename_i h; have : ¬ k = i := by simpa using fun e => (by subst e; simp at h)
    simp [this]
theorem find_upd : ∀ {M M' : Mem} {id : Nat} {B : Blk}, upd M id B = some M' → ∀ k, find M' k = if k = id then some B else find M k
  | [], M', id, B, h, k => by simp [upd] at h
  | (i, B0) :: r, M', id, B, h, k => by
    simp only [upd] at h
    split at h
    · rename_i hb
      have := Nat.eq_of_beq_eq_true hb
      subst this
      simp at h
      subst h
      simp only [find_cons]
      split <;> rfl
    · rename_i hb
      have hne : ¬ i = id := by simpa using fun e => (by subst e; simp at hb)
      split at h
      · rename_i r' hr
        simp at h
        subst h
        simp only [find_cons, find_upd hr]
        split
        · rename_i h1; subst h1; simp [hne]
        · rfl
      · cases h
theorem find_del : ∀ (M : Mem) (id k : Nat), find (del M id) k = if k = id then none else find M k
  | [], id, k => by simp [del, find]
  | (i, B0) :: r, id, k => by
    simp only [del]
    split
    · rename_i hb
      have := Nat.eq_of_beq_eq_true hb
      subst this
      rw [find_del r, find_cons]
      split <;> rfl
    · rename_i hb
      have hne : ¬ i = id := by simpa using fun e => (by subst e; simp at hb)
      simp only [find_cons, find_del r]
      split
      · rename_i h1; subst h1; simp [hne]
      · rfl

/-! ### The state -/
abbrev Glob := List (Nat × EV)
def gl : Glob → Nat → Option EV
  | [], _ => none
  | (i, e) :: r, k => match Nat.beq i k with
    | true => some e
    | false => gl r k
/-- What a walk is under: the program; the world in which it began; the old blocks that it may write; the tables; the number of slots. -/
structure Ctx where
  P : Program
  W0 : World
  S : Nat → Prop
  T0 : Nat → Prop
  Γ : Glob
  N : Nat
  pins : List Nat
  pe : Env
def mine (M : Mem) (E : Env) (b : Nat) : Prop := ∃ id B, find M id = some B ∧ E id = some (some b)
/-- The blocks that nothing that is read may lie in: the call's own ones, and what is hidden from it. -/
def trk (T0 : Nat → Prop) (M : Mem) (E : Env) (b : Nat) : Prop := mine M E b ∨ T0 b
def BOk (E : Env) (T : Nat → Prop) (w : World) (b : Nat) : Blk → Prop
  | .cells t l => ∃ cs : List Value, w.heap[b]? = some (.cells cs.toArray t (0, 0)) ∧ Items E T w l cs
  | .row t e => ∃ (cs : List Value) (c : Nat → List Value), w.heap[b]? = some (.cells cs.toArray t (0, 0)) ∧ e.len * e.sz ≤ cs.length ∧ (∀ i, i < e.len → (c i).length = e.sz) ∧
      (∀ i j v, i < e.len → (c i)[j]? = some v → cs[i * e.sz + j]? = some v) ∧ (∀ i, i < e.len → Items E T w (e.items i) (c i))
  | .obj o => w.heap[b]? = some o
/-- What has been kept since the beginning. -/
structure Kp (W0 : World) (S : Nat → Prop) (w : World) : Prop where
  os : w.os = W0.os
  tape : w.tape = W0.tape
  output : w.output = W0.output
  chg : Chg S W0 w
structure MOk (E : Env) (T : Nat → Prop) (M : Mem) (w : World) : Prop where
  blk : ∀ id B, find M id = some B → (∃ b, E id = some (some b) ∧ b < w.heap.size ∧ BOk E T w b B) ∨ (E id = some none ∧ ∃ t e, B = .row t e ∧ e.len = 0)
  inj : ∀ id id' b, (find M id).isSome = true → (find M id').isSome = true → E id = some (some b) → E id' = some (some b) → id = id'
theorem MOk.at {E : Env} {T : Nat → Prop} {M : Mem} {w : World} (H : MOk E T M w) {id b : Nat} {B : Blk} (hf : find M id = some B) (hE : E id = some (some b)) : b < w.heap.size ∧ BOk E T w b B := by
  rcases H.blk id B hf with ⟨b', h1, h2, h3⟩ | ⟨h1, _⟩
  · rw [hE] at h1
    cases h1
    exact ⟨h2, h3⟩
  · rw [hE] at h1
    cases h1
/-- The tables hold what they hold, and nothing besides. -/
structure GOk (Γ : Glob) (T : Nat → Prop) (w : World) : Prop where
  rep : ∀ g e, gl Γ g = some e → Rep E0 T w (.rop e 0 0) (.pointer (some ⟨g, 0, none⟩))
  shp : ∀ g e, gl Γ g = some e → ∃ t, w.shape? g = some (t, e.len * e.sz)
theorem GOk.mono {Γ : Glob} {T T' : Nat → Prop} {w w' : World} (h : GOk Γ T w) (hT : ∀ b, b < w.heap.size → T' b → T b) (hw : Chg T w w') : GOk Γ T' w' :=
  ⟨fun g e hg => (h.rep g e hg).mono (fun _ _ h => h) hT hw, fun g e hg => by
    obtain ⟨t, ht⟩ := h.shp g e hg
    exact ⟨t, (hw.shape g (shape_lt ht)).trans ht⟩⟩
/-- The numbers that are left, one taken. -/
def rest (U : Nat → Prop) (i k : Nat) : Prop := U k ∧ k ≠ i
structure St (C : Ctx) (F : Tr) (M : Mem) (U : Nat → Prop) (E : Env) (a : Act) (w : World) : Prop where
  defers : a.defers = []
  size : a.tmps.size = C.N
  slots : ∀ t s, F.get t = some s → Rep E (trk C.T0 M E) w s (a.tmps.getD t undef)
  mem : MOk E (trk C.T0 M E) M w
  own : ∀ id b, (find M id).isSome = true → E id = some (some b) → C.W0.heap.size ≤ b ∨ C.S b
  fresh : ∀ k, U k → E k = none
  kp : Kp C.W0 C.S w
  hid : ∀ b, C.T0 b → b < C.W0.heap.size ∧ ¬ C.S b
  glob : GOk C.Γ (trk C.T0 M E) w
  pin : ∀ id b, C.pins.elem id = true → C.pe id = some b → E id = some b

/-! ### What an operation reckons -/
def isAggD : Option TypeDesc → Option Bool
  | some (.struct _) => some true
  | some (.array _ _) => some true
  | some _ => some false
  | none => none
def sizeF (P : Program) (t : TypeId) : Option Nat :=
  match P.info? t with
  | some i => some i.size
  | none => none
/-- The place of a field. -/
def offF (P : Program) (s f : Nat) : Option Nat :=
  match P.underlying s with
  | some (.struct fs) => match fs.toList[f]? with
    | some ⟨_, t, off, _, _, _, _⟩ => match sizeF P t with
      | some (_ + 1) => some off
      | _ => none
    | none => none
  | _ => none
def kindB : IntKind → IntKind → Bool
  | .i8, .i8 | .i16, .i16 | .i32, .i32 | .i64, .i64 | .u8, .u8 | .u16, .u16 | .u32, .u32 | .u64, .u64 => true
  | _, _ => false
theorem kindB_eq {a b : IntKind} (h : kindB a b = true) : a = b := by cases a <;> cases b <;> first | rfl | simp [kindB] at h
/-- Is every number of the first kind one of the second? -/
def wider : IntKind → IntKind → Bool
  | .u8, .u8 | .u8, .u16 | .u8, .u32 | .u8, .u64 | .u8, .i16 | .u8, .i32 | .u8, .i64 => true
  | .u16, .u16 | .u16, .u32 | .u16, .u64 | .u16, .i32 | .u16, .i64 => true
  | .u32, .u32 | .u32, .u64 | .u32, .i64 => true
  | .u64, .u64 => true
  | .i8, .i8 | .i8, .i16 | .i8, .i32 | .i8, .i64 => true
  | .i16, .i16 | .i16, .i32 | .i16, .i64 => true
  | .i32, .i32 | .i32, .i64 => true
  | .i64, .i64 => true
  | _, _ => false
/-- A number that is written out, and small. -/
def smallB (k : IntKind) : Int → Bool
  | .ofNat n => match Nat.ble n 127 with
    | true => true
    | false => decide (k.min ≤ (n : Int)) && decide ((n : Int) ≤ k.max)
  | .negSucc n => decide (k.min ≤ Int.negSucc n) && decide (Int.negSucc n ≤ k.max)
def ofC : Value → Option SV
  | .int k n => match smallB k n with
    | true => some (.int k n)
    | false => none
  | .bool b => some (.bool b)
  | .string ⟨⟨l⟩⟩ => match Nat.ble l.length 9223372036854775807 with
    | true => some (.str l)
    | false => none
  | .pointer none => some .nilp
  | .slice none 0 0 => some .nils
  | .nilFunc => some .nilf
  | .nilIface => some .nili
  | .func (.func f) ⟨[]⟩ ⟨[]⟩ => some (.fn f [])
  | _ => none
def ofCs : List Value → Option (List SV)
  | [] => some []
  | v :: r => match ofC v with
    | some s => match ofCs r with
      | some l => some (s :: l)
      | none => none
    | none => none
def ofV : Value → Option SV
  | .agg ⟨l⟩ => match ofCs l with
    | some s => some (.agg s)
    | none => none
  | v => ofC v
def opd (Γ : Glob) (F : Tr) : Operand → Option SV
  | .tmp t => F.get t
  | .const v => ofV v
  | .global g => match gl Γ g with
    | some e => some (.rop e 0 0)
    | none => none
  | .func f => some (.fn f [])
abbrev R := Option (List Prop × SV)
/-- An operand handed on; one that is there under a condition alone brings the condition. -/
def op1 (Γ : Glob) (F : Tr) (x : Operand) (k : SV → R) : R :=
  match opd Γ F x with
  | some s => match s with
    | .may g s' => match k s' with
      | some (φ, v) => some (g :: φ, v)
      | none => none
    | s => k s
  | none => none
/-- The operands, none of them under a condition. -/
def opds (Γ : Glob) (F : Tr) : List Operand → Option (List SV)
  | [] => some []
  | x :: r => match opd Γ F x with
    | some s => match s with
      | .may _ _ => none
      | s => match opds Γ F r with
        | some l => some (s :: l)
        | none => none
    | none => none
def condOf : SV → List Prop
  | .may g _ => [g]
  | _ => []
def core : SV → SV
  | .may _ s => s
  | s => s
def pickV (cb : Bool) (a b : SV) : R :=
  let φ := (condOf a).map (cb = true → ·) ++ (condOf b).map (cb = false → ·)
  match core a, core b with
  | .bool x, .bool y => some (φ, .bool (cond cb x y))
  | .int k x, .int k' y => match kindB k k' with
    | true => some (φ, .int k (cond cb x y))
    | false => none
  | .str x, .str y => some (φ, .str (cond cb x y))
  | _, _ => none
/-- What a read of type t at offset off of the parts finds. -/
def seeI (P : Program) (t : TypeId) (l : List SV) (off : Nat) : Option SV :=
  match isAggD (P.underlying t) with
  | some b => match sizeF P t with
    | some n => match cutI l off n with
      | some r => ofItems b r
      | none => none
    | none => none
  | none => none
def withφ (φ : List Prop) : Option SV → R
  | some s => some (φ, s)
  | none => none
/-- The run of elements that begins at a place of a block. -/
def runAt (M : Mem) (id base : Nat) : Option EV :=
  match find M id with
  | some (.row _ e) => match Nat.beq base 0 with
    | true => some e
    | false => none
  | some (.cells _ l) => match dropI l base with
    | some (.arr _ e :: _) => some e
    | _ => none
  | _ => none
def loadV (P : Program) (M : Mem) (t : TypeId) : SV → R
  | .ptr id off => match find M id with
    | some (.cells _ l) => withφ [] (seeI P t l off)
    | _ => none
  | .pel id base sz i j => match runAt M id base with
    | some e => match Nat.beq e.sz sz with
      | true => withφ [i < e.len] (seeI P t (e.items i) j)
      | false => none
    | none => none
  | .rop e i j => withφ [] (seeI P t (e.items i) j)
  | _ => none
def fieldAddrV (o : Nat) : SV → R
  | .ptr id off => some ([], .ptr id (off + o))
  | .pel id base sz i j => some ([], .pel id base sz i (j + o))
  | .rop e i j => match Nat.blt (j + o) e.sz with
    | true => some ([], .rop e i (j + o))
    | false => none
  | _ => none
def indexAddrV (P : Program) (M : Mem) (t : TypeId) (n : Int) (p : SV) : R :=
  match P.underlying t with
  | some (.slice elem) => match sizeF P elem with
    | some (s + 1) => match p with
      | .ro e => match Nat.beq e.sz (s + 1) with
        | true => some ([0 ≤ n ∧ n < (e.len : Int)], .rop e n.toNat 0)
        | false => none
      | .row id base sz sub len => match Nat.beq sz (s + 1) with
        | true => some ([0 ≤ n ∧ n < (len : Int)], .pel id base sz (sub + n.toNat) 0)
        | false => none
      | _ => none
    | _ => none
  | some (.array m elem) => match sizeF P elem with
    | some (s + 1) => match p with
      | .ptr id off => match runAt M id off with
        | some e => match Nat.beq e.sz (s + 1) with
          | true => some ([0 ≤ n ∧ n < (m : Int)], .pel id off e.sz n.toNat 0)
          | false => none
        | none => match find M id with
          | some _ => some ([0 ≤ n ∧ n < (m : Int)], .ptr id (off + n.toNat * (s + 1)))
          | none => none
      | .rop e i j => match Nat.beq e.sz (s + 1) with
        | true => match Nat.beq i 0 && Nat.beq j 0 with
          | true => some ([0 ≤ n ∧ n < (m : Int), m = e.len], .rop e n.toNat 0)
          | false => none
        | false => match Nat.blt (j + n.toNat * (s + 1)) e.sz with
          | true => some ([0 ≤ n ∧ n < (m : Int)], .rop e i (j + n.toNat * (s + 1)))
          | false => none
      | _ => none
    | _ => none
  | _ => none
def indexV (P : Program) (t : TypeId) (n : Int) (x : SV) : R :=
  match x with
  | .str l => match P.underlying t with
    | some .string => some ([0 ≤ n ∧ n < (l.length : Int)], .int .u8 ((l.getD n.toNat 0).toNat : Int))
    | _ => none
  | .arr _ e => match P.underlying t with
    | some (.array m elem) => match sizeF P elem with
      | some s => match Nat.beq e.sz s with
        | true => withφ [0 ≤ n ∧ n < (m : Int), m = e.len] (seeI P elem (e.items n.toNat) 0)
        | false => none
      | none => none
    | _ => none
  | .agg l => match P.underlying t with
    | some (.array m elem) => match sizeF P elem with
      | some s => withφ [0 ≤ n ∧ n < (m : Int)] (seeI P elem l (n.toNat * s))
      | none => none
    | _ => none
  | _ => none
def fieldV (P : Program) (t : TypeId) (f : Nat) (x : SV) : R :=
  match P.underlying t with
  | some (.struct fs) => match fs.toList[f]? with
    | some ⟨_, ft, off, _, _, _, _⟩ => match x with
      | .agg l => withφ [] (seeI P ft l off)
      | _ => none
    | none => none
  | _ => none

/-! Arithmetic. X tells of which kinds a number is to be proved to fit. -/
def bitV (k : IntKind) (op : BinOp) (a b : Int) : Option Int :=
  match op with
  | .and => some (k.wrap (BitVec.ofInt k.bits a &&& BitVec.ofInt k.bits b).toNat)
  | .or => some (k.wrap (BitVec.ofInt k.bits a ||| BitVec.ofInt k.bits b).toNat)
  | .xor => some (k.wrap (BitVec.ofInt k.bits a ^^^ BitVec.ofInt k.bits b).toNat)
  | .andNot => some (k.wrap (BitVec.ofInt k.bits a &&& ~~~ BitVec.ofInt k.bits b).toNat)
  | _ => none
def intV (X : IntKind → Bool) (op : BinOp) (k : IntKind) (a b : Int) : R :=
  match op with
  | .add => match X k with
    | true => some ([inR k (a + b)], .int k (a + b))
    | false => some ([], .int k (k.wrap (a + b)))
  | .sub => match X k with
    | true => some ([inR k (a - b)], .int k (a - b))
    | false => some ([], .int k (k.wrap (a - b)))
  | .mul => match X k with
    | true => some ([inR k (a * b)], .int k (a * b))
    | false => some ([], .int k (k.wrap (a * b)))
  | .quo => match X k with
    | true => some ([0 ≤ a ∧ 0 < b], .int k (a / b))
    | false => some ([b ≠ 0], .int k (k.wrap (a.tdiv b)))
  | .rem => match X k with
    | true => some ([0 ≤ a ∧ 0 < b], .int k (a % b))
    | false => some ([b ≠ 0], .int k (a.tmod b))
  | .eql => some ([], .bool (decide (a = b)))
  | .neq => some ([], .bool (decide (a ≠ b)))
  | .lss => some ([], .bool (decide (a < b)))
  | .leq => some ([], .bool (decide (a ≤ b)))
  | .gtr => some ([], .bool (decide (b < a)))
  | .geq => some ([], .bool (decide (b ≤ a)))
  | .shl | .shr => none
  | op => match bitV k op a b with
    | some n => some ([], .int k n)
    | none => none
def shiftV (X : IntKind → Bool) (op : BinOp) (k : IntKind) (a b : Int) : R :=
  match op with
  | .shl => match X k with
    | true => some ([0 ≤ b ∧ b < (k.bits : Int) ∧ inR k (a * 2 ^ b.toNat)], .int k (a * 2 ^ b.toNat))
    | false => some ([0 ≤ b], .int k (k.wrap (a * 2 ^ min b.toNat k.bits)))
  | .shr => match X k with
    | true => some ([0 ≤ b ∧ b < (k.bits : Int)], .int k (a / 2 ^ b.toNat))
    | false => some ([0 ≤ b], .int k (a.fdiv (2 ^ min b.toNat k.bits)))
  | _ => none
def strV (op : BinOp) (a b : List UInt8) : R :=
  match op with
  | .add => some ([okLen (a.length + b.length)], .str (a ++ b))
  | .eql => some ([], .bool (decide (a = b)))
  | .neq => some ([], .bool (decide (a ≠ b)))
  | .lss => some ([], .bool (Op.bytesLess a b))
  | .leq => some ([], .bool (Op.bytesLess a b || decide (a = b)))
  | .gtr => some ([], .bool (!(Op.bytesLess a b || decide (a = b))))
  | .geq => some ([], .bool (!(Op.bytesLess a b)))
  | _ => none
/-- Closed facts on a struct type that '==' asks. -/
def eqOk (P : Program) (t : TypeId) : Bool := !(P.eqGuardType P.depth t) && !(P.stoodInHeld t)
abbrev Q2 := Option (List Prop × Bool)
/-- Fields laid end to end, compared. -/
def eqFs (P : Program) (q : TypeId → List SV → List SV → Q2) : List Field → Nat → List SV → List SV → Q2
  | [], _, _, _ => some ([], true)
  | ⟨nm, t, off, _, _, _, _⟩ :: fs, n, xl, yl =>
    match Nat.beq off n && nm != "_" with
    | true => match sizeF P t with
      | some s => match takeI xl s with
        | some xa => match takeI yl s with
          | some ya => match dropI xl s with
            | some xb => match dropI yl s with
              | some yb => match q t xa ya with
                | some (φ, a) => match eqFs P q fs (n + s) xb yb with
                  | some (ψ, b) => some (φ ++ ψ, a && b)
                  | none => none
                | none => none
              | none => none
            | none => none
          | none => none
        | none => none
      | none => none
    | false => none
/-- Elements laid end to end, compared. -/
def eqEs (q : List SV → List SV → Q2) (s : Nat) : Nat → List SV → List SV → Q2
  | 0, _, _ => some ([], true)
  | n + 1, xl, yl => match takeI xl s with
    | some xa => match takeI yl s with
      | some ya => match dropI xl s with
        | some xb => match dropI yl s with
          | some yb => match q xa ya with
            | some (φ, a) => match eqEs q s n xb yb with
              | some (ψ, b) => some (φ ++ ψ, a && b)
              | none => none
            | none => none
          | none => none
        | none => none
      | none => none
    | none => none
/-- Are the parts of two values of a type equal? -/
def eqT (P : Program) : Nat → TypeId → List SV → List SV → Q2
  | 0, _, _, _ => none
  | d + 1, t, xl, yl => match P.underlying t with
    | some (.int _) => match xl, yl with
      | [.int k a], [.int k' b] => match kindB k k' with
        | true => some ([], decide (a = b))
        | false => none
      | _, _ => none
    | some .bool => match xl, yl with
      | [.bool a], [.bool b] => some ([], a == b)
      | _, _ => none
    | some .string => match xl, yl with
      | [.str a], [.str b] => some ([], decide (a = b))
      | _, _ => none
    | some (.struct fs) => match eqFs P (eqT P d) fs.toList 0 xl yl with
      | some (φ, b) => some ((eqOk P t = true) :: φ, b)
      | none => none
    | some (.array n e) => match sizeF P e with
      | some s => match xl, yl with
        | [.arr m (.u8 a)], [.arr m' (.u8 b)] => match P.underlying e with
          | some (.int _) => match Nat.beq m n && Nat.beq m' n && Nat.beq s 1 with
            | true => some ([], decide (a = b))
            | false => none
          | _ => none
        | [.arr m (.ints k a)], [.arr m' (.ints k' b)] => match P.underlying e with
          | some (.int _) => match Nat.beq m n && Nat.beq m' n && Nat.beq s 1 && kindB k k' with
            | true => some ([], decide (a = b))
            | false => none
          | _ => none
        | _, _ => eqEs (eqT P d e) s n xl yl
      | none => none
    | _ => none
def aggV (P : Program) (op : BinOp) (t : TypeId) (a b : List SV) : R :=
  match isAggD (P.underlying t) with
  | some true => match eqT P 20 t a b with
    | some (φ, r) => match op with
      | .eql => some ((eqOk P t = true) :: φ, .bool r)
      | .neq => some ((eqOk P t = true) :: φ, .bool (!r))
      | _ => none
    | none => none
  | _ => none
def boolV (op : BinOp) (a b : Bool) : R :=
  match op with
  | .eql => some ([], .bool (a == b))
  | .neq => some ([], .bool (a != b))
  | _ => none
def isShift : BinOp → Bool
  | .shl | .shr => true
  | _ => false
/-- Is it nil? Where that is known of both. -/
def nilB : Option TypeDesc → SV → SV → Option Bool
  | some (.func _ _ _), x, y => match x, y with
    | .fn _ _, .nilf => some false
    | .nilf, .fn _ _ => some false
    | .mv _ _, .nilf => some false
    | .nilf, .mv _ _ => some false
    | .nilf, .nilf => some true
    | _, _ => none
  | some (.pointer _), x, y => match x, y with
    | .ptr _ _, .nilp => some false
    | .pel _ _ _ _ _, .nilp => some false
    | .rop _ _ _, .nilp => some false
    | .nilp, .nilp => some true
    | _, _ => none
  | some (.interface _), x, y => match x, y with
    | .ifc _ _, .nili => some false
    | _, _ => none
  | some (.slice _), x, y => match x, y with
    | .nils, .nils => some true
    | _, _ => none
  | _, _, _ => none
def nilV (P : Program) (op : BinOp) (t : TypeId) (x y : SV) : R :=
  match nilB (P.underlying t) x y with
  | some b => match op with
    | .eql => some ([], .bool b)
    | .neq => some ([], .bool (!b))
    | _ => none
  | none => none
def binV (X : IntKind → Bool) (P : Program) (op : BinOp) (t : TypeId) (x y : SV) : R :=
  match x, y with
  | .int k a, .int k' b => match isShift op with
    | true => shiftV X op k a b
    | false => match kindB k k' with
      | true => intV X op k a b
      | false => none
  | .str a, .str b => strV op a b
  | .bool a, .bool b => match P.underlying t with
    | some .bool => boolV op a b
    | _ => none
  | .agg a, .agg b => aggV P op t a b
  | .arr n e, .arr n' e' => aggV P op t [.arr n e] [.arr n' e']
  | .agg a, .arr n' e' => aggV P op t a [.arr n' e']
  | .arr n e, .agg b => aggV P op t [.arr n e] b
  | x, y => nilV P op t x y
def unV (X : IntKind → Bool) (op : UnOp) (x : SV) : R :=
  match op, x with
  | .not, .bool b => some ([], .bool (!b))
  | .neg, .int k n => match X k with
    | true => some ([inR k (0 - n)], .int k (0 - n))
    | false => some ([], .int k (k.wrap (0 - n)))
  | .xor, .int k n => some ([], .int k (k.wrap (BitVec.ofInt k.bits (if k.signed then -1 else k.max) ^^^ BitVec.ofInt k.bits n).toNat))
  | _, _ => none
def EV.sub : EV → Nat → Nat → EV
  | .u8 l, a, n => .u8 ((l.drop a).take n)
  | .ints k l, a, n => .ints k ((l.drop a).take n)
  | .g _ sz f, a, n => .g n sz (fun i => f (a + i))
def convV (X : IntKind → Bool) (P : Program) (M : Mem) (s d : TypeId) (x : SV) : R :=
  match x with
  | .int k n => match P.underlying s, P.underlying d with
    | some _, some (.int k') => match wider k k' with
      | true => some ([], .int k' n)
      | false => match X k' with
        | true => some ([inR k' n], .int k' n)
        | false => some ([], .int k' (k'.wrap n))
    | _, _ => none
  | .str l => match P.underlying s, P.underlying d with
    | some _, some .string => some ([], .str l)
    | _, _ => none
  | .ro (.u8 l) => match P.underlying s, P.underlying d with
    | some (.slice e), some .string => match P.underlying e with
      | some (.int .u8) => some ([], .str l)
      | _ => none
    | _, _ => none
  | .nils => match P.underlying s, P.underlying d with
    | some (.slice e), some .string => match P.underlying e with
      | some (.int .u8) => some ([], .str [])
      | _ => none
    | _, _ => none
  | .row id base sz sub len => match P.underlying s, P.underlying d with
    | some (.slice e), some .string => match P.underlying e with
      | some (.int .u8) => match runAt M id base with
        | some (.u8 l) => match Nat.beq sz 1 with
          | true => some ([sub + len ≤ l.length, okLen len], .str ((l.drop sub).take len))
          | false => none
        | _ => none
      | _ => none
    | _, _ => none
  | _ => none
def nthI : List SV → Nat → Option SV
  | [], _ => none
  | x :: _, 0 => some x
  | _ :: r, n + 1 => nthI r n
def lenV (P : Program) (t : TypeId) (x : SV) : R :=
  match P.underlying t, x with
  | some .string, .str l => some ([], .int .i64 (l.length : Int))
  | some (.slice _), .ro e => some ([], .int .i64 (e.len : Int))
  | some (.slice _), .row _ _ _ _ len => some ([], .int .i64 (len : Int))
  | some (.slice _), .nils => some ([], .int .i64 0)
  | some (.array n _), _ => match Nat.ble n 9223372036854775807 with
    | true => some ([], .int .i64 (n : Int))
    | false => none
  | _, _ => none
def maxV (a b : Int) : Int := if b > a then b else a
def minV (a b : Int) : Int := if b < a then b else a
def bifV (Γ : Glob) (P : Program) (F : Tr) (b : Builtin) (ats : List TypeId) (xs : List Operand) : R :=
  match b, ats, xs with
  | .len, [t], [x] => op1 Γ F x (lenV P t)
  | .max, _, [x, y] => op1 Γ F x fun a => op1 Γ F y fun c => match a, c with
    | .int k n, .int k' m => match kindB k k' with
      | true => some ([], .int k (maxV n m))
      | false => none
    | _, _ => none
  | .min, _, [x, y] => op1 Γ F x fun a => op1 Γ F y fun c => match a, c with
    | .int k n, .int k' m => match kindB k k' with
      | true => some ([], .int k (minV n m))
      | false => none
    | _, _ => none
  | _, _, _ => none
/-- A bound of a slice: not given, or a number. -/
def bound (Γ : Glob) (F : Tr) (x : Option Operand) (d : Nat) (k : List Prop → Nat → R) : R :=
  match x with
  | none => k [] d
  | some x => op1 Γ F x fun
    | .int _ n => k [0 ≤ n] n.toNat
    | _ => none
def sliceV (P : Program) (M : Mem) (t : TypeId) (lo hi : Option Nat) (φ : List Prop) (x : SV) : R :=
  match P.underlying t with
  | some .string => match x with
    | .str l => some (φ ++ [lo.getD 0 ≤ hi.getD l.length ∧ hi.getD l.length ≤ l.length], .str ((l.drop (lo.getD 0)).take (hi.getD l.length - lo.getD 0)))
    | _ => none
  | some (.slice elem) => match sizeF P elem with
    | some (s + 1) => match x with
      | .ro e => match Nat.beq e.sz (s + 1) with
        | true => some (φ ++ [lo.getD 0 ≤ hi.getD e.len ∧ hi.getD e.len ≤ e.len], .ro (e.sub (lo.getD 0) (hi.getD e.len - lo.getD 0)))
        | false => none
      | .row id base sz sub len => match Nat.beq sz (s + 1) with
        | true => some (φ ++ [lo.getD 0 ≤ hi.getD len ∧ hi.getD len ≤ len], .row id base sz (sub + lo.getD 0) (hi.getD len - lo.getD 0))
        | false => none
      | .nils => some (φ ++ [lo.getD 0 = 0 ∧ hi.getD 0 = 0], .nils)
      | _ => none
    | _ => none
  | some (.array m elem) => match sizeF P elem with
    | some (s + 1) => match x with
      | .ptr id off => match runAt M id off with
        | some e => match Nat.beq e.sz (s + 1) && Nat.ble m 9223372036854775807 with
          | true => some (φ ++ [lo.getD 0 ≤ hi.getD m ∧ hi.getD m ≤ m, m = e.len], .row id off (s + 1) (lo.getD 0) (hi.getD m - lo.getD 0))
          | false => none
        | none => none
      | _ => none
    | _ => none
  | _ => none
/-- Every part of a zero. -/
def allInt (k : IntKind) : List Value → Bool
  | [] => true
  | .int k' (.ofNat 0) :: r => match kindB k k' with
    | true => allInt k r
    | false => false
  | _ :: _ => false
def takeV : List Value → Nat → Option (List Value)
  | _, 0 => some []
  | [], _ + 1 => none
  | c :: r, n + 1 => match takeV r n with
    | some l => some (c :: l)
    | none => none
def dropV : List Value → Nat → Option (List Value)
  | l, 0 => some l
  | [], _ + 1 => none
  | _ :: r, n + 1 => dropV r n
mutual
/-- The parts of cells of a type that are written out: a long run of zeros is a run. -/
def zeroI (P : Program) : Nat → TypeId → List Value → Option (List SV)
  | 0, _, _ => none
  | d + 1, t, cs => match P.underlying t with
    | some (.struct fs) => zeroIs P d fs.toList cs
    | some (.array n e) => match P.underlying e with
      | some (.int k) => match Nat.ble 9 n with
        | true => match Nat.beq cs.length n && allInt k cs with
          | true => match k with
            | .u8 => some [.arr n (.u8 (List.replicate n 0))]
            | k => some [.arr n (.ints k (List.replicate n 0))]
          | false => none
        | false => ofCs cs
      | _ => ofCs cs
    | some _ => ofCs cs
    | none => none
def zeroIs (P : Program) : Nat → List Field → List Value → Option (List SV)
  | 0, _, _ => none
  | _ + 1, [], cs => match cs with
    | [] => some []
    | _ => none
  | d + 1, ⟨_, t, _, _, _, _, _⟩ :: fs, cs => match sizeF P t with
    | some n => match takeV cs n with
      | some a => match dropV cs n with
        | some b => match zeroI P d t a with
          | some l => match zeroIs P d fs b with
            | some m => some (l ++ m)
            | none => none
          | none => none
        | none => none
      | none => none
    | none => none
end
def zeroC (P : Program) (t : TypeId) : Option (List Value) :=
  match P.info? t with
  | some i => match i.zero with
    | some (.agg ⟨l⟩) => some l
    | some v => some [v]
    | none => none
  | none => none
def zeroOf (P : Program) (t : TypeId) : Option (List SV) :=
  match zeroC P t with
  | some l => zeroI P 200 t l
  | none => none
/-- How many cells parts take. -/
def wI : List SV → Nat
  | [] => 0
  | .arr n _ :: r => n + wI r
  | _ :: r => 1 + wI r
/-- A struct or an array that is built. -/
def fillI (place : Nat → Option (Nat × Nat)) : List SV → List (Nat × SV) → Option (List SV)
  | l, [] => some l
  | l, (i, s) :: r => match place i with
    | some (off, n) => match itemsOf s with
      | some x => match Nat.beq (wI x) n with
        | true => match pasteI l off n x with
          | some l' => fillI place l' r
          | none => none
        | false => none
      | none => none
    | none => none
def placesF (P : Program) : List Field → Option (List (Nat × Nat))
  | [] => some []
  | f :: r => match sizeF P f.type with
    | some s => match placesF P r with
      | some l => some ((f.offset, s) :: l)
      | none => none
    | none => none
def nth : List (Nat × Nat) → Nat → Option (Nat × Nat)
  | [], _ => none
  | x :: _, 0 => some x
  | _ :: r, n + 1 => nth r n
def partsF (Γ : Glob) (F : Tr) : List (Nat × Operand) → Option (List (Nat × SV))
  | [] => some []
  | (i, x) :: r => match opd Γ F x with
    | some s => match s with
      | .may _ _ => none
      | s => match partsF Γ F r with
        | some l => some ((i, s) :: l)
        | none => none
    | none => none
/-- The same, some of it under a condition. -/
def partsC (Γ : Glob) (F : Tr) : List (Nat × Operand) → Option (List Prop × List (Nat × SV))
  | [] => some ([], [])
  | (i, x) :: r => match opd Γ F x with
    | some s => match s with
      | .may g s' => match partsC Γ F r with
        | some (φ, l) => some (g :: φ, (i, s') :: l)
        | none => none
      | s => match partsC Γ F r with
        | some (φ, l) => some (φ, (i, s) :: l)
        | none => none
    | none => none
def buildV (P : Program) (t : TypeId) (ps : List (Nat × SV)) : Option SV :=
  match P.underlying t with
  | some (.struct fs) => match zeroOf P t with
    | some z => match placesF P fs.toList with
      | some pl => match fillI (nth pl) z ps with
        | some l => some (.agg l)
        | none => none
      | none => none
    | none => none
  | some (.array _ e) => match zeroC P t with
    | some zc => match ofCs zc with
      | some z => match sizeF P e with
        | some s => match fillI (fun i => some (i * s, s)) z ps with
          | some l => some (.agg l)
          | none => none
        | none => none
      | none => none
    | none => none
  | _ => none
def isIface : Option TypeDesc → Option Bool
  | some (.interface _) => some true
  | some _ => some false
  | none => none

/-- The operations that yield a value and leave memory as it is. -/
def ev1 (X : IntKind → Bool) (P : Program) (Γ : Glob) (F : Tr) (M : Mem) : Op → R
  | .move x => op1 Γ F x fun s => some ([], s)
  | .assign x => op1 Γ F x fun s => some ([], s)
  | .pick c a b => op1 Γ F c fun
    | .bool cb => match opd Γ F a with
      | some sa => match opd Γ F b with
        | some sb => pickV cb sa sb
        | none => none
      | none => none
    | _ => none
  | .load t x => op1 Γ F x (loadV P M t)
  | .fieldAddr s x f => match offF P s f with
    | some o => op1 Γ F x (fieldAddrV o)
    | none => none
  | .indexAddr t x i => op1 Γ F x fun p => op1 Γ F i fun
    | .int _ n => indexAddrV P M t n p
    | _ => none
  | .index t x i => op1 Γ F x fun s => op1 Γ F i fun
    | .int _ n => indexV P t n s
    | _ => none
  | .field t x f => op1 Γ F x (fieldV P t f)
  | .binOp op t x y _ => op1 Γ F x fun a => op1 Γ F y fun b => binV X P op t a b
  | .unOp op _ x => op1 Γ F x (unV X op)
  | .convert s d x => op1 Γ F x (convV X P M s d)
  | .extract x i => op1 Γ F x fun
    | .tup l => withφ [] (nthI l i)
    | _ => none
  | .makeFunc (.func f) ⟨[]⟩ ⟨cs⟩ => match opds Γ F cs with
    | some l => some ([], .fn f l)
    | none => none
  | .makeFunc (.func f) ⟨x :: fs⟩ ⟨[]⟩ => match opds Γ F (x :: fs) with
    | some l => some ([], .mv f l)
    | none => none
  | .makeInterface t x => match isIface (P.underlying t) with
    | some false => op1 Γ F x fun s => some ([], .ifc t s)
    | _ => none
  | .nilCheck x => op1 Γ F x fun
    | .ptr id off => some ([], .ptr id off)
    | .pel id base sz i j => some ([], .pel id base sz i j)
    | .rop e i j => some ([], .rop e i j)
    | _ => none
  | .slice t x lo hi none => op1 Γ F x fun s => match lo, hi with
    | none, none => sliceV P M t none none [] s
    | some l, none => op1 Γ F l fun
      | .int _ n => sliceV P M t (some n.toNat) none [0 ≤ n] s
      | _ => none
    | none, some h => op1 Γ F h fun
      | .int _ m => sliceV P M t none (some m.toNat) [0 ≤ m] s
      | _ => none
    | some l, some h => op1 Γ F l fun
      | .int _ n => op1 Γ F h fun
        | .int _ m => sliceV P M t (some n.toNat) (some m.toNat) [0 ≤ n, 0 ≤ m] s
        | _ => none
      | _ => none
  | .build t ⟨ps⟩ => match partsC Γ F ps with
    | some (φ, l) => withφ φ (buildV P t l)
    | none => none
  | .call ⟨.builtin b, ⟨xs⟩, ⟨ats⟩⟩ => bifV Γ P F b ats xs
  | _ => none
end Go.Proofs.YtgpggoejkkhceaaDoor.V
