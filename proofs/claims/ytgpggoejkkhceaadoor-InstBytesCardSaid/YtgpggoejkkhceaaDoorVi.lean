/-
  A walk by abstract values: the operations that make or write memory.
-/
import Derived.Test.YtgpggoejkkhceaaDoorVh
import Derived.Deep.AppendSrc
import Derived.Laws.MakeOwn
import Derived.Great.BuildSlice
namespace Go.Proofs.YtgpggoejkkhceaaDoor.V
open Go.RowKit

/-! ### What they reckon -/
/-- What becomes of an operation: a value; a new block and a value; a block written; a slice that has grown (its old block, if it had one, is given up). -/
inductive Eff where
  | val (φ : List Prop) (v : SV)
  | new (φ : List Prop) (B : Blk) (v : SV)
  | upd (φ : List Prop) (id : Nat) (B : Blk) (v : Option SV)
  | mov (φ : List Prop) (id : Option Nat) (B : Blk) (v : SV)
def EV.set1 : EV → Nat → List SV → Option EV
  | .u8 l, i, [.int .u8 m] => some (.u8 (l.set i (UInt8.ofNat m.toNat)))
  | .ints k l, i, [.int k' m] => match kindB k k' with
    | true => some (.ints k (l.set i m))
    | false => none
  | .g n sz f, i, x => match Nat.beq (wI x) sz with
    | true => some (.g n sz (fun j => if j = i then x else f j))
    | false => none
  | _, _, _ => none
/-- n cells of an element, from the j-th on, written. -/
def EV.setE (e : EV) (i j n : Nat) (x : List SV) : Option EV :=
  match Nat.beq j 0 && Nat.beq n e.sz with
  | true => e.set1 i x
  | false => match pasteI (e.items i) j n x with
    | some y => e.set1 i y
    | none => none
def storeE (P : Program) (M : Mem) (t : TypeId) (p s : SV) : Option Eff :=
  match itemsOf s, sizeF P t with
  | some x, some n => match Nat.beq (wI x) n with
    | true => match p with
      | .ptr id off => match find M id with
        | some (.cells t' l) => match pasteI l off n x with
          | some l' => some (.upd [] id (.cells t' l') none)
          | none => none
        | _ => none
      | .pel id base sz i j => match find M id with
        | some (.row t' e) => match Nat.beq base 0 && Nat.beq e.sz sz with
          | true => match e.setE i j n x with
            | some e' => some (.upd [i < e.len] id (.row t' e') none)
            | none => none
          | false => none
        | some (.cells t' l) => match dropI l base with
          | some (.arr m e :: _) => match Nat.beq e.sz sz with
            | true => match e.setE i j n x with
              | some e' => match pasteI l base m [.arr m e'] with
                | some l' => some (.upd [i < e.len] id (.cells t' l') none)
                | none => none
              | none => none
            | false => none
          | _ => none
        | _ => none
      | _ => none
    | false => none
  | _, _ => none
/-- The elements that are written out. -/
def u8s : List (Nat × SV) → Nat → Option (List UInt8)
  | [], _ => some []
  | (i, .int .u8 m) :: r, k => match Nat.beq i k with
    | true => match u8s r (k + 1) with
      | some l => some (UInt8.ofNat m.toNat :: l)
      | none => none
    | false => none
  | _ :: _, _ => none
def intS (q : IntKind) : List (Nat × SV) → Nat → Option (List Int)
  | [], _ => some []
  | (i, .int q' m) :: r, k => match Nat.beq i k && kindB q q' with
    | true => match intS q r (k + 1) with
      | some l => some (m :: l)
      | none => none
    | false => none
  | _ :: _, _ => none
def elS (sz : Nat) : List (Nat × SV) → Nat → Option (List (List SV))
  | [], _ => some []
  | (i, s) :: r, k => match itemsOf s with
    | some x => match Nat.beq i k && Nat.beq (wI x) sz with
      | true => match elS sz r (k + 1) with
        | some l => some (x :: l)
        | none => none
      | false => none
    | none => none
def nthL : List (List SV) → Nat → List SV
  | [], _ => []
  | x :: _, 0 => x
  | _ :: r, n + 1 => nthL r n
def litE (P : Program) (elem : TypeId) (n sz : Nat) (ps : List (Nat × SV)) : Option EV :=
  match P.underlying elem with
  | some (.int .u8) => match u8s ps 0 with
    | some l => match Nat.beq l.length n && Nat.beq sz 1 with
      | true => some (.u8 l)
      | false => none
    | none => none
  | some (.int k) => match intS k ps 0 with
    | some l => match Nat.beq l.length n && Nat.beq sz 1 with
      | true => some (.ints k l)
      | false => none
    | none => none
  | some _ => match elS sz ps 0 with
    | some l => match Nat.beq l.length n with
      | true => some (.g n sz (nthL l))
      | false => none
    | none => none
  | none => none
def bytesF (P : Program) (t : TypeId) : Option Nat :=
  match P.info? t with
  | some i => some i.bytes
  | none => none
/-- Elements that are all the zero. -/
def zeroE (P : Program) (elem : TypeId) (zv : Value) (n : Nat) : Option EV :=
  match zv with
  | .int .u8 (.ofNat 0) => some (.u8 (List.replicate n 0))
  | .int k (.ofNat 0) => some (.ints k (List.replicate n 0))
  | zv => match zeroI P 200 elem zv.cells.toList with
    | some z => some (.g n (wI z) (fun _ => z))
    | none => none
def EV.app : EV → EV → Option EV
  | .u8 l, .u8 m => some (.u8 (l ++ m))
  | .ints k l, .ints k' m => match kindB k k' with
    | true => some (.ints k (l ++ m))
    | false => none
  | .g n sz f, .g n' sz' f' => match Nat.beq sz sz' with
    | true => some (.g (n + n') sz (fun i => if i < n then f i else f' (i - n)))
    | false => none
  | _, _ => none
/-- No elements of a type. -/
def nilE (P : Program) (elem : TypeId) (zv : Value) : Option EV := zeroE P elem zv 0
/-- What is appended. -/
def srcE (M : Mem) (elem : EV) (u8 : Bool) : SV → Option (List Prop × EV)
  | .ro e => some ([], e)
  | .nils => some ([], elem)
  | .str l => match u8 with
    | true => some ([], .u8 l)
    | false => none
  | .row id base sz sub len => match runAt M id base with
    | some e => match Nat.beq e.sz sz with
      | true => some ([sub + len ≤ e.len], e.sub sub len)
      | false => none
    | none => none
  | _ => none
def isU8 : EV → Bool
  | .u8 _ => true
  | _ => false
def appendE (P : Program) (M : Mem) (nx : Nat) (t : TypeId) (s x : SV) : Option Eff :=
  match P.underlying t with
  | some (.slice elem) => match sizeF P elem, bytesF P elem, (P.info? elem).bind (·.zero) with
    | some (z + 1), some (b + 1), some zv => match nilE P elem zv with
     | none => none
     | some e0 => match Nat.beq zv.cells.toList.length (z + 1) && Nat.beq e0.sz (z + 1) with
      | true => match srcE M e0 (isU8 e0) x with
        | some (φ, e2) => match Nat.beq e2.sz (z + 1) with
          | true => match s with
            | .nils => match e0.app e2 with
              | some e' => some (.mov (φ ++ [e2.len * (b + 1) ≤ 140737488355328]) none (.row elem e') (.row nx 0 (z + 1) 0 e2.len))
              | none => none
            | .row id base sz sub len => match Nat.beq base 0 && Nat.beq sub 0 && Nat.beq sz (z + 1) with
              | true => match find M id with
                | some (.row t' e) => match Nat.beq t' elem && Nat.beq e.sz (z + 1) with
                  | true => match e.app e2 with
                    | some e' => some (.mov (φ ++ [len = e.len, (len + e2.len) * (b + 1) ≤ 140737488355328]) (some id) (.row elem e') (.row nx 0 (z + 1) 0 (len + e2.len)))
                    | none => none
                  | false => none
                | _ => none
              | false => none
            | _ => none
          | false => none
        | none => none
      | false => none
    | _, _, _ => none
  | _ => none
/-- The operations that make or write memory. -/
def ev2 (P : Program) (Γ : Glob) (F : Tr) (M : Mem) (nx : Nat) : Op → Option Eff
  | .alloc t => match zeroOf P t with
    | some l => some (.new [] (.cells t l) (.ptr nx 0))
    | none => none
  | .box t x => match opd Γ F x with
    | some s => match itemsOf (core s) with
      | some l => some (.new (condOf s) (.cells t l) (.ptr nx 0))
      | none => none
    | none => none
  | .store t p x => match opd Γ F p with
    | some sp => match opd Γ F x with
      | some s => match storeE P M t (core sp) (core s) with
        | some (.upd φ id B v) => some (.upd (condOf sp ++ condOf s ++ φ) id B v)
        | _ => none
      | none => none
    | none => none
  | .buildSlice t n ⟨ps⟩ => match P.underlying t with
    | some (.slice elem) => match sizeF P elem with
      | some (sz + 1) => match (P.info? elem).bind (·.zero), Nat.ble (n * (sz + 1)) 16777216, partsF Γ F ps with
        | some zv, true, some l => match Nat.beq zv.cells.toList.length (sz + 1), litE P elem n (sz + 1) l with
          | true, some e => some (.new [] (.row elem e) (.row nx 0 (sz + 1) 0 n))
          | _, _ => none
        | _, _, _ => none
      | _ => none
    | _ => none
  | .makeSlice t l c => match P.underlying t with
    | some (.slice elem) => match sizeF P elem, bytesF P elem, opd Γ F l, opd Γ F c with
      | some (sz + 1), some b, some (.int _ n), some (.int _ m) => match (P.info? elem).bind (·.zero) with
        | some zv => match zeroE P elem zv n.toNat with
          | some e => match Nat.beq e.sz (sz + 1) && Nat.beq zv.cells.toList.length (sz + 1) with
            | true => some (.new [0 ≤ n ∧ n ≤ m ∧ (b : Int) * m ≤ 281474976710656 ∧ m ≤ 9223372036854775807] (.row elem e) (.row nx 0 (sz + 1) 0 n.toNat))
            | false => none
          | none => none
        | none => none
      | _, _, _, _ => none
    | _ => none
  | .call ⟨.builtin .append, ⟨[s, x]⟩, ⟨[t, t']⟩⟩ => match opd Γ F s, opd Γ F x, P.underlying t' with
    | some a, some b, some (.slice _) => match b with
      | .str _ => none
      | b => appendE P M nx t a b
    | some a, some (.str l), some .string => appendE P M nx t a (.str l)
    | _, _, _ => none
  | _ => none
end Go.Proofs.YtgpggoejkkhceaaDoor.V
