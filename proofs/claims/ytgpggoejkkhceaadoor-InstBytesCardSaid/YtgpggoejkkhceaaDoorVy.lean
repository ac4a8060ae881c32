/-
  A row of one's own is given up: it is read alone from here on.
-/
import Derived.Test.YtgpggoejkkhceaaDoorVx
namespace Go.Proofs.YtgpggoejkkhceaaDoor.V
open Go.RowKit

section
variable (M : Mem) (wh : Bool) (id : Nat)
mutual
def frzS : SV → SV
  | .row i b z u n => match Nat.beq i id with
    | true => match runAt M i b with
      | some e => match wh with
        | true => .ro e
        | false => .ro (e.sub u n)
      | none => .row i b z u n
    | false => .row i b z u n
  | .agg l => .agg (frzL l)
  | .tup l => .tup (frzL l)
  | .fn f l => .fn f (frzL l)
  | .mv f l => .mv f (frzL l)
  | .ifc t s => .ifc t (frzS s)
  | .may g s => .may g (frzS s)
  | s => s
def frzL : List SV → List SV
  | [] => []
  | s :: r => frzS s :: frzL r
end
def frzB : Blk → Blk
  | .cells t l => .cells t (frzL M wh id l)
  | B => B
def frzTK {α : Type} : Tr → (Tr → Option α) → Option α
  | .e, K => K .e
  | .n l x r, K => frzTK l fun l' => frzTK r fun r' => match x with
    | none => K (.n l' none r')
    | some s => fS (frzS M wh id s) fun s' => K (.n l' (some s') r')
def frzT : Tr → Tr
  | .e => .e
  | .n l x r => .n (frzT l) (x.map (frzS M wh id)) (frzT r)
def frzMK {α : Type} : Mem → (Mem → Option α) → Option α
  | [], K => K []
  | (i, B) :: r, K => match Nat.beq i id with
    | true => frzMK r K
    | false => frzMK r fun r' => fB (frzB M wh id B) fun B' => K ((i, B') :: r')
def frzM : Mem → Mem
  | [] => []
  | (i, B) :: r => match Nat.beq i id with
    | true => frzM r
    | false => (i, frzB M wh id B) :: frzM r
theorem frzTK_eq {α : Type} : ∀ {F : Tr} {K : Tr → Option α}, frzTK M wh id F K = K (frzT M wh id F)
  | .e, K => rfl
  | .n l x r, K => by
    simp only [frzTK, frzT]
    rw [frzTK_eq, frzTK_eq]
    cases x with
    | none => rfl
    | some s => simp only [fS_eq, Option.map_some]
theorem frzMK_eq {α : Type} : ∀ {L : Mem} {K : Mem → Option α}, frzMK M wh id L K = K (frzM M wh id L)
  | [], K => rfl
  | (i, B) :: r, K => by
    simp only [frzMK, frzM]
    split
    · exact frzMK_eq
    · rw [frzMK_eq, fB_eq]
end
def firstRow : List SV → Option Nat
  | [] => none
  | .row i _ _ _ _ :: _ => some i
  | .may _ (.row i _ _ _ _) :: _ => some i
  | _ :: r => firstRow r
structure Frz where
  F : Tr
  M : Mem
  φ : List Prop
def frz (pins : List Nat) (ids : List Nat) (wh : Bool) (id : Nat) (F : Tr) (M : Mem) : Option Frz :=
  frzTK M wh id F fun F' => frzMK M wh id M fun M' => match intoF pins [] F M F' M' ids with
    | some φ => some ⟨F', M', φ⟩
    | none => none
section
variable {C : Ctx} {Q0 : Exit → Act → World → Prop} {F F' : Tr} {M M' : Mem} {ids : List Nat} {k : List Kont}
theorem frz_ok {wh : Bool} {id : Nat} {φ : List Prop} {U : Nat → Prop} {E : Env} {a : Act} {w : World} (h : frz C.pins ids wh id F M = some ⟨F', M', φ⟩) (hφ : AllP φ) (hst : St C F M U E a w) : ∃ U' E', Sup ids U' ∧ St C F' M' U' E' a w := by
  unfold frz at h
  rw [frzTK_eq, frzMK_eq] at h
  split at h
  · rename_i ψ hi
    simp only [Option.some.injEq, Frz.mk.injEq] at h
    obtain ⟨rfl, rfl, rfl⟩ := h
    exact into_ok hst hi hφ
  · cases h
/-- Ahead of a call: the first row that is given is given up. -/
theorem Sat.freeze {full rest : List Oper} {d : Option Tmp} {x : Operand} {xs : List Operand} {ats : Array TypeId} {type : TypeId} {pos : String} {after : Array Edge} {guard : Option (Nat × Bool)} {f : FuncId} {svs : List SV} {id : Nat} {φ : List Prop} (wh : Bool)
    (hx : argsF C.Γ F x xs = some (f, svs)) (hr : firstRow svs = some id) (hz : frz C.pins ids wh id F M = some ⟨F', M', φ⟩) (hφ : AllP φ)
    (hn : Sat C Q0 (.reg full (⟨d, .call ⟨.value x, ⟨xs⟩, ats⟩, type, pos, after, guard⟩ :: rest) F' M' ids k)) : Sat C Q0 (.reg full (⟨d, .call ⟨.value x, ⟨xs⟩, ats⟩, type, pos, after, guard⟩ :: rest) F M ids k) := by
  intro U E a w _ hst
  obtain ⟨U', E', h1, h2⟩ := frz_ok hz hφ hst
  exact hn U' E' a w h1 h2
end
end Go.Proofs.YtgpggoejkkhceaaDoor.V
