/-
  Joined texts: Vz: A walk by abstract values: calls that are walked where they stand (what they write is seen by the caller).
  Tac: A walk by abstract values: how side conditions are closed (kept once, as default proofs).
  MA: Meta: In, Same, Ints, Rising, Name, Plain, Sum of the references.
  MB: Meta: releases; Valid of the reference.
  MC: Meta: small, within; the library's searches in lists of numbers.
  MD: Meta: within, Contains.
  Sh: DERIVED: THE SHELF's CONTRACTS AT THIS DUMP, IN PLAIN WORDS (tools/lay-plain.mjs out of 'TrydShelf.lean', which tools/lay-shelf.mjs wrote): THE SAME DECLARATIONS UNDER THE SAME NAMES: 'import', 'namespace', 'open', 'def', 'theorem' AND NOTHING ELSE: no command of the shelf's: FOR A HAND-IN. Each laying: the table of numbers ('.._ren') and one theorem, a field a fact of the dump's own or the kernel's comparison; each contract: ONE APPLICATION.
  ME: Meta: Compare; rising and ContainsFunc of parts.
  MF: Meta: Valid of the program (the contract of name is given).
  MG: Meta: Valid of the program says what Valid of the reference says (plain law).
  MH: Meta: name (the runes of a name).
  MI: Meta: name: the runes of a text and its bytes (plain law).
  MJ: Meta: Plain (names of roles).
  MK: Meta: roots; ValidRoot of the reference.
  ML: Meta: Contains of hashes.
  MM: Meta: rising of roles.
  MN: Meta: the runes of a role's name.
  MS: Meta: ValidRoot of the program.
-/
import Derived.Test.YtegbdcadlmefgaaDoorQB
import Derived.FollowTie
import Derived.Shelf.Small.Strs
import Derived.Shelf.LaysM
import Derived.Shelf.Bytes.GrowSliceCatch
import Derived.Shelf.Bytes.GrowSlice
import Derived.Shelf.Bytes.LenAt
import Derived.Shelf.Bytes.TryGrowAt
import Derived.Shelf.Bytes.GrowRow0At
import Derived.Shelf.Bytes.GrowRowAt
import Derived.Shelf.GgClosure.StringsIndexFunc
import Derived.Shelf.Bytes.GrowNilAt
import Derived.Shelf.Bytes.GrowAt
import Derived.Ground.GgwProg
import Derived.Shelf.GgClosure.StringsIndexFuncTop
import Derived.Shelf.Bytes.WriteByteAt
import Derived.Shelf.GgClosure.StringsRunes
import Derived.Shelf.Bytes.WriteStringAt
import Derived.Shelf.Bytes.WriteAt
import Derived.Shelf.Bytes.SlEqualAll
import Derived.Shelf.Bytes.Small
import Derived.Test.YtegbdcadlmefgaaDoorProg
section
namespace Go.Proofs.YtegbdcadlmefgaaDoor.V
open Go.RowKit

/-! ### What the caller keeps -/
mutual
/-- Do the numbers in a value all lie among these? -/
def keepS (p : Nat → Bool) : SV → Prop
  | .ptr id _ => p id = true
  | .pel id _ _ _ _ => p id = true
  | .row id _ _ _ _ => p id = true
  | .bsl id _ => p id = true
  | .rop e _ _ => pureE e
  | .ro e => pureE e
  | .agg l => keepL p l
  | .arr _ e => pureE e
  | .tup l => keepL p l
  | .fn _ l => keepL p l
  | .mv _ l => keepL p l
  | .ifc _ v => keepS p v
  | .may _ v => keepS p v
  | _ => True
def keepL (p : Nat → Bool) : List SV → Prop
  | [] => True
  | s :: r => keepS p s ∧ keepL p r
end
def pinE (p : Nat → Bool) (E : Env) : Env := fun i => if p i = true then E i else none
theorem pinE_at {p : Nat → Bool} {E : Env} {i : Nat} (h : p i = true) : pinE p E i = E i := by simp [pinE, h]
section
variable {E : Env} {T : Nat → Prop} {w : World} {p : Nat → Bool}
mutual
theorem Rep.keep : ∀ {s : SV} {v : Value}, Rep E T w s v → keepS p s → Rep (pinE p E) T w s v
  | _, _, .bool b, _ => .bool b
  | _, _, .int k n h, _ => .int k n h
  | _, _, .str l h, _ => .str l h
  | _, _, .nilp, _ => .nilp
  | _, _, .ptr id off b h, hp => .ptr id off b ((pinE_at (by simpa only [keepS] using hp)).trans h)
  | _, _, .pel id base sz i j b h, hp => .pel id base sz i j b ((pinE_at (by simpa only [keepS] using hp)).trans h)
  | _, _, .rop e i j b o c hT' hn hc hr hi hj hb, hp => by
    simp only [keepS] at hp
    exact .rop e i j b o c hT' hn hc (fun i hi => Items.free_ (hr i hi) (hp.items hi)) hi hj hb
  | _, _, .nils, _ => .nils
  | _, _, .row id base sz sub len b o c n t h hs ho hl ok, hp => .row id base sz sub len b o c n t ((pinE_at (by simpa only [keepS] using hp)).trans h) hs ho hl ok
  | _, _, .row0 id base sz sub len h hl, hp => .row0 id base sz sub len ((pinE_at (by simpa only [keepS] using hp)).trans h) hl
  | _, _, .ro0 e h, _ => .ro0 e h
  | _, _, .ro1 e a h, _ => .ro1 e a h
  | _, _, .ro e b o n k c hT' hn hc hr he hl ok hb, hp => by
    simp only [keepS] at hp
    exact .ro e b o n k c hT' hn hc (fun i hi => Items.free_ (hr i hi) (hp.items hi)) he hl ok hb
  | _, _, .agg l cs h, hp => .agg l cs (Items.keep h (by simpa only [keepS] using hp))
  | _, _, .arr n e cs c hn hl he h1 hc hr, hp => by
    simp only [keepS] at hp
    exact .arr n e cs c hn hl he h1 hc (fun i hi => Items.free_ (hr i hi) (hp.items hi))
  | _, _, .tup l vs h, hp => .tup l vs (Tup.keep h (by simpa only [keepS] using hp))
  | _, _, .fn f l vs h, hp => .fn f l vs (Tup.keep h (by simpa only [keepS] using hp))
  | _, _, .mv f l vs h, hp => .mv f l vs (Tup.keep h (by simpa only [keepS] using hp))
  | _, _, .ifc t s v h, hp => .ifc t s v (Rep.keep h (by simpa only [keepS] using hp))
  | _, _, .nili, _ => .nili
  | _, _, .nilf, _ => .nilf
  | _, _, .may1 g s v h hr, hp => .may1 g s v h (Rep.keep hr (by simpa only [keepS] using hp))
  | _, _, .may0 g s h, _ => .may0 g s h
  | _, _, .bsl id len b n t h hs hl ok, hp => .bsl id len b n t ((pinE_at (by simpa only [keepS] using hp)).trans h) hs hl ok
  | _, _, .bsl0 id len h hl, hp => .bsl0 id len ((pinE_at (by simpa only [keepS] using hp)).trans h) hl
  | _, _, .anyi k n, _ => .anyi k n
  | _, _, .val x, _ => .val x
theorem Items.keep : ∀ {l : List SV} {cs : List Value}, Items E T w l cs → keepL p l → Items (pinE p E) T w l cs
  | _, _, .nil, _ => .nil
  | _, _, .one s c l cs h hr hl, hp => by
    simp only [keepL] at hp
    exact .one s c l cs h (Rep.keep hr hp.1) (Items.keep hl hp.2)
  | _, _, .arr n e l c1 cs hr hl, hp => by
    simp only [keepL] at hp
    exact .arr n e l c1 cs (Rep.keep hr hp.1) (Items.keep hl hp.2)
theorem Tup.keep : ∀ {l : List SV} {vs : List Value}, Tup E T w l vs → keepL p l → Tup (pinE p E) T w l vs
  | _, _, .nil, _ => .nil
  | _, _, .cons s v l vs hr hl, hp => by
    simp only [keepL] at hp
    exact .cons s v l vs (Rep.keep hr hp.1) (Tup.keep hl hp.2)
end
end
mutual
/-- The same, reckoned: what is left to show (for runs of parts). -/
def kpS (p : List Nat) : SV → Option (List Prop)
  | .ptr id _ => bif p.elem id then some [] else none
  | .pel id _ _ _ _ => bif p.elem id then some [] else none
  | .row id _ _ _ _ => bif p.elem id then some [] else none
  | .bsl id _ => bif p.elem id then some [] else none
  | .rop e _ _ => kpE e
  | .ro e => kpE e
  | .agg l => kpL p l
  | .arr _ e => kpE e
  | .tup l => kpL p l
  | .fn _ l => kpL p l
  | .mv _ l => kpL p l
  | .ifc _ v => kpS p v
  | .may _ v => kpS p v
  | _ => some []
def kpE : EV → Option (List Prop)
  | .g n sz f => some [pureE (.g n sz f)]
  | .u8 _ => some []
  | .ints _ _ => some []
def kpL (p : List Nat) : List SV → Option (List Prop)
  | [] => some []
  | s :: r => match kpS p s with
    | some φ => match kpL p r with
      | some ψ => some (φ ++ ψ)
      | none => none
    | none => none
end
theorem kpE_ok {e : EV} {φ : List Prop} (h : kpE e = some φ) (hφ : AllP φ) : pureE e := by
  cases e with
  | u8 l => simp [pureE]
  | ints k l => simp [pureE]
  | g n sz f =>
    simp only [kpE, Option.some.injEq] at h
    subst h
    exact hφ.1
theorem bif_some {b : Bool} {φ : List Prop} (h : (bif b then some [] else none) = some φ) : b = true := by cases b <;> simp at h ⊢
mutual
theorem kpS_ok {p : List Nat} : ∀ {s : SV} {φ : List Prop}, kpS p s = some φ → AllP φ → keepS p.elem s
  | .ptr id _, φ, h, hφ => by simp only [kpS] at h; simp only [keepS]; exact bif_some h
  | .pel id _ _ _ _, φ, h, hφ => by simp only [kpS] at h; simp only [keepS]; exact bif_some h
  | .row id _ _ _ _, φ, h, hφ => by simp only [kpS] at h; simp only [keepS]; exact bif_some h
  | .bsl id _, φ, h, hφ => by simp only [kpS] at h; simp only [keepS]; exact bif_some h
  | .anyi _, _, _, _ => by simp only [keepS]
  | .rop e _ _, φ, h, hφ => by simp only [kpS] at h; simp only [keepS]; exact kpE_ok h hφ
  | .ro e, φ, h, hφ => by simp only [kpS] at h; simp only [keepS]; exact kpE_ok h hφ
  | .agg l, φ, h, hφ => by simp only [kpS] at h; simp only [keepS]; exact kpL_ok h hφ
  | .arr _ e, φ, h, hφ => by simp only [kpS] at h; simp only [keepS]; exact kpE_ok h hφ
  | .tup l, φ, h, hφ => by simp only [kpS] at h; simp only [keepS]; exact kpL_ok h hφ
  | .fn _ l, φ, h, hφ => by simp only [kpS] at h; simp only [keepS]; exact kpL_ok h hφ
  | .mv _ l, φ, h, hφ => by simp only [kpS] at h; simp only [keepS]; exact kpL_ok h hφ
  | .ifc _ v, φ, h, hφ => by simp only [kpS] at h; simp only [keepS]; exact kpS_ok h hφ
  | .may _ v, φ, h, hφ => by simp only [kpS] at h; simp only [keepS]; exact kpS_ok h hφ
  | .bool _, _, _, _ => by simp only [keepS]
  | .int _ _, _, _, _ => by simp only [keepS]
  | .str _, _, _, _ => by simp only [keepS]
  | .nilp, _, _, _ => by simp only [keepS]
  | .nils, _, _, _ => by simp only [keepS]
  | .nili, _, _, _ => by simp only [keepS]
  | .nilf, _, _, _ => by simp only [keepS]
  | .val _, _, _, _ => by simp only [keepS]
theorem kpL_ok {p : List Nat} : ∀ {l : List SV} {φ : List Prop}, kpL p l = some φ → AllP φ → keepL p.elem l
  | [], _, _, _ => by simp only [keepL]
  | s :: r, φ, h, hφ => by
    simp only [kpL] at h
    simp only [keepL]
    split at h
    · rename_i φ1 h1
      split at h
      · rename_i ψ h2
        simp only [Option.some.injEq] at h
        subst h
        obtain ⟨q1, q2⟩ := AllP.app hφ
        exact ⟨kpS_ok h1 q1, kpL_ok h2 q2⟩
      · cases h
    · cases h
end
/-- The slots that are kept. -/
def kpTK {α : Type} (p : List Nat) : Tr → List Prop → (Tr → List Prop → Option α) → Option α
  | .e, acc, K => K .e acc
  | .n l x r, acc, K => kpTK p l acc fun l' φ1 => kpTK p r φ1 fun r' φ2 => match x with
    | none => K (.n l' none r') φ2
    | some s => match kpS p s with
      | some φ => fP φ fun φ => K (.n l' (some s) r') (φ ++ φ2)
      | none => K (.n l' none r') φ2
def keepT (p : List Nat) (F : Tr) : Option (Tr × List Prop) := kpTK p F [] fun G φ => fP φ fun φ => some (G, φ)
theorem kpTK_ok {α : Type} {p : List Nat} : ∀ {F : Tr} {acc : List Prop} {K : Tr → List Prop → Option α} {r : α}, kpTK p F acc K = some r →
    ∃ G φ, K G φ = some r ∧ (AllP φ → AllP acc ∧ ∀ t s, G.get t = some s → F.get t = some s ∧ keepS p.elem s)
  | .e, acc, K, r, h => ⟨.e, acc, h, fun ha => ⟨ha, fun t s hs => by simp [Tr.get] at hs⟩⟩
  | .n l x r', acc, K, r, h => by
    simp only [kpTK] at h
    obtain ⟨l1, φ1, h1, k1⟩ := kpTK_ok h
    obtain ⟨r1, φ2, h2, k2⟩ := kpTK_ok h1
    have key : ∀ (y : Option SV) (φ3 : List Prop), (AllP φ3 → AllP φ2 ∧ ∀ s, y = some s → x = some s ∧ keepS p.elem s) → AllP φ3 → AllP acc ∧ ∀ t s, (Tr.n l1 y r1).get t = some s → (Tr.n l x r').get t = some s ∧ keepS p.elem s := by
      intro y φ3 hy h3
      obtain ⟨q2, q3⟩ := hy h3
      obtain ⟨q1, k2'⟩ := k2 q2
      obtain ⟨q0, k1'⟩ := k1 q1
      refine ⟨q0, fun t s hs => ?_⟩
      cases t with
      | zero => simp only [Tr.get] at hs ⊢; exact q3 s hs
      | succ t =>
        simp only [Tr.get] at hs ⊢
        split at hs
        · exact k1' _ _ hs
        · exact k2' _ _ hs
    cases x with
    | none => exact ⟨_, _, h2, key none φ2 fun h => ⟨h, fun s hs => by cases hs⟩⟩
    | some s0 =>
      dsimp only at h2
      split at h2
      · rename_i φ hφ
        rw [fP_eq] at h2
        refine ⟨_, _, h2, key (some s0) (φ ++ φ2) fun h => ?_⟩
        obtain ⟨q1, q2⟩ := AllP.app h
        exact ⟨q2, fun s hs => by cases hs; exact ⟨rfl, kpS_ok hφ q1⟩⟩
      · exact ⟨_, _, h2, key none φ2 fun h => ⟨h, fun s hs => by cases hs⟩⟩
theorem keepT_ok {p : List Nat} {F G : Tr} {φ : List Prop} (h : keepT p F = some (G, φ)) (hφ : AllP φ) : ∀ t s, G.get t = some s → F.get t = some s ∧ keepS p.elem s := by
  unfold keepT at h
  obtain ⟨G', φ', h1, h2⟩ := kpTK_ok h
  rw [fP_eq] at h1
  simp only [Option.some.injEq, Prod.mk.injEq] at h1
  obtain ⟨rfl, rfl⟩ := h1
  exact (h2 hφ).2
/-- The blocks that stay where they are. -/
def pinsK {α : Type} (kill : List Nat) : Mem → List Nat → (List Nat → Option α) → Option α
  | [], acc, K => K acc
  | (i, _) :: r, acc, K => match kill.elem i || acc.elem i with
    | true => pinsK kill r acc K
    | false => pinsK kill r (i :: acc) K
def pinsOf (kill pins : List Nat) (M : Mem) : Option (List Nat) := pinsK kill M pins some
theorem pinsK_sub {kill : List Nat} : ∀ {M : Mem} {acc r : List Nat}, pinsK kill M acc some = some r → ∀ i, acc.elem i = true → r.elem i = true
  | [], acc, r, h, i, hi => by simp only [pinsK, Option.some.injEq] at h; rw [← h]; exact hi
  | (j, _) :: M, acc, r, h, i, hi => by
    simp only [pinsK] at h
    split at h
    · exact pinsK_sub h i hi
    · exact pinsK_sub h i (by rw [List.elem]; split <;> first | rfl | exact hi)

/-! ### The call -/
/-- What is asked of a call's end: that the caller goes on well. -/
def Inl (C : Ctx) (Q0 : Exit → Act → World → Prop) (full rest : List Oper) (d : Option Tmp) (k : List Kont) (a : Act) (e : Ending) (w' : World) : Prop :=
  a.defers = [] → a.tmps.size = C.N → (∀ p, p ∈ C.hold → ∀ id b, p.pe id = some b → C.pins.elem id = true) → ∃ v, e = .returned v ∧ wpList C.P full.toArray (Kq C.P Q0 k) rest (a.put d v) w'
section
variable {C : Ctx} {Q0 : Exit → Act → World → Prop} {F F' : Tr} {M M' : Mem} {ids : List Nat} {k : List Kont}
/-- A call, walked where it stands: what it writes is the caller's memory. -/
theorem inl_core {full rest : List Oper} {d : Option Tmp} {op : Op} {type : TypeId} {pos : String} {after : Array Edge} {f : FuncId} {svs : List SV} {fn : Func} {c : Code} {N' : Nat} {F0 G : Tr} {φ : List Prop} {pins' : List Nat} (dep : Nat) (kill : List Nat)
    (hf : C.P.funcs[f]? = some fn) (hN : fn.ntmps = N') (hx : ∀ U E a w, St C F M U E a w → ∃ vs, Tup E (trk C.T0 M E) w svs vs ∧ (execOp a.eval ⟨d, op, type, pos, after, none⟩).run C.P w = (callFunc f vs.toArray).run C.P w) (hb : fn.body = some c) (hc : callable C.P f = true) (hle : Nat.ble svs.length N' = true) (hF0 : argT 0 svs (Tr.mk dep) = some F0)
    (hp : pinsOf kill C.pins M = some pins') (hG : keepT pins' F = some (G, φ)) (hφ : AllP φ)
    (h : ∀ a E, Sat ⟨C.P, C.W0, C.S, C.T0, C.Γ, N', pins', ⟨pinE pins'.elem E, G, fun t => a.tmps.getD t undef⟩ :: C.hold, C.wide⟩ (bodyPost C.P fn (Inl C Q0 full rest d k a)) (.code c F0 M ids [])) :
    Sat C Q0 (.reg full (⟨d, op, type, pos, after, none⟩ :: rest) F M ids k) := by
  intro U E a w hsup hst
  refine wpList_plain rfl fun K hK => ?_
  unfold Oper.wp
  obtain ⟨vs, ht, hex⟩ := hx U E a w hst
  rw [hex, run_callFunc_go hc]
  have hlen := ht.len
  have hle' := Nat.le_of_ble_eq_true hle
  have hsub := pinsK_sub hp
  have hkeep := keepT_ok hG hφ
  refine (calls_of_wp hf hb (h a E U E _ w hsup ⟨rfl, ?_, fun t s hs => ?_, hst.mem, hst.own, hst.fresh, hst.kp, hst.hid, hst.glob, fun p hp id b h1 => ?_, fun p hp t s hs => ?_⟩)).mono ?_
  · simp only [Array.size_append, List.size_toArray, Array.size_replicate, hlen, hN]; omega
  · rcases argT_get hF0 ht t s hs with ⟨q1, _⟩ | ⟨_, v, q2, q3⟩ | ⟨_, q2⟩
    · omega
    · have hlt : t < vs.length := by simpa using (List.getElem?_eq_some_iff.1 q2).1
      have : (vs.toArray ++ Array.replicate (fn.ntmps - vs.toArray.size) undef).getD t undef = v := by
        rw [Array.getD_eq_getD_getElem?, Array.getElem?_append_left (by simpa using hlt)]
        simp only [Nat.sub_zero] at q2
        simp [q2]
      rw [this]
      exact q3
    · rw [mk_get] at q2; cases q2
  · rcases List.mem_cons.1 hp with rfl | hp
    · dsimp only [pinE] at h1
      split at h1
      · rename_i hi; exact ⟨hi, h1⟩
      · cases h1
    · obtain ⟨q1, q2⟩ := hst.pin p hp id b h1
      exact ⟨hsub id q1, q2⟩
  · rcases List.mem_cons.1 hp with rfl | hp
    · obtain ⟨q1, q2⟩ := hkeep t s hs
      exact (hst.slots t s q1).keep q2
    · exact hst.held p hp t s hs
  · intro e w' hI
    obtain ⟨v, rfl, hv⟩ := hI hst.defers hst.size fun p hp id b h => (hst.pin p hp id b h).1
    exact hK _ _ hv
theorem Sat.inl {full rest : List Oper} {d : Option Tmp} {x : Operand} {f : FuncId} {xs : List Operand} {ats : Array TypeId} {type : TypeId} {pos : String} {after : Array Edge} {svs : List SV} {fn : Func} {c : Code} {N' : Nat} {F0 G : Tr} {φ : List Prop} {pins' : List Nat} (dep : Nat) (kill : List Nat)
    (hf : C.P.funcs[f]? = some fn) (hN : fn.ntmps = N') (hx : argsF C.Γ F x xs = some (f, svs)) (hb : fn.body = some c) (hc : callable C.P f = true) (hle : Nat.ble svs.length N' = true) (hF0 : argT 0 svs (Tr.mk dep) = some F0)
    (hp : pinsOf kill C.pins M = some pins') (hG : keepT pins' F = some (G, φ)) (hφ : AllP φ)
    (h : ∀ a E, Sat ⟨C.P, C.W0, C.S, C.T0, C.Γ, N', pins', ⟨pinE pins'.elem E, G, fun t => a.tmps.getD t undef⟩ :: C.hold, C.wide⟩ (bodyPost C.P fn (Inl C Q0 full rest d k a)) (.code c F0 M ids [])) :
    Sat C Q0 (.reg full (⟨d, .call ⟨.value x, ⟨xs⟩, ats⟩, type, pos, after, none⟩ :: rest) F M ids k) :=
  inl_core dep kill hf hN (fun U E a w hst => by
    obtain ⟨vs, ht, hex⟩ := argsF_ok hst.vw hx
    exact ⟨vs, ht, by rw [hex]⟩) hb hc hle hF0 hp hG hφ h
/-- The same by an interface value whose type is known. -/
def argsI (Γ : Glob) (F : Tr) (x : Operand) (xs : List Operand) : Option (TypeId × List SV) :=
  match opd Γ F x with
  | some (.ifc t s) => match opdsC Γ F xs with
    | some svs => some (t, s :: svs)
    | none => none
  | _ => none
theorem argsI_ok {Γ : Glob} {E : Env} {T : Nat → Prop} {a : Act} {w : World} {P : Program} (V : Vw Γ F M E T a w) {x : Operand} {xs : List Operand} {f : FuncId} {t : TypeId} {name : String} {svs : List SV} (h : argsI Γ F x xs = some (t, svs)) (hm : ∀ v w, (method (P.types.size + Made.depth) t v name).run P w = .ok (f, v) w)
    (d : Option Tmp) (ats : Array TypeId) (type : TypeId) (pos : String) (after : Array Edge) (guard : Option (Nat × Bool)) :
    ∃ vs, Tup E T w svs vs ∧ (execOp a.eval ⟨d, .call ⟨.invoke x name, ⟨xs⟩, ats⟩, type, pos, after, guard⟩).run P w = (callFunc f vs.toArray).run P w := by
  unfold argsI at h
  split at h
  · rename_i t' s hs
    have hr := opd_rep V hs
    split at h
    · rename_i svs' hx
      have ht := opdsC_tup V hx
      simp only [Option.some.injEq, Prod.mk.injEq] at h
      obtain ⟨rfl, rfl⟩ := h
      generalize hv : a.eval x = v at hr
      cases hr with
      | ifc _ _ u hu =>
        refine ⟨u :: xs.map a.eval, .cons _ _ _ _ hu ht, ?_⟩
        have e : execOp a.eval ⟨d, .call ⟨.invoke x name, ⟨xs⟩, ats⟩, type, pos, after, guard⟩ = callMethod (.iface t' u) name (xs.map a.eval).toArray := by
          unfold execOp resolve
          simp [hv, invoke]
          rw [List.take_of_length_le (by simp)]
        rw [e]
        rcases callMethod_tie P w t' u name (xs.map a.eval).toArray with ⟨f', r', w', h1, h2⟩ | ⟨hh, w', h1, _⟩
        · rw [hm] at h1
          cases h1
          rw [h2]
          simp
        · rw [hm] at h1
          cases h1
    · cases h
  · cases h
theorem Sat.inlI {full rest : List Oper} {d : Option Tmp} {x : Operand} {f : FuncId} {name : String} {t : TypeId} {xs : List Operand} {ats : Array TypeId} {type : TypeId} {pos : String} {after : Array Edge} {svs : List SV} {fn : Func} {c : Code} {N' : Nat} {F0 G : Tr} {φ : List Prop} {pins' : List Nat} (dep : Nat) (kill : List Nat)
    (hm : ∀ v w, (method (C.P.types.size + Made.depth) t v name).run C.P w = .ok (f, v) w) (hf : C.P.funcs[f]? = some fn) (hN : fn.ntmps = N') (hx : argsI C.Γ F x xs = some (t, svs)) (hb : fn.body = some c) (hc : callable C.P f = true) (hle : Nat.ble svs.length N' = true) (hF0 : argT 0 svs (Tr.mk dep) = some F0)
    (hp : pinsOf kill C.pins M = some pins') (hG : keepT pins' F = some (G, φ)) (hφ : AllP φ)
    (h : ∀ a E, Sat ⟨C.P, C.W0, C.S, C.T0, C.Γ, N', pins', ⟨pinE pins'.elem E, G, fun t => a.tmps.getD t undef⟩ :: C.hold, C.wide⟩ (bodyPost C.P fn (Inl C Q0 full rest d k a)) (.code c F0 M ids [])) :
    Sat C Q0 (.reg full (⟨d, .call ⟨.invoke x name, ⟨xs⟩, ats⟩, type, pos, after, none⟩ :: rest) F M ids k) :=
  inl_core dep kill hf hN (fun _ _ _ _ hst => argsI_ok hst.vw hx hm _ _ _ _ _ _) hb hc hle hF0 hp hG hφ h
/-- The state of the caller, when the call is over. -/
theorem St.out {a a1 : Act} {w : World} {U : Nat → Prop} {E E1 : Env} {N' : Nat} {pins' : List Nat} {G F1 : Tr} (hd : a.defers = []) (hs : a.tmps.size = C.N) (hpn : ∀ p, p ∈ C.hold → ∀ id b, p.pe id = some b → C.pins.elem id = true)
    (h : St ⟨C.P, C.W0, C.S, C.T0, C.Γ, N', pins', ⟨pinE pins'.elem E, G, fun t => a.tmps.getD t undef⟩ :: C.hold, C.wide⟩ F1 M U E1 a1 w) : St C G M U E1 a w :=
  ⟨hd, hs, fun t s hg => (h.held _ (List.mem_cons_self ..) t s hg).mono (fun i x hi => (h.pin _ (List.mem_cons_self ..) i x hi).2) (fun _ _ h => h) (Chg.refl _ w), h.mem, h.own, h.fresh, h.kp, h.hid, h.glob,
    fun p hp i b hi => ⟨hpn p hp i b hi, (h.pin p (List.mem_cons_of_mem _ hp) i b hi).2⟩, fun p hp => h.held p (List.mem_cons_of_mem _ hp)⟩
theorem out_core {N' : Nat} {pins' : List Nat} {E : Env} {G : Tr} {fn : Func} {full rest : List Oper} {d : Option Tmp} {a : Act} {e : Ex} {F1 F2 : Tr} {s : SV} (he : e = .ret ∨ e = .normal)
    (hv : ∀ U E1 a1 w, Sup ids U → St ⟨C.P, C.W0, C.S, C.T0, C.Γ, N', pins', ⟨pinE pins'.elem E, G, fun t => a.tmps.getD t undef⟩ :: C.hold, C.wide⟩ F1 M U E1 a1 w → ∃ v, (results fn a1.tmps).run C.P w = .ok v w ∧ Rep E1 (trk C.T0 M E1) w s v)
    (hp : putD C.N G d (some s) some = some F2) (h : Sat C Q0 (.reg full rest F2 M ids k)) :
    Sat ⟨C.P, C.W0, C.S, C.T0, C.Γ, N', pins', ⟨pinE pins'.elem E, G, fun t => a.tmps.getD t undef⟩ :: C.hold, C.wide⟩ (bodyPost C.P fn (Inl C Q0 full rest d k a)) (.ext e F1 M ids []) := by
  intro U E1 a1 w hsup hst
  obtain ⟨v, h1, h2⟩ := hv U E1 a1 w hsup hst
  obtain ⟨F3, q1, q2⟩ := putD_inv hp
  cases q1
  have hin : Inl C Q0 full rest d k a (.returned v) w := fun hd hs hpn => ⟨v, rfl, h U E1 _ w hsup ((hst.out hd hs hpn).putD q2 fun s' hs' => by cases hs'; exact h2)⟩
  rcases he with rfl | rfl <;> exact ⟨hst.defers, v, h1, hin⟩
theorem Sat.out1 {N' : Nat} {pins' : List Nat} {E : Env} {G : Tr} {fn : Func} {full rest : List Oper} {d : Option Tmp} {a : Act} {e : Ex} {F1 F2 : Tr} {r : ResultVar} {φ : List Prop} {s : SV} (hr : fn.results = #[r]) (he : e = .ret ∨ e = .normal) (h1 : resV C.P F1 M r = some (φ, s)) (hφ : AllP φ)
    (hp : putD C.N G d (some s) some = some F2) (h : Sat C Q0 (.reg full rest F2 M ids k)) :
    Sat ⟨C.P, C.W0, C.S, C.T0, C.Γ, N', pins', ⟨pinE pins'.elem E, G, fun t => a.tmps.getD t undef⟩ :: C.hold, C.wide⟩ (bodyPost C.P fn (Inl C Q0 full rest d k a)) (.ext e F1 M ids []) :=
  out_core he (fun U E1 a1 w _ hst => by
    obtain ⟨v, q1, q2⟩ := resV_ok hst h1 hφ
    refine ⟨v, ?_, q1⟩
    unfold results
    rw [hr]
    exact mapM_run1 q2) hp h
theorem Sat.out2 {N' : Nat} {pins' : List Nat} {E : Env} {G : Tr} {fn : Func} {full rest : List Oper} {d : Option Tmp} {a : Act} {e : Ex} {F1 F2 : Tr} {r r' : ResultVar} {φ φ' : List Prop} {s s' : SV} (hr : fn.results = #[r, r']) (he : e = .ret ∨ e = .normal) (h1 : resV C.P F1 M r = some (φ, s)) (hφ : AllP φ) (h2 : resV C.P F1 M r' = some (φ', s')) (hφ' : AllP φ')
    (hp : putD C.N G d (some (.tup [s, s'])) some = some F2) (h : Sat C Q0 (.reg full rest F2 M ids k)) :
    Sat ⟨C.P, C.W0, C.S, C.T0, C.Γ, N', pins', ⟨pinE pins'.elem E, G, fun t => a.tmps.getD t undef⟩ :: C.hold, C.wide⟩ (bodyPost C.P fn (Inl C Q0 full rest d k a)) (.ext e F1 M ids []) :=
  out_core he (fun U E1 a1 w _ hst => by
    obtain ⟨v, q1, q2⟩ := resV_ok hst h1 hφ
    obtain ⟨v', q1', q2'⟩ := resV_ok hst h2 hφ'
    refine ⟨.tuple #[v, v'], ?_, .tup _ [v, v'] (.cons _ _ _ _ q1 (.cons _ _ _ _ q1' .nil))⟩
    unfold results
    rw [hr]
    exact mapM_run2 q2 q2') hp h
theorem Sat.out0 {N' : Nat} {pins' : List Nat} {E : Env} {G : Tr} {fn : Func} {full rest : List Oper} {d : Option Tmp} {a : Act} {e : Ex} {F1 F2 : Tr} (hr : fn.results = #[]) (he : e = .ret ∨ e = .normal)
    (hp : putD C.N G d (some (.tup [])) some = some F2) (h : Sat C Q0 (.reg full rest F2 M ids k)) :
    Sat ⟨C.P, C.W0, C.S, C.T0, C.Γ, N', pins', ⟨pinE pins'.elem E, G, fun t => a.tmps.getD t undef⟩ :: C.hold, C.wide⟩ (bodyPost C.P fn (Inl C Q0 full rest d k a)) (.ext e F1 M ids []) :=
  out_core he (fun _ _ _ _ _ _ => ⟨_, results_none hr _ _ _, .tup _ [] .nil⟩) hp h
end
end Go.Proofs.YtegbdcadlmefgaaDoor.V
end
section
namespace Go.Proofs.YtegbdcadlmefgaaDoor.V
open Go.RowKit
theorem phi {p : Prop} (h : p := by ((try dsimp only [V.EV.sub, V.EV.len]) <;> (repeat' (first | exact AllP.nil | with_reducible refine AllP.cons ?_ ?_ | with_reducible apply And.intro)) <;> (first | assumption | exact True.intro | exact rfl | (show eqOk _ _ = true; kernel_rfl) | omega | decide | (simp only [V.EV.sub, V.EV.len, List.length_cons, List.length_nil, List.length_append, List.length_drop, List.length_take]; omega) | (simp only [IntKind.bits]; omega) | (show IntKind.min _ ≤ _ ∧ _ ≤ IntKind.max _; decide) | (apply inR_i64 <;> omega) | (apply inR_i64 <;> (try simp only [Int.reduceToNat, Int.reducePow, Int.reduceSub, Int.reduceMul, Int.reduceAdd, Nat.reducePow, Nat.reduceAdd, Nat.reduceSub]) <;> omega) | (apply inR_u64 <;> omega) | (apply inR_u32 <;> omega) | (apply inR_u8' <;> omega) | (intro _; first | contradiction | (show eqOk _ _ = true; kernel_rfl) | assumption | exact rfl | omega | (show IntKind.min _ ≤ _ ∧ _ ≤ IntKind.max _; decide) | (apply inR_i64 <;> omega) | (apply inR_i64 <;> (try simp only [Int.reduceToNat, Int.reducePow, Int.reduceSub, Int.reduceMul, Int.reduceAdd, Nat.reducePow, Nat.reduceAdd, Nat.reduceSub]) <;> omega) | (apply inR_u64 <;> omega) | (apply inR_u32 <;> omega) | (apply inR_u8' <;> omega) | (apply And.intro <;> first | omega | (simp only [IntKind.bits]; omega))) | (simp; done) | (simp_all; done) | (simp_all; omega))) <;> fail) : p := h
theorem pur {p : Prop} (h : p := by ((repeat' (first | exact True.intro | apply And.intro))) <;> fail) : p := h
theorem purX {p : Prop} (h : p := by ((repeat' (first | exact True.intro | (intro _ _; simp [pureL, pureS, pureE]; done) | apply And.intro))) <;> fail) : p := h
theorem cnv {p : Prop} (h : p := by ((repeat' (first | exact Convs.nil | apply Convs.cons | exact Conv.refl _ pur | (refine Conv.may _ _ _ ?_ ?_; first | exact rfl | assumption | (decide +kernel) | (simp_all; done) | omega) | exact Conv.nils _ rfl | (refine Conv.all _ _ _ _ _ rfl rfl ?_ ?_ <;> first | rfl | exact True.intro | assumption | omega) | (refine Conv.gx _ _ _ _ _ (Conv.all _ _ _ _ _ rfl rfl ?_ ?_) ?_; exact rfl; (refine fun i hi => ?_; rcases i with _ | _ | _ | _ | _ | _ | i <;> first | exact ⟨trivial, trivial⟩ | exact trivial | (exfalso; simp only [List.length_cons, List.length_nil] at hi; omega)); (intro i hi; rcases i with _ | _ | _ | _ | _ | _ | i <;> first | rfl | (exfalso; simp only [List.length_cons, List.length_nil] at hi; omega))) | apply Conv.agg | apply Conv.tup))) <;> fail) : p := h
theorem cnvX {p : Prop} (h : p := by ((repeat' (first | exact Convs.nil | apply Convs.cons | exact Conv.refl _ purX | (refine Conv.may _ _ _ ?_ ?_; first | exact rfl | assumption | (decide +kernel) | (simp_all; done) | omega) | exact Conv.nils _ rfl | (refine Conv.all _ _ _ _ _ rfl rfl ?_ ?_ <;> first | rfl | exact True.intro | assumption | omega) | (refine Conv.gx _ _ _ _ _ (Conv.all _ _ _ _ _ rfl rfl ?_ ?_) ?_; exact rfl; (refine fun i hi => ?_; rcases i with _ | _ | _ | _ | _ | _ | i <;> first | exact ⟨trivial, trivial⟩ | exact trivial | (exfalso; simp only [List.length_cons, List.length_nil] at hi; omega)); (intro i hi; rcases i with _ | _ | _ | _ | _ | _ | i <;> first | rfl | (exfalso; simp only [List.length_cons, List.length_nil] at hi; omega))) | apply Conv.agg | apply Conv.tup))) <;> fail) : p := h
end Go.Proofs.YtegbdcadlmefgaaDoor.V
end
section
namespace Go.Proofs.YtegbdcadlmefgaaDoor
open Go.RowKit V
set_option maxRecDepth 100000
set_option maxHeartbeats 8000000
set_option linter.unusedSimpArgs false
attribute [local irreducible] V.Sat V.DSat
@[reducible] def X64 : IntKind → Bool
  | .i64 => true
  | _ => false
def inB (n low high : Int) : Bool := decide (low ≤ n) && decide (n ≤ high)
theorem in_ref (n low high : Int) : Fun Tryd.prog [] 42 [.int .i64 n, .int .i64 low, .int .i64 high] (.bool (inB n low high)) := by
  refine Fun.mk 6 Tryd.func42 rfl Tryd.ntmps42 rfl rfl fun T w0 => ?_
  repeat' (first
      | ((with_reducible apply Sat.run (X := X64)); exact rfl; (first | exact True.intro | (exact phi) | skip))
      | ((with_reducible apply Sat.drawn); kernel_rfl)
      | ((with_reducible apply DSat.run (X := X64)); exact rfl; (first | exact True.intro | (exact phi) | skip))
      | ((with_reducible apply DSat.fin); kernel_rfl)
      | ((with_reducible apply Sat.cond_t); exact rfl)
      | ((with_reducible apply Sat.cond_f); exact rfl)
      | ((with_reducible apply Sat.cond_pt); exact rfl; (try dsimp only [V.EV.sub, V.EV.len]); first | assumption | omega)
      | ((with_reducible apply Sat.cond_pf); exact rfl; (try dsimp only [V.EV.sub, V.EV.len]); first | assumption | omega)
      | ((with_reducible apply Sat.cond_p); exact rfl; all_goals (intro h; (try simp only [V.EV.sub, V.EV.len] at h)))
      | ((with_reducible apply Sat.cond); exact rfl; all_goals (intro h; (try simp only [V.EV.sub, V.EV.len, Bool.cond_true_left, Bool.cond_false_right, Bool.or_eq_true, Bool.and_eq_true, Bool.or_eq_false_iff, Bool.and_eq_false_iff, Bool.not_eq_true', Bool.not_eq_false', decide_eq_true_eq, decide_eq_false_iff_not, ne_eq] at h))) | fail)
  (refine Sat.fin (Sat.end1 rfl rfl rfl True.intro (.refl _ pur) (by first | exact .inl rfl | exact .inr rfl) (fun _ h => h)) ?_; (refine congrArg SV.bool ?_; unfold inB; cases decide (low ≤ n) <;> rfl))
theorem in_spec (n low high : Int) : Fun Tryd.prog [] 32 [.int .i64 n, .int .i64 low, .int .i64 high] (.bool (inB n low high)) := by
  refine Fun.mk 6 Tryd.func32 rfl Tryd.ntmps32 rfl rfl fun T w0 => ?_
  repeat' (first
      | ((with_reducible apply Sat.run (X := X64)); exact rfl; (first | exact True.intro | (exact phi) | skip))
      | ((with_reducible apply Sat.drawn); kernel_rfl)
      | ((with_reducible apply DSat.run (X := X64)); exact rfl; (first | exact True.intro | (exact phi) | skip))
      | ((with_reducible apply DSat.fin); kernel_rfl)
      | ((with_reducible apply Sat.cond_t); exact rfl)
      | ((with_reducible apply Sat.cond_f); exact rfl)
      | ((with_reducible apply Sat.cond_pt); exact rfl; (try dsimp only [V.EV.sub, V.EV.len]); first | assumption | omega)
      | ((with_reducible apply Sat.cond_pf); exact rfl; (try dsimp only [V.EV.sub, V.EV.len]); first | assumption | omega)
      | ((with_reducible apply Sat.cond_p); exact rfl; all_goals (intro h; (try simp only [V.EV.sub, V.EV.len] at h)))
      | ((with_reducible apply Sat.cond); exact rfl; all_goals (intro h; (try simp only [V.EV.sub, V.EV.len, Bool.cond_true_left, Bool.cond_false_right, Bool.or_eq_true, Bool.and_eq_true, Bool.or_eq_false_iff, Bool.and_eq_false_iff, Bool.not_eq_true', Bool.not_eq_false', decide_eq_true_eq, decide_eq_false_iff_not, ne_eq] at h))) | fail)
  (refine Sat.fin (Sat.end1 rfl rfl rfl True.intro (.refl _ pur) (by first | exact .inl rfl | exact .inr rfl) (fun _ h => h)) ?_; (refine congrArg SV.bool ?_; unfold inB; cases decide (low ≤ n) <;> rfl))
theorem same_ref (l m : List UInt8) : Fun Tryd.prog [] 14 [.ro (.u8 l), .ro (.u8 m)] (.bool (decide (l = m))) := by
  refine Fun.mkF 6 Tryd.func14 rfl Tryd.ntmps14 rfl rfl fun hf T w0 => ?_
  obtain ⟨⟨hl, _⟩, ⟨hm, _⟩, _⟩ := hf
  dsimp only [EV.len] at hl hm
  unfold okLen at hl hm
  repeat' (first
      | ((with_reducible apply Sat.run (X := X64)); exact rfl; (first | exact True.intro | (exact phi) | skip))
      | ((with_reducible apply Sat.drawn); kernel_rfl)
      | ((with_reducible apply DSat.run (X := X64)); exact rfl; (first | exact True.intro | (exact phi) | skip))
      | ((with_reducible apply DSat.fin); kernel_rfl)
      | ((with_reducible apply Sat.cond_t); exact rfl)
      | ((with_reducible apply Sat.cond_f); exact rfl)
      | ((with_reducible apply Sat.cond_pt); exact rfl; (try dsimp only [V.EV.sub, V.EV.len]); first | assumption | omega)
      | ((with_reducible apply Sat.cond_pf); exact rfl; (try dsimp only [V.EV.sub, V.EV.len]); first | assumption | omega)
      | ((with_reducible apply Sat.cond_p); exact rfl; all_goals (intro h; (try simp only [V.EV.sub, V.EV.len] at h)))
      | ((with_reducible apply Sat.cond); exact rfl; all_goals (intro h; (try simp only [V.EV.sub, V.EV.len, Bool.cond_true_left, Bool.cond_false_right, Bool.or_eq_true, Bool.and_eq_true, Bool.or_eq_false_iff, Bool.and_eq_false_iff, Bool.not_eq_true', Bool.not_eq_false', decide_eq_true_eq, decide_eq_false_iff_not, ne_eq] at h))) | fail)
  · (refine Sat.fin (Sat.end1 rfl rfl rfl True.intro (.refl _ pur) (by first | exact .inl rfl | exact .inr rfl) (fun _ h => h)) ?_; (refine congrArg SV.bool ?_; exact decide_eq_false (fun e => by subst e; exact h rfl)))
  have hlm : l.length = m.length := by simp [EV.len] at h; omega
  apply Sat.loop (α := Nat) (fun x => x ≤ l.length ∧ ∀ i, i < x → l.getD i 0 = m.getD i 0) (fun x => l.length - x) 0 (fun x => [(5, .int .i64 (x : Int))]) (fun _ => []) [] [] 0
  · intro x; exact rfl
  · intro x; exact rfl
  · exact rfl
  · exact rfl
  · (repeat' (first | exact AllP.nil | with_reducible refine AllP.cons ?_ ?_)) <;> first | exact rfl | exact trivial
  · exact ⟨Nat.zero_le _, fun i hi => by omega⟩
  · rintro x ⟨x1, x2⟩
    repeat' (first
        | ((with_reducible apply Sat.run (X := X64)); exact rfl; (first | exact True.intro | (exact phi) | skip))
        | ((with_reducible apply Sat.drawn); kernel_rfl)
        | ((with_reducible apply DSat.run (X := X64)); exact rfl; (first | exact True.intro | (exact phi) | skip))
        | ((with_reducible apply DSat.fin); kernel_rfl)
        | ((with_reducible apply Sat.cond_t); exact rfl)
        | ((with_reducible apply Sat.cond_f); exact rfl)
        | ((with_reducible apply Sat.cond_pt); exact rfl; (try dsimp only [V.EV.sub, V.EV.len]); first | assumption | omega)
        | ((with_reducible apply Sat.cond_pf); exact rfl; (try dsimp only [V.EV.sub, V.EV.len]); first | assumption | omega)
        | ((with_reducible apply Sat.cond_p); exact rfl; all_goals (intro h; (try simp only [V.EV.sub, V.EV.len] at h)))
        | ((with_reducible apply Sat.cond); exact rfl; all_goals (intro h; (try simp only [V.EV.sub, V.EV.len, Bool.cond_true_left, Bool.cond_false_right, Bool.or_eq_true, Bool.and_eq_true, Bool.or_eq_false_iff, Bool.and_eq_false_iff, Bool.not_eq_true', Bool.not_eq_false', decide_eq_true_eq, decide_eq_false_iff_not, ne_eq] at h))) | fail)
    · (refine Sat.fin (Sat.end1 rfl rfl rfl True.intro (.refl _ pur) (by first | exact .inl rfl | exact .inr rfl) (fun _ h => h)) ?_; (refine congrArg SV.bool (decide_eq_false fun e => ?_); subst e; exact h rfl))
    · refine Sat.back (x + 1) [] rfl ?_ ?_ ?_
      · (repeat' (first | exact AllP.nil | with_reducible refine AllP.cons ?_ ?_)) <;> first | exact rfl | exact trivial | exact Int.natCast_add_one _
      · refine ⟨by omega, fun i hi => ?_⟩
        rcases Nat.lt_succ_iff_lt_or_eq.1 hi with h1 | rfl
        · exact x2 i h1
        · have e : (i : Int).toNat = i := rfl
          rw [e] at h
          exact UInt8.toNat_inj.1 (by omega)
      · omega
    · (refine Sat.fin (Sat.end1 rfl rfl rfl True.intro (.refl _ pur) (by first | exact .inl rfl | exact .inr rfl) (fun _ h => h)) ?_; (refine congrArg SV.bool (decide_eq_true ?_); exact (list_eq_iff rfl hlm.symm).1 fun j hj => x2 j (by omega)))
theorem ints_ref (l m : List Int) : Fun Tryd.prog [] 78 [.ro (.ints .i64 l), .ro (.ints .i64 m)] (.bool (decide (l = m))) := by
  refine Fun.mkF 6 Tryd.func78 rfl Tryd.ntmps78 rfl rfl fun hf T w0 => ?_
  obtain ⟨⟨hl, _⟩, ⟨hm, _⟩, _⟩ := hf
  dsimp only [EV.len] at hl hm
  unfold okLen at hl hm
  repeat' (first
      | ((with_reducible apply Sat.run (X := X64)); exact rfl; (first | exact True.intro | (exact phi) | skip))
      | ((with_reducible apply Sat.drawn); kernel_rfl)
      | ((with_reducible apply DSat.run (X := X64)); exact rfl; (first | exact True.intro | (exact phi) | skip))
      | ((with_reducible apply DSat.fin); kernel_rfl)
      | ((with_reducible apply Sat.cond_t); exact rfl)
      | ((with_reducible apply Sat.cond_f); exact rfl)
      | ((with_reducible apply Sat.cond_pt); exact rfl; (try dsimp only [V.EV.sub, V.EV.len]); first | assumption | omega)
      | ((with_reducible apply Sat.cond_pf); exact rfl; (try dsimp only [V.EV.sub, V.EV.len]); first | assumption | omega)
      | ((with_reducible apply Sat.cond_p); exact rfl; all_goals (intro h; (try simp only [V.EV.sub, V.EV.len] at h)))
      | ((with_reducible apply Sat.cond); exact rfl; all_goals (intro h; (try simp only [V.EV.sub, V.EV.len, Bool.cond_true_left, Bool.cond_false_right, Bool.or_eq_true, Bool.and_eq_true, Bool.or_eq_false_iff, Bool.and_eq_false_iff, Bool.not_eq_true', Bool.not_eq_false', decide_eq_true_eq, decide_eq_false_iff_not, ne_eq] at h))) | fail)
  · (refine Sat.fin (Sat.end1 rfl rfl rfl True.intro (.refl _ pur) (by first | exact .inl rfl | exact .inr rfl) (fun _ h => h)) ?_; (refine congrArg SV.bool ?_; exact decide_eq_false (fun e => by subst e; exact h rfl)))
  have hlm : l.length = m.length := by simp [EV.len] at h; omega
  apply Sat.loop (α := Nat) (fun x => x ≤ l.length ∧ ∀ i, i < x → l.getD i 0 = m.getD i 0) (fun x => l.length - x) 0 (fun x => [(5, .int .i64 (x : Int))]) (fun _ => []) [] [] 0
  · intro x; exact rfl
  · intro x; exact rfl
  · exact rfl
  · exact rfl
  · (repeat' (first | exact AllP.nil | with_reducible refine AllP.cons ?_ ?_)) <;> first | exact rfl | exact trivial
  · exact ⟨Nat.zero_le _, fun i hi => by omega⟩
  · rintro x ⟨x1, x2⟩
    repeat' (first
        | ((with_reducible apply Sat.run (X := X64)); exact rfl; (first | exact True.intro | (exact phi) | skip))
        | ((with_reducible apply Sat.drawn); kernel_rfl)
        | ((with_reducible apply DSat.run (X := X64)); exact rfl; (first | exact True.intro | (exact phi) | skip))
        | ((with_reducible apply DSat.fin); kernel_rfl)
        | ((with_reducible apply Sat.cond_t); exact rfl)
        | ((with_reducible apply Sat.cond_f); exact rfl)
        | ((with_reducible apply Sat.cond_pt); exact rfl; (try dsimp only [V.EV.sub, V.EV.len]); first | assumption | omega)
        | ((with_reducible apply Sat.cond_pf); exact rfl; (try dsimp only [V.EV.sub, V.EV.len]); first | assumption | omega)
        | ((with_reducible apply Sat.cond_p); exact rfl; all_goals (intro h; (try simp only [V.EV.sub, V.EV.len] at h)))
        | ((with_reducible apply Sat.cond); exact rfl; all_goals (intro h; (try simp only [V.EV.sub, V.EV.len, Bool.cond_true_left, Bool.cond_false_right, Bool.or_eq_true, Bool.and_eq_true, Bool.or_eq_false_iff, Bool.and_eq_false_iff, Bool.not_eq_true', Bool.not_eq_false', decide_eq_true_eq, decide_eq_false_iff_not, ne_eq] at h))) | fail)
    · (refine Sat.fin (Sat.end1 rfl rfl rfl True.intro (.refl _ pur) (by first | exact .inl rfl | exact .inr rfl) (fun _ h => h)) ?_; (refine congrArg SV.bool (decide_eq_false fun e => ?_); subst e; exact h rfl))
    · refine Sat.back (x + 1) [] rfl ?_ ?_ ?_
      · (repeat' (first | exact AllP.nil | with_reducible refine AllP.cons ?_ ?_)) <;> first | exact rfl | exact trivial | exact Int.natCast_add_one _
      · refine ⟨by omega, fun i hi => ?_⟩
        rcases Nat.lt_succ_iff_lt_or_eq.1 hi with h1 | rfl
        · exact x2 i h1
        · have e : (i : Int).toNat = i := rfl
          rw [e] at h
          exact Decidable.not_not.1 h
      · omega
    · (refine Sat.fin (Sat.end1 rfl rfl rfl True.intro (.refl _ pur) (by first | exact .inl rfl | exact .inr rfl) (fun _ h => h)) ?_; (refine congrArg SV.bool (decide_eq_true ?_); exact (list_eq_iff rfl hlm.symm).1 fun j hj => x2 j (by omega)))
def RisP (l : List Int) (low high : Int) (i : Nat) : Prop := inB (l.getD i 0) low high = true ∧ (0 < i → l.getD (i - 1) 0 < l.getD i 0)
instance (l : List Int) (low high : Int) (i : Nat) : Decidable (RisP l low high i) := by unfold RisP; infer_instance
def risB (l : List Int) (low high : Int) : Bool := decide (∀ i, i < l.length → RisP l low high i)
theorem rising_ref (l : List Int) (low high : Int) : Fun Tryd.prog [] 43 [.ro (.ints .i64 l), .int .i64 low, .int .i64 high] (.bool (risB l low high)) := by
  refine Fun.mkF 6 Tryd.func43 rfl Tryd.ntmps43 rfl rfl fun hf T w0 => ?_
  obtain ⟨⟨hl, _⟩, _⟩ := hf
  dsimp only [EV.len] at hl
  unfold okLen at hl
  repeat' (first
      | ((with_reducible apply Sat.run (X := X64)); exact rfl; (first | exact True.intro | (exact phi) | skip))
      | ((with_reducible apply Sat.drawn); kernel_rfl)
      | ((with_reducible apply DSat.run (X := X64)); exact rfl; (first | exact True.intro | (exact phi) | skip))
      | ((with_reducible apply DSat.fin); kernel_rfl)
      | ((with_reducible apply Sat.cond_t); exact rfl)
      | ((with_reducible apply Sat.cond_f); exact rfl)
      | ((with_reducible apply Sat.cond_pt); exact rfl; (try dsimp only [V.EV.sub, V.EV.len]); first | assumption | omega)
      | ((with_reducible apply Sat.cond_pf); exact rfl; (try dsimp only [V.EV.sub, V.EV.len]); first | assumption | omega)
      | ((with_reducible apply Sat.cond_p); exact rfl; all_goals (intro h; (try simp only [V.EV.sub, V.EV.len] at h)))
      | ((with_reducible apply Sat.cond); exact rfl; all_goals (intro h; (try simp only [V.EV.sub, V.EV.len, Bool.cond_true_left, Bool.cond_false_right, Bool.or_eq_true, Bool.and_eq_true, Bool.or_eq_false_iff, Bool.and_eq_false_iff, Bool.not_eq_true', Bool.not_eq_false', decide_eq_true_eq, decide_eq_false_iff_not, ne_eq] at h))) | fail)
  apply Sat.loop (α := Nat) (fun x => x ≤ l.length ∧ ∀ i, i < x → RisP l low high i) (fun x => l.length - x) 0 (fun x => [(7, .int .i64 (x : Int))]) (fun _ => []) [] [] 0
  · intro x; exact rfl
  · intro x; exact rfl
  · exact rfl
  · exact rfl
  · (repeat' (first | exact AllP.nil | with_reducible refine AllP.cons ?_ ?_)) <;> first | exact rfl | exact trivial
  · exact ⟨Nat.zero_le _, fun i hi => by omega⟩
  · rintro x ⟨x1, x2⟩
    have hin := in_ref (l.getD (x : Int).toNat 0) low high
    have key : RisP l low high x ↔ (inB (l.getD (x : Int).toNat 0) low high = true ∧ (¬ 0 < (x : Int) ∨ ¬ l.getD (x : Int).toNat 0 ≤ l.getD ((x : Int) - 1).toNat 0)) := by
      unfold RisP
      rw [show (x : Int).toNat = x from rfl, show ((x : Int) - 1).toNat = x - 1 by omega]
      refine and_congr_right fun _ => ?_
      rcases Nat.eq_zero_or_pos x with h0 | h0
      · subst h0; simp
      · have h1 : (0 : Int) < x := by omega
        simp [h0, h1]
    repeat' (first
        | ((with_reducible apply Sat.run (X := X64)); exact rfl; (first | exact True.intro | (exact phi) | skip))
        | ((with_reducible apply Sat.drawn); kernel_rfl)
        | ((with_reducible apply DSat.run (X := X64)); exact rfl; (first | exact True.intro | (exact phi) | skip))
        | ((with_reducible apply DSat.fin); kernel_rfl)
        | ((with_reducible apply Sat.cond_t); exact rfl)
        | ((with_reducible apply Sat.cond_f); exact rfl)
        | ((with_reducible apply Sat.cond_pt); exact rfl; (try dsimp only [V.EV.sub, V.EV.len]); first | assumption | omega)
        | ((with_reducible apply Sat.cond_pf); exact rfl; (try dsimp only [V.EV.sub, V.EV.len]); first | assumption | omega)
        | ((with_reducible apply Sat.cond_p); exact rfl; all_goals (intro h; (try simp only [V.EV.sub, V.EV.len] at h)))
        | ((with_reducible apply Sat.cond); exact rfl; all_goals (intro h; (try simp only [V.EV.sub, V.EV.len, Bool.cond_true_left, Bool.cond_false_right, Bool.or_eq_true, Bool.and_eq_true, Bool.or_eq_false_iff, Bool.and_eq_false_iff, Bool.not_eq_true', Bool.not_eq_false', decide_eq_true_eq, decide_eq_false_iff_not, ne_eq] at h)))
        | ((with_reducible apply Sat.callR (hin)); exact rfl; exact rfl; exact rfl; kernel_rfl; (exact cnv); exact rfl)
        | ((with_reducible apply DSat.callR (hin)); exact rfl; exact rfl; exact rfl; kernel_rfl; (exact cnv); exact rfl) | fail)
    · (refine Sat.fin (Sat.end1 rfl rfl rfl True.intro (.refl _ pur) (by first | exact .inl rfl | exact .inr rfl) (fun _ h => h)) ?_; (refine congrArg SV.bool (decide_eq_false fun e => ?_); have q := key.1 (e x (by omega)); rcases h with h | h <;> first | (rw [h] at q; exact absurd q.1 (by simp)) | (rcases q.2 with q | q <;> omega)))
    · refine Sat.back (x + 1) [] rfl ?_ ?_ ?_
      · (repeat' (first | exact AllP.nil | with_reducible refine AllP.cons ?_ ?_)) <;> first | exact rfl | exact trivial | exact Int.natCast_add_one _
      · refine ⟨by omega, fun i hi => ?_⟩
        rcases Nat.lt_succ_iff_lt_or_eq.1 hi with h1 | rfl
        · exact x2 i h1
        · exact key.2 h
      · omega
    · (refine Sat.fin (Sat.end1 rfl rfl rfl True.intro (.refl _ pur) (by first | exact .inl rfl | exact .inr rfl) (fun _ h => h)) ?_; (exact congrArg SV.bool (decide_eq_true fun i hi => x2 i (by omega))))
theorem all_iff {α : Type} (l : List α) (p : α → Bool) (z : α) : l.all p = true ↔ ∀ i, i < l.length → p (l.getD i z) = true := by
  rw [List.all_eq_true]
  constructor
  · intro h i hi
    rw [List.getD_eq_getElem?_getD, List.getElem?_eq_getElem hi]
    exact h _ (List.getElem_mem hi)
  · intro h x hx
    obtain ⟨i, hi, rfl⟩ := List.mem_iff_getElem.1 hx
    have := h i hi
    rwa [List.getD_eq_getElem?_getD, List.getElem?_eq_getElem hi] at this
/-- The bytes of a name. -/
def nameC (c : UInt8) : Bool := (decide (97 ≤ c.toNat) && decide (c.toNat ≤ 122)) || (decide (65 ≤ c.toNat) && decide (c.toNat ≤ 90)) || (decide (48 ≤ c.toNat) && decide (c.toNat ≤ 57))
def nameB (s : List UInt8) : Bool := s.all nameC && inB s.length 1 12
theorem name_ref (s : List UInt8) : Fun Tryd.prog [] 44 [.str s] (.bool (nameB s)) := by
  refine Fun.mkF 6 Tryd.func44 rfl Tryd.ntmps44 rfl rfl fun hf T w0 => ?_
  obtain ⟨hl, _⟩ := hf
  unfold factsS okLen at hl
  have hin := in_ref s.length 1 12
  repeat' (first
      | ((with_reducible apply Sat.run (X := X64)); exact rfl; (first | exact True.intro | (exact phi) | skip))
      | ((with_reducible apply Sat.drawn); kernel_rfl)
      | ((with_reducible apply DSat.run (X := X64)); exact rfl; (first | exact True.intro | (exact phi) | skip))
      | ((with_reducible apply DSat.fin); kernel_rfl)
      | ((with_reducible apply Sat.cond_t); exact rfl)
      | ((with_reducible apply Sat.cond_f); exact rfl)
      | ((with_reducible apply Sat.cond_pt); exact rfl; (try dsimp only [V.EV.sub, V.EV.len]); first | assumption | omega)
      | ((with_reducible apply Sat.cond_pf); exact rfl; (try dsimp only [V.EV.sub, V.EV.len]); first | assumption | omega)
      | ((with_reducible apply Sat.cond_p); exact rfl; all_goals (intro h; (try simp only [V.EV.sub, V.EV.len] at h)))
      | ((with_reducible apply Sat.cond); exact rfl; all_goals (intro h; (try simp only [V.EV.sub, V.EV.len, Bool.cond_true_left, Bool.cond_false_right, Bool.or_eq_true, Bool.and_eq_true, Bool.or_eq_false_iff, Bool.and_eq_false_iff, Bool.not_eq_true', Bool.not_eq_false', decide_eq_true_eq, decide_eq_false_iff_not, ne_eq] at h))) | fail)
  apply Sat.loop (α := Nat) (fun x => x ≤ s.length ∧ ∀ i, i < x → nameC (s.getD i 0) = true) (fun x => s.length - x) 0 (fun x => [(3, .int .i64 (x : Int))]) (fun _ => []) [] [] 0
  · intro x; exact rfl
  · intro x; exact rfl
  · exact rfl
  · exact rfl
  · (repeat' (first | exact AllP.nil | with_reducible refine AllP.cons ?_ ?_)) <;> first | exact rfl | exact trivial
  · exact ⟨Nat.zero_le _, fun i hi => by omega⟩
  · rintro x ⟨x1, x2⟩
    have key : nameC (s.getD (x : Int).toNat 0) = true ↔ ((97 ≤ ((s.getD (x : Int).toNat 0).toNat : Int) ∧ ((s.getD (x : Int).toNat 0).toNat : Int) ≤ 122) ∨ (65 ≤ ((s.getD (x : Int).toNat 0).toNat : Int) ∧ ((s.getD (x : Int).toNat 0).toNat : Int) ≤ 90) ∨ (48 ≤ ((s.getD (x : Int).toNat 0).toNat : Int) ∧ ((s.getD (x : Int).toNat 0).toNat : Int) ≤ 57)) := by
      unfold nameC
      simp only [Bool.or_eq_true, Bool.and_eq_true, decide_eq_true_eq]
      omega
    repeat' (first
        | ((with_reducible apply Sat.run (X := X64)); exact rfl; (first | exact True.intro | (exact phi) | skip))
        | ((with_reducible apply Sat.drawn); kernel_rfl)
        | ((with_reducible apply DSat.run (X := X64)); exact rfl; (first | exact True.intro | (exact phi) | skip))
        | ((with_reducible apply DSat.fin); kernel_rfl)
        | ((with_reducible apply Sat.cond_t); exact rfl)
        | ((with_reducible apply Sat.cond_f); exact rfl)
        | ((with_reducible apply Sat.cond_pt); exact rfl; (try dsimp only [V.EV.sub, V.EV.len]); first | assumption | omega)
        | ((with_reducible apply Sat.cond_pf); exact rfl; (try dsimp only [V.EV.sub, V.EV.len]); first | assumption | omega)
        | ((with_reducible apply Sat.cond_p); exact rfl; all_goals (intro h; (try simp only [V.EV.sub, V.EV.len] at h)))
        | ((with_reducible apply Sat.cond); exact rfl; all_goals (intro h; (try simp only [V.EV.sub, V.EV.len, Bool.cond_true_left, Bool.cond_false_right, Bool.or_eq_true, Bool.and_eq_true, Bool.or_eq_false_iff, Bool.and_eq_false_iff, Bool.not_eq_true', Bool.not_eq_false', decide_eq_true_eq, decide_eq_false_iff_not, ne_eq] at h)))
        | ((with_reducible apply Sat.callR (hin)); exact rfl; exact rfl; exact rfl; kernel_rfl; (exact cnv); exact rfl)
        | ((with_reducible apply DSat.callR (hin)); exact rfl; exact rfl; exact rfl; kernel_rfl; (exact cnv); exact rfl) | fail)
    · (refine Sat.fin (Sat.end1 rfl rfl rfl True.intro (.refl _ pur) (by first | exact .inl rfl | exact .inr rfl) (fun _ h => h)) ?_; (refine congrArg SV.bool ?_; unfold nameB; rw [show s.all nameC = false from Bool.eq_false_iff.2 fun e => by have q := key.1 ((all_iff s nameC 0).1 e x (by omega)); omega]; rfl))
    · refine Sat.back (x + 1) [] rfl ?_ ?_ ?_
      · (repeat' (first | exact AllP.nil | with_reducible refine AllP.cons ?_ ?_)) <;> first | exact rfl | exact trivial | exact Int.natCast_add_one _
      · refine ⟨by omega, fun i hi => ?_⟩
        rcases Nat.lt_succ_iff_lt_or_eq.1 hi with h1 | rfl
        · exact x2 i h1
        · exact key.2 (by omega)
      · omega
    · (refine Sat.fin (Sat.end1 rfl rfl rfl True.intro (.refl _ pur) (by first | exact .inl rfl | exact .inr rfl) (fun _ h => h)) ?_; (refine congrArg SV.bool ?_; unfold nameB; rw [(all_iff s nameC 0).2 fun i hi => x2 i (by omega)]; rfl))
end Go.Proofs.YtegbdcadlmefgaaDoor
end
section
namespace Go.Proofs.YtegbdcadlmefgaaDoor
open Go.RowKit V
set_option maxRecDepth 100000
set_option maxHeartbeats 8000000
set_option linter.unusedSimpArgs false
attribute [local irreducible] V.Sat V.DSat
/-- A part: a name and a hash. -/
structure PartL where
  name : List UInt8
  hash : List UInt8
@[reducible] def part0 : PartL := ⟨[], []⟩
@[reducible] def partsE (l : List PartL) : EV := .g l.length 33 fun i => [.str (l.getD i part0).name, .arr 32 (.u8 (l.getD i part0).hash)]
structure Rel where
  version : Int
  floor : Int
  expiry : Int
  size : Int
  image : List UInt8
  chunks : Int
  tree : List UInt8
  gone : List Int
  parts : List PartL
@[reducible] def Rel.v (r : Rel) : SV := .agg [.int .i64 r.version, .int .i64 r.floor, .int .i64 r.expiry, .int .i64 r.size, .arr 32 (.u8 r.image), .int .i64 r.chunks, .arr 32 (.u8 r.tree), .ro (.ints .i64 r.gone), .ro (partsE r.parts)]
def PartP (l : List PartL) (i : Nat) : Prop := nameB (l.getD i part0).name = true ∧ (0 < i → Op.bytesLess (l.getD (i - 1) part0).name (l.getD i part0).name = true)
instance (l : List PartL) (i : Nat) : Decidable (PartP l i) := by unfold PartP; infer_instance
def valid1 (r : Rel) : Bool := inB r.version 1 60000 && (inB r.floor 0 r.version && (inB r.expiry 0 1000000000 && (inB r.size 0 65536 && inB r.chunks 1 256)))
def valid2 (r : Rel) : Bool := decide (r.gone.length ≤ 16) && (risB r.gone 0 60000 && decide (r.parts.length ≤ 8))
def valid3 (r : Rel) : Bool := decide (∀ i, i < r.gone.length → r.gone.getD i 0 ≠ r.version)
def valid4 (r : Rel) : Bool := decide (∀ i, i < r.parts.length → PartP r.parts i)
def validB (r : Rel) : Bool := valid1 r && (valid2 r && (valid3 r && valid4 r))
theorem valid2_f (go : List Int) (pa : List PartL) (h : (decide (16 < (go.length : Int)) = true ∨ risB go 0 60000 = false) ∨ decide (8 < (pa.length : Int)) = true) : (decide (go.length ≤ 16) && (risB go 0 60000 && decide (pa.length ≤ 8))) = false := by
  rcases h with (h | h) | h
  · have := of_decide_eq_true h
    rw [decide_eq_false (by omega)]; rfl
  · rw [h]; simp
  · have := of_decide_eq_true h
    rw [decide_eq_false (p := pa.length ≤ 8) (by omega)]; simp
theorem valid2_t (go : List Int) (pa : List PartL) (h : (decide (16 < (go.length : Int)) = false ∧ risB go 0 60000 = true) ∧ decide (8 < (pa.length : Int)) = false) : (decide (go.length ≤ 16) && (risB go 0 60000 && decide (pa.length ≤ 8))) = true := by
  obtain ⟨⟨h1, h2⟩, h3⟩ := h
  have := of_decide_eq_false h1
  have := of_decide_eq_false h3
  rw [h2, decide_eq_true (p := go.length ≤ 16) (by omega), decide_eq_true (p := pa.length ≤ 8) (by omega)]; rfl
theorem valid_ref (r : Rel) : Fun Tryd.prog [] 13 [r.v] (.bool (validB r)) := by
  obtain ⟨v, fl, ex, sz, im, ch, tr, go, pa⟩ := r
  have i1 := in_ref v 1 60000
  have i2 := in_ref fl 0 v
  have i3 := in_ref ex 0 1000000000
  have i4 := in_ref sz 0 65536
  have i5 := in_ref ch 1 256
  have ri := rising_ref go 0 60000
  refine Fun.mkF 7 Tryd.func13 rfl Tryd.ntmps13 rfl rfl fun hf T w0 => ?_
  repeat' (first
      | ((with_reducible apply Sat.run (X := X64)); exact rfl; (first | exact True.intro | (exact phi) | skip))
      | ((with_reducible apply Sat.drawn); kernel_rfl)
      | ((with_reducible apply DSat.run (X := X64)); exact rfl; (first | exact True.intro | (exact phi) | skip))
      | ((with_reducible apply DSat.fin); kernel_rfl)
      | ((with_reducible apply Sat.cond_t); exact rfl)
      | ((with_reducible apply Sat.cond_f); exact rfl)
      | ((with_reducible apply Sat.cond_pt); exact rfl; (try dsimp only [V.EV.sub, V.EV.len]); first | assumption | omega)
      | ((with_reducible apply Sat.cond_pf); exact rfl; (try dsimp only [V.EV.sub, V.EV.len]); first | assumption | omega)
      | ((with_reducible apply Sat.cond_p); exact rfl; all_goals (intro h; (try simp only [V.EV.sub, V.EV.len] at h)))
      | ((with_reducible apply Sat.cond); exact rfl; all_goals (intro h; (try simp only [V.EV.sub, V.EV.len, Bool.cond_true_left, Bool.cond_false_right, Bool.or_eq_true, Bool.and_eq_true, Bool.or_eq_false_iff, Bool.and_eq_false_iff, Bool.not_eq_true', Bool.not_eq_false', decide_eq_true_eq, decide_eq_false_iff_not, ne_eq] at h)))
      | ((with_reducible apply Sat.callR (i1)); exact rfl; exact rfl; exact rfl; kernel_rfl; (exact cnv); exact rfl)
      | ((with_reducible apply DSat.callR (i1)); exact rfl; exact rfl; exact rfl; kernel_rfl; (exact cnv); exact rfl)
      | ((with_reducible apply Sat.callG1 (i2)); exact rfl; exact rfl; exact rfl; exact rfl; kernel_rfl; (intro hG; (exact cnv)); exact rfl)
      | ((with_reducible apply DSat.callG1 (i2)); exact rfl; exact rfl; exact rfl; exact rfl; kernel_rfl; (intro hG; (exact cnv)); exact rfl)
      | ((with_reducible apply Sat.callG1 (i3)); exact rfl; exact rfl; exact rfl; exact rfl; kernel_rfl; (intro hG; (exact cnv)); exact rfl)
      | ((with_reducible apply DSat.callG1 (i3)); exact rfl; exact rfl; exact rfl; exact rfl; kernel_rfl; (intro hG; (exact cnv)); exact rfl)
      | ((with_reducible apply Sat.callG1 (i4)); exact rfl; exact rfl; exact rfl; exact rfl; kernel_rfl; (intro hG; (exact cnv)); exact rfl)
      | ((with_reducible apply DSat.callG1 (i4)); exact rfl; exact rfl; exact rfl; exact rfl; kernel_rfl; (intro hG; (exact cnv)); exact rfl)
      | ((with_reducible apply Sat.callG1 (i5)); exact rfl; exact rfl; exact rfl; exact rfl; kernel_rfl; (intro hG; (exact cnv)); exact rfl)
      | ((with_reducible apply DSat.callG1 (i5)); exact rfl; exact rfl; exact rfl; exact rfl; kernel_rfl; (intro hG; (exact cnv)); exact rfl)
      | ((with_reducible apply Sat.callG1 (ri)); exact rfl; exact rfl; exact rfl; exact rfl; kernel_rfl; (intro hG; (exact cnv)); exact rfl)
      | ((with_reducible apply DSat.callG1 (ri)); exact rfl; exact rfl; exact rfl; exact rfl; kernel_rfl; (intro hG; (exact cnv)); exact rfl) | fail)
  · (refine Sat.fin (Sat.end1 rfl rfl rfl True.intro (.refl _ pur) (by first | exact .inl rfl | exact .inr rfl) (fun _ h => h)) ?_; (refine congrArg SV.bool ?_; unfold validB valid1; rcases h with (((h | h) | h) | h) | h <;> simp [h]))
  · (refine Sat.fin (Sat.end1 rfl rfl rfl True.intro (.refl _ pur) (by first | exact .inl rfl | exact .inr rfl) (fun _ h => h)) ?_; (refine congrArg SV.bool ?_; unfold validB valid2; rw [valid2_f go pa h]; simp))
  have e2 := valid2_t go pa h
  rename_i h1
  have e1 : valid1 ⟨v, fl, ex, sz, im, ch, tr, go, pa⟩ = true := by
    obtain ⟨⟨⟨⟨q1, q2⟩, q3⟩, q4⟩, q5⟩ := h1
    unfold valid1; simp [q1, q2, q3, q4, q5]
  have e2 : valid2 ⟨v, fl, ex, sz, im, ch, tr, go, pa⟩ = true := e2
  have hg : go.length ≤ 16 := by
    unfold valid2 at e2; simp at e2; omega
  have hp : pa.length ≤ 8 := by
    unfold valid2 at e2; simp at e2; omega
  clear h h1
  apply Sat.loop (α := Nat) (fun x => x ≤ go.length ∧ ∀ i, i < x → go.getD i 0 ≠ v) (fun x => go.length - x) 0 (fun x => [(3, .int .i64 (x : Int))]) (fun _ => []) [] [] 0
  · intro x; exact rfl
  · intro x; exact rfl
  · exact rfl
  · exact rfl
  · (repeat' (first | exact AllP.nil | with_reducible refine AllP.cons ?_ ?_)) <;> first | exact rfl | exact trivial | (intro _ _; simp [pureL, pureS, pureE]; done) | exact ⟨rfl, rfl, rfl, rfl⟩
  · exact ⟨Nat.zero_le _, fun i hi => by omega⟩
  · rintro x ⟨x1, x2⟩
    repeat' (first
        | ((with_reducible apply Sat.run (X := X64)); exact rfl; (first | exact True.intro | (exact phi) | skip))
        | ((with_reducible apply Sat.drawn); kernel_rfl)
        | ((with_reducible apply DSat.run (X := X64)); exact rfl; (first | exact True.intro | (exact phi) | skip))
        | ((with_reducible apply DSat.fin); kernel_rfl)
        | ((with_reducible apply Sat.cond_t); exact rfl)
        | ((with_reducible apply Sat.cond_f); exact rfl)
        | ((with_reducible apply Sat.cond_pt); exact rfl; (try dsimp only [V.EV.sub, V.EV.len]); first | assumption | omega)
        | ((with_reducible apply Sat.cond_pf); exact rfl; (try dsimp only [V.EV.sub, V.EV.len]); first | assumption | omega)
        | ((with_reducible apply Sat.cond_p); exact rfl; all_goals (intro h; (try simp only [V.EV.sub, V.EV.len] at h)))
        | ((with_reducible apply Sat.cond); exact rfl; all_goals (intro h; (try simp only [V.EV.sub, V.EV.len, Bool.cond_true_left, Bool.cond_false_right, Bool.or_eq_true, Bool.and_eq_true, Bool.or_eq_false_iff, Bool.and_eq_false_iff, Bool.not_eq_true', Bool.not_eq_false', decide_eq_true_eq, decide_eq_false_iff_not, ne_eq] at h))) | fail)
    · (refine Sat.fin (Sat.end1 rfl rfl rfl True.intro (.refl _ pur) (by first | exact .inl rfl | exact .inr rfl) (fun _ h => h)) ?_; (refine congrArg SV.bool ?_; unfold validB; rw [show valid3 ⟨v, fl, ex, sz, im, ch, tr, go, pa⟩ = false from decide_eq_false fun e => e x (by show x < go.length; omega) h]; simp))
    · refine Sat.back (x + 1) [] rfl ?_ ?_ ?_
      · (repeat' (first | exact AllP.nil | with_reducible refine AllP.cons ?_ ?_)) <;> first | exact rfl | exact trivial | exact Int.natCast_add_one _ | (intro _ _; simp [pureL, pureS, pureE]; done) | exact ⟨rfl, rfl, rfl, rfl⟩
      · refine ⟨by omega, fun i hi => ?_⟩
        rcases Nat.lt_succ_iff_lt_or_eq.1 hi with h1 | rfl
        · exact x2 i h1
        · exact h
      · omega
    have e3 : valid3 ⟨v, fl, ex, sz, im, ch, tr, go, pa⟩ = true := decide_eq_true fun i hi => x2 i (by dsimp only at hi; omega)
    apply Sat.loop (α := Nat) (fun x => x ≤ pa.length ∧ ∀ i, i < x → PartP pa i) (fun x => pa.length - x) 0 (fun x => [(4, .int .i64 (x : Int))]) (fun _ => []) [] [] 0
    · intro x; exact rfl
    · intro x; exact rfl
    · exact rfl
    · exact rfl
    · (repeat' (first | exact AllP.nil | with_reducible refine AllP.cons ?_ ?_)) <;> first | exact rfl | exact trivial | (intro _ _; simp [pureL, pureS, pureE]; done) | exact ⟨rfl, rfl, rfl, rfl⟩
    · exact ⟨Nat.zero_le _, fun i hi => by omega⟩
    · rintro y ⟨y1, y2⟩
      have hn := name_ref (pa.getD (y : Int).toNat part0).name
      have key : PartP pa y ↔ (nameB (pa.getD (y : Int).toNat part0).name = true ∧ (¬ 0 < (y : Int) ∨ Op.bytesLess (pa.getD ((y : Int) - 1).toNat part0).name (pa.getD (y : Int).toNat part0).name = true)) := by
        unfold PartP
        rw [show (y : Int).toNat = y from rfl, show ((y : Int) - 1).toNat = y - 1 by omega]
        refine and_congr_right fun _ => ?_
        rcases Nat.eq_zero_or_pos y with h0 | h0
        · subst h0; simp
        · have h1 : (0 : Int) < y := by omega
          simp [h0, h1]
      repeat' (first
          | ((with_reducible apply Sat.run (X := X64)); exact rfl; (first | exact True.intro | (exact phi) | skip))
          | ((with_reducible apply Sat.drawn); kernel_rfl)
          | ((with_reducible apply DSat.run (X := X64)); exact rfl; (first | exact True.intro | (exact phi) | skip))
          | ((with_reducible apply DSat.fin); kernel_rfl)
          | ((with_reducible apply Sat.cond_t); exact rfl)
          | ((with_reducible apply Sat.cond_f); exact rfl)
          | ((with_reducible apply Sat.cond_pt); exact rfl; (try dsimp only [V.EV.sub, V.EV.len]); first | assumption | omega)
          | ((with_reducible apply Sat.cond_pf); exact rfl; (try dsimp only [V.EV.sub, V.EV.len]); first | assumption | omega)
          | ((with_reducible apply Sat.cond_p); exact rfl; all_goals (intro h; (try simp only [V.EV.sub, V.EV.len] at h)))
          | ((with_reducible apply Sat.cond); exact rfl; all_goals (intro h; (try simp only [V.EV.sub, V.EV.len, Bool.cond_true_left, Bool.cond_false_right, Bool.or_eq_true, Bool.and_eq_true, Bool.or_eq_false_iff, Bool.and_eq_false_iff, Bool.not_eq_true', Bool.not_eq_false', decide_eq_true_eq, decide_eq_false_iff_not, ne_eq] at h)))
          | ((with_reducible apply Sat.callR (hn)); exact rfl; exact rfl; exact rfl; kernel_rfl; (exact cnv); exact rfl)
          | ((with_reducible apply DSat.callR (hn)); exact rfl; exact rfl; exact rfl; kernel_rfl; (exact cnv); exact rfl) | fail)
      · (refine Sat.fin (Sat.end1 rfl rfl rfl True.intro (.refl _ pur) (by first | exact .inl rfl | exact .inr rfl) (fun _ h => h)) ?_; (refine congrArg SV.bool ?_; unfold validB; rw [show valid4 ⟨v, fl, ex, sz, im, ch, tr, go, pa⟩ = false from decide_eq_false fun e => by have q := key.1 (e y (by show y < pa.length; omega)); rcases h with h | h <;> simp_all]; simp))
      · refine Sat.back (y + 1) [] rfl ?_ ?_ ?_
        · (repeat' (first | exact AllP.nil | with_reducible refine AllP.cons ?_ ?_)) <;> first | exact rfl | exact trivial | exact Int.natCast_add_one _ | (intro _ _; simp [pureL, pureS, pureE]; done) | exact ⟨rfl, rfl, rfl, rfl⟩
        · refine ⟨by omega, fun i hi => ?_⟩
          rcases Nat.lt_succ_iff_lt_or_eq.1 hi with h1 | rfl
          · exact y2 i h1
          · exact key.2 h
        · omega
      · (refine Sat.fin (Sat.end1 rfl rfl rfl True.intro (.refl _ pur) (by first | exact .inl rfl | exact .inr rfl) (fun _ h => h)) ?_; (refine congrArg SV.bool ?_; unfold validB; rw [e1, e2, e3, show valid4 ⟨v, fl, ex, sz, im, ch, tr, go, pa⟩ = true from decide_eq_true fun i hi => y2 i (by dsimp only at hi; omega)]; rfl))
end Go.Proofs.YtegbdcadlmefgaaDoor
end
section
namespace Go.Proofs.YtegbdcadlmefgaaDoor
open Go.RowKit V
set_option maxRecDepth 100000
set_option maxHeartbeats 8000000
set_option linter.unusedSimpArgs false
attribute [local irreducible] V.Sat V.DSat
/-- Where the first element of a kind stands, or -1. -/
def idxL {α : Type} (p : α → Bool) : List α → Nat → Int
  | [], _ => -1
  | a :: r, k => match p a with
    | true => (k : Int)
    | false => idxL p r (k + 1)
theorem idxL_at {α : Type} (p : α → Bool) (z : α) : ∀ (l : List α) (k x : Nat), (∀ i, i < x → p (l.getD i z) = false) → x < l.length → p (l.getD x z) = true → idxL p l k = ((k + x : Nat) : Int)
  | [], _, _, _, h, _ => by simp at h
  | a :: r, k, 0, _, _, h => by
    have : p a = true := h
    simp [idxL, this]
  | a :: r, k, x + 1, h1, h2, h3 => by
    have h0 : p a = false := h1 0 (by omega)
    simp only [idxL, h0]
    rw [idxL_at p z r (k + 1) x (fun i hi => by simpa using h1 (i + 1) (by omega)) (by simpa using h2) (by simpa using h3)]
    omega
theorem idxL_none {α : Type} (p : α → Bool) (z : α) : ∀ (l : List α) (k : Nat), (∀ i, i < l.length → p (l.getD i z) = false) → idxL p l k = -1
  | [], _, _ => rfl
  | a :: r, k, h => by
    have h0 : p a = false := h 0 (by simp)
    rw [idxL, h0]
    exact idxL_none p z r (k + 1) fun i hi => by simpa using h (i + 1) (by simpa using hi)
theorem idxL_any {α : Type} (p : α → Bool) : ∀ (l : List α) (k : Nat), decide (0 ≤ idxL p l k) = l.any p
  | [], _ => rfl
  | a :: r, k => by
    rw [idxL, List.any_cons]
    cases h : p a with
    | true => simp
    | false => simpa using idxL_any p r (k + 1)
theorem smallc_spec (n : Int) : Fun Tryd.prog [] 83 [.int .i64 n] (.bool (!inB n 0 1000000000)) := by
  have hi := in_spec n 0 1000000000
  refine Fun.mk 6 Tryd.func83 rfl Tryd.ntmps83 rfl rfl fun T w0 => ?_
  repeat' (first
      | ((with_reducible apply Sat.run (X := X64)); exact rfl; (first | exact True.intro | (exact phi) | skip))
      | ((with_reducible apply Sat.drawn); kernel_rfl)
      | ((with_reducible apply DSat.run (X := X64)); exact rfl; (first | exact True.intro | (exact phi) | skip))
      | ((with_reducible apply DSat.fin); kernel_rfl)
      | ((with_reducible apply Sat.cond_t); exact rfl)
      | ((with_reducible apply Sat.cond_f); exact rfl)
      | ((with_reducible apply Sat.cond_pt); exact rfl; (try dsimp only [V.EV.sub, V.EV.len]); first | assumption | omega)
      | ((with_reducible apply Sat.cond_pf); exact rfl; (try dsimp only [V.EV.sub, V.EV.len]); first | assumption | omega)
      | ((with_reducible apply Sat.cond_p); exact rfl; all_goals (intro h; (try simp only [V.EV.sub, V.EV.len] at h)))
      | ((with_reducible apply Sat.cond); exact rfl; all_goals (intro h; (try simp only [V.EV.sub, V.EV.len, Bool.cond_true_left, Bool.cond_false_right, Bool.or_eq_true, Bool.and_eq_true, Bool.or_eq_false_iff, Bool.and_eq_false_iff, Bool.not_eq_true', Bool.not_eq_false', decide_eq_true_eq, decide_eq_false_iff_not, ne_eq] at h)))
      | ((with_reducible apply Sat.callR (hi)); exact rfl; exact rfl; exact rfl; kernel_rfl; (exact cnv); exact rfl)
      | ((with_reducible apply DSat.callR (hi)); exact rfl; exact rfl; exact rfl; kernel_rfl; (exact cnv); exact rfl) | fail)
  (refine Sat.fin (Sat.end1 rfl rfl rfl True.intro (.refl _ pur) (by first | exact .inl rfl | exact .inr rfl) (fun _ h => h)) ?_; rfl)
theorem indexFunc_int (p : Int → Bool) (f : FuncId) (hcl : callable Tryd.prog f = true) (hp : ∀ n, Fun Tryd.prog [] f [.int .i64 n] (.bool (p n))) (l : List Int) : Fun Tryd.prog [] 96 [.ro (.ints .i64 l), .fn f []] (.int .i64 (idxL p l 0)) := by
  refine Fun.mkF 6 Tryd.func96 rfl Tryd.ntmps96 rfl rfl fun hf T w0 => ?_
  obtain ⟨⟨hl, _⟩, _⟩ := hf
  dsimp only [EV.len] at hl
  unfold okLen at hl
  repeat' (first
      | ((with_reducible apply Sat.run (X := X64)); exact rfl; (first | exact True.intro | (exact phi) | skip))
      | ((with_reducible apply Sat.drawn); kernel_rfl)
      | ((with_reducible apply DSat.run (X := X64)); exact rfl; (first | exact True.intro | (exact phi) | skip))
      | ((with_reducible apply DSat.fin); kernel_rfl)
      | ((with_reducible apply Sat.cond_t); exact rfl)
      | ((with_reducible apply Sat.cond_f); exact rfl)
      | ((with_reducible apply Sat.cond_pt); exact rfl; (try dsimp only [V.EV.sub, V.EV.len]); first | assumption | omega)
      | ((with_reducible apply Sat.cond_pf); exact rfl; (try dsimp only [V.EV.sub, V.EV.len]); first | assumption | omega)
      | ((with_reducible apply Sat.cond_p); exact rfl; all_goals (intro h; (try simp only [V.EV.sub, V.EV.len] at h)))
      | ((with_reducible apply Sat.cond); exact rfl; all_goals (intro h; (try simp only [V.EV.sub, V.EV.len, Bool.cond_true_left, Bool.cond_false_right, Bool.or_eq_true, Bool.and_eq_true, Bool.or_eq_false_iff, Bool.and_eq_false_iff, Bool.not_eq_true', Bool.not_eq_false', decide_eq_true_eq, decide_eq_false_iff_not, ne_eq] at h))) | fail)
  apply Sat.loop (α := Nat) (fun x => x ≤ l.length ∧ ∀ i, i < x → p (l.getD i 0) = false) (fun x => l.length - x) 0 (fun x => [(8, .int .i64 (x : Int))]) (fun _ => []) [] [] 0
  · intro x; exact rfl
  · intro x; exact rfl
  · exact rfl
  · exact rfl
  · (repeat' (first | exact AllP.nil | with_reducible refine AllP.cons ?_ ?_)) <;> first | exact rfl | exact trivial
  · exact ⟨Nat.zero_le _, fun i hi => by omega⟩
  · rintro x ⟨x1, x2⟩
    have hc := hp (l.getD (x : Int).toNat 0)
    repeat' (first
        | ((with_reducible apply Sat.run (X := X64)); exact rfl; (first | exact True.intro | (exact phi) | skip))
        | ((with_reducible apply Sat.drawn); kernel_rfl)
        | ((with_reducible apply DSat.run (X := X64)); exact rfl; (first | exact True.intro | (exact phi) | skip))
        | ((with_reducible apply DSat.fin); kernel_rfl)
        | ((with_reducible apply Sat.cond_t); exact rfl)
        | ((with_reducible apply Sat.cond_f); exact rfl)
        | ((with_reducible apply Sat.cond_pt); exact rfl; (try dsimp only [V.EV.sub, V.EV.len]); first | assumption | omega)
        | ((with_reducible apply Sat.cond_pf); exact rfl; (try dsimp only [V.EV.sub, V.EV.len]); first | assumption | omega)
        | ((with_reducible apply Sat.cond_p); exact rfl; all_goals (intro h; (try simp only [V.EV.sub, V.EV.len] at h)))
        | ((with_reducible apply Sat.cond); exact rfl; all_goals (intro h; (try simp only [V.EV.sub, V.EV.len, Bool.cond_true_left, Bool.cond_false_right, Bool.or_eq_true, Bool.and_eq_true, Bool.or_eq_false_iff, Bool.and_eq_false_iff, Bool.not_eq_true', Bool.not_eq_false', decide_eq_true_eq, decide_eq_false_iff_not, ne_eq] at h)))
        | ((with_reducible apply Sat.callR (hc)); exact rfl; exact rfl; exact rfl; exact hcl; (exact cnv); exact rfl)
        | ((with_reducible apply DSat.callR (hc)); exact rfl; exact rfl; exact rfl; exact hcl; (exact cnv); exact rfl) | fail)
    · (refine Sat.fin (Sat.end1 rfl rfl rfl True.intro (.refl _ pur) (by first | exact .inl rfl | exact .inr rfl) (fun _ h => h)) ?_; (exact congrArg (SV.int .i64) ((idxL_at p 0 l 0 x x2 (by omega) h).trans (by simp))))
    · refine Sat.back (x + 1) [] rfl ?_ ?_ ?_
      · (repeat' (first | exact AllP.nil | with_reducible refine AllP.cons ?_ ?_)) <;> first | exact rfl | exact trivial | exact Int.natCast_add_one _
      · refine ⟨by omega, fun i hi => ?_⟩
        rcases Nat.lt_succ_iff_lt_or_eq.1 hi with h1 | rfl
        · exact x2 i h1
        · exact h
      · omega
    · (refine Sat.fin (Sat.end1 rfl rfl rfl True.intro (.refl _ pur) (by first | exact .inl rfl | exact .inr rfl) (fun _ h => h)) ?_; (exact congrArg (SV.int .i64) (idxL_none p 0 l 0 fun i hi => x2 i (by omega))))
theorem containsFunc_int (p : Int → Bool) (f : FuncId) (hcl : callable Tryd.prog f = true) (hp : ∀ n, Fun Tryd.prog [] f [.int .i64 n] (.bool (p n))) (l : List Int) : Fun Tryd.prog [] 82 [.ro (.ints .i64 l), .fn f []] (.bool (l.any p)) := by
  have hi := indexFunc_int p f hcl hp l
  refine Fun.mk 6 Tryd.func82 rfl Tryd.ntmps82 rfl rfl fun T w0 => ?_
  repeat' (first
      | ((with_reducible apply Sat.run (X := X64)); exact rfl; (first | exact True.intro | (exact phi) | skip))
      | ((with_reducible apply Sat.drawn); kernel_rfl)
      | ((with_reducible apply DSat.run (X := X64)); exact rfl; (first | exact True.intro | (exact phi) | skip))
      | ((with_reducible apply DSat.fin); kernel_rfl)
      | ((with_reducible apply Sat.cond_t); exact rfl)
      | ((with_reducible apply Sat.cond_f); exact rfl)
      | ((with_reducible apply Sat.cond_pt); exact rfl; (try dsimp only [V.EV.sub, V.EV.len]); first | assumption | omega)
      | ((with_reducible apply Sat.cond_pf); exact rfl; (try dsimp only [V.EV.sub, V.EV.len]); first | assumption | omega)
      | ((with_reducible apply Sat.cond_p); exact rfl; all_goals (intro h; (try simp only [V.EV.sub, V.EV.len] at h)))
      | ((with_reducible apply Sat.cond); exact rfl; all_goals (intro h; (try simp only [V.EV.sub, V.EV.len, Bool.cond_true_left, Bool.cond_false_right, Bool.or_eq_true, Bool.and_eq_true, Bool.or_eq_false_iff, Bool.and_eq_false_iff, Bool.not_eq_true', Bool.not_eq_false', decide_eq_true_eq, decide_eq_false_iff_not, ne_eq] at h)))
      | ((with_reducible apply Sat.callR (hi)); exact rfl; exact rfl; exact rfl; kernel_rfl; (exact cnv); exact rfl)
      | ((with_reducible apply DSat.callR (hi)); exact rfl; exact rfl; exact rfl; kernel_rfl; (exact cnv); exact rfl) | fail)
  (refine Sat.fin (Sat.end1 rfl rfl rfl True.intro (.refl _ pur) (by first | exact .inl rfl | exact .inr rfl) (fun _ h => h)) ?_; (exact congrArg SV.bool (idxL_any p l 0).symm))
theorem small_spec (l : List Int) : Fun Tryd.prog [] 33 [.ro (.ints .i64 l)] (.bool (!l.any fun n => !inB n 0 1000000000)) := by
  have hi := containsFunc_int (fun n => !inB n 0 1000000000) 83 (by kernel_rfl) smallc_spec l
  refine Fun.mk 6 Tryd.func33 rfl Tryd.ntmps33 rfl rfl fun T w0 => ?_
  repeat' (first
      | ((with_reducible apply Sat.run (X := X64)); exact rfl; (first | exact True.intro | (exact phi) | skip))
      | ((with_reducible apply Sat.drawn); kernel_rfl)
      | ((with_reducible apply DSat.run (X := X64)); exact rfl; (first | exact True.intro | (exact phi) | skip))
      | ((with_reducible apply DSat.fin); kernel_rfl)
      | ((with_reducible apply Sat.cond_t); exact rfl)
      | ((with_reducible apply Sat.cond_f); exact rfl)
      | ((with_reducible apply Sat.cond_pt); exact rfl; (try dsimp only [V.EV.sub, V.EV.len]); first | assumption | omega)
      | ((with_reducible apply Sat.cond_pf); exact rfl; (try dsimp only [V.EV.sub, V.EV.len]); first | assumption | omega)
      | ((with_reducible apply Sat.cond_p); exact rfl; all_goals (intro h; (try simp only [V.EV.sub, V.EV.len] at h)))
      | ((with_reducible apply Sat.cond); exact rfl; all_goals (intro h; (try simp only [V.EV.sub, V.EV.len, Bool.cond_true_left, Bool.cond_false_right, Bool.or_eq_true, Bool.and_eq_true, Bool.or_eq_false_iff, Bool.and_eq_false_iff, Bool.not_eq_true', Bool.not_eq_false', decide_eq_true_eq, decide_eq_false_iff_not, ne_eq] at h)))
      | ((with_reducible apply Sat.callR (hi)); exact rfl; exact rfl; exact rfl; kernel_rfl; (exact cnv); exact rfl)
      | ((with_reducible apply DSat.callR (hi)); exact rfl; exact rfl; exact rfl; kernel_rfl; (exact cnv); exact rfl) | fail)
  (refine Sat.fin (Sat.end1 rfl rfl rfl True.intro (.refl _ pur) (by first | exact .inl rfl | exact .inr rfl) (fun _ h => h)) ?_; rfl)
end Go.Proofs.YtegbdcadlmefgaaDoor
end
section
namespace Go.Proofs.YtegbdcadlmefgaaDoor
open Go.RowKit V
set_option maxRecDepth 100000
set_option maxHeartbeats 8000000
set_option linter.unusedSimpArgs false
attribute [local irreducible] V.Sat V.DSat
@[reducible] def XF : IntKind → Bool := fun _ => false
@[reducible] def subW (a b : Int) : Int := IntKind.i64.wrap (a - b)
theorem withinc_spec (a b : Int) : Fun Tryd.prog [] 85 [.int .i64 a, .int .i64 b] (.int .i64 (subW a b)) := by
  refine Fun.mk 6 Tryd.func85 rfl Tryd.ntmps85 rfl rfl fun T w0 => ?_
  repeat' (first
      | ((with_reducible apply Sat.run (X := XF)); exact rfl; (first | exact True.intro | (exact phi) | skip))
      | ((with_reducible apply Sat.drawn); kernel_rfl)
      | ((with_reducible apply DSat.run (X := XF)); exact rfl; (first | exact True.intro | (exact phi) | skip))
      | ((with_reducible apply DSat.fin); kernel_rfl)
      | ((with_reducible apply Sat.cond_t); exact rfl)
      | ((with_reducible apply Sat.cond_f); exact rfl)
      | ((with_reducible apply Sat.cond_pt); exact rfl; (try dsimp only [V.EV.sub, V.EV.len]); first | assumption | omega)
      | ((with_reducible apply Sat.cond_pf); exact rfl; (try dsimp only [V.EV.sub, V.EV.len]); first | assumption | omega)
      | ((with_reducible apply Sat.cond_p); exact rfl; all_goals (intro h; (try simp only [V.EV.sub, V.EV.len] at h)))
      | ((with_reducible apply Sat.cond); exact rfl; all_goals (intro h; (try simp only [V.EV.sub, V.EV.len, Bool.cond_true_left, Bool.cond_false_right, Bool.or_eq_true, Bool.and_eq_true, Bool.or_eq_false_iff, Bool.and_eq_false_iff, Bool.not_eq_true', Bool.not_eq_false', decide_eq_true_eq, decide_eq_false_iff_not, ne_eq] at h))) | fail)
  (refine Sat.fin (Sat.end1 rfl rfl rfl True.intro (.refl _ pur) (by first | exact .inl rfl | exact .inr rfl) (fun _ h => h)) ?_; rfl)
/-- Do neighbours compare as less? -/
def risC (c : Int → Int → Int) (l : List Int) : Bool := decide (∀ i, i < l.length → 0 < i → c (l.getD (i - 1) 0) (l.getD i 0) < 0)
theorem rising_int (c : Int → Int → Int) (f : FuncId) (hcl : callable Tryd.prog f = true) (hp : ∀ a b, Fun Tryd.prog [] f [.int .i64 a, .int .i64 b] (.int .i64 (c a b))) (l : List Int) : Fun Tryd.prog [] 84 [.ro (.ints .i64 l), .fn f []] (.bool (risC c l)) := by
  refine Fun.mkF 6 Tryd.func84 rfl Tryd.ntmps84 rfl rfl fun hf T w0 => ?_
  obtain ⟨⟨hl, _⟩, _⟩ := hf
  dsimp only [EV.len] at hl
  unfold okLen at hl
  repeat' (first
      | ((with_reducible apply Sat.run (X := X64)); exact rfl; (first | exact True.intro | (exact phi) | skip))
      | ((with_reducible apply Sat.drawn); kernel_rfl)
      | ((with_reducible apply DSat.run (X := X64)); exact rfl; (first | exact True.intro | (exact phi) | skip))
      | ((with_reducible apply DSat.fin); kernel_rfl)
      | ((with_reducible apply Sat.cond_t); exact rfl)
      | ((with_reducible apply Sat.cond_f); exact rfl)
      | ((with_reducible apply Sat.cond_pt); exact rfl; (try dsimp only [V.EV.sub, V.EV.len]); first | assumption | omega)
      | ((with_reducible apply Sat.cond_pf); exact rfl; (try dsimp only [V.EV.sub, V.EV.len]); first | assumption | omega)
      | ((with_reducible apply Sat.cond_p); exact rfl; all_goals (intro h; (try simp only [V.EV.sub, V.EV.len] at h)))
      | ((with_reducible apply Sat.cond); exact rfl; all_goals (intro h; (try simp only [V.EV.sub, V.EV.len, Bool.cond_true_left, Bool.cond_false_right, Bool.or_eq_true, Bool.and_eq_true, Bool.or_eq_false_iff, Bool.and_eq_false_iff, Bool.not_eq_true', Bool.not_eq_false', decide_eq_true_eq, decide_eq_false_iff_not, ne_eq] at h))) | fail)
  apply Sat.loop (α := Nat) (fun x => (1 ≤ x ∧ (x ≤ l.length ∨ x = 1)) ∧ ∀ i, i < x → 0 < i → c (l.getD (i - 1) 0) (l.getD i 0) < 0) (fun x => l.length + 1 - x) 1 (fun x => [(5, .int .i64 (x : Int))]) (fun _ => []) [] [] 0
  · intro x; exact rfl
  · intro x; exact rfl
  · exact rfl
  · exact rfl
  · (repeat' (first | exact AllP.nil | with_reducible refine AllP.cons ?_ ?_)) <;> first | exact rfl | exact trivial
  · exact ⟨⟨Nat.le_refl _, .inr rfl⟩, fun i hi h0 => by omega⟩
  · rintro x ⟨⟨x0, x1⟩, x2⟩
    have hc := hp (l.getD ((x : Int) - 1).toNat 0) (l.getD (x : Int).toNat 0)
    have e1 : ((x : Int) - 1).toNat = x - 1 := by omega
    have e2 : (x : Int).toNat = x := rfl
    repeat' (first
        | ((with_reducible apply Sat.run (X := X64)); exact rfl; (first | exact True.intro | (exact phi) | skip))
        | ((with_reducible apply Sat.drawn); kernel_rfl)
        | ((with_reducible apply DSat.run (X := X64)); exact rfl; (first | exact True.intro | (exact phi) | skip))
        | ((with_reducible apply DSat.fin); kernel_rfl)
        | ((with_reducible apply Sat.cond_t); exact rfl)
        | ((with_reducible apply Sat.cond_f); exact rfl)
        | ((with_reducible apply Sat.cond_pt); exact rfl; (try dsimp only [V.EV.sub, V.EV.len]); first | assumption | omega)
        | ((with_reducible apply Sat.cond_pf); exact rfl; (try dsimp only [V.EV.sub, V.EV.len]); first | assumption | omega)
        | ((with_reducible apply Sat.cond_p); exact rfl; all_goals (intro h; (try simp only [V.EV.sub, V.EV.len] at h)))
        | ((with_reducible apply Sat.cond); exact rfl; all_goals (intro h; (try simp only [V.EV.sub, V.EV.len, Bool.cond_true_left, Bool.cond_false_right, Bool.or_eq_true, Bool.and_eq_true, Bool.or_eq_false_iff, Bool.and_eq_false_iff, Bool.not_eq_true', Bool.not_eq_false', decide_eq_true_eq, decide_eq_false_iff_not, ne_eq] at h)))
        | ((with_reducible apply Sat.callR (hc)); exact rfl; exact rfl; exact rfl; exact hcl; (exact cnv); exact rfl)
        | ((with_reducible apply DSat.callR (hc)); exact rfl; exact rfl; exact rfl; exact hcl; (exact cnv); exact rfl) | fail)
    · (refine Sat.fin (Sat.end1 rfl rfl rfl True.intro (.refl _ pur) (by first | exact .inl rfl | exact .inr rfl) (fun _ h => h)) ?_; (rw [e1, e2] at h; exact congrArg SV.bool (decide_eq_false fun e => by have := e x (by omega) (by omega); omega)))
    · refine Sat.back (x + 1) [] rfl ?_ ?_ ?_
      · (repeat' (first | exact AllP.nil | with_reducible refine AllP.cons ?_ ?_)) <;> first | exact rfl | exact trivial | exact Int.natCast_add_one _
      · refine ⟨by omega, fun i hi h0 => ?_⟩
        rcases Nat.lt_succ_iff_lt_or_eq.1 hi with h1 | rfl
        · exact x2 i h1 h0
        · rw [e1, e2] at h; omega
      · omega
    · (refine Sat.fin (Sat.end1 rfl rfl rfl True.intro (.refl _ pur) (by first | exact .inl rfl | exact .inr rfl) (fun _ h => h)) ?_; (exact congrArg SV.bool (decide_eq_true fun i hi h0 => x2 i (by omega) h0)))
def withinB (l : List Int) (low high : Int) : Bool := risC subW l && (decide (l.length = 0) || (decide (low ≤ l.getD 0 0) && decide (l.getD (l.length - 1) 0 ≤ high)))
theorem within_spec (l : List Int) (low high : Int) : Fun Tryd.prog [] 34 [.ro (.ints .i64 l), .int .i64 low, .int .i64 high] (.bool (withinB l low high)) := by
  have hr := rising_int subW 85 (by kernel_rfl) withinc_spec l
  unfold withinB
  cases hR : risC subW l <;> rw [hR] at hr
  all_goals
    refine Fun.mkF 6 Tryd.func34 rfl Tryd.ntmps34 rfl rfl fun hf T w0 => ?_
    obtain ⟨⟨hl, _⟩, _⟩ := hf
    dsimp only [EV.len] at hl
    unfold okLen at hl
    repeat' (first
        | ((with_reducible apply Sat.run (X := X64)); exact rfl; (first | exact True.intro | (exact phi) | skip))
        | ((with_reducible apply Sat.drawn); kernel_rfl)
        | ((with_reducible apply DSat.run (X := X64)); exact rfl; (first | exact True.intro | (exact phi) | skip))
        | ((with_reducible apply DSat.fin); kernel_rfl)
        | ((with_reducible apply Sat.cond_t); exact rfl)
        | ((with_reducible apply Sat.cond_f); exact rfl)
        | ((with_reducible apply Sat.cond_pt); exact rfl; (try dsimp only [V.EV.sub, V.EV.len]); first | assumption | omega)
        | ((with_reducible apply Sat.cond_pf); exact rfl; (try dsimp only [V.EV.sub, V.EV.len]); first | assumption | omega)
        | ((with_reducible apply Sat.cond_p); exact rfl; all_goals (intro h; (try simp only [V.EV.sub, V.EV.len] at h)))
        | ((with_reducible apply Sat.cond); exact rfl; all_goals (intro h; (try simp only [V.EV.sub, V.EV.len, Bool.cond_true_left, Bool.cond_false_right, Bool.or_eq_true, Bool.and_eq_true, Bool.or_eq_false_iff, Bool.and_eq_false_iff, Bool.not_eq_true', Bool.not_eq_false', decide_eq_true_eq, decide_eq_false_iff_not, ne_eq] at h)))
        | ((with_reducible apply Sat.callR (hr)); exact rfl; exact rfl; exact rfl; kernel_rfl; (exact cnv); exact rfl)
        | ((with_reducible apply DSat.callR (hr)); exact rfl; exact rfl; exact rfl; kernel_rfl; (exact cnv); exact rfl)
        | ((with_reducible apply Sat.gon); exact rfl; first | exact rfl | (decide +kernel))
        | ((with_reducible apply Sat.gfork); exact rfl; exact rfl; all_goals intro h) | fail)
  · (refine Sat.fin (Sat.end1 rfl rfl rfl True.intro (.refl _ pur) (by first | exact .inl rfl | exact .inr rfl) (fun _ h => h)) ?_; rfl)
  · dsimp only [V.EV.len]
    by_cases h0 : l.length = 0
    · (repeat' (first | exact AllP.nil | with_reducible refine AllP.cons ?_ ?_)) <;> (simp [h0])
    · have q1 : inR .i64 ((l.length : Int) - 1) := inR_i64 (by omega) (by omega)
      have q2 : (0 : Int) < l.length := by omega
      (repeat' (first | exact AllP.nil | with_reducible refine AllP.cons ?_ ?_)) <;> first | (simp [h0]; done) | (intros; exact q1) | (intros; omega) | (intros; exact ⟨by omega, by omega⟩)
  · (refine Sat.fin (Sat.end1 rfl rfl rfl True.intro (.refl _ pur) (by first | exact .inl rfl | exact .inr rfl) (fun _ h => h)) ?_; (refine congrArg SV.bool ?_; (have e : ((l.length : Int) - 1).toNat = l.length - 1 := by omega); by_cases h0 : l.length = 0 <;> simp [h0, e, V.EV.len]))
theorem index_int (x : Int) (l : List Int) : Fun Tryd.prog [] 86 [.ro (.ints .i64 l), .int .i64 x] (.int .i64 (idxL (fun y => decide (x = y)) l 0)) := by
  refine Fun.mkF 6 Tryd.func86 rfl Tryd.ntmps86 rfl rfl fun hf T w0 => ?_
  obtain ⟨⟨hl, _⟩, _⟩ := hf
  dsimp only [EV.len] at hl
  unfold okLen at hl
  repeat' (first
      | ((with_reducible apply Sat.run (X := X64)); exact rfl; (first | exact True.intro | (exact phi) | skip))
      | ((with_reducible apply Sat.drawn); kernel_rfl)
      | ((with_reducible apply DSat.run (X := X64)); exact rfl; (first | exact True.intro | (exact phi) | skip))
      | ((with_reducible apply DSat.fin); kernel_rfl)
      | ((with_reducible apply Sat.cond_t); exact rfl)
      | ((with_reducible apply Sat.cond_f); exact rfl)
      | ((with_reducible apply Sat.cond_pt); exact rfl; (try dsimp only [V.EV.sub, V.EV.len]); first | assumption | omega)
      | ((with_reducible apply Sat.cond_pf); exact rfl; (try dsimp only [V.EV.sub, V.EV.len]); first | assumption | omega)
      | ((with_reducible apply Sat.cond_p); exact rfl; all_goals (intro h; (try simp only [V.EV.sub, V.EV.len] at h)))
      | ((with_reducible apply Sat.cond); exact rfl; all_goals (intro h; (try simp only [V.EV.sub, V.EV.len, Bool.cond_true_left, Bool.cond_false_right, Bool.or_eq_true, Bool.and_eq_true, Bool.or_eq_false_iff, Bool.and_eq_false_iff, Bool.not_eq_true', Bool.not_eq_false', decide_eq_true_eq, decide_eq_false_iff_not, ne_eq] at h))) | fail)
  apply Sat.loop (α := Nat) (fun y => y ≤ l.length ∧ ∀ i, i < y → decide (x = l.getD i 0) = false) (fun x => l.length - x) 0 (fun x => [(8, .int .i64 (x : Int))]) (fun _ => []) [] [] 0
  · intro x; exact rfl
  · intro x; exact rfl
  · exact rfl
  · exact rfl
  · (repeat' (first | exact AllP.nil | with_reducible refine AllP.cons ?_ ?_)) <;> first | exact rfl | exact trivial
  · exact ⟨Nat.zero_le _, fun i hi => by omega⟩
  · rintro y ⟨x1, x2⟩
    repeat' (first
        | ((with_reducible apply Sat.run (X := X64)); exact rfl; (first | exact True.intro | (exact phi) | skip))
        | ((with_reducible apply Sat.drawn); kernel_rfl)
        | ((with_reducible apply DSat.run (X := X64)); exact rfl; (first | exact True.intro | (exact phi) | skip))
        | ((with_reducible apply DSat.fin); kernel_rfl)
        | ((with_reducible apply Sat.cond_t); exact rfl)
        | ((with_reducible apply Sat.cond_f); exact rfl)
        | ((with_reducible apply Sat.cond_pt); exact rfl; (try dsimp only [V.EV.sub, V.EV.len]); first | assumption | omega)
        | ((with_reducible apply Sat.cond_pf); exact rfl; (try dsimp only [V.EV.sub, V.EV.len]); first | assumption | omega)
        | ((with_reducible apply Sat.cond_p); exact rfl; all_goals (intro h; (try simp only [V.EV.sub, V.EV.len] at h)))
        | ((with_reducible apply Sat.cond); exact rfl; all_goals (intro h; (try simp only [V.EV.sub, V.EV.len, Bool.cond_true_left, Bool.cond_false_right, Bool.or_eq_true, Bool.and_eq_true, Bool.or_eq_false_iff, Bool.and_eq_false_iff, Bool.not_eq_true', Bool.not_eq_false', decide_eq_true_eq, decide_eq_false_iff_not, ne_eq] at h))) | fail)
    · (refine Sat.fin (Sat.end1 rfl rfl rfl True.intro (.refl _ pur) (by first | exact .inl rfl | exact .inr rfl) (fun _ h => h)) ?_; (exact congrArg (SV.int .i64) ((idxL_at (fun y => decide (x = y)) 0 l 0 y x2 (by omega) (decide_eq_true h)).trans (by simp))))
    · refine Sat.back (y + 1) [] rfl ?_ ?_ ?_
      · (repeat' (first | exact AllP.nil | with_reducible refine AllP.cons ?_ ?_)) <;> first | exact rfl | exact trivial | exact Int.natCast_add_one _
      · refine ⟨by omega, fun i hi => ?_⟩
        rcases Nat.lt_succ_iff_lt_or_eq.1 hi with h1 | rfl
        · exact x2 i h1
        · exact decide_eq_false h
      · omega
    · (refine Sat.fin (Sat.end1 rfl rfl rfl True.intro (.refl _ pur) (by first | exact .inl rfl | exact .inr rfl) (fun _ h => h)) ?_; (exact congrArg (SV.int .i64) (idxL_none (fun y => decide (x = y)) 0 l 0 fun i hi => x2 i (by omega))))
theorem contains_int (x : Int) (l : List Int) : Fun Tryd.prog [] 35 [.ro (.ints .i64 l), .int .i64 x] (.bool (l.any fun y => decide (x = y))) := by
  have hi := index_int x l
  refine Fun.mk 6 Tryd.func35 rfl Tryd.ntmps35 rfl rfl fun T w0 => ?_
  repeat' (first
      | ((with_reducible apply Sat.run (X := X64)); exact rfl; (first | exact True.intro | (exact phi) | skip))
      | ((with_reducible apply Sat.drawn); kernel_rfl)
      | ((with_reducible apply DSat.run (X := X64)); exact rfl; (first | exact True.intro | (exact phi) | skip))
      | ((with_reducible apply DSat.fin); kernel_rfl)
      | ((with_reducible apply Sat.cond_t); exact rfl)
      | ((with_reducible apply Sat.cond_f); exact rfl)
      | ((with_reducible apply Sat.cond_pt); exact rfl; (try dsimp only [V.EV.sub, V.EV.len]); first | assumption | omega)
      | ((with_reducible apply Sat.cond_pf); exact rfl; (try dsimp only [V.EV.sub, V.EV.len]); first | assumption | omega)
      | ((with_reducible apply Sat.cond_p); exact rfl; all_goals (intro h; (try simp only [V.EV.sub, V.EV.len] at h)))
      | ((with_reducible apply Sat.cond); exact rfl; all_goals (intro h; (try simp only [V.EV.sub, V.EV.len, Bool.cond_true_left, Bool.cond_false_right, Bool.or_eq_true, Bool.and_eq_true, Bool.or_eq_false_iff, Bool.and_eq_false_iff, Bool.not_eq_true', Bool.not_eq_false', decide_eq_true_eq, decide_eq_false_iff_not, ne_eq] at h)))
      | ((with_reducible apply Sat.callR (hi)); exact rfl; exact rfl; exact rfl; kernel_rfl; (exact cnv); exact rfl)
      | ((with_reducible apply DSat.callR (hi)); exact rfl; exact rfl; exact rfl; kernel_rfl; (exact cnv); exact rfl) | fail)
  (refine Sat.fin (Sat.end1 rfl rfl rfl True.intro (.refl _ pur) (by first | exact .inl rfl | exact .inr rfl) (fun _ h => h)) ?_; (exact congrArg SV.bool (idxL_any _ l 0).symm))
theorem wrap_sub {a b : Int} (ha : 0 ≤ a ∧ a ≤ 1000000000) (hb : 0 ≤ b ∧ b ≤ 1000000000) : subW a b = a - b := wrap_inR (inR_i64 (by omega) (by omega))
/-- For small numbers, within is what the reference says. -/
theorem within_ris (l : List Int) (low high : Int) (h : (!l.any fun n => !inB n 0 1000000000) = true) : withinB l low high = risB l low high := by
  have hs : ∀ i, i < l.length → 0 ≤ l.getD i 0 ∧ l.getD i 0 ≤ 1000000000 := by
    intro i hi
    have h1 : l.any (fun n => !inB n 0 1000000000) = false := by simpa using h
    rw [List.any_eq_false] at h1
    have h2 := h1 (l.getD i 0) (by rw [List.getD_eq_getElem?_getD, List.getElem?_eq_getElem hi]; exact List.getElem_mem hi)
    simp [inB] at h2
    exact h2
  have hr : risC subW l = decide (∀ i, i < l.length → 0 < i → l.getD (i - 1) 0 < l.getD i 0) := by
    unfold risC
    refine decide_eq_decide.2 ⟨fun q i hi h0 => ?_, fun q i hi h0 => ?_⟩
    · have := q i hi h0
      rw [wrap_sub (hs _ (by omega)) (hs _ hi)] at this
      omega
    · have := q i hi h0
      rw [wrap_sub (hs _ (by omega)) (hs _ hi)]
      omega
  unfold withinB risB
  rw [hr]
  refine Bool.eq_iff_iff.2 ?_
  simp only [Bool.and_eq_true, Bool.or_eq_true, decide_eq_true_eq]
  constructor
  · rintro ⟨q, h0 | ⟨h1, h2⟩⟩ i hi
    · omega
    · have up : ∀ j, j < l.length → l.getD 0 0 ≤ l.getD j 0 := by
        intro j
        induction j with
        | zero => intro _; omega
        | succ j ih => intro hj; have := ih (by omega); have := q (j + 1) hj (by omega); simp only [Nat.add_sub_cancel] at this; omega
      have dn : ∀ k j, j + k = l.length - 1 → j < l.length → l.getD j 0 ≤ l.getD (l.length - 1) 0 := by
        intro k
        induction k with
        | zero => intro j hj _; rw [← hj]; simp
        | succ k ih =>
          intro j hj hl
          have := ih (j + 1) (by omega) (by omega)
          have := q (j + 1) (by omega) (by omega)
          simp only [Nat.add_sub_cancel] at this
          omega
      refine ⟨?_, fun h0 => q i hi h0⟩
      have u := up i hi
      have d := dn (l.length - 1 - i) i (by omega) hi
      unfold inB
      rw [Bool.and_eq_true, decide_eq_true_eq, decide_eq_true_eq]
      exact ⟨by omega, by omega⟩
  · intro q
    refine ⟨fun i hi h0 => (q i hi).2 h0, ?_⟩
    by_cases h0 : l.length = 0
    · exact .inl h0
    · right
      have q0 := (q 0 (by omega)).1
      have q1 := (q (l.length - 1) (by omega)).1
      unfold inB at q0 q1
      rw [Bool.and_eq_true, decide_eq_true_eq, decide_eq_true_eq] at q0 q1
      exact ⟨q0.1, q1.2⟩
end Go.Proofs.YtegbdcadlmefgaaDoor
end
section
namespace Go.Proofs
open Go.Shelf
def Tryd.lays213_ren : Go.Shelf.Ren := ⟨fun | 213 => 89 | 265 => 97 | n => n, fun | 9 => 9 | 3 => 3 | n => n, fun | n => n⟩
theorem Tryd.lays213 : Go.Proofs.Lays.n213 Tryd.prog Tryd.lays213_ren := {
  mixed := by kernel_rfl
  f213 := Tryd.func89.trans (congrArg some (by kernel_rfl))
  f265 := Tryd.func97.trans (congrArg some (by kernel_rfl))
  t3 := Tryd.underlying3
  a3 := Tryd.isAgg3
  z3 := Tryd.sizeOf3
  v3 := Tryd.zeroValue3
  t9 := Tryd.underlying9
  a9 := Tryd.isAgg9
  z9 := Tryd.sizeOf9
  v9 := Tryd.zeroValue9 }
open Go.RowKit in
/-- internal/bytealg.CompareString (what strings.Compare calls): IT RETURNS 'Lib.compareBytes a b'; the world is as it was. (LAID: no walk: one application.) -/
theorem Tryd.bytealg_CompareString (a b : ByteArray) (w : World) :
    Calls Tryd.prog 89 #[.string a, .string b] w fun e w' => e = .returned (.int .i64 (Lib.compareBytes a.data.toList b.data.toList)) ∧ w' = w := Any.bytealg_CompareString Tryd.lays213 a b w
def Tryd.lays106_ren : Go.Shelf.Ren := ⟨fun | 106 => 41 | 213 => 89 | 265 => 97 | n => n, fun | 9 => 9 | 3 => 3 | n => n, fun | n => n⟩
theorem Tryd.lays106 : Go.Proofs.Lays.n106 Tryd.prog Tryd.lays106_ren := {
  mixed := by kernel_rfl
  f106 := Tryd.func41.trans (congrArg some (by kernel_rfl))
  f213 := Tryd.func89.trans (congrArg some (by kernel_rfl))
  f265 := Tryd.func97.trans (congrArg some (by kernel_rfl))
  t3 := Tryd.underlying3
  a3 := Tryd.isAgg3
  z3 := Tryd.sizeOf3
  v3 := Tryd.zeroValue3
  t9 := Tryd.underlying9
  a9 := Tryd.isAgg9
  z9 := Tryd.sizeOf9
  v9 := Tryd.zeroValue9 }
open Go.RowKit in
/-- strings.Compare: "Compare returns an integer comparing two strings lexicographically. The result will be 0 if a == b, -1 if a < b, and +1 if a > b.": IT RETURNS 'Lib.compareBytes a b'; the world is as it was. (LAID: no walk: one application.) -/
theorem Tryd.strings_Compare (a b : ByteArray) (w : World) :
    Calls Tryd.prog 41 #[.string a, .string b] w fun e w' => e = .returned (.int .i64 (Lib.compareBytes a.data.toList b.data.toList)) ∧ w' = w := Any.strings_Compare Tryd.lays106 a b w
def Tryd.laysM324_ren : Go.Shelf.Ren := ⟨fun | 324 => 102 | n => n, fun | 20 => 20 | 4 => 4 | 75 => 94 | 0 => 0 | 80 => 150 | 9 => 9 | n => n, fun | 14 => 1 | n => n⟩
theorem Tryd.laysM324 : Go.Proofs.LaysM.n324 Tryd.prog Tryd.laysM324_ren := {
  mixed := by kernel_rfl
  f324 := Tryd.func102.trans (congrArg some (by kernel_rfl))
  t0 := Tryd.underlying0
  a0 := Tryd.isAgg0
  z0 := Tryd.sizeOf0
  v0 := Tryd.zeroValue0
  t4 := Tryd.underlying4
  a4 := Tryd.isAgg4
  z4 := Tryd.sizeOf4
  v4 := Tryd.zeroValue4
  t20 := Tryd.underlying20
  a20 := Tryd.isAgg20
  z20 := Tryd.sizeOf20
  v20 := Tryd.zeroValue20
  t75 := Tryd.underlying94
  a75 := Tryd.isAgg94
  z75 := Tryd.sizeOf94
  v75 := Tryd.zeroValue94
  g14 := by kernel_rfl
  t9 := Tryd.underlying9
  a9 := Tryd.isAgg9
  z9 := Tryd.sizeOf9
  v9 := Tryd.zeroValue9
  t80 := Tryd.underlying150
  a80 := Tryd.isAgg150
  z80 := Tryd.sizeOf150
  v80 := Tryd.zeroValue150
  i0 := by kernel_rfl
  i4 := by kernel_rfl
  i9 := by kernel_rfl
  i20 := by kernel_rfl
  i75 := by kernel_rfl
  i80 := by kernel_rfl
  m14 := by kernel_rfl }
theorem Tryd.growSlice_catch_idle (w : World) :
    CallsD Tryd.prog 102 #[] .returning w fun e u' w' => e = .returned (.tuple #[]) ∧ u' = .returning ∧ w' = w := Any.growSlice_catch_idle Tryd.laysM324 w
def Tryd.laysM290_ren : Go.Shelf.Ren := ⟨fun | 290 => 100 | 324 => 102 | n => n, fun | 37 => 35 | 3 => 3 | 0 => 0 | 4 => 4 | 20 => 20 | 75 => 94 | 5 => 5 | 80 => 150 | 9 => 9 | n => n, fun | 14 => 1 | n => n⟩
theorem Tryd.laysM290 : Go.Proofs.LaysM.n290 Tryd.prog Tryd.laysM290_ren := {
  mixed := by kernel_rfl
  f290 := Tryd.func100.trans (congrArg some (by kernel_rfl))
  f324 := Tryd.func102.trans (congrArg some (by kernel_rfl))
  t0 := Tryd.underlying0
  a0 := Tryd.isAgg0
  z0 := Tryd.sizeOf0
  v0 := Tryd.zeroValue0
  t3 := Tryd.underlying3
  a3 := Tryd.isAgg3
  z3 := Tryd.sizeOf3
  v3 := Tryd.zeroValue3
  t4 := Tryd.underlying4
  a4 := Tryd.isAgg4
  z4 := Tryd.sizeOf4
  v4 := Tryd.zeroValue4
  t20 := Tryd.underlying20
  a20 := Tryd.isAgg20
  z20 := Tryd.sizeOf20
  v20 := Tryd.zeroValue20
  t37 := Tryd.underlying35
  a37 := Tryd.isAgg35
  z37 := Tryd.sizeOf35
  v37 := Tryd.zeroValue35
  t75 := Tryd.underlying94
  a75 := Tryd.isAgg94
  z75 := Tryd.sizeOf94
  v75 := Tryd.zeroValue94
  g14 := by kernel_rfl
  t5 := Tryd.underlying5
  a5 := Tryd.isAgg5
  z5 := Tryd.sizeOf5
  v5 := Tryd.zeroValue5
  t9 := Tryd.underlying9
  a9 := Tryd.isAgg9
  z9 := Tryd.sizeOf9
  v9 := Tryd.zeroValue9
  t80 := Tryd.underlying150
  a80 := Tryd.isAgg150
  z80 := Tryd.sizeOf150
  v80 := Tryd.zeroValue150
  i0 := by kernel_rfl
  i3 := by kernel_rfl
  i4 := by kernel_rfl
  i5 := by kernel_rfl
  i9 := by kernel_rfl
  i20 := by kernel_rfl
  i37 := by kernel_rfl
  i75 := by kernel_rfl
  i80 := by kernel_rfl
  m14 := by kernel_rfl }
open Go.RowKit in
/-- bytes.growSlice: "growSlice grows b by n, preserving the original content of b.": OF A SLICE THAT LIES AT THE HEAD OF A ROW: a new row, number 'w.heap.size': it begins with b's l cells; its capacity has room for n more; whatever lay below is as it was. (LAID: no walk: one application.) -/
theorem Tryd.bytes_growSlice_row (g l c n : Nat) (cur : Array Value) (w : World) (hg : w.heap[g]? = some (.cells cur 5 (0, 0))) (hcs : cur.size = c) (hlc : l ≤ c) (hn : 1 ≤ n) (hlim : l + n ≤ 140737488355328) (hc2 : c ≤ 140737488355328) (h1 : ∀ v ∈ cur.toList.take l, v.oneCell' = true) :
    Calls Tryd.prog 100 #[.slice (some ⟨g, 0, none⟩) l c, .int .i64 n] w fun e w' => ∃ cap2 cells, e = .returned (.slice (some ⟨w.heap.size, 0, none⟩) l cap2) ∧ w'.heap[w.heap.size]? = some (.cells cells 5 (0, 0)) ∧
      cells.size = cap2 ∧ cells.toList.take l = cur.toList.take l ∧ l + n ≤ cap2 ∧ cap2 ≤ maxLen ∧ Below w.heap.size w w' := Any.bytes_growSlice_row Tryd.laysM290 g l c n cur w hg hcs hlc hn hlim hc2 h1
open Go.RowKit in
/-- .. OF THE NIL SLICE: a new row with room for n. (LAID: no walk: one application.) -/
theorem Tryd.bytes_growSlice_nil (n : Nat) (w : World) (hn : 1 ≤ n) (hlim : n ≤ 140737488355328) :
    Calls Tryd.prog 100 #[.slice none 0 0, .int .i64 n] w fun e w' => ∃ cap2 cells, e = .returned (.slice (some ⟨w.heap.size, 0, none⟩) 0 cap2) ∧ w'.heap[w.heap.size]? = some (.cells cells 5 (0, 0)) ∧
      cells.size = cap2 ∧ n ≤ cap2 ∧ cap2 ≤ maxLen ∧ Below w.heap.size w w' := Any.bytes_growSlice_nil Tryd.laysM290 n w hn hlim
def Tryd.laysM181_ren : Go.Shelf.Ren := ⟨fun | 181 => 98 | n => n, fun | 130 => 139 | 3 => 3 | 0 => 0 | 93 => 89 | 37 => 35 | 91 => 87 | 5 => 5 | n => n, fun | n => n⟩
theorem Tryd.laysM181 : Go.Proofs.LaysM.n181 Tryd.prog Tryd.laysM181_ren := {
  mixed := by kernel_rfl
  f181 := Tryd.func98.trans (congrArg some (by kernel_rfl))
  t0 := Tryd.underlying0
  a0 := Tryd.isAgg0
  z0 := Tryd.sizeOf0
  v0 := Tryd.zeroValue0
  t3 := Tryd.underlying3
  a3 := Tryd.isAgg3
  z3 := Tryd.sizeOf3
  v3 := Tryd.zeroValue3
  t37 := Tryd.underlying35
  a37 := Tryd.isAgg35
  z37 := Tryd.sizeOf35
  v37 := Tryd.zeroValue35
  t93 := Tryd.underlying89
  a93 := Tryd.isAgg89
  z93 := Tryd.sizeOf89
  v93 := Tryd.zeroValue89
  t130 := Tryd.underlying139
  a130 := Tryd.isAgg139
  z130 := Tryd.sizeOf139
  v130 := Tryd.zeroValue139
  t5 := Tryd.underlying5
  a5 := Tryd.isAgg5
  z5 := Tryd.sizeOf5
  v5 := Tryd.zeroValue5
  t91 := Tryd.underlying87
  a91 := Tryd.isAgg87
  z91 := Tryd.sizeOf87
  v91 := Tryd.zeroValue87
  i0 := by kernel_rfl
  i3 := by kernel_rfl
  i5 := by kernel_rfl
  i37 := by kernel_rfl
  i91 := by kernel_rfl
  i93 := by kernel_rfl
  i130 := by kernel_rfl }
open Go.RowKit in
/-- (*bytes.Buffer).Len: "Len returns the number of bytes of the unread portion of the buffer; b.Len() == len(b.Bytes()).": the world is as it was but for the count of draws (the statement has two reads: its order is drawn). (LAID: no walk: one application.) -/
theorem Tryd.Buffer_Len_at (T : TypeId) (R : Nat → Option Value) (B b q : Nat) (bs : List Value) (w : World) (h : LibA.IsBuffer T R 5 B b q bs w) :
    Calls Tryd.prog 98 #[.pointer (some ⟨b, q, none⟩)] w fun e w' => e = .returned (.int .i64 bs.length) ∧ ∃ n, w' = w.drewN n := Any.Buffer_Len_at Tryd.laysM181 T R B b q bs w h
def Tryd.laysM251_ren : Go.Shelf.Ren := ⟨fun | 251 => 91 | n => n, fun | 130 => 139 | 3 => 3 | 4 => 4 | 0 => 0 | 93 => 89 | 37 => 35 | 91 => 87 | 5 => 5 | n => n, fun | n => n⟩
theorem Tryd.laysM251 : Go.Proofs.LaysM.n251 Tryd.prog Tryd.laysM251_ren := {
  mixed := by kernel_rfl
  f251 := Tryd.func91.trans (congrArg some (by kernel_rfl))
  t0 := Tryd.underlying0
  a0 := Tryd.isAgg0
  z0 := Tryd.sizeOf0
  v0 := Tryd.zeroValue0
  t3 := Tryd.underlying3
  a3 := Tryd.isAgg3
  z3 := Tryd.sizeOf3
  v3 := Tryd.zeroValue3
  t4 := Tryd.underlying4
  a4 := Tryd.isAgg4
  z4 := Tryd.sizeOf4
  v4 := Tryd.zeroValue4
  t37 := Tryd.underlying35
  a37 := Tryd.isAgg35
  z37 := Tryd.sizeOf35
  v37 := Tryd.zeroValue35
  t93 := Tryd.underlying89
  a93 := Tryd.isAgg89
  z93 := Tryd.sizeOf89
  v93 := Tryd.zeroValue89
  t130 := Tryd.underlying139
  a130 := Tryd.isAgg139
  z130 := Tryd.sizeOf139
  v130 := Tryd.zeroValue139
  t5 := Tryd.underlying5
  a5 := Tryd.isAgg5
  z5 := Tryd.sizeOf5
  v5 := Tryd.zeroValue5
  t91 := Tryd.underlying87
  a91 := Tryd.isAgg87
  z91 := Tryd.sizeOf87
  v91 := Tryd.zeroValue87
  i0 := by kernel_rfl
  i3 := by kernel_rfl
  i4 := by kernel_rfl
  i5 := by kernel_rfl
  i37 := by kernel_rfl
  i91 := by kernel_rfl
  i93 := by kernel_rfl
  i130 := by kernel_rfl }
open Go.RowKit in
/-- (*bytes.Buffer).tryGrowByReslice: "tryGrowByReslice is an inlineable version of grow for the fast-case where the internal buffer only needs to be resliced. It returns the index where bytes should be written and whether it succeeded.": THERE IS ROOM: 'buf' is resliced to l + n. (LAID: no walk: one application.) -/
theorem Tryd.Buffer_tryGrow_room_at (b q : Nat) (ao : Option Addr) (l cap n : Nat) (w : World) (c0 : w.cell? ⟨b, q, none⟩ = some (.slice ao l cap)) (f0 : w.frozen? ⟨b, q, none⟩ = false) (hlc : l ≤ cap) (hcap : cap ≤ maxLen) (hn : n ≤ cap - l) :
    Calls Tryd.prog 91 #[.pointer (some ⟨b, q, none⟩), .int .i64 n] w fun e w' => e = .returned (.tuple #[.int .i64 l, .bool true]) ∧ w' = w.setCell ⟨b, q, none⟩ (.slice ao (l + n) cap) := Any.Buffer_tryGrow_room_at Tryd.laysM251 b q ao l cap n w c0 f0 hlc hcap hn
open Go.RowKit in
/-- .. THERE IS NONE: nothing turns. (LAID: no walk: one application.) -/
theorem Tryd.Buffer_tryGrow_none_at (b q : Nat) (ao : Option Addr) (l cap n : Nat) (w : World) (c0 : w.cell? ⟨b, q, none⟩ = some (.slice ao l cap)) (hlc : l ≤ cap) (hcap : cap ≤ maxLen) (hn : cap - l < n) :
    Calls Tryd.prog 91 #[.pointer (some ⟨b, q, none⟩), .int .i64 n] w fun e w' => e = .returned (.tuple #[.int .i64 0, .bool false]) ∧ w' = w := Any.Buffer_tryGrow_none_at Tryd.laysM251 b q ao l cap n w c0 hlc hcap hn
def Tryd.laysM252_ren : Go.Shelf.Ren := ⟨fun | 252 => 92 | 181 => 98 | 184 => 99 | 251 => 91 | 290 => 100 | 324 => 102 | n => n, fun | 130 => 139 | 3 => 3 | 4 => 4 | 0 => 0 | 93 => 89 | 131 => 140 | 37 => 35 | 75 => 94 | 91 => 87 | 20 => 20 | 5 => 5 | 80 => 150 | 9 => 9 | n => n, fun | 14 => 1 | n => n⟩
theorem Tryd.laysM252 : Go.Proofs.LaysM.n252 Tryd.prog Tryd.laysM252_ren := {
  mixed := by kernel_rfl
  f181 := Tryd.func98.trans (congrArg some (by kernel_rfl))
  f184 := Tryd.func99.trans (congrArg some (by kernel_rfl))
  f251 := Tryd.func91.trans (congrArg some (by kernel_rfl))
  f252 := Tryd.func92.trans (congrArg some (by kernel_rfl))
  f290 := Tryd.func100.trans (congrArg some (by kernel_rfl))
  f324 := Tryd.func102.trans (congrArg some (by kernel_rfl))
  t0 := Tryd.underlying0
  a0 := Tryd.isAgg0
  z0 := Tryd.sizeOf0
  v0 := Tryd.zeroValue0
  t3 := Tryd.underlying3
  a3 := Tryd.isAgg3
  z3 := Tryd.sizeOf3
  v3 := Tryd.zeroValue3
  t4 := Tryd.underlying4
  a4 := Tryd.isAgg4
  z4 := Tryd.sizeOf4
  v4 := Tryd.zeroValue4
  t20 := Tryd.underlying20
  a20 := Tryd.isAgg20
  z20 := Tryd.sizeOf20
  v20 := Tryd.zeroValue20
  t37 := Tryd.underlying35
  a37 := Tryd.isAgg35
  z37 := Tryd.sizeOf35
  v37 := Tryd.zeroValue35
  t75 := Tryd.underlying94
  a75 := Tryd.isAgg94
  z75 := Tryd.sizeOf94
  v75 := Tryd.zeroValue94
  t91 := Tryd.underlying87
  a91 := Tryd.isAgg87
  z91 := Tryd.sizeOf87
  v91 := Tryd.zeroValue87
  t93 := Tryd.underlying89
  a93 := Tryd.isAgg89
  z93 := Tryd.sizeOf89
  v93 := Tryd.zeroValue89
  t130 := Tryd.underlying139
  a130 := Tryd.isAgg139
  z130 := Tryd.sizeOf139
  v130 := Tryd.zeroValue139
  t131 := Tryd.underlying140
  a131 := Tryd.isAgg140
  z131 := Tryd.sizeOf140
  v131 := Tryd.zeroValue140
  g14 := by kernel_rfl
  t5 := Tryd.underlying5
  a5 := Tryd.isAgg5
  z5 := Tryd.sizeOf5
  v5 := Tryd.zeroValue5
  t9 := Tryd.underlying9
  a9 := Tryd.isAgg9
  z9 := Tryd.sizeOf9
  v9 := Tryd.zeroValue9
  t80 := Tryd.underlying150
  a80 := Tryd.isAgg150
  z80 := Tryd.sizeOf150
  v80 := Tryd.zeroValue150
  i0 := by kernel_rfl
  i3 := by kernel_rfl
  i4 := by kernel_rfl
  i5 := by kernel_rfl
  i9 := by kernel_rfl
  i20 := by kernel_rfl
  i37 := by kernel_rfl
  i75 := by kernel_rfl
  i80 := by kernel_rfl
  i91 := by kernel_rfl
  i93 := by kernel_rfl
  i130 := by kernel_rfl
  i131 := by kernel_rfl
  m14 := by kernel_rfl }
open Go.RowKit in
/-- grow, WHERE THE BUFFER HOLDS A ROW, NO BYTE IN IT (behind a Reset), AND THE ROW HAS NO ROOM: growSlice. (THE TEXT OF 'Buffer_grow_row' WITH 0 FOR l, BY PROGRAM: the walk parts on 'm == 0' and writes 0 for l throughout the goal: facts that still say l then do not strike: so l is laid in ahead of the walk.) (LAID: no walk: one application.) -/
theorem Tryd.Buffer_grow_row0_at (T : TypeId) (R : Nat → Option Value) (B b q g cap n : Nat) (lr : Int) (cur : Array Value) (bs : List Value) (w : World) (hB : B ≤ b) (hBw : B ≤ w.heap.size) (hbk : LibA.Three w b q T R (.slice (some ⟨g, 0, none⟩) 0 cap) (.int .i64 0) (.int .i8 lr)) (hl : bs.length = 0) (hBg : B ≤ g) (hg : w.heap[g]? = some (.cells cur 5 (0, 0))) (hlc : 0 ≤ cap) (hcm : cap ≤ maxLen) (hcs : cur.size = cap) (htake : cur.toList.take 0 = bs) (hgb : g ≠ b) (h1 : ∀ v ∈ bs, v.oneCell' = true) (hn : 1 ≤ n) (hroom : cap - 0 < n) (hlim : 0 + n ≤ 140737488355328) :
    Calls Tryd.prog 92 #[.pointer (some ⟨b, q, none⟩), .int .i64 n] w fun e w' => e = .returned (.int .i64 0) ∧ ∃ xs, xs.length = n ∧ LibA.IsBuffer T R 5 B b q (bs ++ xs) w' ∧ Below B w w' ∧ Lib.OthersKept 5 (some b) w w' ∧ w.grownBy w' (some b) := Any.Buffer_grow_row0_at Tryd.laysM252 T R B b q g cap n lr cur bs w hB hBw hbk hl hBg hg hlc hcm hcs htake hgb h1 hn hroom hlim
open Go.RowKit in
/-- grow, WHERE THE BUFFER HOLDS A ROW THAT HAS NO ROOM: growSlice. (LAID: no walk: one application.) -/
theorem Tryd.Buffer_grow_row_at (T : TypeId) (R : Nat → Option Value) (B b q g l cap n : Nat) (lr : Int) (cur : Array Value) (bs : List Value) (w : World) (hB : B ≤ b) (hBw : B ≤ w.heap.size) (hbk : LibA.Three w b q T R (.slice (some ⟨g, 0, none⟩) l cap) (.int .i64 0) (.int .i8 lr)) (hl : bs.length = l) (hBg : B ≤ g) (hg : w.heap[g]? = some (.cells cur 5 (0, 0))) (hlc : l ≤ cap) (hcm : cap ≤ maxLen) (hcs : cur.size = cap) (htake : cur.toList.take l = bs) (hgb : g ≠ b) (h1 : ∀ v ∈ bs, v.oneCell' = true) (hn : 1 ≤ n) (hroom : cap - l < n) (hlim : l + n ≤ 140737488355328) :
    Calls Tryd.prog 92 #[.pointer (some ⟨b, q, none⟩), .int .i64 n] w fun e w' => e = .returned (.int .i64 l) ∧ ∃ xs, xs.length = n ∧ LibA.IsBuffer T R 5 B b q (bs ++ xs) w' ∧ Below B w w' ∧ Lib.OthersKept 5 (some b) w w' ∧ w.grownBy w' (some b) := Any.Buffer_grow_row_at Tryd.laysM252 T R B b q g l cap n lr cur bs w hB hBw hbk hl hBg hg hlc hcm hcs htake hgb h1 hn hroom hlim
def Tryd.lays315_ren : Go.Shelf.Ren := ⟨fun | 315 => 101 | n => n, fun | 9 => 9 | 40 => 106 | 4 => 4 | 3 => 3 | 0 => 0 | 21 => 21 | n => n, fun | n => n⟩
theorem Tryd.lays315 : Go.Proofs.Lays.n315 Tryd.prog Tryd.lays315_ren := {
  mixed := by kernel_rfl
  f315 := Tryd.func101.trans (congrArg some (by kernel_rfl))
  t0 := Tryd.underlying0
  a0 := Tryd.isAgg0
  z0 := Tryd.sizeOf0
  v0 := Tryd.zeroValue0
  t3 := Tryd.underlying3
  a3 := Tryd.isAgg3
  z3 := Tryd.sizeOf3
  v3 := Tryd.zeroValue3
  t4 := Tryd.underlying4
  a4 := Tryd.isAgg4
  z4 := Tryd.sizeOf4
  v4 := Tryd.zeroValue4
  t9 := Tryd.underlying9
  a9 := Tryd.isAgg9
  z9 := Tryd.sizeOf9
  v9 := Tryd.zeroValue9
  t21 := Tryd.underlying21
  a21 := Tryd.isAgg21
  z21 := Tryd.sizeOf21
  v21 := Tryd.zeroValue21
  t40 := Tryd.underlying106
  a40 := Tryd.isAgg106
  z40 := Tryd.sizeOf106
  v40 := Tryd.zeroValue106 }
open Go.RowKit Go.Lib in
theorem Tryd.strings_indexFunc (g : Nat) (lb : Array Value) (eg : ∀ args w, (callFunc g args).run Tryd.prog w = .ok (.enter g args) w) (p : Nat → Bool) (truth : Bool) (s : ByteArray) (w : World) (hp : PredAt Tryd.prog g lb encR p w) :
    Calls Tryd.prog 101 #[.string s, .func (.func g) #[] lb, .bool truth] w fun e w' => e = .returned (.int .i64 (Lib.idxFunc p truth s)) ∧ Below w.heap.size w w' := Any.strings_indexFunc Tryd.lays315 g lb eg p truth s w hp
open Go.RowKit in
/-- grow, 'buf' nil, n AT MOST 64: 'b.buf = make([]byte, n, smallBufferSize)'. (LAID: no walk: one application.) -/
theorem Tryd.Buffer_grow_nil_small_at (T : TypeId) (R : Nat → Option Value) (B b q n : Nat) (lr : Int) (w : World) (hB : B ≤ b) (hBw : B ≤ w.heap.size) (hbk : LibA.Three w b q T R (.slice none 0 0) (.int .i64 0) (.int .i8 lr)) (hn : 1 ≤ n) (h64 : n ≤ 64) :
    Calls Tryd.prog 92 #[.pointer (some ⟨b, q, none⟩), .int .i64 n] w fun e w' => e = .returned (.int .i64 0) ∧ ∃ xs, xs.length = n ∧ LibA.IsBuffer T R 5 B b q xs w' ∧ Below B w w' ∧ Lib.OthersKept 5 (some b) w w' ∧ w.grownBy w' (some b) := Any.Buffer_grow_nil_small_at Tryd.laysM252 T R B b q n lr w hB hBw hbk hn h64
open Go.RowKit in
/-- grow, 'buf' nil, n ABOVE 64: growSlice of the nil slice. (LAID: no walk: one application.) -/
theorem Tryd.Buffer_grow_nil_big_at (T : TypeId) (R : Nat → Option Value) (B b q n : Nat) (lr : Int) (w : World) (hB : B ≤ b) (hBw : B ≤ w.heap.size) (hbk : LibA.Three w b q T R (.slice none 0 0) (.int .i64 0) (.int .i8 lr)) (h64 : 64 < n) (hlim : n ≤ 140737488355328) :
    Calls Tryd.prog 92 #[.pointer (some ⟨b, q, none⟩), .int .i64 n] w fun e w' => e = .returned (.int .i64 0) ∧ ∃ xs, xs.length = n ∧ LibA.IsBuffer T R 5 B b q xs w' ∧ Below B w w' ∧ Lib.OthersKept 5 (some b) w w' ∧ w.grownBy w' (some b) := Any.Buffer_grow_nil_big_at Tryd.laysM252 T R B b q n lr w hB hBw hbk h64 hlim
open Go.RowKit in
/-- tryGrowByReslice: EITHER there is room: the place to write at is the old length, and the buffer holds the old bytes and n more of whatever lay there; OR there is none: nothing turns, and 'Lib.NoRoom' is what grow asks. (LAID: no walk: one application.) -/
theorem Tryd.Buffer_tryGrow_at (T : TypeId) (R : Nat → Option Value) (B b q n : Nat) (bs : List Value) (w : World) (h : LibA.IsBuffer T R 5 B b q bs w) :
    Calls Tryd.prog 91 #[.pointer (some ⟨b, q, none⟩), .int .i64 n] w fun e w' =>
      (e = .returned (.tuple #[.int .i64 bs.length, .bool true]) ∧ ∃ xs, xs.length = n ∧ LibA.IsBuffer T R 5 B b q (bs ++ xs) w' ∧ Below B w w' ∧ Lib.OthersKept 5 (some b) w w' ∧ w.grownBy w' (some b)) ∨
      (e = .returned (.tuple #[.int .i64 0, .bool false]) ∧ w' = w ∧ LibA.NoRoom b q n w) := Any.Buffer_tryGrow_at Tryd.laysM251 T R B b q n bs w h
open Go.RowKit in
/-- (*bytes.Buffer).grow: "grow grows the buffer to guarantee space for n more bytes. It returns the index where bytes should be written.": WHERE THERE IS NO ROOM; UNDER Go's OWN LIMIT (the new length takes at most 2^47 bytes): the old length; the buffer holds the old bytes and n more of whatever. (LAID: no walk: one application.) -/
theorem Tryd.Buffer_grow_at (T : TypeId) (R : Nat → Option Value) (B b q n : Nat) (bs : List Value) (w : World) (h : LibA.IsBuffer T R 5 B b q bs w) (hnr : LibA.NoRoom b q n w) (hBw : B ≤ w.heap.size) (h1 : ∀ v ∈ bs, v.oneCell' = true) (hlim : bs.length + n ≤ 140737488355328) :
    Calls Tryd.prog 92 #[.pointer (some ⟨b, q, none⟩), .int .i64 n] w fun e w' => e = .returned (.int .i64 bs.length) ∧ ∃ xs, xs.length = n ∧ LibA.IsBuffer T R 5 B b q (bs ++ xs) w' ∧ Below B w w' ∧ Lib.OthersKept 5 (some b) w w' ∧ w.grownBy w' (some b) := Any.Buffer_grow_at Tryd.laysM252 T R B b q n bs w h hnr hBw h1 hlim
def Tryd.laysGw15_ren : Go.Shelf.Ren := ⟨fun | 15 => 95 | 20 => 101 | n => n, fun | 9 => 9 | 23 => 106 | 3 => 3 | 4 => 4 | 0 => 0 | 21 => 21 | n => n, fun | n => n⟩
theorem Tryd.laysGw15 : Go.Proofs.LaysGw.n15 Tryd.prog Tryd.laysGw15_ren := {
  mixed := by kernel_rfl
  f15 := Tryd.func95.trans (congrArg some (by kernel_rfl))
  f20 := Tryd.func101.trans (congrArg some (by kernel_rfl))
  t0 := Tryd.underlying0
  a0 := Tryd.isAgg0
  z0 := Tryd.sizeOf0
  v0 := Tryd.zeroValue0
  i0 := by kernel_rfl
  t3 := Tryd.underlying3
  a3 := Tryd.isAgg3
  z3 := Tryd.sizeOf3
  v3 := Tryd.zeroValue3
  i3 := by kernel_rfl
  t4 := Tryd.underlying4
  a4 := Tryd.isAgg4
  z4 := Tryd.sizeOf4
  v4 := Tryd.zeroValue4
  i4 := by kernel_rfl
  t9 := Tryd.underlying9
  a9 := Tryd.isAgg9
  z9 := Tryd.sizeOf9
  v9 := Tryd.zeroValue9
  i9 := by kernel_rfl
  t21 := Tryd.underlying21
  a21 := Tryd.isAgg21
  z21 := Tryd.sizeOf21
  v21 := Tryd.zeroValue21
  i21 := by kernel_rfl
  t23 := Tryd.underlying106
  a23 := Tryd.isAgg106
  z23 := Tryd.sizeOf106
  v23 := Tryd.zeroValue106
  i23 := by kernel_rfl }
open Go.RowKit Go.Lib in
theorem Tryd.strings_IndexFunc (g : Nat) (lb : Array Value) (eg : ∀ args w, (callFunc g args).run Tryd.prog w = .ok (.enter g args) w) (p : Nat → Bool) (s : ByteArray) (w : World) (hp : PredAt Tryd.prog g lb encR p w) :
    Calls Tryd.prog 95 #[.string s, .func (.func g) #[] lb] w fun e w' => e = .returned (.int .i64 (Lib.idxFunc p true s)) ∧ Below w.heap.size w w' := Any.strings_IndexFunc Tryd.laysGw15 g lb eg p s w hp
def Tryd.laysGw17_ren : Go.Shelf.Ren := ⟨fun | 17 => 57 | 15 => 95 | 20 => 101 | n => n, fun | 9 => 9 | 23 => 106 | 4 => 4 | 3 => 3 | 0 => 0 | 21 => 21 | n => n, fun | n => n⟩
theorem Tryd.laysGw17 : Go.Proofs.LaysGw.n17 Tryd.prog Tryd.laysGw17_ren := {
  mixed := by kernel_rfl
  f15 := Tryd.func95.trans (congrArg some (by kernel_rfl))
  f17 := Tryd.func57.trans (congrArg some (by kernel_rfl))
  f20 := Tryd.func101.trans (congrArg some (by kernel_rfl))
  t0 := Tryd.underlying0
  a0 := Tryd.isAgg0
  z0 := Tryd.sizeOf0
  v0 := Tryd.zeroValue0
  i0 := by kernel_rfl
  t3 := Tryd.underlying3
  a3 := Tryd.isAgg3
  z3 := Tryd.sizeOf3
  v3 := Tryd.zeroValue3
  i3 := by kernel_rfl
  t4 := Tryd.underlying4
  a4 := Tryd.isAgg4
  z4 := Tryd.sizeOf4
  v4 := Tryd.zeroValue4
  i4 := by kernel_rfl
  t9 := Tryd.underlying9
  a9 := Tryd.isAgg9
  z9 := Tryd.sizeOf9
  v9 := Tryd.zeroValue9
  i9 := by kernel_rfl
  t21 := Tryd.underlying21
  a21 := Tryd.isAgg21
  z21 := Tryd.sizeOf21
  v21 := Tryd.zeroValue21
  i21 := by kernel_rfl
  t23 := Tryd.underlying106
  a23 := Tryd.isAgg106
  z23 := Tryd.sizeOf106
  v23 := Tryd.zeroValue106
  i23 := by kernel_rfl }
open Go.RowKit Go.Lib in
theorem Tryd.strings_ContainsFunc (g : Nat) (lb : Array Value) (eg : ∀ args w, (callFunc g args).run Tryd.prog w = .ok (.enter g args) w) (p : Nat → Bool) (s : ByteArray) (w : World) (hp : PredAt Tryd.prog g lb encR p w) :
    Calls Tryd.prog 57 #[.string s, .func (.func g) #[] lb] w fun e w' => e = .returned (.bool (decide (0 ≤ Lib.idxFunc p true s))) ∧ Below w.heap.size w w' := Any.strings_ContainsFunc Tryd.laysGw17 g lb eg p s w hp
def Tryd.laysM179_ren : Go.Shelf.Ren := ⟨fun | 179 => 90 | 251 => 91 | 252 => 92 | 181 => 98 | 184 => 99 | 290 => 100 | 324 => 102 | n => n, fun | 130 => 139 | 5 => 5 | 75 => 94 | 0 => 0 | 93 => 89 | 91 => 87 | 3 => 3 | 131 => 140 | 4 => 4 | 37 => 35 | 20 => 20 | 80 => 150 | 9 => 9 | n => n, fun | 14 => 1 | n => n⟩
theorem Tryd.laysM179 : Go.Proofs.LaysM.n179 Tryd.prog Tryd.laysM179_ren := {
  mixed := by kernel_rfl
  f179 := Tryd.func90.trans (congrArg some (by kernel_rfl))
  f181 := Tryd.func98.trans (congrArg some (by kernel_rfl))
  f184 := Tryd.func99.trans (congrArg some (by kernel_rfl))
  f251 := Tryd.func91.trans (congrArg some (by kernel_rfl))
  f252 := Tryd.func92.trans (congrArg some (by kernel_rfl))
  f290 := Tryd.func100.trans (congrArg some (by kernel_rfl))
  f324 := Tryd.func102.trans (congrArg some (by kernel_rfl))
  t0 := Tryd.underlying0
  a0 := Tryd.isAgg0
  z0 := Tryd.sizeOf0
  v0 := Tryd.zeroValue0
  t3 := Tryd.underlying3
  a3 := Tryd.isAgg3
  z3 := Tryd.sizeOf3
  v3 := Tryd.zeroValue3
  t4 := Tryd.underlying4
  a4 := Tryd.isAgg4
  z4 := Tryd.sizeOf4
  v4 := Tryd.zeroValue4
  t5 := Tryd.underlying5
  a5 := Tryd.isAgg5
  z5 := Tryd.sizeOf5
  v5 := Tryd.zeroValue5
  t20 := Tryd.underlying20
  a20 := Tryd.isAgg20
  z20 := Tryd.sizeOf20
  v20 := Tryd.zeroValue20
  t37 := Tryd.underlying35
  a37 := Tryd.isAgg35
  z37 := Tryd.sizeOf35
  v37 := Tryd.zeroValue35
  t75 := Tryd.underlying94
  a75 := Tryd.isAgg94
  z75 := Tryd.sizeOf94
  v75 := Tryd.zeroValue94
  t91 := Tryd.underlying87
  a91 := Tryd.isAgg87
  z91 := Tryd.sizeOf87
  v91 := Tryd.zeroValue87
  t93 := Tryd.underlying89
  a93 := Tryd.isAgg89
  z93 := Tryd.sizeOf89
  v93 := Tryd.zeroValue89
  t130 := Tryd.underlying139
  a130 := Tryd.isAgg139
  z130 := Tryd.sizeOf139
  v130 := Tryd.zeroValue139
  t131 := Tryd.underlying140
  a131 := Tryd.isAgg140
  z131 := Tryd.sizeOf140
  v131 := Tryd.zeroValue140
  g14 := by kernel_rfl
  t9 := Tryd.underlying9
  a9 := Tryd.isAgg9
  z9 := Tryd.sizeOf9
  v9 := Tryd.zeroValue9
  t80 := Tryd.underlying150
  a80 := Tryd.isAgg150
  z80 := Tryd.sizeOf150
  v80 := Tryd.zeroValue150
  i0 := by kernel_rfl
  i3 := by kernel_rfl
  i4 := by kernel_rfl
  i5 := by kernel_rfl
  i9 := by kernel_rfl
  i20 := by kernel_rfl
  i37 := by kernel_rfl
  i75 := by kernel_rfl
  i80 := by kernel_rfl
  i91 := by kernel_rfl
  i93 := by kernel_rfl
  i130 := by kernel_rfl
  i131 := by kernel_rfl
  m14 := by kernel_rfl }
open Go.RowKit in
/-- (*bytes.Buffer).WriteByte: "WriteByte appends the byte c to the buffer, growing the buffer as needed. The returned error is always nil". (LAID: no walk: one application.) -/
theorem Tryd.Buffer_WriteByte_at (T : TypeId) (R : Nat → Option Value) (B b q : Nat) (bs : List Value) (c : Int) (w : World) (h : LibA.IsBuffer T R 5 B b q bs w) (hBw : B ≤ w.heap.size) (h1 : ∀ v ∈ bs, v.oneCell' = true) (hlim : bs.length + 1 ≤ 140737488355328) :
    Calls Tryd.prog 90 #[.pointer (some ⟨b, q, none⟩), .int .u8 c] w fun e w' => e = .returned .nilIface ∧ LibA.IsBuffer T R 5 B b q (bs ++ [.int .u8 c]) w' ∧ Below B w w' ∧ Lib.OthersKept 5 (some b) w w' := Any.Buffer_WriteByte_at Tryd.laysM179 T R B b q bs c w h hBw h1 hlim
open Go.RowKit Go.Lib in
theorem Tryd.strings_indexFunc_runes (g : Nat) (lb : Array Value) (eg : ∀ args w, (callFunc g args).run Tryd.prog w = .ok (.enter g args) w) (p : Nat → Bool) (truth : Bool) (s : ByteArray) (w : World) (hp : PredAtRunes Tryd.prog g lb p w) :
    Calls Tryd.prog 101 #[.string s, .func (.func g) #[] lb, .bool truth] w fun e w' => e = .returned (.int .i64 (Lib.idxFunc p truth s)) ∧ Below w.heap.size w w' := Any.strings_indexFunc_runes Tryd.lays315 g lb eg p truth s w hp
open Go.RowKit Go.Lib in
theorem Tryd.strings_IndexFunc_runes (g : Nat) (lb : Array Value) (eg : ∀ args w, (callFunc g args).run Tryd.prog w = .ok (.enter g args) w) (p : Nat → Bool) (s : ByteArray) (w : World) (hp : PredAtRunes Tryd.prog g lb p w) :
    Calls Tryd.prog 95 #[.string s, .func (.func g) #[] lb] w fun e w' => e = .returned (.int .i64 (Lib.idxFunc p true s)) ∧ Below w.heap.size w w' := Any.strings_IndexFunc_runes Tryd.laysGw15 g lb eg p s w hp
open Go.RowKit Go.Lib in
theorem Tryd.strings_ContainsFunc_runes (g : Nat) (lb : Array Value) (eg : ∀ args w, (callFunc g args).run Tryd.prog w = .ok (.enter g args) w) (p : Nat → Bool) (s : ByteArray) (w : World) (hp : PredAtRunes Tryd.prog g lb p w) :
    Calls Tryd.prog 57 #[.string s, .func (.func g) #[] lb] w fun e w' => e = .returned (.bool (decide (0 ≤ Lib.idxFunc p true s))) ∧ Below w.heap.size w w' := Any.strings_ContainsFunc_runes Tryd.laysGw17 g lb eg p s w hp
def Tryd.laysM178_ren : Go.Shelf.Ren := ⟨fun | 178 => 93 | 251 => 91 | 252 => 92 | 181 => 98 | 184 => 99 | 290 => 100 | 324 => 102 | n => n, fun | 130 => 139 | 9 => 9 | 3 => 3 | 75 => 94 | 0 => 0 | 93 => 89 | 91 => 87 | 131 => 140 | 4 => 4 | 37 => 35 | 20 => 20 | 80 => 150 | 5 => 5 | n => n, fun | 14 => 1 | n => n⟩
theorem Tryd.laysM178 : Go.Proofs.LaysM.n178 Tryd.prog Tryd.laysM178_ren := {
  mixed := by kernel_rfl
  f178 := Tryd.func93.trans (congrArg some (by kernel_rfl))
  f181 := Tryd.func98.trans (congrArg some (by kernel_rfl))
  f184 := Tryd.func99.trans (congrArg some (by kernel_rfl))
  f251 := Tryd.func91.trans (congrArg some (by kernel_rfl))
  f252 := Tryd.func92.trans (congrArg some (by kernel_rfl))
  f290 := Tryd.func100.trans (congrArg some (by kernel_rfl))
  f324 := Tryd.func102.trans (congrArg some (by kernel_rfl))
  t0 := Tryd.underlying0
  a0 := Tryd.isAgg0
  z0 := Tryd.sizeOf0
  v0 := Tryd.zeroValue0
  t3 := Tryd.underlying3
  a3 := Tryd.isAgg3
  z3 := Tryd.sizeOf3
  v3 := Tryd.zeroValue3
  t4 := Tryd.underlying4
  a4 := Tryd.isAgg4
  z4 := Tryd.sizeOf4
  v4 := Tryd.zeroValue4
  t9 := Tryd.underlying9
  a9 := Tryd.isAgg9
  z9 := Tryd.sizeOf9
  v9 := Tryd.zeroValue9
  t20 := Tryd.underlying20
  a20 := Tryd.isAgg20
  z20 := Tryd.sizeOf20
  v20 := Tryd.zeroValue20
  t37 := Tryd.underlying35
  a37 := Tryd.isAgg35
  z37 := Tryd.sizeOf35
  v37 := Tryd.zeroValue35
  t75 := Tryd.underlying94
  a75 := Tryd.isAgg94
  z75 := Tryd.sizeOf94
  v75 := Tryd.zeroValue94
  t91 := Tryd.underlying87
  a91 := Tryd.isAgg87
  z91 := Tryd.sizeOf87
  v91 := Tryd.zeroValue87
  t93 := Tryd.underlying89
  a93 := Tryd.isAgg89
  z93 := Tryd.sizeOf89
  v93 := Tryd.zeroValue89
  t130 := Tryd.underlying139
  a130 := Tryd.isAgg139
  z130 := Tryd.sizeOf139
  v130 := Tryd.zeroValue139
  t131 := Tryd.underlying140
  a131 := Tryd.isAgg140
  z131 := Tryd.sizeOf140
  v131 := Tryd.zeroValue140
  g14 := by kernel_rfl
  t5 := Tryd.underlying5
  a5 := Tryd.isAgg5
  z5 := Tryd.sizeOf5
  v5 := Tryd.zeroValue5
  t80 := Tryd.underlying150
  a80 := Tryd.isAgg150
  z80 := Tryd.sizeOf150
  v80 := Tryd.zeroValue150
  i0 := by kernel_rfl
  i3 := by kernel_rfl
  i4 := by kernel_rfl
  i5 := by kernel_rfl
  i9 := by kernel_rfl
  i20 := by kernel_rfl
  i37 := by kernel_rfl
  i75 := by kernel_rfl
  i80 := by kernel_rfl
  i91 := by kernel_rfl
  i93 := by kernel_rfl
  i130 := by kernel_rfl
  i131 := by kernel_rfl
  m14 := by kernel_rfl }
open Go.RowKit in
/-- (*bytes.Buffer).WriteString: "WriteString appends the contents of s to the buffer, growing the buffer as needed. The return value n is the length of s; err is always nil." (LAID: no walk: one application.) -/
theorem Tryd.Buffer_WriteString_at (T : TypeId) (R : Nat → Option Value) (B b q : Nat) (bs : List Value) (s : ByteArray) (w : World) (h : LibA.IsBuffer T R 5 B b q bs w) (hBw : B ≤ w.heap.size) (h1 : ∀ v ∈ bs, v.oneCell' = true) (hlim : bs.length + s.size ≤ 140737488355328) :
    Calls Tryd.prog 93 #[.pointer (some ⟨b, q, none⟩), .string s] w fun e w' => e = .returned (.tuple #[.int .i64 s.size, .nilIface]) ∧ LibA.IsBuffer T R 5 B b q (bs ++ Lib.byteCells s.data.toList) w' ∧ Below B w w' ∧ Lib.OthersKept 5 (some b) w w' := Any.Buffer_WriteString_at Tryd.laysM178 T R B b q bs s w h hBw h1 hlim
def Tryd.laysM180_ren : Go.Shelf.Ren := ⟨fun | 180 => 46 | 251 => 91 | 252 => 92 | 181 => 98 | 184 => 99 | 290 => 100 | 324 => 102 | n => n, fun | 130 => 139 | 37 => 35 | 3 => 3 | 75 => 94 | 0 => 0 | 93 => 89 | 91 => 87 | 131 => 140 | 4 => 4 | 20 => 20 | 5 => 5 | 80 => 150 | 9 => 9 | n => n, fun | 14 => 1 | n => n⟩
theorem Tryd.laysM180 : Go.Proofs.LaysM.n180 Tryd.prog Tryd.laysM180_ren := {
  mixed := by kernel_rfl
  f180 := Tryd.func46.trans (congrArg some (by kernel_rfl))
  f181 := Tryd.func98.trans (congrArg some (by kernel_rfl))
  f184 := Tryd.func99.trans (congrArg some (by kernel_rfl))
  f251 := Tryd.func91.trans (congrArg some (by kernel_rfl))
  f252 := Tryd.func92.trans (congrArg some (by kernel_rfl))
  f290 := Tryd.func100.trans (congrArg some (by kernel_rfl))
  f324 := Tryd.func102.trans (congrArg some (by kernel_rfl))
  t0 := Tryd.underlying0
  a0 := Tryd.isAgg0
  z0 := Tryd.sizeOf0
  v0 := Tryd.zeroValue0
  t3 := Tryd.underlying3
  a3 := Tryd.isAgg3
  z3 := Tryd.sizeOf3
  v3 := Tryd.zeroValue3
  t4 := Tryd.underlying4
  a4 := Tryd.isAgg4
  z4 := Tryd.sizeOf4
  v4 := Tryd.zeroValue4
  t20 := Tryd.underlying20
  a20 := Tryd.isAgg20
  z20 := Tryd.sizeOf20
  v20 := Tryd.zeroValue20
  t37 := Tryd.underlying35
  a37 := Tryd.isAgg35
  z37 := Tryd.sizeOf35
  v37 := Tryd.zeroValue35
  t75 := Tryd.underlying94
  a75 := Tryd.isAgg94
  z75 := Tryd.sizeOf94
  v75 := Tryd.zeroValue94
  t91 := Tryd.underlying87
  a91 := Tryd.isAgg87
  z91 := Tryd.sizeOf87
  v91 := Tryd.zeroValue87
  t93 := Tryd.underlying89
  a93 := Tryd.isAgg89
  z93 := Tryd.sizeOf89
  v93 := Tryd.zeroValue89
  t130 := Tryd.underlying139
  a130 := Tryd.isAgg139
  z130 := Tryd.sizeOf139
  v130 := Tryd.zeroValue139
  t131 := Tryd.underlying140
  a131 := Tryd.isAgg140
  z131 := Tryd.sizeOf140
  v131 := Tryd.zeroValue140
  g14 := by kernel_rfl
  t5 := Tryd.underlying5
  a5 := Tryd.isAgg5
  z5 := Tryd.sizeOf5
  v5 := Tryd.zeroValue5
  t9 := Tryd.underlying9
  a9 := Tryd.isAgg9
  z9 := Tryd.sizeOf9
  v9 := Tryd.zeroValue9
  t80 := Tryd.underlying150
  a80 := Tryd.isAgg150
  z80 := Tryd.sizeOf150
  v80 := Tryd.zeroValue150
  i0 := by kernel_rfl
  i3 := by kernel_rfl
  i4 := by kernel_rfl
  i5 := by kernel_rfl
  i9 := by kernel_rfl
  i20 := by kernel_rfl
  i37 := by kernel_rfl
  i75 := by kernel_rfl
  i80 := by kernel_rfl
  i91 := by kernel_rfl
  i93 := by kernel_rfl
  i130 := by kernel_rfl
  i131 := by kernel_rfl
  m14 := by kernel_rfl }
open Go.RowKit in
/-- (*bytes.Buffer).Write: "Write appends the contents of p to the buffer, growing the buffer as needed. The return value n is the length of p; err is always nil." (LAID: no walk: one application.) -/
theorem Tryd.Buffer_Write_at (T : TypeId) (R : Nat → Option Value) (B b q : Nat) (bs cs : List Value) (a : Addr) (n c : Nat) (w : World) (h : LibA.IsBuffer T R 5 B b q bs w) (hBw : B ≤ w.heap.size) (h1 : ∀ v ∈ bs, v.oneCell' = true) (hn : cs.length = n) (hab : a.block ≠ b) (hsrc : ∀ j v, cs[j]? = some v → w.cell? (a.add j) = some v) (h1c : ∀ v ∈ cs, v.oneCell' = true) (hlim : bs.length + n ≤ 140737488355328) :
    Calls Tryd.prog 46 #[.pointer (some ⟨b, q, none⟩), .slice (some a) n c] w fun e w' => e = .returned (.tuple #[.int .i64 n, .nilIface]) ∧ LibA.IsBuffer T R 5 B b q (bs ++ cs) w' ∧ Below B w w' ∧ Lib.OthersKept 5 (some b) w w' := Any.Buffer_Write_at Tryd.laysM180 T R B b q bs cs a n c w h hBw h1 hn hab hsrc h1c hlim
def Tryd.laysnb115_ren : Go.Shelf.Ren := ⟨fun | 115 => 73 | n => n, fun | 37 => 35 | 4 => 4 | 9 => 9 | 5 => 5 | n => n, fun | n => n⟩
theorem Tryd.laysnb115 : Go.Proofs.Lays.nb115 Tryd.prog Tryd.laysnb115_ren := {
  mixed := by kernel_rfl
  f115 := Tryd.func73.trans (congrArg some (by kernel_rfl))
  t4 := Tryd.underlying4
  a4 := Tryd.isAgg4
  z4 := Tryd.sizeOf4
  v4 := Tryd.zeroValue4
  t9 := Tryd.underlying9
  a9 := Tryd.isAgg9
  z9 := Tryd.sizeOf9
  v9 := Tryd.zeroValue9
  t37 := Tryd.underlying35
  a37 := Tryd.isAgg35
  z37 := Tryd.sizeOf35
  v37 := Tryd.zeroValue35
  t5 := Tryd.underlying5
  a5 := Tryd.isAgg5
  z5 := Tryd.sizeOf5
  v5 := Tryd.zeroValue5 }
/-- bytes.Equal: WHOLE. (LAID: no walk: one application.) -/
theorem Tryd.bytes_Equal_all (p1 p2 : Option Addr) (n c m d : Nat) (xs ys : List Int) (w : World) (hx : xs.length = n) (hy : ys.length = m) (h1 : Lib.BytesIn w p1 n xs) (h2 : Lib.BytesIn w p2 m ys) :
    Calls Tryd.prog 73 #[.slice p1 n c, .slice p2 m d] w fun e w' => e = .returned (.bool (Lib.bytesOf xs == Lib.bytesOf ys)) ∧ w' = w := Any.bytes_Equal_all Tryd.laysnb115 p1 p2 n c m d xs ys w hx hy h1 h2
def Tryd.lays115_ren : Go.Shelf.Ren := ⟨fun | 115 => 73 | n => n, fun | 37 => 35 | 4 => 4 | 9 => 9 | 5 => 5 | n => n, fun | n => n⟩
theorem Tryd.lays115 : Go.Proofs.Lays.n115 Tryd.prog Tryd.lays115_ren := {
  mixed := by kernel_rfl
  f115 := Tryd.func73.trans (congrArg some (by kernel_rfl))
  t4 := Tryd.underlying4
  a4 := Tryd.isAgg4
  z4 := Tryd.sizeOf4
  v4 := Tryd.zeroValue4
  t9 := Tryd.underlying9
  a9 := Tryd.isAgg9
  z9 := Tryd.sizeOf9
  v9 := Tryd.zeroValue9
  t37 := Tryd.underlying35
  a37 := Tryd.isAgg35
  z37 := Tryd.sizeOf35
  v37 := Tryd.zeroValue35 }
/-- bytes.Equal: "Equal reports whether a and b are the same length and contain the same bytes. A nil argument is equivalent to an empty slice.": IT RETURNS 'the bytes of the one == the bytes of the other'; the world is as it was. THE TWO ARGUMENTS COME AS WHATEVER VALUES, each with the one fact that the walk wants of it: what 'string(..)' of it gives: for a slice whose cells you know: 'run_convert_bytes_arg' (Derived/Laws/BytesArg.lean) hands that fact; for a nil one: 'run_convert_bytes_nil' (with xs := []). (LAID: no walk: one application.) -/
theorem Tryd.bytes_Equal (v1 v2 : Value) (xs ys : List Int) (w : World) (h1 : (convert 35 9 v1).run Tryd.prog w = .ok (.string (strOfNums xs)) w) (h2 : (convert 35 9 v2).run Tryd.prog w = .ok (.string (strOfNums ys)) w) :
    Calls Tryd.prog 73 #[v1, v2] w fun e w' => e = .returned (.bool (Lib.bytesOf xs == Lib.bytesOf ys)) ∧ w' = w := Any.bytes_Equal Tryd.lays115 v1 v2 xs ys w h1 h2
end Go.Proofs
end
section
namespace Go.Proofs.YtegbdcadlmefgaaDoor
open Go.RowKit V
set_option maxRecDepth 100000
set_option maxHeartbeats 8000000
set_option linter.unusedSimpArgs false
attribute [local irreducible] V.Sat V.DSat
theorem compare_spec (a b : List UInt8) : Fun Tryd.prog [] 41 [.str a, .str b] (.int .i64 (Lib.compareBytes a b)) := by
  intro T w vs hT hG ht
  cases ht with
  | cons s v l vs1 hr hl =>
    cases hl with
    | cons s2 v2 l2 vs2 hr2 hl3 =>
      cases hl3
      cases hr
      cases hr2
      refine (Tryd.strings_Compare ⟨a.toArray⟩ ⟨b.toArray⟩ w).mono ?_
      rintro e w' ⟨rfl, rfl⟩
      have : ∀ a b : List UInt8, -1 ≤ Lib.compareBytes a b ∧ Lib.compareBytes a b ≤ 1 := by
        intro a
        induction a with
        | nil => intro b; cases b <;> simp [Lib.compareBytes]
        | cons x r ih =>
          intro b
          cases b with
          | nil => simp [Lib.compareBytes]
          | cons y s =>
            simp only [Lib.compareBytes]
            split
            · omega
            · split
              · omega
              · exact ih s
      have hb := this a b
      exact ⟨_, rfl, .int _ _ (inR_i64 (by omega) (by omega)), Below.refl _ _⟩
theorem cmp_less (a b : List UInt8) : Lib.compareBytes a b < 0 ↔ Op.bytesLess a b = true := by
  induction a generalizing b with
  | nil => cases b <;> simp [Lib.compareBytes, Op.bytesLess]
  | cons x r ih =>
    cases b with
    | nil => simp [Lib.compareBytes, Op.bytesLess]
    | cons y s =>
      simp only [Lib.compareBytes, Op.bytesLess, Bool.or_eq_true, Bool.and_eq_true, decide_eq_true_eq, beq_iff_eq]
      split
      · rename_i h; simp [h]
      · rename_i h
        split
        · rename_i h2
          have : x ≠ y := fun e => by subst e; exact h h2
          simp [h, this]
        · rename_i h2
          have e : x = y := UInt8.toNat_inj.1 (by rw [UInt8.lt_iff_toNat_lt] at h h2; omega)
          subst e
          simp [ih s]
@[reducible] def PartL.v (p : PartL) : SV := .agg [.str p.name, .arr 32 (.u8 p.hash)]
theorem partc_spec (p q : PartL) : Fun Tryd.prog [] 40 [p.v, q.v] (.int .i64 (Lib.compareBytes p.name q.name)) := by
  obtain ⟨n1, h1⟩ := p
  obtain ⟨n2, h2⟩ := q
  have hc := compare_spec n1 n2
  refine Fun.mk 6 Tryd.func40 rfl Tryd.ntmps40 rfl rfl fun T w0 => ?_
  repeat' (first
      | ((with_reducible apply Sat.run (X := X64)); exact rfl; (first | exact True.intro | (exact phi) | skip))
      | ((with_reducible apply Sat.drawn); kernel_rfl)
      | ((with_reducible apply DSat.run (X := X64)); exact rfl; (first | exact True.intro | (exact phi) | skip))
      | ((with_reducible apply DSat.fin); kernel_rfl)
      | ((with_reducible apply Sat.cond_t); exact rfl)
      | ((with_reducible apply Sat.cond_f); exact rfl)
      | ((with_reducible apply Sat.cond_pt); exact rfl; (try dsimp only [V.EV.sub, V.EV.len]); first | assumption | omega)
      | ((with_reducible apply Sat.cond_pf); exact rfl; (try dsimp only [V.EV.sub, V.EV.len]); first | assumption | omega)
      | ((with_reducible apply Sat.cond_p); exact rfl; all_goals (intro h; (try simp only [V.EV.sub, V.EV.len] at h)))
      | ((with_reducible apply Sat.cond); exact rfl; all_goals (intro h; (try simp only [V.EV.sub, V.EV.len, Bool.cond_true_left, Bool.cond_false_right, Bool.or_eq_true, Bool.and_eq_true, Bool.or_eq_false_iff, Bool.and_eq_false_iff, Bool.not_eq_true', Bool.not_eq_false', decide_eq_true_eq, decide_eq_false_iff_not, ne_eq] at h)))
      | ((with_reducible apply Sat.callR (hc)); exact rfl; exact rfl; exact rfl; kernel_rfl; (exact cnv); exact rfl)
      | ((with_reducible apply DSat.callR (hc)); exact rfl; exact rfl; exact rfl; kernel_rfl; (exact cnv); exact rfl) | fail)
  (refine Sat.fin (Sat.end1 rfl rfl rfl True.intro (.refl _ pur) (by first | exact .inl rfl | exact .inr rfl) (fun _ h => h)) ?_; rfl)
def risP (l : List PartL) : Bool := decide (∀ i, i < l.length → 0 < i → Op.bytesLess (l.getD (i - 1) part0).name (l.getD i part0).name = true)
theorem rising_part (l : List PartL) : Fun Tryd.prog [] 39 [.ro (partsE l), .fn 40 []] (.bool (risP l)) := by
  refine Fun.mkF 6 Tryd.func39 rfl Tryd.ntmps39 rfl rfl fun hf T w0 => ?_
  obtain ⟨⟨hl, _⟩, _⟩ := hf
  dsimp only [EV.len] at hl
  unfold okLen at hl
  repeat' (first
      | ((with_reducible apply Sat.run (X := X64)); exact rfl; (first | exact True.intro | (exact phi) | skip))
      | ((with_reducible apply Sat.drawn); kernel_rfl)
      | ((with_reducible apply DSat.run (X := X64)); exact rfl; (first | exact True.intro | (exact phi) | skip))
      | ((with_reducible apply DSat.fin); kernel_rfl)
      | ((with_reducible apply Sat.cond_t); exact rfl)
      | ((with_reducible apply Sat.cond_f); exact rfl)
      | ((with_reducible apply Sat.cond_pt); exact rfl; (try dsimp only [V.EV.sub, V.EV.len]); first | assumption | omega)
      | ((with_reducible apply Sat.cond_pf); exact rfl; (try dsimp only [V.EV.sub, V.EV.len]); first | assumption | omega)
      | ((with_reducible apply Sat.cond_p); exact rfl; all_goals (intro h; (try simp only [V.EV.sub, V.EV.len] at h)))
      | ((with_reducible apply Sat.cond); exact rfl; all_goals (intro h; (try simp only [V.EV.sub, V.EV.len, Bool.cond_true_left, Bool.cond_false_right, Bool.or_eq_true, Bool.and_eq_true, Bool.or_eq_false_iff, Bool.and_eq_false_iff, Bool.not_eq_true', Bool.not_eq_false', decide_eq_true_eq, decide_eq_false_iff_not, ne_eq] at h))) | fail)
  apply Sat.loop (α := Nat) (fun x => (1 ≤ x ∧ (x ≤ l.length ∨ x = 1)) ∧ ∀ i, i < x → 0 < i → Op.bytesLess (l.getD (i - 1) part0).name (l.getD i part0).name = true) (fun x => l.length + 1 - x) 1 (fun x => [(5, .int .i64 (x : Int))]) (fun _ => []) [] [] 0
  · intro x; exact rfl
  · intro x; exact rfl
  · exact rfl
  · exact rfl
  · (repeat' (first | exact AllP.nil | with_reducible refine AllP.cons ?_ ?_)) <;> first | exact rfl | exact trivial | (intro _ _; simp [pureL, pureS, pureE]; done)
  · exact ⟨⟨Nat.le_refl _, .inr rfl⟩, fun i hi h0 => by omega⟩
  · rintro x ⟨⟨x0, x1⟩, x2⟩
    have hc := partc_spec (l.getD ((x : Int) - 1).toNat part0) (l.getD (x : Int).toNat part0)
    have e1 : ((x : Int) - 1).toNat = x - 1 := by omega
    have e2 : (x : Int).toNat = x := rfl
    repeat' (first
        | ((with_reducible apply Sat.run (X := X64)); exact rfl; (first | exact True.intro | (exact phi) | skip))
        | ((with_reducible apply Sat.drawn); kernel_rfl)
        | ((with_reducible apply DSat.run (X := X64)); exact rfl; (first | exact True.intro | (exact phi) | skip))
        | ((with_reducible apply DSat.fin); kernel_rfl)
        | ((with_reducible apply Sat.cond_t); exact rfl)
        | ((with_reducible apply Sat.cond_f); exact rfl)
        | ((with_reducible apply Sat.cond_pt); exact rfl; (try dsimp only [V.EV.sub, V.EV.len]); first | assumption | omega)
        | ((with_reducible apply Sat.cond_pf); exact rfl; (try dsimp only [V.EV.sub, V.EV.len]); first | assumption | omega)
        | ((with_reducible apply Sat.cond_p); exact rfl; all_goals (intro h; (try simp only [V.EV.sub, V.EV.len] at h)))
        | ((with_reducible apply Sat.cond); exact rfl; all_goals (intro h; (try simp only [V.EV.sub, V.EV.len, Bool.cond_true_left, Bool.cond_false_right, Bool.or_eq_true, Bool.and_eq_true, Bool.or_eq_false_iff, Bool.and_eq_false_iff, Bool.not_eq_true', Bool.not_eq_false', decide_eq_true_eq, decide_eq_false_iff_not, ne_eq] at h)))
        | ((with_reducible apply Sat.callR (hc)); exact rfl; exact rfl; exact rfl; kernel_rfl; (exact cnv); exact rfl)
        | ((with_reducible apply DSat.callR (hc)); exact rfl; exact rfl; exact rfl; kernel_rfl; (exact cnv); exact rfl) | fail)
    · (refine Sat.fin (Sat.end1 rfl rfl rfl True.intro (.refl _ pur) (by first | exact .inl rfl | exact .inr rfl) (fun _ h => h)) ?_; (rw [e1, e2] at h; exact congrArg SV.bool (decide_eq_false fun e => by have := (cmp_less _ _).2 (e x (by omega) (by omega)); omega)))
    · refine Sat.back (x + 1) [] rfl ?_ ?_ ?_
      · (repeat' (first | exact AllP.nil | with_reducible refine AllP.cons ?_ ?_)) <;> first | exact rfl | exact trivial | exact Int.natCast_add_one _ | (intro _ _; simp [pureL, pureS, pureE]; done)
      · refine ⟨by omega, fun i hi h0 => ?_⟩
        rcases Nat.lt_succ_iff_lt_or_eq.1 hi with h1 | rfl
        · exact x2 i h1 h0
        · rw [e1, e2] at h; exact (cmp_less _ _).1 (by omega)
      · omega
    · (refine Sat.fin (Sat.end1 rfl rfl rfl True.intro (.refl _ pur) (by first | exact .inl rfl | exact .inr rfl) (fun _ h => h)) ?_; (exact congrArg SV.bool (decide_eq_true fun i hi h0 => x2 i (by omega) h0)))
end Go.Proofs.YtegbdcadlmefgaaDoor
end
section
namespace Go.Proofs.YtegbdcadlmefgaaDoor
open Go.RowKit V
--PURE: (intro _ _; simp [pureL, pureS, pureE]; done)
set_option maxRecDepth 100000
set_option maxHeartbeats 8000000
set_option linter.unusedSimpArgs false
attribute [local irreducible] V.Sat V.DSat
theorem indexFunc_part (p : PartL → Bool) (f : FuncId) (hcl : callable Tryd.prog f = true) (hp : ∀ x : PartL, Fun Tryd.prog [] f [x.v] (.bool (p x))) (l : List PartL) : Fun Tryd.prog [] 87 [.ro (partsE l), .fn f []] (.int .i64 (idxL p l 0)) := by
  refine Fun.mkF 6 Tryd.func87 rfl Tryd.ntmps87 rfl rfl fun hf T w0 => ?_
  obtain ⟨⟨hl, _⟩, _⟩ := hf
  dsimp only [EV.len] at hl
  unfold okLen at hl
  repeat' (first
      | ((with_reducible apply Sat.run (X := X64)); exact rfl; (first | exact True.intro | (exact phi) | skip))
      | ((with_reducible apply Sat.drawn); kernel_rfl)
      | ((with_reducible apply DSat.run (X := X64)); exact rfl; (first | exact True.intro | (exact phi) | skip))
      | ((with_reducible apply DSat.fin); kernel_rfl)
      | ((with_reducible apply Sat.cond_t); exact rfl)
      | ((with_reducible apply Sat.cond_f); exact rfl)
      | ((with_reducible apply Sat.cond_pt); exact rfl; (try dsimp only [V.EV.sub, V.EV.len]); first | assumption | omega)
      | ((with_reducible apply Sat.cond_pf); exact rfl; (try dsimp only [V.EV.sub, V.EV.len]); first | assumption | omega)
      | ((with_reducible apply Sat.cond_p); exact rfl; all_goals (intro h; (try simp only [V.EV.sub, V.EV.len] at h)))
      | ((with_reducible apply Sat.cond); exact rfl; all_goals (intro h; (try simp only [V.EV.sub, V.EV.len, Bool.cond_true_left, Bool.cond_false_right, Bool.or_eq_true, Bool.and_eq_true, Bool.or_eq_false_iff, Bool.and_eq_false_iff, Bool.not_eq_true', Bool.not_eq_false', decide_eq_true_eq, decide_eq_false_iff_not, ne_eq] at h))) | fail)
  apply Sat.loop (α := Nat) (fun x => x ≤ l.length ∧ ∀ i, i < x → p (l.getD i part0) = false) (fun x => l.length - x) 0 (fun x => [(8, .int .i64 (x : Int))]) (fun _ => []) [] [] 0
  · intro x; exact rfl
  · intro x; exact rfl
  · exact rfl
  · exact rfl
  · (repeat' (first | exact AllP.nil | with_reducible refine AllP.cons ?_ ?_)) <;> first | exact rfl | exact trivial | (intro _ _; simp [pureL, pureS, pureE]; done)
  · exact ⟨Nat.zero_le _, fun i hi => by omega⟩
  · rintro x ⟨x1, x2⟩
    have hc := hp (l.getD (x : Int).toNat part0)
    repeat' (first
        | ((with_reducible apply Sat.run (X := X64)); exact rfl; (first | exact True.intro | (exact phi) | skip))
        | ((with_reducible apply Sat.drawn); kernel_rfl)
        | ((with_reducible apply DSat.run (X := X64)); exact rfl; (first | exact True.intro | (exact phi) | skip))
        | ((with_reducible apply DSat.fin); kernel_rfl)
        | ((with_reducible apply Sat.cond_t); exact rfl)
        | ((with_reducible apply Sat.cond_f); exact rfl)
        | ((with_reducible apply Sat.cond_pt); exact rfl; (try dsimp only [V.EV.sub, V.EV.len]); first | assumption | omega)
        | ((with_reducible apply Sat.cond_pf); exact rfl; (try dsimp only [V.EV.sub, V.EV.len]); first | assumption | omega)
        | ((with_reducible apply Sat.cond_p); exact rfl; all_goals (intro h; (try simp only [V.EV.sub, V.EV.len] at h)))
        | ((with_reducible apply Sat.cond); exact rfl; all_goals (intro h; (try simp only [V.EV.sub, V.EV.len, Bool.cond_true_left, Bool.cond_false_right, Bool.or_eq_true, Bool.and_eq_true, Bool.or_eq_false_iff, Bool.and_eq_false_iff, Bool.not_eq_true', Bool.not_eq_false', decide_eq_true_eq, decide_eq_false_iff_not, ne_eq] at h)))
        | ((with_reducible apply Sat.callR (hc)); exact rfl; exact rfl; exact rfl; exact hcl; (exact cnvX); exact rfl)
        | ((with_reducible apply DSat.callR (hc)); exact rfl; exact rfl; exact rfl; exact hcl; (exact cnvX); exact rfl) | fail)
    · (refine Sat.fin (Sat.end1 rfl rfl rfl True.intro (.refl _ purX) (by first | exact .inl rfl | exact .inr rfl) (fun _ h => h)) ?_; (exact congrArg (SV.int .i64) ((idxL_at p part0 l 0 x x2 (by omega) h).trans (by simp))))
    · refine Sat.back (x + 1) [] rfl ?_ ?_ ?_
      · (repeat' (first | exact AllP.nil | with_reducible refine AllP.cons ?_ ?_)) <;> first | exact rfl | exact trivial | exact Int.natCast_add_one _ | (intro _ _; simp [pureL, pureS, pureE]; done)
      · refine ⟨by omega, fun i hi => ?_⟩
        rcases Nat.lt_succ_iff_lt_or_eq.1 hi with h1 | rfl
        · exact x2 i h1
        · exact h
      · omega
    · (refine Sat.fin (Sat.end1 rfl rfl rfl True.intro (.refl _ purX) (by first | exact .inl rfl | exact .inr rfl) (fun _ h => h)) ?_; (exact congrArg (SV.int .i64) (idxL_none p part0 l 0 fun i hi => x2 i (by omega))))
theorem containsFunc_part (p : PartL → Bool) (f : FuncId) (hcl : callable Tryd.prog f = true) (hp : ∀ x : PartL, Fun Tryd.prog [] f [x.v] (.bool (p x))) (l : List PartL) : Fun Tryd.prog [] 36 [.ro (partsE l), .fn f []] (.bool (l.any p)) := by
  have hi := indexFunc_part p f hcl hp l
  refine Fun.mk 6 Tryd.func36 rfl Tryd.ntmps36 rfl rfl fun T w0 => ?_
  repeat' (first
      | ((with_reducible apply Sat.run (X := X64)); exact rfl; (first | exact True.intro | (exact phi) | skip))
      | ((with_reducible apply Sat.drawn); kernel_rfl)
      | ((with_reducible apply DSat.run (X := X64)); exact rfl; (first | exact True.intro | (exact phi) | skip))
      | ((with_reducible apply DSat.fin); kernel_rfl)
      | ((with_reducible apply Sat.cond_t); exact rfl)
      | ((with_reducible apply Sat.cond_f); exact rfl)
      | ((with_reducible apply Sat.cond_pt); exact rfl; (try dsimp only [V.EV.sub, V.EV.len]); first | assumption | omega)
      | ((with_reducible apply Sat.cond_pf); exact rfl; (try dsimp only [V.EV.sub, V.EV.len]); first | assumption | omega)
      | ((with_reducible apply Sat.cond_p); exact rfl; all_goals (intro h; (try simp only [V.EV.sub, V.EV.len] at h)))
      | ((with_reducible apply Sat.cond); exact rfl; all_goals (intro h; (try simp only [V.EV.sub, V.EV.len, Bool.cond_true_left, Bool.cond_false_right, Bool.or_eq_true, Bool.and_eq_true, Bool.or_eq_false_iff, Bool.and_eq_false_iff, Bool.not_eq_true', Bool.not_eq_false', decide_eq_true_eq, decide_eq_false_iff_not, ne_eq] at h)))
      | ((with_reducible apply Sat.callR (hi)); exact rfl; exact rfl; exact rfl; kernel_rfl; (exact cnvX); exact rfl)
      | ((with_reducible apply DSat.callR (hi)); exact rfl; exact rfl; exact rfl; kernel_rfl; (exact cnvX); exact rfl) | fail)
  all_goals (refine Sat.fin (Sat.end1 rfl rfl rfl True.intro (.refl _ purX) (by first | exact .inl rfl | exact .inr rfl) (fun _ h => h)) ?_; (exact congrArg SV.bool (idxL_any p l 0).symm))
theorem partn_spec (hn : ∀ s, Fun Tryd.prog [] 38 [.str s] (.bool (nameB s))) (p : PartL) : Fun Tryd.prog [] 37 [p.v] (.bool (!nameB p.name)) := by
  obtain ⟨n, h⟩ := p
  have hc := hn n
  refine Fun.mk 6 Tryd.func37 rfl Tryd.ntmps37 rfl rfl fun T w0 => ?_
  repeat' (first
      | ((with_reducible apply Sat.run (X := X64)); exact rfl; (first | exact True.intro | (exact phi) | skip))
      | ((with_reducible apply Sat.drawn); kernel_rfl)
      | ((with_reducible apply DSat.run (X := X64)); exact rfl; (first | exact True.intro | (exact phi) | skip))
      | ((with_reducible apply DSat.fin); kernel_rfl)
      | ((with_reducible apply Sat.cond_t); exact rfl)
      | ((with_reducible apply Sat.cond_f); exact rfl)
      | ((with_reducible apply Sat.cond_pt); exact rfl; (try dsimp only [V.EV.sub, V.EV.len]); first | assumption | omega)
      | ((with_reducible apply Sat.cond_pf); exact rfl; (try dsimp only [V.EV.sub, V.EV.len]); first | assumption | omega)
      | ((with_reducible apply Sat.cond_p); exact rfl; all_goals (intro h; (try simp only [V.EV.sub, V.EV.len] at h)))
      | ((with_reducible apply Sat.cond); exact rfl; all_goals (intro h; (try simp only [V.EV.sub, V.EV.len, Bool.cond_true_left, Bool.cond_false_right, Bool.or_eq_true, Bool.and_eq_true, Bool.or_eq_false_iff, Bool.and_eq_false_iff, Bool.not_eq_true', Bool.not_eq_false', decide_eq_true_eq, decide_eq_false_iff_not, ne_eq] at h)))
      | ((with_reducible apply Sat.callR (hc)); exact rfl; exact rfl; exact rfl; kernel_rfl; (exact cnvX); exact rfl)
      | ((with_reducible apply DSat.callR (hc)); exact rfl; exact rfl; exact rfl; kernel_rfl; (exact cnvX); exact rfl) | fail)
  (refine Sat.fin (Sat.end1 rfl rfl rfl True.intro (.refl _ purX) (by first | exact .inl rfl | exact .inr rfl) (fun _ h => h)) ?_; rfl)
def validP (r : Rel) : Bool := inB r.version 1 60000 && (inB r.floor 0 r.version && (inB r.expiry 0 1000000000 && (inB r.size 0 65536 && (inB r.chunks 1 256 && (decide (r.gone.length ≤ 16) && ((!r.gone.any fun n => !inB n 0 1000000000) && (withinB r.gone 0 60000 && ((!r.gone.any fun y => decide (r.version = y)) && (decide (r.parts.length ≤ 8) && ((!r.parts.any fun p => !nameB p.name) && risP r.parts))))))))))
theorem valid_walk (hn : ∀ s, Fun Tryd.prog [] 38 [.str s] (.bool (nameB s))) (r : Rel) : Fun Tryd.prog [] 12 [r.v] (.bool (validP r)) := by
  obtain ⟨v, fl, ex, sz, im, ch, tr, go, pa⟩ := r
  have i1 := in_spec v 1 60000
  have i2 := in_spec fl 0 v
  have i3 := in_spec ex 0 1000000000
  have i4 := in_spec sz 0 65536
  have i5 := in_spec ch 1 256
  have s1 := small_spec go
  have w1 := within_spec go 0 60000
  have c1 := contains_int v go
  have c2 := containsFunc_part (fun p => !nameB p.name) 37 (by kernel_rfl) (partn_spec hn) pa
  have r1 := rising_part pa
  rcases Bool.eq_false_or_eq_true (inB v 1 60000) with h0 | h0 <;> rw [h0] at i1
  rotate_left
  · refine Fun.mkF 7 Tryd.func12 rfl Tryd.ntmps12 rfl rfl fun hf T w0 => ?_
    repeat' (first
        | ((with_reducible apply Sat.run (X := X64)); exact rfl; (first | exact True.intro | (exact phi) | skip))
        | ((with_reducible apply Sat.drawn); kernel_rfl)
        | ((with_reducible apply DSat.run (X := X64)); exact rfl; (first | exact True.intro | (exact phi) | skip))
        | ((with_reducible apply DSat.fin); kernel_rfl)
        | ((with_reducible apply Sat.cond_t); exact rfl)
        | ((with_reducible apply Sat.cond_f); exact rfl)
        | ((with_reducible apply Sat.cond_pt); exact rfl; (try dsimp only [V.EV.sub, V.EV.len]); first | assumption | omega)
        | ((with_reducible apply Sat.cond_pf); exact rfl; (try dsimp only [V.EV.sub, V.EV.len]); first | assumption | omega)
        | ((with_reducible apply Sat.cond_p); exact rfl; all_goals (intro h; (try simp only [V.EV.sub, V.EV.len] at h)))
        | ((with_reducible apply Sat.cond); exact rfl; all_goals (intro h; (try simp only [V.EV.sub, V.EV.len, Bool.cond_true_left, Bool.cond_false_right, Bool.or_eq_true, Bool.and_eq_true, Bool.or_eq_false_iff, Bool.and_eq_false_iff, Bool.not_eq_true', Bool.not_eq_false', decide_eq_true_eq, decide_eq_false_iff_not, ne_eq] at h)))
        | ((with_reducible apply Sat.callR (i1)); exact rfl; exact rfl; exact rfl; kernel_rfl; (exact cnvX); exact rfl)
        | ((with_reducible apply DSat.callR (i1)); exact rfl; exact rfl; exact rfl; kernel_rfl; (exact cnvX); exact rfl)
        | ((with_reducible apply Sat.callR (i2)); exact rfl; exact rfl; exact rfl; kernel_rfl; (exact cnvX); exact rfl)
        | ((with_reducible apply DSat.callR (i2)); exact rfl; exact rfl; exact rfl; kernel_rfl; (exact cnvX); exact rfl)
        | ((with_reducible apply Sat.callR (i3)); exact rfl; exact rfl; exact rfl; kernel_rfl; (exact cnvX); exact rfl)
        | ((with_reducible apply DSat.callR (i3)); exact rfl; exact rfl; exact rfl; kernel_rfl; (exact cnvX); exact rfl)
        | ((with_reducible apply Sat.callR (i4)); exact rfl; exact rfl; exact rfl; kernel_rfl; (exact cnvX); exact rfl)
        | ((with_reducible apply DSat.callR (i4)); exact rfl; exact rfl; exact rfl; kernel_rfl; (exact cnvX); exact rfl)
        | ((with_reducible apply Sat.callR (i5)); exact rfl; exact rfl; exact rfl; kernel_rfl; (exact cnvX); exact rfl)
        | ((with_reducible apply DSat.callR (i5)); exact rfl; exact rfl; exact rfl; kernel_rfl; (exact cnvX); exact rfl)
        | ((with_reducible apply Sat.callR (s1)); exact rfl; exact rfl; exact rfl; kernel_rfl; (exact cnvX); exact rfl)
        | ((with_reducible apply DSat.callR (s1)); exact rfl; exact rfl; exact rfl; kernel_rfl; (exact cnvX); exact rfl)
        | ((with_reducible apply Sat.callR (w1)); exact rfl; exact rfl; exact rfl; kernel_rfl; (exact cnvX); exact rfl)
        | ((with_reducible apply DSat.callR (w1)); exact rfl; exact rfl; exact rfl; kernel_rfl; (exact cnvX); exact rfl)
        | ((with_reducible apply Sat.callR (c1)); exact rfl; exact rfl; exact rfl; kernel_rfl; (exact cnvX); exact rfl)
        | ((with_reducible apply DSat.callR (c1)); exact rfl; exact rfl; exact rfl; kernel_rfl; (exact cnvX); exact rfl)
        | ((with_reducible apply Sat.callR (c2)); exact rfl; exact rfl; exact rfl; kernel_rfl; (exact cnvX); exact rfl)
        | ((with_reducible apply DSat.callR (c2)); exact rfl; exact rfl; exact rfl; kernel_rfl; (exact cnvX); exact rfl)
        | ((with_reducible apply Sat.callR (r1)); exact rfl; exact rfl; exact rfl; kernel_rfl; (exact cnvX); exact rfl)
        | ((with_reducible apply DSat.callR (r1)); exact rfl; exact rfl; exact rfl; kernel_rfl; (exact cnvX); exact rfl) | fail)
    all_goals (refine Sat.fin (Sat.end1 rfl rfl rfl True.intro (.refl _ purX) (by first | exact .inl rfl | exact .inr rfl) (fun _ h => h)) ?_; (refine congrArg SV.bool ?_; unfold validP; simp [h0]))
  rcases Bool.eq_false_or_eq_true (inB fl 0 v) with h1 | h1 <;> rw [h1] at i2
  rotate_left
  · refine Fun.mkF 7 Tryd.func12 rfl Tryd.ntmps12 rfl rfl fun hf T w0 => ?_
    repeat' (first
        | ((with_reducible apply Sat.run (X := X64)); exact rfl; (first | exact True.intro | (exact phi) | skip))
        | ((with_reducible apply Sat.drawn); kernel_rfl)
        | ((with_reducible apply DSat.run (X := X64)); exact rfl; (first | exact True.intro | (exact phi) | skip))
        | ((with_reducible apply DSat.fin); kernel_rfl)
        | ((with_reducible apply Sat.cond_t); exact rfl)
        | ((with_reducible apply Sat.cond_f); exact rfl)
        | ((with_reducible apply Sat.cond_pt); exact rfl; (try dsimp only [V.EV.sub, V.EV.len]); first | assumption | omega)
        | ((with_reducible apply Sat.cond_pf); exact rfl; (try dsimp only [V.EV.sub, V.EV.len]); first | assumption | omega)
        | ((with_reducible apply Sat.cond_p); exact rfl; all_goals (intro h; (try simp only [V.EV.sub, V.EV.len] at h)))
        | ((with_reducible apply Sat.cond); exact rfl; all_goals (intro h; (try simp only [V.EV.sub, V.EV.len, Bool.cond_true_left, Bool.cond_false_right, Bool.or_eq_true, Bool.and_eq_true, Bool.or_eq_false_iff, Bool.and_eq_false_iff, Bool.not_eq_true', Bool.not_eq_false', decide_eq_true_eq, decide_eq_false_iff_not, ne_eq] at h)))
        | ((with_reducible apply Sat.callR (i1)); exact rfl; exact rfl; exact rfl; kernel_rfl; (exact cnvX); exact rfl)
        | ((with_reducible apply DSat.callR (i1)); exact rfl; exact rfl; exact rfl; kernel_rfl; (exact cnvX); exact rfl)
        | ((with_reducible apply Sat.callR (i2)); exact rfl; exact rfl; exact rfl; kernel_rfl; (exact cnvX); exact rfl)
        | ((with_reducible apply DSat.callR (i2)); exact rfl; exact rfl; exact rfl; kernel_rfl; (exact cnvX); exact rfl)
        | ((with_reducible apply Sat.callR (i3)); exact rfl; exact rfl; exact rfl; kernel_rfl; (exact cnvX); exact rfl)
        | ((with_reducible apply DSat.callR (i3)); exact rfl; exact rfl; exact rfl; kernel_rfl; (exact cnvX); exact rfl)
        | ((with_reducible apply Sat.callR (i4)); exact rfl; exact rfl; exact rfl; kernel_rfl; (exact cnvX); exact rfl)
        | ((with_reducible apply DSat.callR (i4)); exact rfl; exact rfl; exact rfl; kernel_rfl; (exact cnvX); exact rfl)
        | ((with_reducible apply Sat.callR (i5)); exact rfl; exact rfl; exact rfl; kernel_rfl; (exact cnvX); exact rfl)
        | ((with_reducible apply DSat.callR (i5)); exact rfl; exact rfl; exact rfl; kernel_rfl; (exact cnvX); exact rfl)
        | ((with_reducible apply Sat.callR (s1)); exact rfl; exact rfl; exact rfl; kernel_rfl; (exact cnvX); exact rfl)
        | ((with_reducible apply DSat.callR (s1)); exact rfl; exact rfl; exact rfl; kernel_rfl; (exact cnvX); exact rfl)
        | ((with_reducible apply Sat.callR (w1)); exact rfl; exact rfl; exact rfl; kernel_rfl; (exact cnvX); exact rfl)
        | ((with_reducible apply DSat.callR (w1)); exact rfl; exact rfl; exact rfl; kernel_rfl; (exact cnvX); exact rfl)
        | ((with_reducible apply Sat.callR (c1)); exact rfl; exact rfl; exact rfl; kernel_rfl; (exact cnvX); exact rfl)
        | ((with_reducible apply DSat.callR (c1)); exact rfl; exact rfl; exact rfl; kernel_rfl; (exact cnvX); exact rfl)
        | ((with_reducible apply Sat.callR (c2)); exact rfl; exact rfl; exact rfl; kernel_rfl; (exact cnvX); exact rfl)
        | ((with_reducible apply DSat.callR (c2)); exact rfl; exact rfl; exact rfl; kernel_rfl; (exact cnvX); exact rfl)
        | ((with_reducible apply Sat.callR (r1)); exact rfl; exact rfl; exact rfl; kernel_rfl; (exact cnvX); exact rfl)
        | ((with_reducible apply DSat.callR (r1)); exact rfl; exact rfl; exact rfl; kernel_rfl; (exact cnvX); exact rfl) | fail)
    all_goals (refine Sat.fin (Sat.end1 rfl rfl rfl True.intro (.refl _ purX) (by first | exact .inl rfl | exact .inr rfl) (fun _ h => h)) ?_; (refine congrArg SV.bool ?_; unfold validP; simp [h1]))
  rcases Bool.eq_false_or_eq_true (inB ex 0 1000000000) with h2 | h2 <;> rw [h2] at i3
  rotate_left
  · refine Fun.mkF 7 Tryd.func12 rfl Tryd.ntmps12 rfl rfl fun hf T w0 => ?_
    repeat' (first
        | ((with_reducible apply Sat.run (X := X64)); exact rfl; (first | exact True.intro | (exact phi) | skip))
        | ((with_reducible apply Sat.drawn); kernel_rfl)
        | ((with_reducible apply DSat.run (X := X64)); exact rfl; (first | exact True.intro | (exact phi) | skip))
        | ((with_reducible apply DSat.fin); kernel_rfl)
        | ((with_reducible apply Sat.cond_t); exact rfl)
        | ((with_reducible apply Sat.cond_f); exact rfl)
        | ((with_reducible apply Sat.cond_pt); exact rfl; (try dsimp only [V.EV.sub, V.EV.len]); first | assumption | omega)
        | ((with_reducible apply Sat.cond_pf); exact rfl; (try dsimp only [V.EV.sub, V.EV.len]); first | assumption | omega)
        | ((with_reducible apply Sat.cond_p); exact rfl; all_goals (intro h; (try simp only [V.EV.sub, V.EV.len] at h)))
        | ((with_reducible apply Sat.cond); exact rfl; all_goals (intro h; (try simp only [V.EV.sub, V.EV.len, Bool.cond_true_left, Bool.cond_false_right, Bool.or_eq_true, Bool.and_eq_true, Bool.or_eq_false_iff, Bool.and_eq_false_iff, Bool.not_eq_true', Bool.not_eq_false', decide_eq_true_eq, decide_eq_false_iff_not, ne_eq] at h)))
        | ((with_reducible apply Sat.callR (i1)); exact rfl; exact rfl; exact rfl; kernel_rfl; (exact cnvX); exact rfl)
        | ((with_reducible apply DSat.callR (i1)); exact rfl; exact rfl; exact rfl; kernel_rfl; (exact cnvX); exact rfl)
        | ((with_reducible apply Sat.callR (i2)); exact rfl; exact rfl; exact rfl; kernel_rfl; (exact cnvX); exact rfl)
        | ((with_reducible apply DSat.callR (i2)); exact rfl; exact rfl; exact rfl; kernel_rfl; (exact cnvX); exact rfl)
        | ((with_reducible apply Sat.callR (i3)); exact rfl; exact rfl; exact rfl; kernel_rfl; (exact cnvX); exact rfl)
        | ((with_reducible apply DSat.callR (i3)); exact rfl; exact rfl; exact rfl; kernel_rfl; (exact cnvX); exact rfl)
        | ((with_reducible apply Sat.callR (i4)); exact rfl; exact rfl; exact rfl; kernel_rfl; (exact cnvX); exact rfl)
        | ((with_reducible apply DSat.callR (i4)); exact rfl; exact rfl; exact rfl; kernel_rfl; (exact cnvX); exact rfl)
        | ((with_reducible apply Sat.callR (i5)); exact rfl; exact rfl; exact rfl; kernel_rfl; (exact cnvX); exact rfl)
        | ((with_reducible apply DSat.callR (i5)); exact rfl; exact rfl; exact rfl; kernel_rfl; (exact cnvX); exact rfl)
        | ((with_reducible apply Sat.callR (s1)); exact rfl; exact rfl; exact rfl; kernel_rfl; (exact cnvX); exact rfl)
        | ((with_reducible apply DSat.callR (s1)); exact rfl; exact rfl; exact rfl; kernel_rfl; (exact cnvX); exact rfl)
        | ((with_reducible apply Sat.callR (w1)); exact rfl; exact rfl; exact rfl; kernel_rfl; (exact cnvX); exact rfl)
        | ((with_reducible apply DSat.callR (w1)); exact rfl; exact rfl; exact rfl; kernel_rfl; (exact cnvX); exact rfl)
        | ((with_reducible apply Sat.callR (c1)); exact rfl; exact rfl; exact rfl; kernel_rfl; (exact cnvX); exact rfl)
        | ((with_reducible apply DSat.callR (c1)); exact rfl; exact rfl; exact rfl; kernel_rfl; (exact cnvX); exact rfl)
        | ((with_reducible apply Sat.callR (c2)); exact rfl; exact rfl; exact rfl; kernel_rfl; (exact cnvX); exact rfl)
        | ((with_reducible apply DSat.callR (c2)); exact rfl; exact rfl; exact rfl; kernel_rfl; (exact cnvX); exact rfl)
        | ((with_reducible apply Sat.callR (r1)); exact rfl; exact rfl; exact rfl; kernel_rfl; (exact cnvX); exact rfl)
        | ((with_reducible apply DSat.callR (r1)); exact rfl; exact rfl; exact rfl; kernel_rfl; (exact cnvX); exact rfl) | fail)
    all_goals (refine Sat.fin (Sat.end1 rfl rfl rfl True.intro (.refl _ purX) (by first | exact .inl rfl | exact .inr rfl) (fun _ h => h)) ?_; (refine congrArg SV.bool ?_; unfold validP; simp [h2]))
  rcases Bool.eq_false_or_eq_true (inB sz 0 65536) with h3 | h3 <;> rw [h3] at i4
  rotate_left
  · refine Fun.mkF 7 Tryd.func12 rfl Tryd.ntmps12 rfl rfl fun hf T w0 => ?_
    repeat' (first
        | ((with_reducible apply Sat.run (X := X64)); exact rfl; (first | exact True.intro | (exact phi) | skip))
        | ((with_reducible apply Sat.drawn); kernel_rfl)
        | ((with_reducible apply DSat.run (X := X64)); exact rfl; (first | exact True.intro | (exact phi) | skip))
        | ((with_reducible apply DSat.fin); kernel_rfl)
        | ((with_reducible apply Sat.cond_t); exact rfl)
        | ((with_reducible apply Sat.cond_f); exact rfl)
        | ((with_reducible apply Sat.cond_pt); exact rfl; (try dsimp only [V.EV.sub, V.EV.len]); first | assumption | omega)
        | ((with_reducible apply Sat.cond_pf); exact rfl; (try dsimp only [V.EV.sub, V.EV.len]); first | assumption | omega)
        | ((with_reducible apply Sat.cond_p); exact rfl; all_goals (intro h; (try simp only [V.EV.sub, V.EV.len] at h)))
        | ((with_reducible apply Sat.cond); exact rfl; all_goals (intro h; (try simp only [V.EV.sub, V.EV.len, Bool.cond_true_left, Bool.cond_false_right, Bool.or_eq_true, Bool.and_eq_true, Bool.or_eq_false_iff, Bool.and_eq_false_iff, Bool.not_eq_true', Bool.not_eq_false', decide_eq_true_eq, decide_eq_false_iff_not, ne_eq] at h)))
        | ((with_reducible apply Sat.callR (i1)); exact rfl; exact rfl; exact rfl; kernel_rfl; (exact cnvX); exact rfl)
        | ((with_reducible apply DSat.callR (i1)); exact rfl; exact rfl; exact rfl; kernel_rfl; (exact cnvX); exact rfl)
        | ((with_reducible apply Sat.callR (i2)); exact rfl; exact rfl; exact rfl; kernel_rfl; (exact cnvX); exact rfl)
        | ((with_reducible apply DSat.callR (i2)); exact rfl; exact rfl; exact rfl; kernel_rfl; (exact cnvX); exact rfl)
        | ((with_reducible apply Sat.callR (i3)); exact rfl; exact rfl; exact rfl; kernel_rfl; (exact cnvX); exact rfl)
        | ((with_reducible apply DSat.callR (i3)); exact rfl; exact rfl; exact rfl; kernel_rfl; (exact cnvX); exact rfl)
        | ((with_reducible apply Sat.callR (i4)); exact rfl; exact rfl; exact rfl; kernel_rfl; (exact cnvX); exact rfl)
        | ((with_reducible apply DSat.callR (i4)); exact rfl; exact rfl; exact rfl; kernel_rfl; (exact cnvX); exact rfl)
        | ((with_reducible apply Sat.callR (i5)); exact rfl; exact rfl; exact rfl; kernel_rfl; (exact cnvX); exact rfl)
        | ((with_reducible apply DSat.callR (i5)); exact rfl; exact rfl; exact rfl; kernel_rfl; (exact cnvX); exact rfl)
        | ((with_reducible apply Sat.callR (s1)); exact rfl; exact rfl; exact rfl; kernel_rfl; (exact cnvX); exact rfl)
        | ((with_reducible apply DSat.callR (s1)); exact rfl; exact rfl; exact rfl; kernel_rfl; (exact cnvX); exact rfl)
        | ((with_reducible apply Sat.callR (w1)); exact rfl; exact rfl; exact rfl; kernel_rfl; (exact cnvX); exact rfl)
        | ((with_reducible apply DSat.callR (w1)); exact rfl; exact rfl; exact rfl; kernel_rfl; (exact cnvX); exact rfl)
        | ((with_reducible apply Sat.callR (c1)); exact rfl; exact rfl; exact rfl; kernel_rfl; (exact cnvX); exact rfl)
        | ((with_reducible apply DSat.callR (c1)); exact rfl; exact rfl; exact rfl; kernel_rfl; (exact cnvX); exact rfl)
        | ((with_reducible apply Sat.callR (c2)); exact rfl; exact rfl; exact rfl; kernel_rfl; (exact cnvX); exact rfl)
        | ((with_reducible apply DSat.callR (c2)); exact rfl; exact rfl; exact rfl; kernel_rfl; (exact cnvX); exact rfl)
        | ((with_reducible apply Sat.callR (r1)); exact rfl; exact rfl; exact rfl; kernel_rfl; (exact cnvX); exact rfl)
        | ((with_reducible apply DSat.callR (r1)); exact rfl; exact rfl; exact rfl; kernel_rfl; (exact cnvX); exact rfl) | fail)
    all_goals (refine Sat.fin (Sat.end1 rfl rfl rfl True.intro (.refl _ purX) (by first | exact .inl rfl | exact .inr rfl) (fun _ h => h)) ?_; (refine congrArg SV.bool ?_; unfold validP; simp [h3]))
  rcases Bool.eq_false_or_eq_true (inB ch 1 256) with h4 | h4 <;> rw [h4] at i5
  rotate_left
  · refine Fun.mkF 7 Tryd.func12 rfl Tryd.ntmps12 rfl rfl fun hf T w0 => ?_
    repeat' (first
        | ((with_reducible apply Sat.run (X := X64)); exact rfl; (first | exact True.intro | (exact phi) | skip))
        | ((with_reducible apply Sat.drawn); kernel_rfl)
        | ((with_reducible apply DSat.run (X := X64)); exact rfl; (first | exact True.intro | (exact phi) | skip))
        | ((with_reducible apply DSat.fin); kernel_rfl)
        | ((with_reducible apply Sat.cond_t); exact rfl)
        | ((with_reducible apply Sat.cond_f); exact rfl)
        | ((with_reducible apply Sat.cond_pt); exact rfl; (try dsimp only [V.EV.sub, V.EV.len]); first | assumption | omega)
        | ((with_reducible apply Sat.cond_pf); exact rfl; (try dsimp only [V.EV.sub, V.EV.len]); first | assumption | omega)
        | ((with_reducible apply Sat.cond_p); exact rfl; all_goals (intro h; (try simp only [V.EV.sub, V.EV.len] at h)))
        | ((with_reducible apply Sat.cond); exact rfl; all_goals (intro h; (try simp only [V.EV.sub, V.EV.len, Bool.cond_true_left, Bool.cond_false_right, Bool.or_eq_true, Bool.and_eq_true, Bool.or_eq_false_iff, Bool.and_eq_false_iff, Bool.not_eq_true', Bool.not_eq_false', decide_eq_true_eq, decide_eq_false_iff_not, ne_eq] at h)))
        | ((with_reducible apply Sat.callR (i1)); exact rfl; exact rfl; exact rfl; kernel_rfl; (exact cnvX); exact rfl)
        | ((with_reducible apply DSat.callR (i1)); exact rfl; exact rfl; exact rfl; kernel_rfl; (exact cnvX); exact rfl)
        | ((with_reducible apply Sat.callR (i2)); exact rfl; exact rfl; exact rfl; kernel_rfl; (exact cnvX); exact rfl)
        | ((with_reducible apply DSat.callR (i2)); exact rfl; exact rfl; exact rfl; kernel_rfl; (exact cnvX); exact rfl)
        | ((with_reducible apply Sat.callR (i3)); exact rfl; exact rfl; exact rfl; kernel_rfl; (exact cnvX); exact rfl)
        | ((with_reducible apply DSat.callR (i3)); exact rfl; exact rfl; exact rfl; kernel_rfl; (exact cnvX); exact rfl)
        | ((with_reducible apply Sat.callR (i4)); exact rfl; exact rfl; exact rfl; kernel_rfl; (exact cnvX); exact rfl)
        | ((with_reducible apply DSat.callR (i4)); exact rfl; exact rfl; exact rfl; kernel_rfl; (exact cnvX); exact rfl)
        | ((with_reducible apply Sat.callR (i5)); exact rfl; exact rfl; exact rfl; kernel_rfl; (exact cnvX); exact rfl)
        | ((with_reducible apply DSat.callR (i5)); exact rfl; exact rfl; exact rfl; kernel_rfl; (exact cnvX); exact rfl)
        | ((with_reducible apply Sat.callR (s1)); exact rfl; exact rfl; exact rfl; kernel_rfl; (exact cnvX); exact rfl)
        | ((with_reducible apply DSat.callR (s1)); exact rfl; exact rfl; exact rfl; kernel_rfl; (exact cnvX); exact rfl)
        | ((with_reducible apply Sat.callR (w1)); exact rfl; exact rfl; exact rfl; kernel_rfl; (exact cnvX); exact rfl)
        | ((with_reducible apply DSat.callR (w1)); exact rfl; exact rfl; exact rfl; kernel_rfl; (exact cnvX); exact rfl)
        | ((with_reducible apply Sat.callR (c1)); exact rfl; exact rfl; exact rfl; kernel_rfl; (exact cnvX); exact rfl)
        | ((with_reducible apply DSat.callR (c1)); exact rfl; exact rfl; exact rfl; kernel_rfl; (exact cnvX); exact rfl)
        | ((with_reducible apply Sat.callR (c2)); exact rfl; exact rfl; exact rfl; kernel_rfl; (exact cnvX); exact rfl)
        | ((with_reducible apply DSat.callR (c2)); exact rfl; exact rfl; exact rfl; kernel_rfl; (exact cnvX); exact rfl)
        | ((with_reducible apply Sat.callR (r1)); exact rfl; exact rfl; exact rfl; kernel_rfl; (exact cnvX); exact rfl)
        | ((with_reducible apply DSat.callR (r1)); exact rfl; exact rfl; exact rfl; kernel_rfl; (exact cnvX); exact rfl) | fail)
    all_goals (refine Sat.fin (Sat.end1 rfl rfl rfl True.intro (.refl _ purX) (by first | exact .inl rfl | exact .inr rfl) (fun _ h => h)) ?_; (refine congrArg SV.bool ?_; unfold validP; simp [h4]))
  by_cases h5 : go.length ≤ 16
  rotate_left
  · refine Fun.mkF 7 Tryd.func12 rfl Tryd.ntmps12 rfl rfl fun hf T w0 => ?_
    repeat' (first
        | ((with_reducible apply Sat.run (X := X64)); exact rfl; (first | exact True.intro | (exact phi) | skip))
        | ((with_reducible apply Sat.drawn); kernel_rfl)
        | ((with_reducible apply DSat.run (X := X64)); exact rfl; (first | exact True.intro | (exact phi) | skip))
        | ((with_reducible apply DSat.fin); kernel_rfl)
        | ((with_reducible apply Sat.cond_t); exact rfl)
        | ((with_reducible apply Sat.cond_f); exact rfl)
        | ((with_reducible apply Sat.cond_pt); exact rfl; (try dsimp only [V.EV.sub, V.EV.len]); first | assumption | omega)
        | ((with_reducible apply Sat.cond_pf); exact rfl; (try dsimp only [V.EV.sub, V.EV.len]); first | assumption | omega)
        | ((with_reducible apply Sat.cond_p); exact rfl; all_goals (intro h; (try simp only [V.EV.sub, V.EV.len] at h)))
        | ((with_reducible apply Sat.cond); exact rfl; all_goals (intro h; (try simp only [V.EV.sub, V.EV.len, Bool.cond_true_left, Bool.cond_false_right, Bool.or_eq_true, Bool.and_eq_true, Bool.or_eq_false_iff, Bool.and_eq_false_iff, Bool.not_eq_true', Bool.not_eq_false', decide_eq_true_eq, decide_eq_false_iff_not, ne_eq] at h)))
        | ((with_reducible apply Sat.callR (i1)); exact rfl; exact rfl; exact rfl; kernel_rfl; (exact cnvX); exact rfl)
        | ((with_reducible apply DSat.callR (i1)); exact rfl; exact rfl; exact rfl; kernel_rfl; (exact cnvX); exact rfl)
        | ((with_reducible apply Sat.callR (i2)); exact rfl; exact rfl; exact rfl; kernel_rfl; (exact cnvX); exact rfl)
        | ((with_reducible apply DSat.callR (i2)); exact rfl; exact rfl; exact rfl; kernel_rfl; (exact cnvX); exact rfl)
        | ((with_reducible apply Sat.callR (i3)); exact rfl; exact rfl; exact rfl; kernel_rfl; (exact cnvX); exact rfl)
        | ((with_reducible apply DSat.callR (i3)); exact rfl; exact rfl; exact rfl; kernel_rfl; (exact cnvX); exact rfl)
        | ((with_reducible apply Sat.callR (i4)); exact rfl; exact rfl; exact rfl; kernel_rfl; (exact cnvX); exact rfl)
        | ((with_reducible apply DSat.callR (i4)); exact rfl; exact rfl; exact rfl; kernel_rfl; (exact cnvX); exact rfl)
        | ((with_reducible apply Sat.callR (i5)); exact rfl; exact rfl; exact rfl; kernel_rfl; (exact cnvX); exact rfl)
        | ((with_reducible apply DSat.callR (i5)); exact rfl; exact rfl; exact rfl; kernel_rfl; (exact cnvX); exact rfl)
        | ((with_reducible apply Sat.callR (s1)); exact rfl; exact rfl; exact rfl; kernel_rfl; (exact cnvX); exact rfl)
        | ((with_reducible apply DSat.callR (s1)); exact rfl; exact rfl; exact rfl; kernel_rfl; (exact cnvX); exact rfl)
        | ((with_reducible apply Sat.callR (w1)); exact rfl; exact rfl; exact rfl; kernel_rfl; (exact cnvX); exact rfl)
        | ((with_reducible apply DSat.callR (w1)); exact rfl; exact rfl; exact rfl; kernel_rfl; (exact cnvX); exact rfl)
        | ((with_reducible apply Sat.callR (c1)); exact rfl; exact rfl; exact rfl; kernel_rfl; (exact cnvX); exact rfl)
        | ((with_reducible apply DSat.callR (c1)); exact rfl; exact rfl; exact rfl; kernel_rfl; (exact cnvX); exact rfl)
        | ((with_reducible apply Sat.callR (c2)); exact rfl; exact rfl; exact rfl; kernel_rfl; (exact cnvX); exact rfl)
        | ((with_reducible apply DSat.callR (c2)); exact rfl; exact rfl; exact rfl; kernel_rfl; (exact cnvX); exact rfl)
        | ((with_reducible apply Sat.callR (r1)); exact rfl; exact rfl; exact rfl; kernel_rfl; (exact cnvX); exact rfl)
        | ((with_reducible apply DSat.callR (r1)); exact rfl; exact rfl; exact rfl; kernel_rfl; (exact cnvX); exact rfl) | fail)
    all_goals (refine Sat.fin (Sat.end1 rfl rfl rfl True.intro (.refl _ purX) (by first | exact .inl rfl | exact .inr rfl) (fun _ h => h)) ?_; (refine congrArg SV.bool ?_; unfold validP; simp [h5]))
  rcases Bool.eq_false_or_eq_true (go.any fun n => !inB n 0 1000000000) with h6 | h6 <;> rw [h6] at s1
  · refine Fun.mkF 7 Tryd.func12 rfl Tryd.ntmps12 rfl rfl fun hf T w0 => ?_
    repeat' (first
        | ((with_reducible apply Sat.run (X := X64)); exact rfl; (first | exact True.intro | (exact phi) | skip))
        | ((with_reducible apply Sat.drawn); kernel_rfl)
        | ((with_reducible apply DSat.run (X := X64)); exact rfl; (first | exact True.intro | (exact phi) | skip))
        | ((with_reducible apply DSat.fin); kernel_rfl)
        | ((with_reducible apply Sat.cond_t); exact rfl)
        | ((with_reducible apply Sat.cond_f); exact rfl)
        | ((with_reducible apply Sat.cond_pt); exact rfl; (try dsimp only [V.EV.sub, V.EV.len]); first | assumption | omega)
        | ((with_reducible apply Sat.cond_pf); exact rfl; (try dsimp only [V.EV.sub, V.EV.len]); first | assumption | omega)
        | ((with_reducible apply Sat.cond_p); exact rfl; all_goals (intro h; (try simp only [V.EV.sub, V.EV.len] at h)))
        | ((with_reducible apply Sat.cond); exact rfl; all_goals (intro h; (try simp only [V.EV.sub, V.EV.len, Bool.cond_true_left, Bool.cond_false_right, Bool.or_eq_true, Bool.and_eq_true, Bool.or_eq_false_iff, Bool.and_eq_false_iff, Bool.not_eq_true', Bool.not_eq_false', decide_eq_true_eq, decide_eq_false_iff_not, ne_eq] at h)))
        | ((with_reducible apply Sat.callR (i1)); exact rfl; exact rfl; exact rfl; kernel_rfl; (exact cnvX); exact rfl)
        | ((with_reducible apply DSat.callR (i1)); exact rfl; exact rfl; exact rfl; kernel_rfl; (exact cnvX); exact rfl)
        | ((with_reducible apply Sat.callR (i2)); exact rfl; exact rfl; exact rfl; kernel_rfl; (exact cnvX); exact rfl)
        | ((with_reducible apply DSat.callR (i2)); exact rfl; exact rfl; exact rfl; kernel_rfl; (exact cnvX); exact rfl)
        | ((with_reducible apply Sat.callR (i3)); exact rfl; exact rfl; exact rfl; kernel_rfl; (exact cnvX); exact rfl)
        | ((with_reducible apply DSat.callR (i3)); exact rfl; exact rfl; exact rfl; kernel_rfl; (exact cnvX); exact rfl)
        | ((with_reducible apply Sat.callR (i4)); exact rfl; exact rfl; exact rfl; kernel_rfl; (exact cnvX); exact rfl)
        | ((with_reducible apply DSat.callR (i4)); exact rfl; exact rfl; exact rfl; kernel_rfl; (exact cnvX); exact rfl)
        | ((with_reducible apply Sat.callR (i5)); exact rfl; exact rfl; exact rfl; kernel_rfl; (exact cnvX); exact rfl)
        | ((with_reducible apply DSat.callR (i5)); exact rfl; exact rfl; exact rfl; kernel_rfl; (exact cnvX); exact rfl)
        | ((with_reducible apply Sat.callR (s1)); exact rfl; exact rfl; exact rfl; kernel_rfl; (exact cnvX); exact rfl)
        | ((with_reducible apply DSat.callR (s1)); exact rfl; exact rfl; exact rfl; kernel_rfl; (exact cnvX); exact rfl)
        | ((with_reducible apply Sat.callR (w1)); exact rfl; exact rfl; exact rfl; kernel_rfl; (exact cnvX); exact rfl)
        | ((with_reducible apply DSat.callR (w1)); exact rfl; exact rfl; exact rfl; kernel_rfl; (exact cnvX); exact rfl)
        | ((with_reducible apply Sat.callR (c1)); exact rfl; exact rfl; exact rfl; kernel_rfl; (exact cnvX); exact rfl)
        | ((with_reducible apply DSat.callR (c1)); exact rfl; exact rfl; exact rfl; kernel_rfl; (exact cnvX); exact rfl)
        | ((with_reducible apply Sat.callR (c2)); exact rfl; exact rfl; exact rfl; kernel_rfl; (exact cnvX); exact rfl)
        | ((with_reducible apply DSat.callR (c2)); exact rfl; exact rfl; exact rfl; kernel_rfl; (exact cnvX); exact rfl)
        | ((with_reducible apply Sat.callR (r1)); exact rfl; exact rfl; exact rfl; kernel_rfl; (exact cnvX); exact rfl)
        | ((with_reducible apply DSat.callR (r1)); exact rfl; exact rfl; exact rfl; kernel_rfl; (exact cnvX); exact rfl) | fail)
    all_goals (refine Sat.fin (Sat.end1 rfl rfl rfl True.intro (.refl _ purX) (by first | exact .inl rfl | exact .inr rfl) (fun _ h => h)) ?_; (refine congrArg SV.bool ?_; unfold validP; simp [h6]))
  rcases Bool.eq_false_or_eq_true (withinB go 0 60000) with h7 | h7 <;> rw [h7] at w1
  rotate_left
  · refine Fun.mkF 7 Tryd.func12 rfl Tryd.ntmps12 rfl rfl fun hf T w0 => ?_
    repeat' (first
        | ((with_reducible apply Sat.run (X := X64)); exact rfl; (first | exact True.intro | (exact phi) | skip))
        | ((with_reducible apply Sat.drawn); kernel_rfl)
        | ((with_reducible apply DSat.run (X := X64)); exact rfl; (first | exact True.intro | (exact phi) | skip))
        | ((with_reducible apply DSat.fin); kernel_rfl)
        | ((with_reducible apply Sat.cond_t); exact rfl)
        | ((with_reducible apply Sat.cond_f); exact rfl)
        | ((with_reducible apply Sat.cond_pt); exact rfl; (try dsimp only [V.EV.sub, V.EV.len]); first | assumption | omega)
        | ((with_reducible apply Sat.cond_pf); exact rfl; (try dsimp only [V.EV.sub, V.EV.len]); first | assumption | omega)
        | ((with_reducible apply Sat.cond_p); exact rfl; all_goals (intro h; (try simp only [V.EV.sub, V.EV.len] at h)))
        | ((with_reducible apply Sat.cond); exact rfl; all_goals (intro h; (try simp only [V.EV.sub, V.EV.len, Bool.cond_true_left, Bool.cond_false_right, Bool.or_eq_true, Bool.and_eq_true, Bool.or_eq_false_iff, Bool.and_eq_false_iff, Bool.not_eq_true', Bool.not_eq_false', decide_eq_true_eq, decide_eq_false_iff_not, ne_eq] at h)))
        | ((with_reducible apply Sat.callR (i1)); exact rfl; exact rfl; exact rfl; kernel_rfl; (exact cnvX); exact rfl)
        | ((with_reducible apply DSat.callR (i1)); exact rfl; exact rfl; exact rfl; kernel_rfl; (exact cnvX); exact rfl)
        | ((with_reducible apply Sat.callR (i2)); exact rfl; exact rfl; exact rfl; kernel_rfl; (exact cnvX); exact rfl)
        | ((with_reducible apply DSat.callR (i2)); exact rfl; exact rfl; exact rfl; kernel_rfl; (exact cnvX); exact rfl)
        | ((with_reducible apply Sat.callR (i3)); exact rfl; exact rfl; exact rfl; kernel_rfl; (exact cnvX); exact rfl)
        | ((with_reducible apply DSat.callR (i3)); exact rfl; exact rfl; exact rfl; kernel_rfl; (exact cnvX); exact rfl)
        | ((with_reducible apply Sat.callR (i4)); exact rfl; exact rfl; exact rfl; kernel_rfl; (exact cnvX); exact rfl)
        | ((with_reducible apply DSat.callR (i4)); exact rfl; exact rfl; exact rfl; kernel_rfl; (exact cnvX); exact rfl)
        | ((with_reducible apply Sat.callR (i5)); exact rfl; exact rfl; exact rfl; kernel_rfl; (exact cnvX); exact rfl)
        | ((with_reducible apply DSat.callR (i5)); exact rfl; exact rfl; exact rfl; kernel_rfl; (exact cnvX); exact rfl)
        | ((with_reducible apply Sat.callR (s1)); exact rfl; exact rfl; exact rfl; kernel_rfl; (exact cnvX); exact rfl)
        | ((with_reducible apply DSat.callR (s1)); exact rfl; exact rfl; exact rfl; kernel_rfl; (exact cnvX); exact rfl)
        | ((with_reducible apply Sat.callR (w1)); exact rfl; exact rfl; exact rfl; kernel_rfl; (exact cnvX); exact rfl)
        | ((with_reducible apply DSat.callR (w1)); exact rfl; exact rfl; exact rfl; kernel_rfl; (exact cnvX); exact rfl)
        | ((with_reducible apply Sat.callR (c1)); exact rfl; exact rfl; exact rfl; kernel_rfl; (exact cnvX); exact rfl)
        | ((with_reducible apply DSat.callR (c1)); exact rfl; exact rfl; exact rfl; kernel_rfl; (exact cnvX); exact rfl)
        | ((with_reducible apply Sat.callR (c2)); exact rfl; exact rfl; exact rfl; kernel_rfl; (exact cnvX); exact rfl)
        | ((with_reducible apply DSat.callR (c2)); exact rfl; exact rfl; exact rfl; kernel_rfl; (exact cnvX); exact rfl)
        | ((with_reducible apply Sat.callR (r1)); exact rfl; exact rfl; exact rfl; kernel_rfl; (exact cnvX); exact rfl)
        | ((with_reducible apply DSat.callR (r1)); exact rfl; exact rfl; exact rfl; kernel_rfl; (exact cnvX); exact rfl) | fail)
    all_goals (refine Sat.fin (Sat.end1 rfl rfl rfl True.intro (.refl _ purX) (by first | exact .inl rfl | exact .inr rfl) (fun _ h => h)) ?_; (refine congrArg SV.bool ?_; unfold validP; simp [h7]))
  rcases Bool.eq_false_or_eq_true (go.any fun y => decide (v = y)) with h8 | h8 <;> rw [h8] at c1
  · refine Fun.mkF 7 Tryd.func12 rfl Tryd.ntmps12 rfl rfl fun hf T w0 => ?_
    repeat' (first
        | ((with_reducible apply Sat.run (X := X64)); exact rfl; (first | exact True.intro | (exact phi) | skip))
        | ((with_reducible apply Sat.drawn); kernel_rfl)
        | ((with_reducible apply DSat.run (X := X64)); exact rfl; (first | exact True.intro | (exact phi) | skip))
        | ((with_reducible apply DSat.fin); kernel_rfl)
        | ((with_reducible apply Sat.cond_t); exact rfl)
        | ((with_reducible apply Sat.cond_f); exact rfl)
        | ((with_reducible apply Sat.cond_pt); exact rfl; (try dsimp only [V.EV.sub, V.EV.len]); first | assumption | omega)
        | ((with_reducible apply Sat.cond_pf); exact rfl; (try dsimp only [V.EV.sub, V.EV.len]); first | assumption | omega)
        | ((with_reducible apply Sat.cond_p); exact rfl; all_goals (intro h; (try simp only [V.EV.sub, V.EV.len] at h)))
        | ((with_reducible apply Sat.cond); exact rfl; all_goals (intro h; (try simp only [V.EV.sub, V.EV.len, Bool.cond_true_left, Bool.cond_false_right, Bool.or_eq_true, Bool.and_eq_true, Bool.or_eq_false_iff, Bool.and_eq_false_iff, Bool.not_eq_true', Bool.not_eq_false', decide_eq_true_eq, decide_eq_false_iff_not, ne_eq] at h)))
        | ((with_reducible apply Sat.callR (i1)); exact rfl; exact rfl; exact rfl; kernel_rfl; (exact cnvX); exact rfl)
        | ((with_reducible apply DSat.callR (i1)); exact rfl; exact rfl; exact rfl; kernel_rfl; (exact cnvX); exact rfl)
        | ((with_reducible apply Sat.callR (i2)); exact rfl; exact rfl; exact rfl; kernel_rfl; (exact cnvX); exact rfl)
        | ((with_reducible apply DSat.callR (i2)); exact rfl; exact rfl; exact rfl; kernel_rfl; (exact cnvX); exact rfl)
        | ((with_reducible apply Sat.callR (i3)); exact rfl; exact rfl; exact rfl; kernel_rfl; (exact cnvX); exact rfl)
        | ((with_reducible apply DSat.callR (i3)); exact rfl; exact rfl; exact rfl; kernel_rfl; (exact cnvX); exact rfl)
        | ((with_reducible apply Sat.callR (i4)); exact rfl; exact rfl; exact rfl; kernel_rfl; (exact cnvX); exact rfl)
        | ((with_reducible apply DSat.callR (i4)); exact rfl; exact rfl; exact rfl; kernel_rfl; (exact cnvX); exact rfl)
        | ((with_reducible apply Sat.callR (i5)); exact rfl; exact rfl; exact rfl; kernel_rfl; (exact cnvX); exact rfl)
        | ((with_reducible apply DSat.callR (i5)); exact rfl; exact rfl; exact rfl; kernel_rfl; (exact cnvX); exact rfl)
        | ((with_reducible apply Sat.callR (s1)); exact rfl; exact rfl; exact rfl; kernel_rfl; (exact cnvX); exact rfl)
        | ((with_reducible apply DSat.callR (s1)); exact rfl; exact rfl; exact rfl; kernel_rfl; (exact cnvX); exact rfl)
        | ((with_reducible apply Sat.callR (w1)); exact rfl; exact rfl; exact rfl; kernel_rfl; (exact cnvX); exact rfl)
        | ((with_reducible apply DSat.callR (w1)); exact rfl; exact rfl; exact rfl; kernel_rfl; (exact cnvX); exact rfl)
        | ((with_reducible apply Sat.callR (c1)); exact rfl; exact rfl; exact rfl; kernel_rfl; (exact cnvX); exact rfl)
        | ((with_reducible apply DSat.callR (c1)); exact rfl; exact rfl; exact rfl; kernel_rfl; (exact cnvX); exact rfl)
        | ((with_reducible apply Sat.callR (c2)); exact rfl; exact rfl; exact rfl; kernel_rfl; (exact cnvX); exact rfl)
        | ((with_reducible apply DSat.callR (c2)); exact rfl; exact rfl; exact rfl; kernel_rfl; (exact cnvX); exact rfl)
        | ((with_reducible apply Sat.callR (r1)); exact rfl; exact rfl; exact rfl; kernel_rfl; (exact cnvX); exact rfl)
        | ((with_reducible apply DSat.callR (r1)); exact rfl; exact rfl; exact rfl; kernel_rfl; (exact cnvX); exact rfl) | fail)
    all_goals (refine Sat.fin (Sat.end1 rfl rfl rfl True.intro (.refl _ purX) (by first | exact .inl rfl | exact .inr rfl) (fun _ h => h)) ?_; (refine congrArg SV.bool ?_; unfold validP; simp [h8]))
  by_cases h9 : pa.length ≤ 8
  rotate_left
  · refine Fun.mkF 7 Tryd.func12 rfl Tryd.ntmps12 rfl rfl fun hf T w0 => ?_
    repeat' (first
        | ((with_reducible apply Sat.run (X := X64)); exact rfl; (first | exact True.intro | (exact phi) | skip))
        | ((with_reducible apply Sat.drawn); kernel_rfl)
        | ((with_reducible apply DSat.run (X := X64)); exact rfl; (first | exact True.intro | (exact phi) | skip))
        | ((with_reducible apply DSat.fin); kernel_rfl)
        | ((with_reducible apply Sat.cond_t); exact rfl)
        | ((with_reducible apply Sat.cond_f); exact rfl)
        | ((with_reducible apply Sat.cond_pt); exact rfl; (try dsimp only [V.EV.sub, V.EV.len]); first | assumption | omega)
        | ((with_reducible apply Sat.cond_pf); exact rfl; (try dsimp only [V.EV.sub, V.EV.len]); first | assumption | omega)
        | ((with_reducible apply Sat.cond_p); exact rfl; all_goals (intro h; (try simp only [V.EV.sub, V.EV.len] at h)))
        | ((with_reducible apply Sat.cond); exact rfl; all_goals (intro h; (try simp only [V.EV.sub, V.EV.len, Bool.cond_true_left, Bool.cond_false_right, Bool.or_eq_true, Bool.and_eq_true, Bool.or_eq_false_iff, Bool.and_eq_false_iff, Bool.not_eq_true', Bool.not_eq_false', decide_eq_true_eq, decide_eq_false_iff_not, ne_eq] at h)))
        | ((with_reducible apply Sat.callR (i1)); exact rfl; exact rfl; exact rfl; kernel_rfl; (exact cnvX); exact rfl)
        | ((with_reducible apply DSat.callR (i1)); exact rfl; exact rfl; exact rfl; kernel_rfl; (exact cnvX); exact rfl)
        | ((with_reducible apply Sat.callR (i2)); exact rfl; exact rfl; exact rfl; kernel_rfl; (exact cnvX); exact rfl)
        | ((with_reducible apply DSat.callR (i2)); exact rfl; exact rfl; exact rfl; kernel_rfl; (exact cnvX); exact rfl)
        | ((with_reducible apply Sat.callR (i3)); exact rfl; exact rfl; exact rfl; kernel_rfl; (exact cnvX); exact rfl)
        | ((with_reducible apply DSat.callR (i3)); exact rfl; exact rfl; exact rfl; kernel_rfl; (exact cnvX); exact rfl)
        | ((with_reducible apply Sat.callR (i4)); exact rfl; exact rfl; exact rfl; kernel_rfl; (exact cnvX); exact rfl)
        | ((with_reducible apply DSat.callR (i4)); exact rfl; exact rfl; exact rfl; kernel_rfl; (exact cnvX); exact rfl)
        | ((with_reducible apply Sat.callR (i5)); exact rfl; exact rfl; exact rfl; kernel_rfl; (exact cnvX); exact rfl)
        | ((with_reducible apply DSat.callR (i5)); exact rfl; exact rfl; exact rfl; kernel_rfl; (exact cnvX); exact rfl)
        | ((with_reducible apply Sat.callR (s1)); exact rfl; exact rfl; exact rfl; kernel_rfl; (exact cnvX); exact rfl)
        | ((with_reducible apply DSat.callR (s1)); exact rfl; exact rfl; exact rfl; kernel_rfl; (exact cnvX); exact rfl)
        | ((with_reducible apply Sat.callR (w1)); exact rfl; exact rfl; exact rfl; kernel_rfl; (exact cnvX); exact rfl)
        | ((with_reducible apply DSat.callR (w1)); exact rfl; exact rfl; exact rfl; kernel_rfl; (exact cnvX); exact rfl)
        | ((with_reducible apply Sat.callR (c1)); exact rfl; exact rfl; exact rfl; kernel_rfl; (exact cnvX); exact rfl)
        | ((with_reducible apply DSat.callR (c1)); exact rfl; exact rfl; exact rfl; kernel_rfl; (exact cnvX); exact rfl)
        | ((with_reducible apply Sat.callR (c2)); exact rfl; exact rfl; exact rfl; kernel_rfl; (exact cnvX); exact rfl)
        | ((with_reducible apply DSat.callR (c2)); exact rfl; exact rfl; exact rfl; kernel_rfl; (exact cnvX); exact rfl)
        | ((with_reducible apply Sat.callR (r1)); exact rfl; exact rfl; exact rfl; kernel_rfl; (exact cnvX); exact rfl)
        | ((with_reducible apply DSat.callR (r1)); exact rfl; exact rfl; exact rfl; kernel_rfl; (exact cnvX); exact rfl) | fail)
    all_goals (refine Sat.fin (Sat.end1 rfl rfl rfl True.intro (.refl _ purX) (by first | exact .inl rfl | exact .inr rfl) (fun _ h => h)) ?_; (refine congrArg SV.bool ?_; unfold validP; simp [h9]))
  rcases Bool.eq_false_or_eq_true (pa.any fun p => !nameB p.name) with h10 | h10 <;> rw [h10] at c2
  · refine Fun.mkF 7 Tryd.func12 rfl Tryd.ntmps12 rfl rfl fun hf T w0 => ?_
    repeat' (first
        | ((with_reducible apply Sat.run (X := X64)); exact rfl; (first | exact True.intro | (exact phi) | skip))
        | ((with_reducible apply Sat.drawn); kernel_rfl)
        | ((with_reducible apply DSat.run (X := X64)); exact rfl; (first | exact True.intro | (exact phi) | skip))
        | ((with_reducible apply DSat.fin); kernel_rfl)
        | ((with_reducible apply Sat.cond_t); exact rfl)
        | ((with_reducible apply Sat.cond_f); exact rfl)
        | ((with_reducible apply Sat.cond_pt); exact rfl; (try dsimp only [V.EV.sub, V.EV.len]); first | assumption | omega)
        | ((with_reducible apply Sat.cond_pf); exact rfl; (try dsimp only [V.EV.sub, V.EV.len]); first | assumption | omega)
        | ((with_reducible apply Sat.cond_p); exact rfl; all_goals (intro h; (try simp only [V.EV.sub, V.EV.len] at h)))
        | ((with_reducible apply Sat.cond); exact rfl; all_goals (intro h; (try simp only [V.EV.sub, V.EV.len, Bool.cond_true_left, Bool.cond_false_right, Bool.or_eq_true, Bool.and_eq_true, Bool.or_eq_false_iff, Bool.and_eq_false_iff, Bool.not_eq_true', Bool.not_eq_false', decide_eq_true_eq, decide_eq_false_iff_not, ne_eq] at h)))
        | ((with_reducible apply Sat.callR (i1)); exact rfl; exact rfl; exact rfl; kernel_rfl; (exact cnvX); exact rfl)
        | ((with_reducible apply DSat.callR (i1)); exact rfl; exact rfl; exact rfl; kernel_rfl; (exact cnvX); exact rfl)
        | ((with_reducible apply Sat.callR (i2)); exact rfl; exact rfl; exact rfl; kernel_rfl; (exact cnvX); exact rfl)
        | ((with_reducible apply DSat.callR (i2)); exact rfl; exact rfl; exact rfl; kernel_rfl; (exact cnvX); exact rfl)
        | ((with_reducible apply Sat.callR (i3)); exact rfl; exact rfl; exact rfl; kernel_rfl; (exact cnvX); exact rfl)
        | ((with_reducible apply DSat.callR (i3)); exact rfl; exact rfl; exact rfl; kernel_rfl; (exact cnvX); exact rfl)
        | ((with_reducible apply Sat.callR (i4)); exact rfl; exact rfl; exact rfl; kernel_rfl; (exact cnvX); exact rfl)
        | ((with_reducible apply DSat.callR (i4)); exact rfl; exact rfl; exact rfl; kernel_rfl; (exact cnvX); exact rfl)
        | ((with_reducible apply Sat.callR (i5)); exact rfl; exact rfl; exact rfl; kernel_rfl; (exact cnvX); exact rfl)
        | ((with_reducible apply DSat.callR (i5)); exact rfl; exact rfl; exact rfl; kernel_rfl; (exact cnvX); exact rfl)
        | ((with_reducible apply Sat.callR (s1)); exact rfl; exact rfl; exact rfl; kernel_rfl; (exact cnvX); exact rfl)
        | ((with_reducible apply DSat.callR (s1)); exact rfl; exact rfl; exact rfl; kernel_rfl; (exact cnvX); exact rfl)
        | ((with_reducible apply Sat.callR (w1)); exact rfl; exact rfl; exact rfl; kernel_rfl; (exact cnvX); exact rfl)
        | ((with_reducible apply DSat.callR (w1)); exact rfl; exact rfl; exact rfl; kernel_rfl; (exact cnvX); exact rfl)
        | ((with_reducible apply Sat.callR (c1)); exact rfl; exact rfl; exact rfl; kernel_rfl; (exact cnvX); exact rfl)
        | ((with_reducible apply DSat.callR (c1)); exact rfl; exact rfl; exact rfl; kernel_rfl; (exact cnvX); exact rfl)
        | ((with_reducible apply Sat.callR (c2)); exact rfl; exact rfl; exact rfl; kernel_rfl; (exact cnvX); exact rfl)
        | ((with_reducible apply DSat.callR (c2)); exact rfl; exact rfl; exact rfl; kernel_rfl; (exact cnvX); exact rfl)
        | ((with_reducible apply Sat.callR (r1)); exact rfl; exact rfl; exact rfl; kernel_rfl; (exact cnvX); exact rfl)
        | ((with_reducible apply DSat.callR (r1)); exact rfl; exact rfl; exact rfl; kernel_rfl; (exact cnvX); exact rfl) | fail)
    all_goals (refine Sat.fin (Sat.end1 rfl rfl rfl True.intro (.refl _ purX) (by first | exact .inl rfl | exact .inr rfl) (fun _ h => h)) ?_; (refine congrArg SV.bool ?_; unfold validP; simp [h10]))
  refine Fun.mkF 7 Tryd.func12 rfl Tryd.ntmps12 rfl rfl fun hf T w0 => ?_
  repeat' (first
      | ((with_reducible apply Sat.run (X := X64)); exact rfl; (first | exact True.intro | (exact phi) | skip))
      | ((with_reducible apply Sat.drawn); kernel_rfl)
      | ((with_reducible apply DSat.run (X := X64)); exact rfl; (first | exact True.intro | (exact phi) | skip))
      | ((with_reducible apply DSat.fin); kernel_rfl)
      | ((with_reducible apply Sat.cond_t); exact rfl)
      | ((with_reducible apply Sat.cond_f); exact rfl)
      | ((with_reducible apply Sat.cond_pt); exact rfl; (try dsimp only [V.EV.sub, V.EV.len]); first | assumption | omega)
      | ((with_reducible apply Sat.cond_pf); exact rfl; (try dsimp only [V.EV.sub, V.EV.len]); first | assumption | omega)
      | ((with_reducible apply Sat.cond_p); exact rfl; all_goals (intro h; (try simp only [V.EV.sub, V.EV.len] at h)))
      | ((with_reducible apply Sat.cond); exact rfl; all_goals (intro h; (try simp only [V.EV.sub, V.EV.len, Bool.cond_true_left, Bool.cond_false_right, Bool.or_eq_true, Bool.and_eq_true, Bool.or_eq_false_iff, Bool.and_eq_false_iff, Bool.not_eq_true', Bool.not_eq_false', decide_eq_true_eq, decide_eq_false_iff_not, ne_eq] at h)))
      | ((with_reducible apply Sat.callR (i1)); exact rfl; exact rfl; exact rfl; kernel_rfl; (exact cnvX); exact rfl)
      | ((with_reducible apply DSat.callR (i1)); exact rfl; exact rfl; exact rfl; kernel_rfl; (exact cnvX); exact rfl)
      | ((with_reducible apply Sat.callR (i2)); exact rfl; exact rfl; exact rfl; kernel_rfl; (exact cnvX); exact rfl)
      | ((with_reducible apply DSat.callR (i2)); exact rfl; exact rfl; exact rfl; kernel_rfl; (exact cnvX); exact rfl)
      | ((with_reducible apply Sat.callR (i3)); exact rfl; exact rfl; exact rfl; kernel_rfl; (exact cnvX); exact rfl)
      | ((with_reducible apply DSat.callR (i3)); exact rfl; exact rfl; exact rfl; kernel_rfl; (exact cnvX); exact rfl)
      | ((with_reducible apply Sat.callR (i4)); exact rfl; exact rfl; exact rfl; kernel_rfl; (exact cnvX); exact rfl)
      | ((with_reducible apply DSat.callR (i4)); exact rfl; exact rfl; exact rfl; kernel_rfl; (exact cnvX); exact rfl)
      | ((with_reducible apply Sat.callR (i5)); exact rfl; exact rfl; exact rfl; kernel_rfl; (exact cnvX); exact rfl)
      | ((with_reducible apply DSat.callR (i5)); exact rfl; exact rfl; exact rfl; kernel_rfl; (exact cnvX); exact rfl)
      | ((with_reducible apply Sat.callR (s1)); exact rfl; exact rfl; exact rfl; kernel_rfl; (exact cnvX); exact rfl)
      | ((with_reducible apply DSat.callR (s1)); exact rfl; exact rfl; exact rfl; kernel_rfl; (exact cnvX); exact rfl)
      | ((with_reducible apply Sat.callR (w1)); exact rfl; exact rfl; exact rfl; kernel_rfl; (exact cnvX); exact rfl)
      | ((with_reducible apply DSat.callR (w1)); exact rfl; exact rfl; exact rfl; kernel_rfl; (exact cnvX); exact rfl)
      | ((with_reducible apply Sat.callR (c1)); exact rfl; exact rfl; exact rfl; kernel_rfl; (exact cnvX); exact rfl)
      | ((with_reducible apply DSat.callR (c1)); exact rfl; exact rfl; exact rfl; kernel_rfl; (exact cnvX); exact rfl)
      | ((with_reducible apply Sat.callR (c2)); exact rfl; exact rfl; exact rfl; kernel_rfl; (exact cnvX); exact rfl)
      | ((with_reducible apply DSat.callR (c2)); exact rfl; exact rfl; exact rfl; kernel_rfl; (exact cnvX); exact rfl)
      | ((with_reducible apply Sat.callR (r1)); exact rfl; exact rfl; exact rfl; kernel_rfl; (exact cnvX); exact rfl)
      | ((with_reducible apply DSat.callR (r1)); exact rfl; exact rfl; exact rfl; kernel_rfl; (exact cnvX); exact rfl) | fail)
  all_goals (refine Sat.fin (Sat.end1 rfl rfl rfl True.intro (.refl _ purX) (by first | exact .inl rfl | exact .inr rfl) (fun _ h => h)) ?_; (refine congrArg SV.bool ?_; unfold validP; simp [h0, h1, h2, h3, h4, h5, h6, h7, h8, h9, h10]))
end Go.Proofs.YtegbdcadlmefgaaDoor
end
section
namespace Go.Proofs.YtegbdcadlmefgaaDoor
open Go.RowKit V
set_option linter.unusedSimpArgs false
theorem any_false {α : Type} (l : List α) (p : α → Bool) (z : α) : l.any p = false ↔ ∀ i, i < l.length → p (l.getD i z) = false := by
  have h := all_iff l (fun x => !p x) z
  have e : l.any p = false ↔ (l.all fun x => !p x) = true := by
    rw [List.any_eq_false, List.all_eq_true]
    simp
  rw [e, h]
  simp
theorem small_false (l : List Int) (h : (l.any fun n => !inB n 0 1000000000) = true) : risB l 0 60000 = false := by
  refine decide_eq_false fun q => ?_
  have : (l.any fun n => !inB n 0 1000000000) = false := (any_false l _ 0).2 fun i hi => by
    have := (q i hi).1
    unfold inB at this ⊢
    rw [Bool.and_eq_true, decide_eq_true_eq, decide_eq_true_eq] at this
    rw [decide_eq_true (by omega), decide_eq_true (by omega)]
    rfl
  rw [this] at h
  cases h
theorem parts_eq (l : List PartL) : ((!l.any fun p => !nameB p.name) && risP l) = decide (∀ i, i < l.length → PartP l i) := by
  refine Bool.eq_iff_iff.2 ?_
  unfold risP
  simp only [Bool.and_eq_true, Bool.not_eq_true', decide_eq_true_eq]
  rw [any_false l _ part0]
  constructor
  · rintro ⟨h1, h2⟩ i hi
    exact ⟨by simpa using h1 i hi, h2 i hi⟩
  · intro h
    exact ⟨fun i hi => by simpa using (h i hi).1, fun i hi => (h i hi).2⟩
theorem gone_eq (l : List Int) (v : Int) : (!l.any fun y => decide (v = y)) = decide (∀ i, i < l.length → l.getD i 0 ≠ v) := by
  refine Bool.eq_iff_iff.2 ?_
  simp only [Bool.not_eq_true', decide_eq_true_eq]
  rw [any_false l _ 0]
  constructor
  · intro h i hi e
    exact absurd e.symm (of_decide_eq_false (h i hi))
  · intro h i hi
    exact decide_eq_false fun e => h i hi e.symm
theorem valid_eq (r : Rel) : validP r = validB r := by
  unfold validP validB valid1 valid2 valid3 valid4
  rw [← parts_eq, ← gone_eq]
  have hw : ((!r.gone.any fun n => !inB n 0 1000000000) && withinB r.gone 0 60000) = risB r.gone 0 60000 := by
    cases h : (r.gone.any fun n => !inB n 0 1000000000) with
    | true => rw [small_false _ h]; rfl
    | false => rw [within_ris _ _ _ (by rw [h]; rfl)]; rfl
  rw [← hw]
  simp only [Bool.and_assoc]
  cases decide (r.gone.length ≤ 16) <;> cases decide (r.parts.length ≤ 8) <;> simp
end Go.Proofs.YtegbdcadlmefgaaDoor
end
section
namespace Go.Proofs.YtegbdcadlmefgaaDoor
open Go.RowKit V
set_option maxRecDepth 100000
set_option maxHeartbeats 8000000
set_option linter.unusedSimpArgs false
def runes_ren : Go.Shelf.Ren := ⟨fun | 15 => 95 | 17 => 57 | 20 => 101 | n => n, fun | 23 => 106 | n => n, fun | n => n⟩
theorem runes_lays : Go.Proofs.LaysGw.n17 Tryd.prog runes_ren := {
  mixed := by kernel_rfl
  f15 := Tryd.func95.trans (congrArg some (by kernel_rfl))
  f17 := Tryd.func57.trans (congrArg some (by kernel_rfl))
  f20 := Tryd.func101.trans (congrArg some (by kernel_rfl))
  t0 := Tryd.underlying0
  a0 := Tryd.isAgg0
  z0 := Tryd.sizeOf0
  v0 := Tryd.zeroValue0
  i0 := by kernel_rfl
  t3 := Tryd.underlying3
  a3 := Tryd.isAgg3
  z3 := Tryd.sizeOf3
  v3 := Tryd.zeroValue3
  i3 := by kernel_rfl
  t4 := Tryd.underlying4
  a4 := Tryd.isAgg4
  z4 := Tryd.sizeOf4
  v4 := Tryd.zeroValue4
  i4 := by kernel_rfl
  t9 := Tryd.underlying9
  a9 := Tryd.isAgg9
  z9 := Tryd.sizeOf9
  v9 := Tryd.zeroValue9
  i9 := by kernel_rfl
  t21 := Tryd.underlying21
  a21 := Tryd.isAgg21
  z21 := Tryd.sizeOf21
  v21 := Tryd.zeroValue21
  i21 := by kernel_rfl
  t23 := Tryd.underlying106
  a23 := Tryd.isAgg106
  z23 := Tryd.sizeOf106
  v23 := Tryd.zeroValue106
  i23 := by kernel_rfl }
def strangeB (x : Nat) : Bool := (decide ((x : Int) < 48) || decide (57 < (x : Int))) && (decide (bits BinOp.or IntKind.i32 (x : Int) 32 < 97) || decide (122 < bits BinOp.or IntKind.i32 (x : Int) 32))
theorem strange_gives (W : World) (x : Nat) (hx : x ≤ 1114111) : FnGives Tryd.prog 88 #[] #[encR x] (.bool (strangeB x)) W := by
  have e : strangeB x = strangeB x := rfl
  conv at e => rhs; unfold strangeB
  unfold FnGives
  rw [e]
  go_enter Tryd.func88, Tryd.ntmps88
  go_wp2
  all_goals (go_ret; refine ⟨?_, 0, ?_⟩)
  all_goals first | rfl | (simp_all; done) | (rw [show decide ((x : Int) < 48) = false from decide_eq_false (by omega), show decide (57 < (x : Int)) = false from decide_eq_false (by omega)]; rfl) | (have a1 : ¬ ((x : Int) < 48) := (by omega); have a2 : ¬ (57 < (x : Int)) := (by omega); simp [a1, a2]) | trace_state
/-- Is there a strange rune? -/
def strangeR (s : List UInt8) : Bool := decide (0 ≤ Lib.idxFunc strangeB true ⟨s.toArray⟩)
theorem containsR (s : List UInt8) : Fun Tryd.prog [] 57 [.str s, .fn 88 []] (.bool (strangeR s)) := by
  intro T w vs hT hG ht
  cases ht with
  | cons s1 v l vs1 hr hl =>
    cases hl with
    | cons s2 v2 l2 vs2 hr2 hl3 =>
      cases hl3
      cases hr
      cases hr2 with
      | fn _ _ us hu =>
        cases hu
        refine (Any.strings_ContainsFunc_runes runes_lays 88 #[] (enters_of Tryd.func88 (by kernel_rfl) rfl) strangeB ⟨s.toArray⟩ w (fun W x hx _ => strange_gives W x hx)).mono ?_
        rintro e w' ⟨rfl, hb⟩
        exact ⟨_, rfl, .bool _, hb⟩
theorem name_walk (s : List UInt8) : Fun Tryd.prog [] 38 [.str s] (.bool (inB s.length 1 12 && !strangeR s)) := by
  have i1 := in_spec s.length 1 12
  have c1 := containsR s
  cases h : inB s.length 1 12 <;> rw [h] at i1
  all_goals
    refine Fun.mkF 6 Tryd.func38 rfl Tryd.ntmps38 rfl rfl fun hf T w0 => ?_
    repeat' (first
        | ((with_reducible apply Sat.run (X := (fun _ => false))); exact rfl; (first | exact True.intro | (exact phi) | skip))
        | ((with_reducible apply Sat.drawn); kernel_rfl)
        | ((with_reducible apply DSat.run (X := (fun _ => false))); exact rfl; (first | exact True.intro | (exact phi) | skip))
        | ((with_reducible apply DSat.fin); kernel_rfl)
        | ((with_reducible apply Sat.cond_t); exact rfl)
        | ((with_reducible apply Sat.cond_f); exact rfl)
        | ((with_reducible apply Sat.cond_pt); exact rfl; (try dsimp only [V.EV.sub, V.EV.len]); first | assumption | omega)
        | ((with_reducible apply Sat.cond_pf); exact rfl; (try dsimp only [V.EV.sub, V.EV.len]); first | assumption | omega)
        | ((with_reducible apply Sat.cond_p); exact rfl; all_goals (intro h; (try simp only [V.EV.sub, V.EV.len] at h)))
        | ((with_reducible apply Sat.cond); exact rfl; all_goals (intro h; (try simp only [V.EV.sub, V.EV.len, Bool.cond_true_left, Bool.cond_false_right, Bool.or_eq_true, Bool.and_eq_true, Bool.or_eq_false_iff, Bool.and_eq_false_iff, Bool.not_eq_true', Bool.not_eq_false', decide_eq_true_eq, decide_eq_false_iff_not, ne_eq] at h)))
        | ((with_reducible apply Sat.callR (i1)); exact rfl; exact rfl; exact rfl; kernel_rfl; (exact cnv); exact rfl)
        | ((with_reducible apply DSat.callR (i1)); exact rfl; exact rfl; exact rfl; kernel_rfl; (exact cnv); exact rfl)
        | ((with_reducible apply Sat.gon); exact rfl; first | exact rfl | (decide +kernel))
        | ((with_reducible apply Sat.callR (c1)); exact rfl; exact rfl; exact rfl; kernel_rfl; (exact cnv); exact rfl)
        | ((with_reducible apply DSat.callR (c1)); exact rfl; exact rfl; exact rfl; kernel_rfl; (exact cnv); exact rfl)
        | ((with_reducible apply Sat.callG1 (c1)); exact rfl; exact rfl; exact rfl; exact rfl; kernel_rfl; (intro hG; (exact cnv)); exact rfl)
        | ((with_reducible apply DSat.callG1 (c1)); exact rfl; exact rfl; exact rfl; exact rfl; kernel_rfl; (intro hG; (exact cnv)); exact rfl) | fail)
    all_goals (refine Sat.fin (Sat.end1 rfl rfl rfl True.intro (.refl _ pur) (by first | exact .inl rfl | exact .inr rfl) (fun _ h => h)) ?_; rfl)
end Go.Proofs.YtegbdcadlmefgaaDoor
end
section
namespace Go.Proofs.YtegbdcadlmefgaaDoor
open Go.RowKit V
set_option maxRecDepth 100000
set_option maxHeartbeats 8000000
set_option linter.unusedSimpArgs false
theorem strange_lo : ∀ x : Nat, x < 128 → strangeB x = !nameC (UInt8.ofNat x) := by decide +kernel
theorem strange_hi (x : Nat) (h : 128 ≤ x) (hx : x ≤ 1114111) : strangeB x = true := by
  unfold strangeB
  have hb : (122 : Int) < bits BinOp.or IntKind.i32 (x : Int) 32 := by
    have e1 : (BitVec.ofInt 32 (x : Int)).toNat = x := by rw [BitVec.toNat_ofInt]; omega
    have h1 : x ≤ x ||| 32 := Nat.left_le_or
    have h2 : x ||| 32 < 2 ^ 21 := Nat.or_lt_two_pow (by omega) (by omega)
    have e2 : (BitVec.ofInt 32 (x : Int) ||| BitVec.ofInt 32 32).toNat = x ||| 32 := by rw [BitVec.toNat_or, e1]; rfl
    have e3 : bits BinOp.or IntKind.i32 (x : Int) 32 = IntKind.i32.wrap ((BitVec.ofInt 32 (x : Int) ||| BitVec.ofInt 32 32).toNat : Int) := rfl
    rw [e3, e2, wrap_inR (k := .i32) (by simp [inR, IntKind.min, IntKind.max, IntKind.signed, IntKind.bits]; omega)]
    omega
  rw [decide_eq_true (p := 57 < (x : Int)) (by omega), decide_eq_true (p := 122 < bits BinOp.or IntKind.i32 (x : Int) 32) hb]
  simp
theorem nameC_hi (b : UInt8) (h : 128 ≤ b.toNat) : nameC b = false := by
  unfold nameC
  rw [decide_eq_false (p := b.toNat ≤ 122) (by omega), decide_eq_false (p := b.toNat ≤ 90) (by omega), decide_eq_false (p := b.toNat ≤ 57) (by omega)]
  simp
theorem decode_lo (s : ByteArray) (i : Nat) (h : (s.get! i).toNat < 128) : Utf8.decode s i = ((s.get! i).toNat, 1) := by
  unfold Utf8.decode
  simp only [Nat.add_zero]
  rw [if_pos h]
theorem decode_hi (s : ByteArray) (i : Nat) (h : ¬ (s.get! i).toNat < 128) : 128 ≤ (Utf8.decode s i).1 := by
  unfold Utf8.decode
  simp only [Nat.add_zero]
  rw [if_neg h]
  split
  · split
    · rename_i h2; exact h2
    · simp [Utf8.runeError]
  · split
    · split
      · rename_i h2; simp only [Bool.and_eq_true, decide_eq_true_eq, ge_iff_le] at h2; omega
      · simp [Utf8.runeError]
    · split
      · split
        · rename_i h2; simp only [Bool.and_eq_true, decide_eq_true_eq, ge_iff_le] at h2; omega
        · simp [Utf8.runeError]
      · simp [Utf8.runeError]
theorem strange_from (l : List UInt8) : ∀ (f pos : Nat), l.length ≤ pos + f → (0 ≤ Lib.idxFuncFrom strangeB true ⟨l.toArray⟩ f pos ↔ ∃ i, pos ≤ i ∧ i < l.length ∧ nameC (l.getD i 0) = false)
  | 0, pos, h => by
    simp only [Lib.idxFuncFrom]
    constructor
    · intro q; omega
    · rintro ⟨i, h1, h2, _⟩; omega
  | f + 1, pos, h => by
    simp only [Lib.idxFuncFrom]
    have hs : (ByteArray.size ⟨l.toArray⟩) = l.length := by simp [ByteArray.size]
    rw [hs]
    by_cases hp : pos < l.length
    · rw [if_pos hp]
      have hg : (ByteArray.get! ⟨l.toArray⟩ pos) = l.getD pos 0 := by
        show l.toArray[pos]! = _
        simp [hp, List.getD]
      by_cases hb : (l.getD pos 0).toNat < 128
      · rw [decode_lo _ _ (by rw [hg]; exact hb), hg]
        dsimp only
        rw [strange_lo _ hb, UInt8.ofNat_toNat]
        cases hc : nameC (l.getD pos 0) with
        | false =>
          rw [if_pos (show (!false) = true from rfl)]
          exact ⟨fun _ => ⟨pos, Nat.le_refl _, hp, hc⟩, fun _ => by omega⟩
        | true =>
          rw [if_neg (by simp), strange_from l f (pos + 1) (by omega)]
          constructor
          · rintro ⟨i, h1, h2, h3⟩; exact ⟨i, by omega, h2, h3⟩
          · rintro ⟨i, h1, h2, h3⟩
            refine ⟨i, ?_, h2, h3⟩
            rcases Nat.lt_or_eq_of_le h1 with h4 | rfl
            · exact h4
            · rw [hc] at h3; cases h3
      · rw [strange_hi _ (decode_hi _ _ (by rw [hg]; exact hb)) (Lib.rune_le _ _), if_pos rfl]
        exact ⟨fun _ => ⟨pos, Nat.le_refl _, hp, nameC_hi _ (by omega)⟩, fun _ => by omega⟩
    · rw [if_neg hp]
      constructor
      · intro q; omega
      · rintro ⟨i, h1, h2, _⟩; omega
theorem strange_eq (s : List UInt8) : (!strangeR s) = s.all nameC := by
  have h := strange_from s s.length 0 (by omega)
  have e : strangeR s = decide (0 ≤ Lib.idxFuncFrom strangeB true ⟨s.toArray⟩ s.length 0) := rfl
  rw [e]
  refine Bool.eq_iff_iff.2 ?_
  rw [all_iff s nameC 0, Bool.not_eq_true', decide_eq_false_iff_not, h]
  constructor
  · intro q i hi
    cases hc : nameC (s.getD i 0) with
    | true => rfl
    | false => exact absurd ⟨i, Nat.zero_le _, hi, hc⟩ q
  · rintro q ⟨i, _, hi, hc⟩
    rw [q i hi] at hc
    cases hc
theorem name_spec (s : List UInt8) : Fun Tryd.prog [] 38 [.str s] (.bool (nameB s)) := by
  have h := name_walk s
  rw [strange_eq, Bool.and_comm] at h
  exact h
theorem valid_spec (r : Rel) : Fun Tryd.prog [] 12 [r.v] (.bool (validB r)) := by
  have h := valid_walk name_spec r
  rw [valid_eq] at h
  exact h
end Go.Proofs.YtegbdcadlmefgaaDoor
end
section
namespace Go.Proofs.YtegbdcadlmefgaaDoor
open Go.RowKit V
set_option maxRecDepth 100000
set_option maxHeartbeats 8000000
set_option linter.unusedSimpArgs false
attribute [local irreducible] V.Sat V.DSat
/-- The bytes of a role's name. -/
def plainC (c : UInt8) : Bool := decide (32 ≤ c.toNat) && decide (c.toNat ≤ 126)
def plainB (s : List UInt8) : Bool := s.all plainC && inB s.length 1 20
theorem plain_ref (s : List UInt8) : Fun Tryd.prog [] 60 [.str s] (.bool (plainB s)) := by
  refine Fun.mkF 6 Tryd.func60 rfl Tryd.ntmps60 rfl rfl fun hf T w0 => ?_
  obtain ⟨hl, _⟩ := hf
  unfold factsS okLen at hl
  have hin := in_ref s.length 1 20
  repeat' (first
      | ((with_reducible apply Sat.run (X := X64)); exact rfl; (first | exact True.intro | (exact phi) | skip))
      | ((with_reducible apply Sat.drawn); kernel_rfl)
      | ((with_reducible apply DSat.run (X := X64)); exact rfl; (first | exact True.intro | (exact phi) | skip))
      | ((with_reducible apply DSat.fin); kernel_rfl)
      | ((with_reducible apply Sat.cond_t); exact rfl)
      | ((with_reducible apply Sat.cond_f); exact rfl)
      | ((with_reducible apply Sat.cond_pt); exact rfl; (try dsimp only [V.EV.sub, V.EV.len]); first | assumption | omega)
      | ((with_reducible apply Sat.cond_pf); exact rfl; (try dsimp only [V.EV.sub, V.EV.len]); first | assumption | omega)
      | ((with_reducible apply Sat.cond_p); exact rfl; all_goals (intro h; (try simp only [V.EV.sub, V.EV.len] at h)))
      | ((with_reducible apply Sat.cond); exact rfl; all_goals (intro h; (try simp only [V.EV.sub, V.EV.len, Bool.cond_true_left, Bool.cond_false_right, Bool.or_eq_true, Bool.and_eq_true, Bool.or_eq_false_iff, Bool.and_eq_false_iff, Bool.not_eq_true', Bool.not_eq_false', decide_eq_true_eq, decide_eq_false_iff_not, ne_eq] at h))) | fail)
  apply Sat.loop (α := Nat) (fun x => x ≤ s.length ∧ ∀ i, i < x → plainC (s.getD i 0) = true) (fun x => s.length - x) 0 (fun x => [(3, .int .i64 (x : Int))]) (fun _ => []) [] [] 0
  · intro x; exact rfl
  · intro x; exact rfl
  · exact rfl
  · exact rfl
  · (repeat' (first | exact AllP.nil | with_reducible refine AllP.cons ?_ ?_)) <;> first | exact rfl | exact trivial
  · exact ⟨Nat.zero_le _, fun i hi => by omega⟩
  · rintro x ⟨x1, x2⟩
    have key : plainC (s.getD (x : Int).toNat 0) = true ↔ (32 ≤ ((s.getD (x : Int).toNat 0).toNat : Int) ∧ ((s.getD (x : Int).toNat 0).toNat : Int) ≤ 126) := by
      unfold plainC
      simp only [Bool.and_eq_true, decide_eq_true_eq]
      omega
    repeat' (first
        | ((with_reducible apply Sat.run (X := X64)); exact rfl; (first | exact True.intro | (exact phi) | skip))
        | ((with_reducible apply Sat.drawn); kernel_rfl)
        | ((with_reducible apply DSat.run (X := X64)); exact rfl; (first | exact True.intro | (exact phi) | skip))
        | ((with_reducible apply DSat.fin); kernel_rfl)
        | ((with_reducible apply Sat.cond_t); exact rfl)
        | ((with_reducible apply Sat.cond_f); exact rfl)
        | ((with_reducible apply Sat.cond_pt); exact rfl; (try dsimp only [V.EV.sub, V.EV.len]); first | assumption | omega)
        | ((with_reducible apply Sat.cond_pf); exact rfl; (try dsimp only [V.EV.sub, V.EV.len]); first | assumption | omega)
        | ((with_reducible apply Sat.cond_p); exact rfl; all_goals (intro h; (try simp only [V.EV.sub, V.EV.len] at h)))
        | ((with_reducible apply Sat.cond); exact rfl; all_goals (intro h; (try simp only [V.EV.sub, V.EV.len, Bool.cond_true_left, Bool.cond_false_right, Bool.or_eq_true, Bool.and_eq_true, Bool.or_eq_false_iff, Bool.and_eq_false_iff, Bool.not_eq_true', Bool.not_eq_false', decide_eq_true_eq, decide_eq_false_iff_not, ne_eq] at h)))
        | ((with_reducible apply Sat.callR (hin)); exact rfl; exact rfl; exact rfl; kernel_rfl; (exact cnv); exact rfl)
        | ((with_reducible apply DSat.callR (hin)); exact rfl; exact rfl; exact rfl; kernel_rfl; (exact cnv); exact rfl) | fail)
    · (refine Sat.fin (Sat.end1 rfl rfl rfl True.intro (.refl _ pur) (by first | exact .inl rfl | exact .inr rfl) (fun _ h => h)) ?_; (refine congrArg SV.bool ?_; unfold plainB; rw [show s.all plainC = false from Bool.eq_false_iff.2 fun e => by have q := key.1 ((all_iff s plainC 0).1 e x (by omega)); omega]; rfl))
    · refine Sat.back (x + 1) [] rfl ?_ ?_ ?_
      · (repeat' (first | exact AllP.nil | with_reducible refine AllP.cons ?_ ?_)) <;> first | exact rfl | exact trivial | exact Int.natCast_add_one _
      · refine ⟨by omega, fun i hi => ?_⟩
        rcases Nat.lt_succ_iff_lt_or_eq.1 hi with h1 | rfl
        · exact x2 i h1
        · exact key.2 (by omega)
      · omega
    · (refine Sat.fin (Sat.end1 rfl rfl rfl True.intro (.refl _ pur) (by first | exact .inl rfl | exact .inr rfl) (fun _ h => h)) ?_; (refine congrArg SV.bool ?_; unfold plainB; rw [(all_iff s plainC 0).2 fun i hi => x2 i (by omega)]; rfl))
end Go.Proofs.YtegbdcadlmefgaaDoor
end
section
namespace Go.Proofs.YtegbdcadlmefgaaDoor
open Go.RowKit V
--PURE: (intro _ _; simp [pureL, pureS, pureE]; done)
set_option maxRecDepth 100000
set_option maxHeartbeats 8000000
set_option linter.unusedSimpArgs false
attribute [local irreducible] V.Sat V.DSat
structure RoleL where
  name : List UInt8
  keys : List Int
  need : Int
@[reducible] def role0 : RoleL := ⟨[], [], 0⟩
@[reducible] def rolesE (l : List RoleL) : EV := .g l.length 3 fun i => [.str (l.getD i role0).name, .ro (.ints .i64 (l.getD i role0).keys), .int .i64 (l.getD i role0).need]
@[reducible] def keysE (l : List (List UInt8)) : EV := .g l.length 32 fun i => [.arr 32 (.u8 (l.getD i []))]
structure RootL where
  gen : Int
  expiry : Int
  keys : List (List UInt8)
  roles : List RoleL
@[reducible] def RootL.v (r : RootL) : SV := .agg [.int .i64 r.gen, .int .i64 r.expiry, .ro (keysE r.keys), .ro (rolesE r.roles)]
def root1 (r : RootL) : Bool := inB r.gen 1 1000000 && (inB r.expiry 0 1000000000 && (inB r.keys.length 1 8 && inB r.roles.length 1 8))
def root2 (r : RootL) : Bool := decide (∀ i, i < r.keys.length → ∀ k, k < i → r.keys.getD k [] ≠ r.keys.getD i [])
def RoleP (n : Nat) (l : List RoleL) (i : Nat) : Prop := plainB (l.getD i role0).name = true ∧ (0 < i → Op.bytesLess (l.getD (i - 1) role0).name (l.getD i role0).name = true) ∧ (l.getD i role0).keys.length ≠ 0 ∧ risB (l.getD i role0).keys 0 ((n : Int) - 1) = true ∧ inB (l.getD i role0).need 1 (l.getD i role0).keys.length = true
instance (n : Nat) (l : List RoleL) (i : Nat) : Decidable (RoleP n l i) := by unfold RoleP; infer_instance
def root3 (r : RootL) : Bool := decide (∀ i, i < r.roles.length → RoleP r.keys.length r.roles i)
def rootB (r : RootL) : Bool := root1 r && (root2 r && root3 r)
theorem validRoot_ref (r : RootL) : Fun Tryd.prog [] 18 [r.v] (.bool (rootB r)) := by
  obtain ⟨g, ex, ks, rs⟩ := r
  have i1 := in_ref g 1 1000000
  have i2 := in_ref ex 0 1000000000
  have i3 := in_ref ks.length 1 8
  have i4 := in_ref rs.length 1 8
  refine Fun.mkF 7 Tryd.func18 rfl Tryd.ntmps18 rfl rfl fun hf T w0 => ?_
  repeat' (first
      | ((with_reducible apply Sat.run (X := X64)); exact rfl; (first | exact True.intro | (exact phi) | skip))
      | ((with_reducible apply Sat.drawn); kernel_rfl)
      | ((with_reducible apply DSat.run (X := X64)); exact rfl; (first | exact True.intro | (exact phi) | skip))
      | ((with_reducible apply DSat.fin); kernel_rfl)
      | ((with_reducible apply Sat.cond_t); exact rfl)
      | ((with_reducible apply Sat.cond_f); exact rfl)
      | ((with_reducible apply Sat.cond_pt); exact rfl; (try dsimp only [V.EV.sub, V.EV.len]); first | assumption | omega)
      | ((with_reducible apply Sat.cond_pf); exact rfl; (try dsimp only [V.EV.sub, V.EV.len]); first | assumption | omega)
      | ((with_reducible apply Sat.cond_p); exact rfl; all_goals (intro h; (try simp only [V.EV.sub, V.EV.len] at h)))
      | ((with_reducible apply Sat.cond); exact rfl; all_goals (intro h; (try simp only [V.EV.sub, V.EV.len, Bool.cond_true_left, Bool.cond_false_right, Bool.or_eq_true, Bool.and_eq_true, Bool.or_eq_false_iff, Bool.and_eq_false_iff, Bool.not_eq_true', Bool.not_eq_false', decide_eq_true_eq, decide_eq_false_iff_not, ne_eq] at h)))
      | ((with_reducible apply Sat.callR (i1)); exact rfl; exact rfl; exact rfl; kernel_rfl; (exact cnvX); exact rfl)
      | ((with_reducible apply DSat.callR (i1)); exact rfl; exact rfl; exact rfl; kernel_rfl; (exact cnvX); exact rfl)
      | ((with_reducible apply Sat.callG1 (i2)); exact rfl; exact rfl; exact rfl; exact rfl; kernel_rfl; (intro hG; (exact cnvX)); exact rfl)
      | ((with_reducible apply DSat.callG1 (i2)); exact rfl; exact rfl; exact rfl; exact rfl; kernel_rfl; (intro hG; (exact cnvX)); exact rfl)
      | ((with_reducible apply Sat.callG1 (i3)); exact rfl; exact rfl; exact rfl; exact rfl; kernel_rfl; (intro hG; (exact cnvX)); exact rfl)
      | ((with_reducible apply DSat.callG1 (i3)); exact rfl; exact rfl; exact rfl; exact rfl; kernel_rfl; (intro hG; (exact cnvX)); exact rfl)
      | ((with_reducible apply Sat.callG1 (i4)); exact rfl; exact rfl; exact rfl; exact rfl; kernel_rfl; (intro hG; (exact cnvX)); exact rfl)
      | ((with_reducible apply DSat.callG1 (i4)); exact rfl; exact rfl; exact rfl; exact rfl; kernel_rfl; (intro hG; (exact cnvX)); exact rfl) | fail)
  · (refine Sat.fin (Sat.end1 rfl rfl rfl True.intro (.refl _ purX) (by first | exact .inl rfl | exact .inr rfl) (fun _ h => h)) ?_; (refine congrArg SV.bool ?_; unfold rootB root1; rcases h with ((h | h) | h) | h <;> simp [h]))
  have e1 : root1 ⟨g, ex, ks, rs⟩ = true := by
    obtain ⟨⟨⟨q1, q2⟩, q3⟩, q4⟩ := h
    unfold root1; simp [q1, q2, q3, q4]
  have hk : ks.length ≤ 8 := by
    unfold root1 inB at e1; simp at e1; omega
  have hr : rs.length ≤ 8 := by
    unfold root1 inB at e1; simp at e1; omega
  clear h
  apply Sat.loop (α := Nat) (fun x => x ≤ ks.length ∧ ∀ i, i < x → ∀ k, k < i → ks.getD k [] ≠ ks.getD i []) (fun x => ks.length - x) 0 (fun x => [(3, .int .i64 (x : Int))]) (fun _ => []) [] [] 0
  · intro x; exact rfl
  · intro x; exact rfl
  · exact rfl
  · exact rfl
  · (repeat' (first | exact AllP.nil | with_reducible refine AllP.cons ?_ ?_)) <;> first | exact rfl | exact trivial | exact Int.natCast_add_one _ | (intro _ _; simp [pureL, pureS, pureE]; done) | exact ⟨rfl, rfl, rfl, rfl⟩
  · exact ⟨Nat.zero_le _, fun i hi => by omega⟩
  · rintro x ⟨x1, x2⟩
    repeat' (first
        | ((with_reducible apply Sat.run (X := X64)); exact rfl; (first | exact True.intro | (exact phi) | skip))
        | ((with_reducible apply Sat.drawn); kernel_rfl)
        | ((with_reducible apply DSat.run (X := X64)); exact rfl; (first | exact True.intro | (exact phi) | skip))
        | ((with_reducible apply DSat.fin); kernel_rfl)
        | ((with_reducible apply Sat.cond_t); exact rfl)
        | ((with_reducible apply Sat.cond_f); exact rfl)
        | ((with_reducible apply Sat.cond_pt); exact rfl; (try dsimp only [V.EV.sub, V.EV.len]); first | assumption | omega)
        | ((with_reducible apply Sat.cond_pf); exact rfl; (try dsimp only [V.EV.sub, V.EV.len]); first | assumption | omega)
        | ((with_reducible apply Sat.cond_p); exact rfl; all_goals (intro h; (try simp only [V.EV.sub, V.EV.len] at h)))
        | ((with_reducible apply Sat.cond); exact rfl; all_goals (intro h; (try simp only [V.EV.sub, V.EV.len, Bool.cond_true_left, Bool.cond_false_right, Bool.or_eq_true, Bool.and_eq_true, Bool.or_eq_false_iff, Bool.and_eq_false_iff, Bool.not_eq_true', Bool.not_eq_false', decide_eq_true_eq, decide_eq_false_iff_not, ne_eq] at h))) | fail)
    · apply Sat.loop (α := Nat) (fun y => y ≤ x ∧ ∀ k, k < y → ks.getD k [] ≠ ks.getD x []) (fun y => x - y) 0 (fun y => [(4, .int .i64 (y : Int))]) (fun _ => []) [] [] 0
      · intro x; exact rfl
      · intro x; exact rfl
      · exact rfl
      · exact rfl
      · (repeat' (first | exact AllP.nil | with_reducible refine AllP.cons ?_ ?_)) <;> first | exact rfl | exact trivial | exact Int.natCast_add_one _ | (intro _ _; simp [pureL, pureS, pureE]; done) | exact ⟨rfl, rfl, rfl, rfl⟩
      · exact ⟨Nat.zero_le _, fun i hi => by omega⟩
      · rintro y ⟨y1, y2⟩
        repeat' (first
            | ((with_reducible apply Sat.run (X := X64)); exact rfl; (first | exact True.intro | (exact phi) | skip))
            | ((with_reducible apply Sat.drawn); kernel_rfl)
            | ((with_reducible apply DSat.run (X := X64)); exact rfl; (first | exact True.intro | (exact phi) | skip))
            | ((with_reducible apply DSat.fin); kernel_rfl)
            | ((with_reducible apply Sat.cond_t); exact rfl)
            | ((with_reducible apply Sat.cond_f); exact rfl)
            | ((with_reducible apply Sat.cond_pt); exact rfl; (try dsimp only [V.EV.sub, V.EV.len]); first | assumption | omega)
            | ((with_reducible apply Sat.cond_pf); exact rfl; (try dsimp only [V.EV.sub, V.EV.len]); first | assumption | omega)
            | ((with_reducible apply Sat.cond_p); exact rfl; all_goals (intro h; (try simp only [V.EV.sub, V.EV.len] at h)))
            | ((with_reducible apply Sat.cond); exact rfl; all_goals (intro h; (try simp only [V.EV.sub, V.EV.len, Bool.cond_true_left, Bool.cond_false_right, Bool.or_eq_true, Bool.and_eq_true, Bool.or_eq_false_iff, Bool.and_eq_false_iff, Bool.not_eq_true', Bool.not_eq_false', decide_eq_true_eq, decide_eq_false_iff_not, ne_eq] at h))) | fail)
        · (refine Sat.fin (Sat.end1 rfl rfl rfl True.intro (.refl _ purX) (by first | exact .inl rfl | exact .inr rfl) (fun _ h => h)) ?_; (refine congrArg SV.bool ?_; unfold rootB; rw [show root2 ⟨g, ex, ks, rs⟩ = false from decide_eq_false fun e => e x (by show x < ks.length; omega) y (by omega) h]; simp))
        · refine Sat.back (y + 1) [] rfl ?_ ?_ ?_
          · (repeat' (first | exact AllP.nil | with_reducible refine AllP.cons ?_ ?_)) <;> first | exact rfl | exact trivial | exact Int.natCast_add_one _ | (intro _ _; simp [pureL, pureS, pureE]; done) | exact ⟨rfl, rfl, rfl, rfl⟩
          · refine ⟨by omega, fun k hk => ?_⟩
            rcases Nat.lt_succ_iff_lt_or_eq.1 hk with h1 | rfl
            · exact y2 k h1
            · exact h
          · omega
        · refine Sat.back (x + 1) [] rfl ?_ ?_ ?_
          · (repeat' (first | exact AllP.nil | with_reducible refine AllP.cons ?_ ?_)) <;> first | exact rfl | exact trivial | exact Int.natCast_add_one _ | (intro _ _; simp [pureL, pureS, pureE]; done) | exact ⟨rfl, rfl, rfl, rfl⟩
          · refine ⟨by omega, fun i hi => ?_⟩
            rcases Nat.lt_succ_iff_lt_or_eq.1 hi with h1 | rfl
            · exact x2 i h1
            · exact fun k hk => y2 k (by omega)
          · omega
    have e2 : root2 ⟨g, ex, ks, rs⟩ = true := decide_eq_true fun i hi => x2 i (by dsimp only at hi; omega)
    apply Sat.loop (α := Nat) (fun y => y ≤ rs.length ∧ ∀ i, i < y → RoleP ks.length rs i) (fun y => rs.length - y) 0 (fun y => [(5, .int .i64 (y : Int))]) (fun _ => []) [] [] 0
    · intro x; exact rfl
    · intro x; exact rfl
    · exact rfl
    · exact rfl
    · (repeat' (first | exact AllP.nil | with_reducible refine AllP.cons ?_ ?_)) <;> first | exact rfl | exact trivial | exact Int.natCast_add_one _ | (intro _ _; simp [pureL, pureS, pureE]; done) | exact ⟨rfl, rfl, rfl, rfl⟩
    · exact ⟨Nat.zero_le _, fun i hi => by omega⟩
    · rintro y ⟨y1, y2⟩
      have c1 := plain_ref (rs.getD (y : Int).toNat role0).name
      have c2 := rising_ref (rs.getD (y : Int).toNat role0).keys 0 ((ks.length : Int) - 1)
      have c3 := in_ref (rs.getD (y : Int).toNat role0).need 1 (rs.getD (y : Int).toNat role0).keys.length
      have key : RoleP ks.length rs y ↔ ((((plainB (rs.getD (y : Int).toNat role0).name = true ∧ (¬ 0 < (y : Int) ∨ Op.bytesLess (rs.getD ((y : Int) - 1).toNat role0).name (rs.getD (y : Int).toNat role0).name = true)) ∧ ¬ (((rs.getD (y : Int).toNat role0).keys.length : Int) = 0)) ∧ risB (rs.getD (y : Int).toNat role0).keys 0 ((ks.length : Int) - 1) = true) ∧ inB (rs.getD (y : Int).toNat role0).need 1 (rs.getD (y : Int).toNat role0).keys.length = true) := by
        unfold RoleP
        rw [show (y : Int).toNat = y from rfl, show ((y : Int) - 1).toNat = y - 1 by omega]
        rcases Nat.eq_zero_or_pos y with h0 | h0
        · subst h0; simp [and_assoc]
        · have h1 : (0 : Int) < y := by omega
          simp [h0, h1, and_assoc]
      repeat' (first
          | ((with_reducible apply Sat.run (X := X64)); exact rfl; (first | exact True.intro | (exact phi) | skip))
          | ((with_reducible apply Sat.drawn); kernel_rfl)
          | ((with_reducible apply DSat.run (X := X64)); exact rfl; (first | exact True.intro | (exact phi) | skip))
          | ((with_reducible apply DSat.fin); kernel_rfl)
          | ((with_reducible apply Sat.cond_t); exact rfl)
          | ((with_reducible apply Sat.cond_f); exact rfl)
          | ((with_reducible apply Sat.cond_pt); exact rfl; (try dsimp only [V.EV.sub, V.EV.len]); first | assumption | omega)
          | ((with_reducible apply Sat.cond_pf); exact rfl; (try dsimp only [V.EV.sub, V.EV.len]); first | assumption | omega)
          | ((with_reducible apply Sat.cond_p); exact rfl; all_goals (intro h; (try simp only [V.EV.sub, V.EV.len] at h)))
          | ((with_reducible apply Sat.cond); exact rfl; all_goals (intro h; (try simp only [V.EV.sub, V.EV.len, Bool.cond_true_left, Bool.cond_false_right, Bool.or_eq_true, Bool.and_eq_true, Bool.or_eq_false_iff, Bool.and_eq_false_iff, Bool.not_eq_true', Bool.not_eq_false', decide_eq_true_eq, decide_eq_false_iff_not, ne_eq] at h)))
          | ((with_reducible apply Sat.callR (c1)); exact rfl; exact rfl; exact rfl; kernel_rfl; (exact cnvX); exact rfl)
          | ((with_reducible apply DSat.callR (c1)); exact rfl; exact rfl; exact rfl; kernel_rfl; (exact cnvX); exact rfl)
          | ((with_reducible apply Sat.callG1 (c2)); exact rfl; exact rfl; exact rfl; exact rfl; kernel_rfl; (intro hG; (exact cnvX)); exact rfl)
          | ((with_reducible apply DSat.callG1 (c2)); exact rfl; exact rfl; exact rfl; exact rfl; kernel_rfl; (intro hG; (exact cnvX)); exact rfl)
          | ((with_reducible apply Sat.callG1 (c3)); exact rfl; exact rfl; exact rfl; exact rfl; kernel_rfl; (intro hG; (exact cnvX)); exact rfl)
          | ((with_reducible apply DSat.callG1 (c3)); exact rfl; exact rfl; exact rfl; exact rfl; kernel_rfl; (intro hG; (exact cnvX)); exact rfl) | fail)
      · have e3 : root3 ⟨g, ex, ks, rs⟩ = false := decide_eq_false fun e => by
          obtain ⟨⟨⟨⟨q1, q2⟩, q3⟩, q4⟩, q5⟩ := key.1 (e y (by show y < rs.length; omega))
          rcases h with (((h | h) | h) | h) | h
          · rw [q1] at h; cases h
          · rcases q2 with q2 | q2
            · exact q2 h.1
            · rw [q2] at h; cases h.2
          · exact q3 (of_decide_eq_true h)
          · rw [q4] at h; cases h
          · rw [q5] at h; cases h
        (refine Sat.fin (Sat.end1 rfl rfl rfl True.intro (.refl _ purX) (by first | exact .inl rfl | exact .inr rfl) (fun _ h => h)) ?_; (refine congrArg SV.bool ?_; unfold rootB; rw [e3]; simp))
      · refine Sat.back (y + 1) [] rfl ?_ ?_ ?_
        · (repeat' (first | exact AllP.nil | with_reducible refine AllP.cons ?_ ?_)) <;> first | exact rfl | exact trivial | exact Int.natCast_add_one _ | (intro _ _; simp [pureL, pureS, pureE]; done) | exact ⟨rfl, rfl, rfl, rfl⟩
        · refine ⟨by omega, fun i hi => ?_⟩
          rcases Nat.lt_succ_iff_lt_or_eq.1 hi with h1 | rfl
          · exact y2 i h1
          · exact key.2 ⟨⟨⟨h.1.1.1, of_decide_eq_false h.1.1.2⟩, h.1.2⟩, h.2⟩
        · omega
      · (refine Sat.fin (Sat.end1 rfl rfl rfl True.intro (.refl _ purX) (by first | exact .inl rfl | exact .inr rfl) (fun _ h => h)) ?_; (refine congrArg SV.bool ?_; unfold rootB; rw [e1, e2, show root3 ⟨g, ex, ks, rs⟩ = true from decide_eq_true fun i hi => y2 i (by dsimp only at hi; omega)]; rfl))
end Go.Proofs.YtegbdcadlmefgaaDoor
end
section
namespace Go.Proofs.YtegbdcadlmefgaaDoor
open Go.RowKit V
--PURE: (intro _ _; simp [pureL, pureS, pureE]; done)
set_option maxRecDepth 100000
set_option maxHeartbeats 8000000
set_option linter.unusedSimpArgs false
attribute [local irreducible] V.Sat V.DSat
theorem index_sum (x : List UInt8) (l : List (List UInt8)) : Fun Tryd.prog [] 94 [.ro (keysE l), .arr 32 (.u8 x)] (.int .i64 (idxL (fun y => decide (x = y)) l 0)) := by
  refine Fun.mkF 6 Tryd.func94 rfl Tryd.ntmps94 rfl rfl fun hf T w0 => ?_
  obtain ⟨⟨hl, _⟩, _⟩ := hf
  dsimp only [EV.len] at hl
  unfold okLen at hl
  repeat' (first
      | ((with_reducible apply Sat.run (X := X64)); exact rfl; (first | exact True.intro | (exact phi) | skip))
      | ((with_reducible apply Sat.drawn); kernel_rfl)
      | ((with_reducible apply DSat.run (X := X64)); exact rfl; (first | exact True.intro | (exact phi) | skip))
      | ((with_reducible apply DSat.fin); kernel_rfl)
      | ((with_reducible apply Sat.cond_t); exact rfl)
      | ((with_reducible apply Sat.cond_f); exact rfl)
      | ((with_reducible apply Sat.cond_pt); exact rfl; (try dsimp only [V.EV.sub, V.EV.len]); first | assumption | omega)
      | ((with_reducible apply Sat.cond_pf); exact rfl; (try dsimp only [V.EV.sub, V.EV.len]); first | assumption | omega)
      | ((with_reducible apply Sat.cond_p); exact rfl; all_goals (intro h; (try simp only [V.EV.sub, V.EV.len] at h)))
      | ((with_reducible apply Sat.cond); exact rfl; all_goals (intro h; (try simp only [V.EV.sub, V.EV.len, Bool.cond_true_left, Bool.cond_false_right, Bool.or_eq_true, Bool.and_eq_true, Bool.or_eq_false_iff, Bool.and_eq_false_iff, Bool.not_eq_true', Bool.not_eq_false', decide_eq_true_eq, decide_eq_false_iff_not, ne_eq] at h))) | fail)
  apply Sat.loop (α := Nat) (fun y => y ≤ l.length ∧ ∀ i, i < y → decide (x = l.getD i []) = false) (fun x => l.length - x) 0 (fun x => [(8, .int .i64 (x : Int))]) (fun _ => []) [] [] 0
  · intro x; exact rfl
  · intro x; exact rfl
  · exact rfl
  · exact rfl
  · (repeat' (first | exact AllP.nil | with_reducible refine AllP.cons ?_ ?_)) <;> first | exact rfl | exact trivial | (intro _ _; simp [pureL, pureS, pureE]; done)
  · exact ⟨Nat.zero_le _, fun i hi => by omega⟩
  · rintro y ⟨x1, x2⟩
    repeat' (first
        | ((with_reducible apply Sat.run (X := X64)); exact rfl; (first | exact True.intro | (exact phi) | skip))
        | ((with_reducible apply Sat.drawn); kernel_rfl)
        | ((with_reducible apply DSat.run (X := X64)); exact rfl; (first | exact True.intro | (exact phi) | skip))
        | ((with_reducible apply DSat.fin); kernel_rfl)
        | ((with_reducible apply Sat.cond_t); exact rfl)
        | ((with_reducible apply Sat.cond_f); exact rfl)
        | ((with_reducible apply Sat.cond_pt); exact rfl; (try dsimp only [V.EV.sub, V.EV.len]); first | assumption | omega)
        | ((with_reducible apply Sat.cond_pf); exact rfl; (try dsimp only [V.EV.sub, V.EV.len]); first | assumption | omega)
        | ((with_reducible apply Sat.cond_p); exact rfl; all_goals (intro h; (try simp only [V.EV.sub, V.EV.len] at h)))
        | ((with_reducible apply Sat.cond); exact rfl; all_goals (intro h; (try simp only [V.EV.sub, V.EV.len, Bool.cond_true_left, Bool.cond_false_right, Bool.or_eq_true, Bool.and_eq_true, Bool.or_eq_false_iff, Bool.and_eq_false_iff, Bool.not_eq_true', Bool.not_eq_false', decide_eq_true_eq, decide_eq_false_iff_not, ne_eq] at h))) | fail)
    · (refine Sat.fin (Sat.end1 rfl rfl rfl True.intro (.refl _ purX) (by first | exact .inl rfl | exact .inr rfl) (fun _ h => h)) ?_; (exact congrArg (SV.int .i64) ((idxL_at (fun y => decide (x = y)) [] l 0 y x2 (by omega) (decide_eq_true h)).trans (by simp))))
    · refine Sat.back (y + 1) [] rfl ?_ ?_ ?_
      · (repeat' (first | exact AllP.nil | with_reducible refine AllP.cons ?_ ?_)) <;> first | exact rfl | exact trivial | exact Int.natCast_add_one _ | (intro _ _; simp [pureL, pureS, pureE]; done)
      · refine ⟨by omega, fun i hi => ?_⟩
        rcases Nat.lt_succ_iff_lt_or_eq.1 hi with h1 | rfl
        · exact x2 i h1
        · exact decide_eq_false h
      · omega
    · (refine Sat.fin (Sat.end1 rfl rfl rfl True.intro (.refl _ purX) (by first | exact .inl rfl | exact .inr rfl) (fun _ h => h)) ?_; (exact congrArg (SV.int .i64) (idxL_none (fun y => decide (x = y)) [] l 0 fun i hi => x2 i (by omega))))
theorem contains_sum (x : List UInt8) (l : List (List UInt8)) : Fun Tryd.prog [] 55 [.ro (keysE l), .arr 32 (.u8 x)] (.bool (l.any fun y => decide (x = y))) := by
  have hi := index_sum x l
  refine Fun.mk 6 Tryd.func55 rfl Tryd.ntmps55 rfl rfl fun T w0 => ?_
  repeat' (first
      | ((with_reducible apply Sat.run (X := X64)); exact rfl; (first | exact True.intro | (exact phi) | skip))
      | ((with_reducible apply Sat.drawn); kernel_rfl)
      | ((with_reducible apply DSat.run (X := X64)); exact rfl; (first | exact True.intro | (exact phi) | skip))
      | ((with_reducible apply DSat.fin); kernel_rfl)
      | ((with_reducible apply Sat.cond_t); exact rfl)
      | ((with_reducible apply Sat.cond_f); exact rfl)
      | ((with_reducible apply Sat.cond_pt); exact rfl; (try dsimp only [V.EV.sub, V.EV.len]); first | assumption | omega)
      | ((with_reducible apply Sat.cond_pf); exact rfl; (try dsimp only [V.EV.sub, V.EV.len]); first | assumption | omega)
      | ((with_reducible apply Sat.cond_p); exact rfl; all_goals (intro h; (try simp only [V.EV.sub, V.EV.len] at h)))
      | ((with_reducible apply Sat.cond); exact rfl; all_goals (intro h; (try simp only [V.EV.sub, V.EV.len, Bool.cond_true_left, Bool.cond_false_right, Bool.or_eq_true, Bool.and_eq_true, Bool.or_eq_false_iff, Bool.and_eq_false_iff, Bool.not_eq_true', Bool.not_eq_false', decide_eq_true_eq, decide_eq_false_iff_not, ne_eq] at h)))
      | ((with_reducible apply Sat.callR (hi)); exact rfl; exact rfl; exact rfl; kernel_rfl; (exact cnvX); exact rfl)
      | ((with_reducible apply DSat.callR (hi)); exact rfl; exact rfl; exact rfl; kernel_rfl; (exact cnvX); exact rfl) | fail)
  all_goals (refine Sat.fin (Sat.end1 rfl rfl rfl True.intro (.refl _ purX) (by first | exact .inl rfl | exact .inr rfl) (fun _ h => h)) ?_; (exact congrArg SV.bool (idxL_any _ l 0).symm))
end Go.Proofs.YtegbdcadlmefgaaDoor
end
section
namespace Go.Proofs.YtegbdcadlmefgaaDoor
open Go.RowKit V
--PURE: (intro _ _; simp [pureL, pureS, pureE]; done)
set_option maxRecDepth 100000
set_option maxHeartbeats 8000000
set_option linter.unusedSimpArgs false
attribute [local irreducible] V.Sat V.DSat
@[reducible] def RoleL.v (p : RoleL) : SV := .agg [.str p.name, .ro (.ints .i64 p.keys), .int .i64 p.need]
theorem rolec_spec (p q : RoleL) : Fun Tryd.prog [] 59 [p.v, q.v] (.int .i64 (Lib.compareBytes p.name q.name)) := by
  obtain ⟨n1, k1, m1⟩ := p
  obtain ⟨n2, k2, m2⟩ := q
  have hc := compare_spec n1 n2
  refine Fun.mk 6 Tryd.func59 rfl Tryd.ntmps59 rfl rfl fun T w0 => ?_
  repeat' (first
      | ((with_reducible apply Sat.run (X := X64)); exact rfl; (first | exact True.intro | (exact phi) | skip))
      | ((with_reducible apply Sat.drawn); kernel_rfl)
      | ((with_reducible apply DSat.run (X := X64)); exact rfl; (first | exact True.intro | (exact phi) | skip))
      | ((with_reducible apply DSat.fin); kernel_rfl)
      | ((with_reducible apply Sat.cond_t); exact rfl)
      | ((with_reducible apply Sat.cond_f); exact rfl)
      | ((with_reducible apply Sat.cond_pt); exact rfl; (try dsimp only [V.EV.sub, V.EV.len]); first | assumption | omega)
      | ((with_reducible apply Sat.cond_pf); exact rfl; (try dsimp only [V.EV.sub, V.EV.len]); first | assumption | omega)
      | ((with_reducible apply Sat.cond_p); exact rfl; all_goals (intro h; (try simp only [V.EV.sub, V.EV.len] at h)))
      | ((with_reducible apply Sat.cond); exact rfl; all_goals (intro h; (try simp only [V.EV.sub, V.EV.len, Bool.cond_true_left, Bool.cond_false_right, Bool.or_eq_true, Bool.and_eq_true, Bool.or_eq_false_iff, Bool.and_eq_false_iff, Bool.not_eq_true', Bool.not_eq_false', decide_eq_true_eq, decide_eq_false_iff_not, ne_eq] at h)))
      | ((with_reducible apply Sat.callR (hc)); exact rfl; exact rfl; exact rfl; kernel_rfl; (exact cnvX); exact rfl)
      | ((with_reducible apply DSat.callR (hc)); exact rfl; exact rfl; exact rfl; kernel_rfl; (exact cnvX); exact rfl) | fail)
  (refine Sat.fin (Sat.end1 rfl rfl rfl True.intro (.refl _ purX) (by first | exact .inl rfl | exact .inr rfl) (fun _ h => h)) ?_; rfl)
def risR (l : List RoleL) : Bool := decide (∀ i, i < l.length → 0 < i → Op.bytesLess (l.getD (i - 1) role0).name (l.getD i role0).name = true)
theorem rising_role (l : List RoleL) : Fun Tryd.prog [] 58 [.ro (rolesE l), .fn 59 []] (.bool (risR l)) := by
  refine Fun.mkF 6 Tryd.func58 rfl Tryd.ntmps58 rfl rfl fun hf T w0 => ?_
  obtain ⟨⟨hl, _⟩, _⟩ := hf
  dsimp only [EV.len] at hl
  unfold okLen at hl
  repeat' (first
      | ((with_reducible apply Sat.run (X := X64)); exact rfl; (first | exact True.intro | (exact phi) | skip))
      | ((with_reducible apply Sat.drawn); kernel_rfl)
      | ((with_reducible apply DSat.run (X := X64)); exact rfl; (first | exact True.intro | (exact phi) | skip))
      | ((with_reducible apply DSat.fin); kernel_rfl)
      | ((with_reducible apply Sat.cond_t); exact rfl)
      | ((with_reducible apply Sat.cond_f); exact rfl)
      | ((with_reducible apply Sat.cond_pt); exact rfl; (try dsimp only [V.EV.sub, V.EV.len]); first | assumption | omega)
      | ((with_reducible apply Sat.cond_pf); exact rfl; (try dsimp only [V.EV.sub, V.EV.len]); first | assumption | omega)
      | ((with_reducible apply Sat.cond_p); exact rfl; all_goals (intro h; (try simp only [V.EV.sub, V.EV.len] at h)))
      | ((with_reducible apply Sat.cond); exact rfl; all_goals (intro h; (try simp only [V.EV.sub, V.EV.len, Bool.cond_true_left, Bool.cond_false_right, Bool.or_eq_true, Bool.and_eq_true, Bool.or_eq_false_iff, Bool.and_eq_false_iff, Bool.not_eq_true', Bool.not_eq_false', decide_eq_true_eq, decide_eq_false_iff_not, ne_eq] at h))) | fail)
  apply Sat.loop (α := Nat) (fun x => (1 ≤ x ∧ (x ≤ l.length ∨ x = 1)) ∧ ∀ i, i < x → 0 < i → Op.bytesLess (l.getD (i - 1) role0).name (l.getD i role0).name = true) (fun x => l.length + 1 - x) 1 (fun x => [(5, .int .i64 (x : Int))]) (fun _ => []) [] [] 0
  · intro x; exact rfl
  · intro x; exact rfl
  · exact rfl
  · exact rfl
  · (repeat' (first | exact AllP.nil | with_reducible refine AllP.cons ?_ ?_)) <;> first | exact rfl | exact trivial | (intro _ _; simp [pureL, pureS, pureE]; done)
  · exact ⟨⟨Nat.le_refl _, .inr rfl⟩, fun i hi h0 => by omega⟩
  · rintro x ⟨⟨x0, x1⟩, x2⟩
    have hc := rolec_spec (l.getD ((x : Int) - 1).toNat role0) (l.getD (x : Int).toNat role0)
    have e1 : ((x : Int) - 1).toNat = x - 1 := by omega
    have e2 : (x : Int).toNat = x := rfl
    repeat' (first
        | ((with_reducible apply Sat.run (X := X64)); exact rfl; (first | exact True.intro | (exact phi) | skip))
        | ((with_reducible apply Sat.drawn); kernel_rfl)
        | ((with_reducible apply DSat.run (X := X64)); exact rfl; (first | exact True.intro | (exact phi) | skip))
        | ((with_reducible apply DSat.fin); kernel_rfl)
        | ((with_reducible apply Sat.cond_t); exact rfl)
        | ((with_reducible apply Sat.cond_f); exact rfl)
        | ((with_reducible apply Sat.cond_pt); exact rfl; (try dsimp only [V.EV.sub, V.EV.len]); first | assumption | omega)
        | ((with_reducible apply Sat.cond_pf); exact rfl; (try dsimp only [V.EV.sub, V.EV.len]); first | assumption | omega)
        | ((with_reducible apply Sat.cond_p); exact rfl; all_goals (intro h; (try simp only [V.EV.sub, V.EV.len] at h)))
        | ((with_reducible apply Sat.cond); exact rfl; all_goals (intro h; (try simp only [V.EV.sub, V.EV.len, Bool.cond_true_left, Bool.cond_false_right, Bool.or_eq_true, Bool.and_eq_true, Bool.or_eq_false_iff, Bool.and_eq_false_iff, Bool.not_eq_true', Bool.not_eq_false', decide_eq_true_eq, decide_eq_false_iff_not, ne_eq] at h)))
        | ((with_reducible apply Sat.callR (hc)); exact rfl; exact rfl; exact rfl; kernel_rfl; (exact cnvX); exact rfl)
        | ((with_reducible apply DSat.callR (hc)); exact rfl; exact rfl; exact rfl; kernel_rfl; (exact cnvX); exact rfl) | fail)
    · (refine Sat.fin (Sat.end1 rfl rfl rfl True.intro (.refl _ purX) (by first | exact .inl rfl | exact .inr rfl) (fun _ h => h)) ?_; (rw [e1, e2] at h; exact congrArg SV.bool (decide_eq_false fun e => by have := (cmp_less _ _).2 (e x (by omega) (by omega)); omega)))
    · refine Sat.back (x + 1) [] rfl ?_ ?_ ?_
      · (repeat' (first | exact AllP.nil | with_reducible refine AllP.cons ?_ ?_)) <;> first | exact rfl | exact trivial | exact Int.natCast_add_one _ | (intro _ _; simp [pureL, pureS, pureE]; done)
      · refine ⟨by omega, fun i hi h0 => ?_⟩
        rcases Nat.lt_succ_iff_lt_or_eq.1 hi with h1 | rfl
        · exact x2 i h1 h0
        · rw [e1, e2] at h; exact (cmp_less _ _).1 (by omega)
      · omega
    · (refine Sat.fin (Sat.end1 rfl rfl rfl True.intro (.refl _ purX) (by first | exact .inl rfl | exact .inr rfl) (fun _ h => h)) ?_; (exact congrArg SV.bool (decide_eq_true fun i hi h0 => x2 i (by omega) h0)))
end Go.Proofs.YtegbdcadlmefgaaDoor
end
section
namespace Go.Proofs.YtegbdcadlmefgaaDoor
open Go.RowKit V
set_option maxRecDepth 100000
set_option maxHeartbeats 8000000
set_option linter.unusedSimpArgs false
def oddB (x : Nat) : Bool := decide ((x : Int) < 32) || decide (126 < (x : Int))
theorem odd_gives (W : World) (x : Nat) (hx : x ≤ 1114111) : FnGives Tryd.prog 56 #[] #[encR x] (.bool (oddB x)) W := by
  have e : oddB x = oddB x := rfl
  conv at e => rhs; unfold oddB
  unfold FnGives
  rw [e]
  go_enter Tryd.func56, Tryd.ntmps56
  go_wp2
  all_goals (go_ret; refine ⟨?_, 0, ?_⟩)
  all_goals first | rfl | (simp_all; done) | trace_state
def oddR (s : List UInt8) : Bool := decide (0 ≤ Lib.idxFunc oddB true ⟨s.toArray⟩)
theorem containsO (s : List UInt8) : Fun Tryd.prog [] 57 [.str s, .fn 56 []] (.bool (oddR s)) := by
  intro T w vs hT hG ht
  cases ht with
  | cons s1 v l vs1 hr hl =>
    cases hl with
    | cons s2 v2 l2 vs2 hr2 hl3 =>
      cases hl3
      cases hr
      cases hr2 with
      | fn _ _ us hu =>
        cases hu
        refine (Any.strings_ContainsFunc_runes runes_lays 56 #[] (enters_of Tryd.func56 (by kernel_rfl) rfl) oddB ⟨s.toArray⟩ w (fun W x hx _ => odd_gives W x hx)).mono ?_
        rintro e w' ⟨rfl, hb⟩
        exact ⟨_, rfl, .bool _, hb⟩
end Go.Proofs.YtegbdcadlmefgaaDoor
end
section
namespace Go.Proofs.YtegbdcadlmefgaaDoor
open Go.RowKit V
--PURE: (intro _ _; simp [pureL, pureS, pureE]; done)
set_option maxRecDepth 100000
set_option maxHeartbeats 8000000
set_option linter.unusedSimpArgs false
theorem odd_lo : ∀ x : Nat, x < 128 → oddB x = !plainC (UInt8.ofNat x) := by decide +kernel
theorem odd_hi (x : Nat) (h : 128 ≤ x) : oddB x = true := by
  unfold oddB
  rw [decide_eq_true (p := 126 < (x : Int)) (by omega)]
  simp
theorem plainC_hi (b : UInt8) (h : 128 ≤ b.toNat) : plainC b = false := by
  unfold plainC
  rw [decide_eq_false (p := b.toNat ≤ 126) (by omega)]
  simp
theorem odd_from (l : List UInt8) : ∀ (f pos : Nat), l.length ≤ pos + f → (0 ≤ Lib.idxFuncFrom oddB true ⟨l.toArray⟩ f pos ↔ ∃ i, pos ≤ i ∧ i < l.length ∧ plainC (l.getD i 0) = false)
  | 0, pos, h => by
    simp only [Lib.idxFuncFrom]
    constructor
    · intro q; omega
    · rintro ⟨i, h1, h2, _⟩; omega
  | f + 1, pos, h => by
    simp only [Lib.idxFuncFrom]
    have hs : (ByteArray.size ⟨l.toArray⟩) = l.length := by simp [ByteArray.size]
    rw [hs]
    by_cases hp : pos < l.length
    · rw [if_pos hp]
      have hg : (ByteArray.get! ⟨l.toArray⟩ pos) = l.getD pos 0 := by
        show l.toArray[pos]! = _
        simp [hp, List.getD]
      by_cases hb : (l.getD pos 0).toNat < 128
      · rw [decode_lo _ _ (by rw [hg]; exact hb), hg]
        dsimp only
        rw [odd_lo _ hb, UInt8.ofNat_toNat]
        cases hc : plainC (l.getD pos 0) with
        | false =>
          rw [if_pos (show (!false) = true from rfl)]
          exact ⟨fun _ => ⟨pos, Nat.le_refl _, hp, hc⟩, fun _ => by omega⟩
        | true =>
          rw [if_neg (by simp), odd_from l f (pos + 1) (by omega)]
          constructor
          · rintro ⟨i, h1, h2, h3⟩; exact ⟨i, by omega, h2, h3⟩
          · rintro ⟨i, h1, h2, h3⟩
            refine ⟨i, ?_, h2, h3⟩
            rcases Nat.lt_or_eq_of_le h1 with h4 | rfl
            · exact h4
            · rw [hc] at h3; cases h3
      · rw [odd_hi _ (decode_hi _ _ (by rw [hg]; exact hb)), if_pos rfl]
        exact ⟨fun _ => ⟨pos, Nat.le_refl _, hp, plainC_hi _ (by omega)⟩, fun _ => by omega⟩
    · rw [if_neg hp]
      constructor
      · intro q; omega
      · rintro ⟨i, h1, h2, _⟩; omega
theorem odd_eq (s : List UInt8) : (!oddR s) = s.all plainC := by
  have h := odd_from s s.length 0 (by omega)
  have e : oddR s = decide (0 ≤ Lib.idxFuncFrom oddB true ⟨s.toArray⟩ s.length 0) := rfl
  rw [e]
  refine Bool.eq_iff_iff.2 ?_
  rw [all_iff s plainC 0, Bool.not_eq_true', decide_eq_false_iff_not, h]
  constructor
  · intro q i hi
    cases hc : plainC (s.getD i 0) with
    | true => rfl
    | false => exact absurd ⟨i, Nat.zero_le _, hi, hc⟩ q
  · rintro q ⟨i, _, hi, hc⟩
    rw [q i hi] at hc
    cases hc
attribute [local irreducible] V.Sat V.DSat
theorem ro_ext {E : Env} {T : Nat → Prop} {w : World} {n n' sz : Nat} {f g : Nat → List SV} {v : Value} (hn : n' = n) (h : ∀ i, i < n → f i = g i) (hr : Rep E T w (.ro (.g n' sz f)) v) : Rep E T w (.ro (.g n sz g)) v := by
  subst hn
  cases hr with
  | ro0 _ h0 => exact .ro0 _ h0
  | ro1 _ a h0 => exact .ro1 _ a h0
  | ro _ b o n k c hT hn hc hr he hl ok hb => exact .ro _ b o n k c hT hn hc (fun i hi => by have := hr i hi; simp only [EV.items] at this ⊢; rw [← h i hi]; exact this) he hl ok hb
theorem Fun.ext1 {P : Program} {Γ : Glob} {f : FuncId} {s s' : SV} {args : List SV} {res : SV} (h : Fun P Γ f (s :: args) res) (hs : ∀ (T : Nat → Prop) (w : World) (v : Value), Rep E0 T w s' v → Rep E0 T w s v) : Fun P Γ f (s' :: args) res := by
  intro T w vs hT hG ht
  cases ht with
  | cons _ v _ vs' hr hl => exact h T w _ hT hG (.cons _ _ _ _ (hs T w v hr) hl)
/-- What is asked of a role, as the program asks it. -/
def roleB (n : Nat) (x : RoleL) : Bool := !(!(inB x.name.length 1 20) || oddR x.name || decide ((x.keys.length : Int) = 0) || (x.keys.any fun n => !inB n 0 1000000000) || !(withinB x.keys 0 ((n : Int) - 1)) || !(inB x.need 1 x.keys.length))
def rootQ (r : RootL) : Bool := root1 r && (decide (∀ i, i < r.keys.length → ((r.keys.take i).any fun y => decide (r.keys.getD i [] = y)) = false) && (decide (∀ i, i < r.roles.length → roleB r.keys.length (r.roles.getD i role0) = true) && risR r.roles))
theorem take_keys (ks : List (List UInt8)) (x : Nat) (i : Nat) (hi : i < (ks.take x).length) : [SV.arr 32 (.u8 (ks.getD (0 + i) []))] = [SV.arr 32 (.u8 ((ks.take x).getD i []))] := by
  have h1 : i < x := by simp at hi; omega
  simp [List.getD_eq_getElem?_getD, List.getElem?_take, h1]
theorem rootQ_walk (r : RootL) : Fun Tryd.prog [] 17 [r.v] (.bool (rootQ r)) := by
  obtain ⟨g, ex, ks, rs⟩ := r
  have i1 := in_spec g 1 1000000
  have i2 := in_spec ex 0 1000000000
  have i3 := in_spec ks.length 1 8
  have i4 := in_spec rs.length 1 8
  have hr0 := rising_role rs
  show Fun Tryd.prog [] 17 [.agg [.int .i64 g, .int .i64 ex, .ro (keysE ks), .ro (rolesE rs)]] _
  refine Fun.mkF 7 Tryd.func17 rfl Tryd.ntmps17 rfl rfl fun hf T w0 => ?_
  repeat' (first
      | ((with_reducible apply Sat.run (X := X64)); exact rfl; (first | exact True.intro | (exact phi) | skip))
      | ((with_reducible apply Sat.drawn); kernel_rfl)
      | ((with_reducible apply DSat.run (X := X64)); exact rfl; (first | exact True.intro | (exact phi) | skip))
      | ((with_reducible apply DSat.fin); kernel_rfl)
      | ((with_reducible apply Sat.cond_t); exact rfl)
      | ((with_reducible apply Sat.cond_f); exact rfl)
      | ((with_reducible apply Sat.cond_pt); exact rfl; (try dsimp only [V.EV.sub, V.EV.len]); first | assumption | omega)
      | ((with_reducible apply Sat.cond_pf); exact rfl; (try dsimp only [V.EV.sub, V.EV.len]); first | assumption | omega)
      | ((with_reducible apply Sat.cond_p); exact rfl; all_goals (intro h; (try simp only [V.EV.sub, V.EV.len] at h)))
      | ((with_reducible apply Sat.cond); exact rfl; all_goals (intro h; (try simp only [V.EV.sub, V.EV.len, Bool.cond_true_left, Bool.cond_false_right, Bool.or_eq_true, Bool.and_eq_true, Bool.or_eq_false_iff, Bool.and_eq_false_iff, Bool.not_eq_true', Bool.not_eq_false', decide_eq_true_eq, decide_eq_false_iff_not, ne_eq] at h)))
      | ((with_reducible apply Sat.callR (i1)); exact rfl; exact rfl; exact rfl; kernel_rfl; (exact cnvX); exact rfl)
      | ((with_reducible apply DSat.callR (i1)); exact rfl; exact rfl; exact rfl; kernel_rfl; (exact cnvX); exact rfl)
      | ((with_reducible apply Sat.callG1 (i2)); exact rfl; exact rfl; exact rfl; exact rfl; kernel_rfl; (intro hG; (exact cnvX)); exact rfl)
      | ((with_reducible apply DSat.callG1 (i2)); exact rfl; exact rfl; exact rfl; exact rfl; kernel_rfl; (intro hG; (exact cnvX)); exact rfl)
      | ((with_reducible apply Sat.callG1 (i3)); exact rfl; exact rfl; exact rfl; exact rfl; kernel_rfl; (intro hG; (exact cnvX)); exact rfl)
      | ((with_reducible apply DSat.callG1 (i3)); exact rfl; exact rfl; exact rfl; exact rfl; kernel_rfl; (intro hG; (exact cnvX)); exact rfl)
      | ((with_reducible apply Sat.callG1 (i4)); exact rfl; exact rfl; exact rfl; exact rfl; kernel_rfl; (intro hG; (exact cnvX)); exact rfl)
      | ((with_reducible apply DSat.callG1 (i4)); exact rfl; exact rfl; exact rfl; exact rfl; kernel_rfl; (intro hG; (exact cnvX)); exact rfl) | fail)
  · (refine Sat.fin (Sat.end1 rfl rfl rfl True.intro (.refl _ purX) (by first | exact .inl rfl | exact .inr rfl) (fun _ h => h)) ?_; (refine congrArg SV.bool ?_; unfold rootQ root1; rcases h with ((h | h) | h) | h <;> simp [h]))
  have e1 : root1 ⟨g, ex, ks, rs⟩ = true := by
    obtain ⟨⟨⟨q1, q2⟩, q3⟩, q4⟩ := h
    unfold root1; simp [q1, q2, q3, q4]
  have hk : ks.length ≤ 8 := by
    unfold root1 inB at e1; simp at e1; omega
  have hr : rs.length ≤ 8 := by
    unfold root1 inB at e1; simp at e1; omega
  clear h
  apply Sat.loop (α := Nat) (fun x => x ≤ ks.length ∧ ∀ i, i < x → ((ks.take i).any fun y => decide (ks.getD i [] = y)) = false) (fun x => ks.length - x) 0 (fun x => [(35, .int .i64 (x : Int))]) (fun _ => []) [] [] 0
  · intro x; exact rfl
  · intro x; exact rfl
  · exact rfl
  · exact rfl
  · (repeat' (first | exact AllP.nil | with_reducible refine AllP.cons ?_ ?_)) <;> first | exact rfl | exact trivial | exact Int.natCast_add_one _ | (intro _ _; simp [pureL, pureS, pureE]; done) | exact ⟨rfl, rfl, rfl, rfl⟩
  · exact ⟨Nat.zero_le _, fun i hi => by omega⟩
  · rintro x ⟨x1, x2⟩
    have hc0 := contains_sum (ks.getD (x : Int).toNat []) (ks.take x)
    have hc : Fun Tryd.prog [] 55 [.ro (.g ((x : Int).toNat - 0) 32 fun i => [.arr 32 (.u8 (ks.getD (0 + i) []))]), .arr 32 (.u8 (ks.getD (x : Int).toNat []))] (.bool ((ks.take x).any fun y => decide (ks.getD (x : Int).toNat [] = y))) :=
      Fun.ext1 hc0 fun T w v hr => ro_ext (by simp; omega) (take_keys ks x) hr
    clear hc0
    repeat' (first
        | ((with_reducible apply Sat.run (X := X64)); exact rfl; (first | exact True.intro | (exact phi) | skip))
        | ((with_reducible apply Sat.drawn); kernel_rfl)
        | ((with_reducible apply DSat.run (X := X64)); exact rfl; (first | exact True.intro | (exact phi) | skip))
        | ((with_reducible apply DSat.fin); kernel_rfl)
        | ((with_reducible apply Sat.cond_t); exact rfl)
        | ((with_reducible apply Sat.cond_f); exact rfl)
        | ((with_reducible apply Sat.cond_pt); exact rfl; (try dsimp only [V.EV.sub, V.EV.len]); first | assumption | omega)
        | ((with_reducible apply Sat.cond_pf); exact rfl; (try dsimp only [V.EV.sub, V.EV.len]); first | assumption | omega)
        | ((with_reducible apply Sat.cond_p); exact rfl; all_goals (intro h; (try simp only [V.EV.sub, V.EV.len] at h)))
        | ((with_reducible apply Sat.cond); exact rfl; all_goals (intro h; (try simp only [V.EV.sub, V.EV.len, Bool.cond_true_left, Bool.cond_false_right, Bool.or_eq_true, Bool.and_eq_true, Bool.or_eq_false_iff, Bool.and_eq_false_iff, Bool.not_eq_true', Bool.not_eq_false', decide_eq_true_eq, decide_eq_false_iff_not, ne_eq] at h)))
        | ((with_reducible apply Sat.callR (hc)); exact rfl; exact rfl; exact rfl; kernel_rfl; (exact cnvX); exact rfl)
        | ((with_reducible apply DSat.callR (hc)); exact rfl; exact rfl; exact rfl; kernel_rfl; (exact cnvX); exact rfl) | fail)
    · have hx : x < ks.length := by omega
      have q : ¬ ∀ i, i < ks.length → ((ks.take i).any fun y => decide (ks.getD i [] = y)) = false := fun e => by
        have q2 := e x hx
        rw [show (x : Int).toNat = x from rfl, q2] at h
        cases h
      (refine Sat.fin (Sat.end1 rfl rfl rfl True.intro (.refl _ purX) (by first | exact .inl rfl | exact .inr rfl) (fun _ h => h)) ?_; (refine congrArg SV.bool ?_; unfold rootQ; rw [decide_eq_false q]; simp))
    · refine Sat.back (x + 1) [] rfl ?_ ?_ ?_
      · (repeat' (first | exact AllP.nil | with_reducible refine AllP.cons ?_ ?_)) <;> first | exact rfl | exact trivial | exact Int.natCast_add_one _ | (intro _ _; simp [pureL, pureS, pureE]; done) | exact ⟨rfl, rfl, rfl, rfl⟩
      · refine ⟨by omega, fun i hi => ?_⟩
        rcases Nat.lt_succ_iff_lt_or_eq.1 hi with h1 | rfl
        · exact x2 i h1
        · exact h
      · omega
    have e2 : decide (∀ i, i < ks.length → ((ks.take i).any fun y => decide (ks.getD i [] = y)) = false) = true := decide_eq_true fun i hi => x2 i (by omega)
    clear hc
    apply Sat.loop (α := Nat) (fun x => x ≤ rs.length ∧ ∀ i, i < x → roleB ks.length (rs.getD i role0) = true) (fun x => rs.length - x) 0 (fun x => [(50, .int .i64 (x : Int))]) (fun _ => []) [] [] 0
    · intro x; exact rfl
    · intro x; exact rfl
    · exact rfl
    · exact rfl
    · (repeat' (first | exact AllP.nil | with_reducible refine AllP.cons ?_ ?_)) <;> first | exact rfl | exact trivial | exact Int.natCast_add_one _ | (intro _ _; simp [pureL, pureS, pureE]; done) | exact ⟨rfl, rfl, rfl, rfl⟩
    · exact ⟨Nat.zero_le _, fun i hi => by omega⟩
    · rintro y ⟨y1, y2⟩
      have j1 := in_spec (rs.getD (y : Int).toNat role0).name.length 1 20
      have j2 := containsO (rs.getD (y : Int).toNat role0).name
      have j3 := small_spec (rs.getD (y : Int).toNat role0).keys
      have j4 := within_spec (rs.getD (y : Int).toNat role0).keys 0 ((ks.length : Int) - 1)
      have j5 := in_spec (rs.getD (y : Int).toNat role0).need 1 (rs.getD (y : Int).toNat role0).keys.length
      repeat' (first
          | ((with_reducible apply Sat.run (X := X64)); exact rfl; (first | exact True.intro | (exact phi) | skip))
          | ((with_reducible apply Sat.drawn); kernel_rfl)
          | ((with_reducible apply DSat.run (X := X64)); exact rfl; (first | exact True.intro | (exact phi) | skip))
          | ((with_reducible apply DSat.fin); kernel_rfl)
          | ((with_reducible apply Sat.cond_t); exact rfl)
          | ((with_reducible apply Sat.cond_f); exact rfl)
          | ((with_reducible apply Sat.cond_pt); exact rfl; (try dsimp only [V.EV.sub, V.EV.len]); first | assumption | omega)
          | ((with_reducible apply Sat.cond_pf); exact rfl; (try dsimp only [V.EV.sub, V.EV.len]); first | assumption | omega)
          | ((with_reducible apply Sat.cond_p); exact rfl; all_goals (intro h; (try simp only [V.EV.sub, V.EV.len] at h)))
          | ((with_reducible apply Sat.cond); exact rfl; all_goals (intro h; (try simp only [V.EV.sub, V.EV.len, Bool.cond_true_left, Bool.cond_false_right, Bool.or_eq_true, Bool.and_eq_true, Bool.or_eq_false_iff, Bool.and_eq_false_iff, Bool.not_eq_true', Bool.not_eq_false', decide_eq_true_eq, decide_eq_false_iff_not, ne_eq] at h)))
          | ((with_reducible apply Sat.callR (j1)); exact rfl; exact rfl; exact rfl; kernel_rfl; (exact cnvX); exact rfl)
          | ((with_reducible apply DSat.callR (j1)); exact rfl; exact rfl; exact rfl; kernel_rfl; (exact cnvX); exact rfl)
          | ((with_reducible apply Sat.callG1 (j2)); exact rfl; exact rfl; exact rfl; exact rfl; kernel_rfl; (intro hG; (exact cnvX)); exact rfl)
          | ((with_reducible apply DSat.callG1 (j2)); exact rfl; exact rfl; exact rfl; exact rfl; kernel_rfl; (intro hG; (exact cnvX)); exact rfl)
          | ((with_reducible apply Sat.callG1 (j3)); exact rfl; exact rfl; exact rfl; exact rfl; kernel_rfl; (intro hG; (exact cnvX)); exact rfl)
          | ((with_reducible apply DSat.callG1 (j3)); exact rfl; exact rfl; exact rfl; exact rfl; kernel_rfl; (intro hG; (exact cnvX)); exact rfl)
          | ((with_reducible apply Sat.callG1 (j4)); exact rfl; exact rfl; exact rfl; exact rfl; kernel_rfl; (intro hG; (exact cnvX)); exact rfl)
          | ((with_reducible apply DSat.callG1 (j4)); exact rfl; exact rfl; exact rfl; exact rfl; kernel_rfl; (intro hG; (exact cnvX)); exact rfl)
          | ((with_reducible apply Sat.callG1 (j5)); exact rfl; exact rfl; exact rfl; exact rfl; kernel_rfl; (intro hG; (exact cnvX)); exact rfl)
          | ((with_reducible apply DSat.callG1 (j5)); exact rfl; exact rfl; exact rfl; exact rfl; kernel_rfl; (intro hG; (exact cnvX)); exact rfl)
          | ((with_reducible apply Sat.callR (hr0)); exact rfl; exact rfl; exact rfl; kernel_rfl; (exact cnvX); exact rfl)
          | ((with_reducible apply DSat.callR (hr0)); exact rfl; exact rfl; exact rfl; kernel_rfl; (exact cnvX); exact rfl) | fail)
      · have hy : y < rs.length := by omega
        have q : roleB ks.length (rs.getD y role0) = false := by
          rw [show (y : Int).toNat = y from rfl] at h
          generalize rs.getD y role0 = z at h ⊢
          unfold roleB
          rcases h with ((((h | h) | h) | h) | h) | h <;> first | (rw [h]; simp; done) | (simp [of_decide_eq_true h]; done)
        (refine Sat.fin (Sat.end1 rfl rfl rfl True.intro (.refl _ purX) (by first | exact .inl rfl | exact .inr rfl) (fun _ h => h)) ?_; (refine congrArg SV.bool ?_; unfold rootQ; rw [decide_eq_false (p := ∀ i, i < rs.length → roleB ks.length (rs.getD i role0) = true) fun e => by rw [e y hy] at q; cases q]; simp))
      · have hy : y < rs.length := by omega
        have q : roleB ks.length (rs.getD y role0) = true := by
          rw [show (y : Int).toNat = y from rfl] at h
          generalize rs.getD y role0 = z at h ⊢
          unfold roleB
          obtain ⟨⟨⟨⟨⟨q1, q2⟩, q3⟩, q4⟩, q5⟩, q6⟩ := h
          have q3' := of_decide_eq_false q3
          rw [q1, q2, q4, q5, q6, decide_eq_false q3']
          rfl
        refine Sat.back (y + 1) [] rfl ?_ ?_ ?_
        · (repeat' (first | exact AllP.nil | with_reducible refine AllP.cons ?_ ?_)) <;> first | exact rfl | exact trivial | exact Int.natCast_add_one _ | (intro _ _; simp [pureL, pureS, pureE]; done) | exact ⟨rfl, rfl, rfl, rfl⟩
        · refine ⟨by omega, fun i hi => ?_⟩
          rcases Nat.lt_succ_iff_lt_or_eq.1 hi with h1 | rfl
          · exact y2 i h1
          · exact q
        · omega
      · (refine Sat.fin (Sat.end1 rfl rfl rfl True.intro (.refl _ purX) (by first | exact .inl rfl | exact .inr rfl) (fun _ h => h)) ?_; (refine congrArg SV.bool ?_; unfold rootQ; rw [e1, e2, decide_eq_true (p := ∀ i, i < rs.length → roleB ks.length (rs.getD i role0) = true) fun i hi => y2 i (by omega)]; rfl))
theorem small_false' (l : List Int) (high : Int) (hh : high ≤ 1000000000) (h : (l.any fun n => !inB n 0 1000000000) = true) : risB l 0 high = false := by
  refine decide_eq_false fun q => ?_
  have : (l.any fun n => !inB n 0 1000000000) = false := (any_false l _ 0).2 fun i hi => by
    have := (q i hi).1
    unfold inB at this ⊢
    rw [Bool.and_eq_true, decide_eq_true_eq, decide_eq_true_eq] at this
    rw [decide_eq_true (by omega), decide_eq_true (by omega)]
    rfl
  rw [this] at h
  cases h
theorem role_eq (n : Nat) (hn : n ≤ 8) (x : RoleL) : roleB n x = (plainB x.name && (!decide (x.keys.length = 0) && (risB x.keys 0 ((n : Int) - 1) && inB x.need 1 x.keys.length))) := by
  have hw : ((!x.keys.any fun n => !inB n 0 1000000000) && withinB x.keys 0 ((n : Int) - 1)) = risB x.keys 0 ((n : Int) - 1) := by
    cases h : (x.keys.any fun n => !inB n 0 1000000000) with
    | true => rw [small_false' _ _ (by omega) h]; rfl
    | false => rw [within_ris _ _ _ (by rw [h]; rfl)]; rfl
  unfold roleB plainB
  rw [← hw, ← odd_eq]
  have e : decide ((x.keys.length : Int) = 0) = decide (x.keys.length = 0) := decide_eq_decide.2 (by omega)
  rw [e]
  cases inB x.name.length 1 20 <;> cases oddR x.name <;> cases decide (x.keys.length = 0) <;> cases (x.keys.any fun n => !inB n 0 1000000000) <;> cases withinB x.keys 0 ((n : Int) - 1) <;> cases inB x.need 1 x.keys.length <;> rfl
theorem keys_eq (ks : List (List UInt8)) : decide (∀ i, i < ks.length → ((ks.take i).any fun y => decide (ks.getD i [] = y)) = false) = decide (∀ i, i < ks.length → ∀ k, k < i → ks.getD k [] ≠ ks.getD i []) := by
  refine decide_eq_decide.2 (forall_congr' fun i => forall_congr' fun hi => ?_)
  rw [any_false _ _ ([] : List UInt8)]
  have hl : (ks.take i).length = i := by simp; omega
  rw [hl]
  refine forall_congr' fun k => forall_congr' fun hk => ?_
  have : (ks.take i).getD k [] = ks.getD k [] := by simp [List.getD_eq_getElem?_getD, List.getElem?_take, hk]
  rw [this, decide_eq_false_iff_not]
  exact ⟨fun h e => h e.symm, fun h e => h e.symm⟩
theorem rootQ_eq (r : RootL) : rootQ r = rootB r := by
  unfold rootQ rootB
  cases h1 : root1 r with
  | false => rfl
  | true =>
    have hk : r.keys.length ≤ 8 := by
      unfold root1 inB at h1; simp at h1; omega
    rw [keys_eq]
    congr 2
    unfold root3 risR
    refine Bool.eq_iff_iff.2 ?_
    rw [Bool.and_eq_true, decide_eq_true_eq, decide_eq_true_eq, decide_eq_true_eq]
    constructor
    · rintro ⟨p, q⟩ i hi
      have := p i hi
      rw [role_eq _ hk] at this
      simp only [Bool.and_eq_true, Bool.not_eq_true', decide_eq_false_iff_not] at this
      exact ⟨this.1, q i hi, this.2.1, this.2.2.1, this.2.2.2⟩
    · intro p
      refine ⟨fun i hi => ?_, fun i hi => (p i hi).2.1⟩
      obtain ⟨p1, p2, p3, p4, p5⟩ := p i hi
      rw [role_eq _ hk, p1, p4, p5]
      simpa using p3
theorem validRoot_spec (r : RootL) : Fun Tryd.prog [] 17 [r.v] (.bool (rootB r)) := by
  have h := rootQ_walk r
  rw [rootQ_eq] at h
  exact h
end Go.Proofs.YtegbdcadlmefgaaDoor
end
