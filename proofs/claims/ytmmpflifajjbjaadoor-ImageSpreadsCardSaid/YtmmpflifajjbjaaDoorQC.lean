/-
  Joined texts: Vz: A walk by abstract values: calls that are walked where they stand (what they write is seen by the caller).
  Ba: A walk by abstract values: a bytes.Buffer of one's own that is only written (in the mode in which everything new is hidden from what is read).
  Bb: A walk by abstract values: functions that write one block of their caller's.
  Bc: A walk by abstract values: copy into an array of one's own, the whole of it or nothing.
  Bd: A walk by abstract values: one operation of a region alone.
  Be: Calls without arguments; calls under a guard that is known to hold, in a region that draws its order.
  Bf: Operations of a region that draws its order, under a guard that is known not to hold; a row that stands in the elements of another is given up.
  Bg: Ranges over strings: the iterator is a block of one's own.
  Tac: A walk by abstract values: how side conditions are closed (kept once, as default proofs).
  IA: Image: names, of the reference and of the program.
  IB: Image: names of the program (a range over the runes).
  IC: Image: sections; searches in lists of sections; Find of the program and of the reference.
  ID: Image: Valid of the reference.
  IE: Image: Valid of the program.
  Bits: Numbers of some bits: masks, shifts, words put together.
  IF: Image: hexadecimal digits.
-/
import Derived.Test.YtmmpflifajjbjaaDoorQB
import Derived.FollowTie
import Derived.Lib.BufferAt
import Derived.Lib.OthersKept
import Derived.Lib.UnsafeStr
import Derived.Lib.TrimU
section
namespace Go.Proofs.YtmmpflifajjbjaaDoor.V
open Go.RowKit

/-! ### What the caller keeps -/
mutual
/-- Do the numbers in a value all lie among these? -/
def keepS (p : Nat → Bool) : SV → Prop
  | .ptr id _ => p id = true
  | .pel id _ _ _ _ => p id = true
  | .row id _ _ _ _ => p id = true
  | .bsl id _ => p id = true
  | .rop e _ _ => pureE e
  | .ro e => pureE e
  | .agg l => keepL p l
  | .arr _ e => pureE e
  | .tup l => keepL p l
  | .fn _ l => keepL p l
  | .mv _ l => keepL p l
  | .ifc _ v => keepS p v
  | .may _ v => keepS p v
  | _ => True
def keepL (p : Nat → Bool) : List SV → Prop
  | [] => True
  | s :: r => keepS p s ∧ keepL p r
end
def pinE (p : Nat → Bool) (E : Env) : Env := fun i => if p i = true then E i else none
theorem pinE_at {p : Nat → Bool} {E : Env} {i : Nat} (h : p i = true) : pinE p E i = E i := by simp [pinE, h]
section
variable {E : Env} {T : Nat → Prop} {w : World} {p : Nat → Bool}
mutual
theorem Rep.keep : ∀ {s : SV} {v : Value}, Rep E T w s v → keepS p s → Rep (pinE p E) T w s v
  | _, _, .bool b, _ => .bool b
  | _, _, .int k n h, _ => .int k n h
  | _, _, .str l h, _ => .str l h
  | _, _, .nilp, _ => .nilp
  | _, _, .ptr id off b h, hp => .ptr id off b ((pinE_at (by simpa only [keepS] using hp)).trans h)
  | _, _, .pel id base sz i j b h, hp => .pel id base sz i j b ((pinE_at (by simpa only [keepS] using hp)).trans h)
  | _, _, .rop e i j b o c hT' hn hc hr hi hj hb, hp => by
    simp only [keepS] at hp
    exact .rop e i j b o c hT' hn hc (fun i hi => Items.free_ (hr i hi) (hp.items hi)) hi hj hb
  | _, _, .nils, _ => .nils
  | _, _, .row id base sz sub len b o c n t h hs ho hl ok, hp => .row id base sz sub len b o c n t ((pinE_at (by simpa only [keepS] using hp)).trans h) hs ho hl ok
  | _, _, .row0 id base sz sub len h hl, hp => .row0 id base sz sub len ((pinE_at (by simpa only [keepS] using hp)).trans h) hl
  | _, _, .ro0 e h, _ => .ro0 e h
  | _, _, .ro1 e a h, _ => .ro1 e a h
  | _, _, .ro e b o n k c hT' hn hc hr he hl ok hb, hp => by
    simp only [keepS] at hp
    exact .ro e b o n k c hT' hn hc (fun i hi => Items.free_ (hr i hi) (hp.items hi)) he hl ok hb
  | _, _, .agg l cs h, hp => .agg l cs (Items.keep h (by simpa only [keepS] using hp))
  | _, _, .arr n e cs c hn hl he h1 hc hr, hp => by
    simp only [keepS] at hp
    exact .arr n e cs c hn hl he h1 hc (fun i hi => Items.free_ (hr i hi) (hp.items hi))
  | _, _, .tup l vs h, hp => .tup l vs (Tup.keep h (by simpa only [keepS] using hp))
  | _, _, .fn f l vs h, hp => .fn f l vs (Tup.keep h (by simpa only [keepS] using hp))
  | _, _, .mv f l vs h, hp => .mv f l vs (Tup.keep h (by simpa only [keepS] using hp))
  | _, _, .ifc t s v h, hp => .ifc t s v (Rep.keep h (by simpa only [keepS] using hp))
  | _, _, .nili, _ => .nili
  | _, _, .nilf, _ => .nilf
  | _, _, .may1 g s v h hr, hp => .may1 g s v h (Rep.keep hr (by simpa only [keepS] using hp))
  | _, _, .may0 g s h, _ => .may0 g s h
  | _, _, .bsl id len b n t h hs hl ok, hp => .bsl id len b n t ((pinE_at (by simpa only [keepS] using hp)).trans h) hs hl ok
  | _, _, .bsl0 id len h hl, hp => .bsl0 id len ((pinE_at (by simpa only [keepS] using hp)).trans h) hl
  | _, _, .anyi k n, _ => .anyi k n
  | _, _, .val x, _ => .val x
theorem Items.keep : ∀ {l : List SV} {cs : List Value}, Items E T w l cs → keepL p l → Items (pinE p E) T w l cs
  | _, _, .nil, _ => .nil
  | _, _, .one s c l cs h hr hl, hp => by
    simp only [keepL] at hp
    exact .one s c l cs h (Rep.keep hr hp.1) (Items.keep hl hp.2)
  | _, _, .arr n e l c1 cs hr hl, hp => by
    simp only [keepL] at hp
    exact .arr n e l c1 cs (Rep.keep hr hp.1) (Items.keep hl hp.2)
theorem Tup.keep : ∀ {l : List SV} {vs : List Value}, Tup E T w l vs → keepL p l → Tup (pinE p E) T w l vs
  | _, _, .nil, _ => .nil
  | _, _, .cons s v l vs hr hl, hp => by
    simp only [keepL] at hp
    exact .cons s v l vs (Rep.keep hr hp.1) (Tup.keep hl hp.2)
end
end
mutual
/-- The same, reckoned: what is left to show (for runs of parts). -/
def kpS (p : List Nat) : SV → Option (List Prop)
  | .ptr id _ => bif p.elem id then some [] else none
  | .pel id _ _ _ _ => bif p.elem id then some [] else none
  | .row id _ _ _ _ => bif p.elem id then some [] else none
  | .bsl id _ => bif p.elem id then some [] else none
  | .rop e _ _ => kpE e
  | .ro e => kpE e
  | .agg l => kpL p l
  | .arr _ e => kpE e
  | .tup l => kpL p l
  | .fn _ l => kpL p l
  | .mv _ l => kpL p l
  | .ifc _ v => kpS p v
  | .may _ v => kpS p v
  | _ => some []
def kpE : EV → Option (List Prop)
  | .g n sz f => some [pureE (.g n sz f)]
  | .u8 _ => some []
  | .ints _ _ => some []
def kpL (p : List Nat) : List SV → Option (List Prop)
  | [] => some []
  | s :: r => match kpS p s with
    | some φ => match kpL p r with
      | some ψ => some (φ ++ ψ)
      | none => none
    | none => none
end
theorem kpE_ok {e : EV} {φ : List Prop} (h : kpE e = some φ) (hφ : AllP φ) : pureE e := by
  cases e with
  | u8 l => simp [pureE]
  | ints k l => simp [pureE]
  | g n sz f =>
    simp only [kpE, Option.some.injEq] at h
    subst h
    exact hφ.1
theorem bif_some {b : Bool} {φ : List Prop} (h : (bif b then some [] else none) = some φ) : b = true := by cases b <;> simp at h ⊢
mutual
theorem kpS_ok {p : List Nat} : ∀ {s : SV} {φ : List Prop}, kpS p s = some φ → AllP φ → keepS p.elem s
  | .ptr id _, φ, h, hφ => by simp only [kpS] at h; simp only [keepS]; exact bif_some h
  | .pel id _ _ _ _, φ, h, hφ => by simp only [kpS] at h; simp only [keepS]; exact bif_some h
  | .row id _ _ _ _, φ, h, hφ => by simp only [kpS] at h; simp only [keepS]; exact bif_some h
  | .bsl id _, φ, h, hφ => by simp only [kpS] at h; simp only [keepS]; exact bif_some h
  | .anyi _, _, _, _ => by simp only [keepS]
  | .rop e _ _, φ, h, hφ => by simp only [kpS] at h; simp only [keepS]; exact kpE_ok h hφ
  | .ro e, φ, h, hφ => by simp only [kpS] at h; simp only [keepS]; exact kpE_ok h hφ
  | .agg l, φ, h, hφ => by simp only [kpS] at h; simp only [keepS]; exact kpL_ok h hφ
  | .arr _ e, φ, h, hφ => by simp only [kpS] at h; simp only [keepS]; exact kpE_ok h hφ
  | .tup l, φ, h, hφ => by simp only [kpS] at h; simp only [keepS]; exact kpL_ok h hφ
  | .fn _ l, φ, h, hφ => by simp only [kpS] at h; simp only [keepS]; exact kpL_ok h hφ
  | .mv _ l, φ, h, hφ => by simp only [kpS] at h; simp only [keepS]; exact kpL_ok h hφ
  | .ifc _ v, φ, h, hφ => by simp only [kpS] at h; simp only [keepS]; exact kpS_ok h hφ
  | .may _ v, φ, h, hφ => by simp only [kpS] at h; simp only [keepS]; exact kpS_ok h hφ
  | .bool _, _, _, _ => by simp only [keepS]
  | .int _ _, _, _, _ => by simp only [keepS]
  | .str _, _, _, _ => by simp only [keepS]
  | .nilp, _, _, _ => by simp only [keepS]
  | .nils, _, _, _ => by simp only [keepS]
  | .nili, _, _, _ => by simp only [keepS]
  | .nilf, _, _, _ => by simp only [keepS]
  | .val _, _, _, _ => by simp only [keepS]
theorem kpL_ok {p : List Nat} : ∀ {l : List SV} {φ : List Prop}, kpL p l = some φ → AllP φ → keepL p.elem l
  | [], _, _, _ => by simp only [keepL]
  | s :: r, φ, h, hφ => by
    simp only [kpL] at h
    simp only [keepL]
    split at h
    · rename_i φ1 h1
      split at h
      · rename_i ψ h2
        simp only [Option.some.injEq] at h
        subst h
        obtain ⟨q1, q2⟩ := AllP.app hφ
        exact ⟨kpS_ok h1 q1, kpL_ok h2 q2⟩
      · cases h
    · cases h
end
/-- The slots that are kept. -/
def kpTK {α : Type} (p : List Nat) : Tr → List Prop → (Tr → List Prop → Option α) → Option α
  | .e, acc, K => K .e acc
  | .n l x r, acc, K => kpTK p l acc fun l' φ1 => kpTK p r φ1 fun r' φ2 => match x with
    | none => K (.n l' none r') φ2
    | some s => match kpS p s with
      | some φ => fP φ fun φ => K (.n l' (some s) r') (φ ++ φ2)
      | none => K (.n l' none r') φ2
def keepT (p : List Nat) (F : Tr) : Option (Tr × List Prop) := kpTK p F [] fun G φ => fP φ fun φ => some (G, φ)
theorem kpTK_ok {α : Type} {p : List Nat} : ∀ {F : Tr} {acc : List Prop} {K : Tr → List Prop → Option α} {r : α}, kpTK p F acc K = some r →
    ∃ G φ, K G φ = some r ∧ (AllP φ → AllP acc ∧ ∀ t s, G.get t = some s → F.get t = some s ∧ keepS p.elem s)
  | .e, acc, K, r, h => ⟨.e, acc, h, fun ha => ⟨ha, fun t s hs => by simp [Tr.get] at hs⟩⟩
  | .n l x r', acc, K, r, h => by
    simp only [kpTK] at h
    obtain ⟨l1, φ1, h1, k1⟩ := kpTK_ok h
    obtain ⟨r1, φ2, h2, k2⟩ := kpTK_ok h1
    have key : ∀ (y : Option SV) (φ3 : List Prop), (AllP φ3 → AllP φ2 ∧ ∀ s, y = some s → x = some s ∧ keepS p.elem s) → AllP φ3 → AllP acc ∧ ∀ t s, (Tr.n l1 y r1).get t = some s → (Tr.n l x r').get t = some s ∧ keepS p.elem s := by
      intro y φ3 hy h3
      obtain ⟨q2, q3⟩ := hy h3
      obtain ⟨q1, k2'⟩ := k2 q2
      obtain ⟨q0, k1'⟩ := k1 q1
      refine ⟨q0, fun t s hs => ?_⟩
      cases t with
      | zero => simp only [Tr.get] at hs ⊢; exact q3 s hs
      | succ t =>
        simp only [Tr.get] at hs ⊢
        split at hs
        · exact k1' _ _ hs
        · exact k2' _ _ hs
    cases x with
    | none => exact ⟨_, _, h2, key none φ2 fun h => ⟨h, fun s hs => by cases hs⟩⟩
    | some s0 =>
      dsimp only at h2
      split at h2
      · rename_i φ hφ
        rw [fP_eq] at h2
        refine ⟨_, _, h2, key (some s0) (φ ++ φ2) fun h => ?_⟩
        obtain ⟨q1, q2⟩ := AllP.app h
        exact ⟨q2, fun s hs => by cases hs; exact ⟨rfl, kpS_ok hφ q1⟩⟩
      · exact ⟨_, _, h2, key none φ2 fun h => ⟨h, fun s hs => by cases hs⟩⟩
theorem keepT_ok {p : List Nat} {F G : Tr} {φ : List Prop} (h : keepT p F = some (G, φ)) (hφ : AllP φ) : ∀ t s, G.get t = some s → F.get t = some s ∧ keepS p.elem s := by
  unfold keepT at h
  obtain ⟨G', φ', h1, h2⟩ := kpTK_ok h
  rw [fP_eq] at h1
  simp only [Option.some.injEq, Prod.mk.injEq] at h1
  obtain ⟨rfl, rfl⟩ := h1
  exact (h2 hφ).2
/-- The blocks that stay where they are. -/
def pinsK {α : Type} (kill : List Nat) : Mem → List Nat → (List Nat → Option α) → Option α
  | [], acc, K => K acc
  | (i, _) :: r, acc, K => match kill.elem i || acc.elem i with
    | true => pinsK kill r acc K
    | false => pinsK kill r (i :: acc) K
def pinsOf (kill pins : List Nat) (M : Mem) : Option (List Nat) := pinsK kill M pins some
theorem pinsK_sub {kill : List Nat} : ∀ {M : Mem} {acc r : List Nat}, pinsK kill M acc some = some r → ∀ i, acc.elem i = true → r.elem i = true
  | [], acc, r, h, i, hi => by simp only [pinsK, Option.some.injEq] at h; rw [← h]; exact hi
  | (j, _) :: M, acc, r, h, i, hi => by
    simp only [pinsK] at h
    split at h
    · exact pinsK_sub h i hi
    · exact pinsK_sub h i (by rw [List.elem]; split <;> first | rfl | exact hi)

/-! ### The call -/
/-- What is asked of a call's end: that the caller goes on well. -/
def Inl (C : Ctx) (Q0 : Exit → Act → World → Prop) (full rest : List Oper) (d : Option Tmp) (k : List Kont) (a : Act) (e : Ending) (w' : World) : Prop :=
  a.defers = [] → a.tmps.size = C.N → (∀ p, p ∈ C.hold → ∀ id b, p.pe id = some b → C.pins.elem id = true) → ∃ v, e = .returned v ∧ wpList C.P full.toArray (Kq C.P Q0 k) rest (a.put d v) w'
section
variable {C : Ctx} {Q0 : Exit → Act → World → Prop} {F F' : Tr} {M M' : Mem} {ids : List Nat} {k : List Kont}
/-- A call, walked where it stands: what it writes is the caller's memory. -/
theorem inl_core {full rest : List Oper} {d : Option Tmp} {op : Op} {type : TypeId} {pos : String} {after : Array Edge} {f : FuncId} {svs : List SV} {fn : Func} {c : Code} {N' : Nat} {F0 G : Tr} {φ : List Prop} {pins' : List Nat} (dep : Nat) (kill : List Nat)
    (hf : C.P.funcs[f]? = some fn) (hN : fn.ntmps = N') (hx : ∀ U E a w, St C F M U E a w → ∃ vs, Tup E (trk C.T0 M E) w svs vs ∧ (execOp a.eval ⟨d, op, type, pos, after, none⟩).run C.P w = (callFunc f vs.toArray).run C.P w) (hb : fn.body = some c) (hc : callable C.P f = true) (hle : Nat.ble svs.length N' = true) (hF0 : argT 0 svs (Tr.mk dep) = some F0)
    (hp : pinsOf kill C.pins M = some pins') (hG : keepT pins' F = some (G, φ)) (hφ : AllP φ)
    (h : ∀ a E, Sat ⟨C.P, C.W0, C.S, C.T0, C.Γ, N', pins', ⟨pinE pins'.elem E, G, fun t => a.tmps.getD t undef⟩ :: C.hold, C.wide⟩ (bodyPost C.P fn (Inl C Q0 full rest d k a)) (.code c F0 M ids [])) :
    Sat C Q0 (.reg full (⟨d, op, type, pos, after, none⟩ :: rest) F M ids k) := by
  intro U E a w hsup hst
  refine wpList_plain rfl fun K hK => ?_
  unfold Oper.wp
  obtain ⟨vs, ht, hex⟩ := hx U E a w hst
  rw [hex, run_callFunc_go hc]
  have hlen := ht.len
  have hle' := Nat.le_of_ble_eq_true hle
  have hsub := pinsK_sub hp
  have hkeep := keepT_ok hG hφ
  refine (calls_of_wp hf hb (h a E U E _ w hsup ⟨rfl, ?_, fun t s hs => ?_, hst.mem, hst.own, hst.fresh, hst.kp, hst.hid, hst.glob, fun p hp id b h1 => ?_, fun p hp t s hs => ?_⟩)).mono ?_
  · simp only [Array.size_append, List.size_toArray, Array.size_replicate, hlen, hN]; omega
  · rcases argT_get hF0 ht t s hs with ⟨q1, _⟩ | ⟨_, v, q2, q3⟩ | ⟨_, q2⟩
    · omega
    · have hlt : t < vs.length := by simpa using (List.getElem?_eq_some_iff.1 q2).1
      have : (vs.toArray ++ Array.replicate (fn.ntmps - vs.toArray.size) undef).getD t undef = v := by
        rw [Array.getD_eq_getD_getElem?, Array.getElem?_append_left (by simpa using hlt)]
        simp only [Nat.sub_zero] at q2
        simp [q2]
      rw [this]
      exact q3
    · rw [mk_get] at q2; cases q2
  · rcases List.mem_cons.1 hp with rfl | hp
    · dsimp only [pinE] at h1
      split at h1
      · rename_i hi; exact ⟨hi, h1⟩
      · cases h1
    · obtain ⟨q1, q2⟩ := hst.pin p hp id b h1
      exact ⟨hsub id q1, q2⟩
  · rcases List.mem_cons.1 hp with rfl | hp
    · obtain ⟨q1, q2⟩ := hkeep t s hs
      exact (hst.slots t s q1).keep q2
    · exact hst.held p hp t s hs
  · intro e w' hI
    obtain ⟨v, rfl, hv⟩ := hI hst.defers hst.size fun p hp id b h => (hst.pin p hp id b h).1
    exact hK _ _ hv
theorem Sat.inl {full rest : List Oper} {d : Option Tmp} {x : Operand} {f : FuncId} {xs : List Operand} {ats : Array TypeId} {type : TypeId} {pos : String} {after : Array Edge} {svs : List SV} {fn : Func} {c : Code} {N' : Nat} {F0 G : Tr} {φ : List Prop} {pins' : List Nat} (dep : Nat) (kill : List Nat)
    (hf : C.P.funcs[f]? = some fn) (hN : fn.ntmps = N') (hx : argsF C.Γ F x xs = some (f, svs)) (hb : fn.body = some c) (hc : callable C.P f = true) (hle : Nat.ble svs.length N' = true) (hF0 : argT 0 svs (Tr.mk dep) = some F0)
    (hp : pinsOf kill C.pins M = some pins') (hG : keepT pins' F = some (G, φ)) (hφ : AllP φ)
    (h : ∀ a E, Sat ⟨C.P, C.W0, C.S, C.T0, C.Γ, N', pins', ⟨pinE pins'.elem E, G, fun t => a.tmps.getD t undef⟩ :: C.hold, C.wide⟩ (bodyPost C.P fn (Inl C Q0 full rest d k a)) (.code c F0 M ids [])) :
    Sat C Q0 (.reg full (⟨d, .call ⟨.value x, ⟨xs⟩, ats⟩, type, pos, after, none⟩ :: rest) F M ids k) :=
  inl_core dep kill hf hN (fun U E a w hst => by
    obtain ⟨vs, ht, hex⟩ := argsF_ok hst.vw hx
    exact ⟨vs, ht, by rw [hex]⟩) hb hc hle hF0 hp hG hφ h
/-- The same by an interface value whose type is known. -/
def argsI (Γ : Glob) (F : Tr) (x : Operand) (xs : List Operand) : Option (TypeId × List SV) :=
  match opd Γ F x with
  | some (.ifc t s) => match opdsC Γ F xs with
    | some svs => some (t, s :: svs)
    | none => none
  | _ => none
theorem argsI_ok {Γ : Glob} {E : Env} {T : Nat → Prop} {a : Act} {w : World} {P : Program} (V : Vw Γ F M E T a w) {x : Operand} {xs : List Operand} {f : FuncId} {t : TypeId} {name : String} {svs : List SV} (h : argsI Γ F x xs = some (t, svs)) (hm : ∀ v w, (method (P.types.size + Made.depth) t v name).run P w = .ok (f, v) w)
    (d : Option Tmp) (ats : Array TypeId) (type : TypeId) (pos : String) (after : Array Edge) (guard : Option (Nat × Bool)) :
    ∃ vs, Tup E T w svs vs ∧ (execOp a.eval ⟨d, .call ⟨.invoke x name, ⟨xs⟩, ats⟩, type, pos, after, guard⟩).run P w = (callFunc f vs.toArray).run P w := by
  unfold argsI at h
  split at h
  · rename_i t' s hs
    have hr := opd_rep V hs
    split at h
    · rename_i svs' hx
      have ht := opdsC_tup V hx
      simp only [Option.some.injEq, Prod.mk.injEq] at h
      obtain ⟨rfl, rfl⟩ := h
      generalize hv : a.eval x = v at hr
      cases hr with
      | ifc _ _ u hu =>
        refine ⟨u :: xs.map a.eval, .cons _ _ _ _ hu ht, ?_⟩
        have e : execOp a.eval ⟨d, .call ⟨.invoke x name, ⟨xs⟩, ats⟩, type, pos, after, guard⟩ = callMethod (.iface t' u) name (xs.map a.eval).toArray := by
          unfold execOp resolve
          simp [hv, invoke]
          rw [List.take_of_length_le (by simp)]
        rw [e]
        rcases callMethod_tie P w t' u name (xs.map a.eval).toArray with ⟨f', r', w', h1, h2⟩ | ⟨hh, w', h1, _⟩
        · rw [hm] at h1
          cases h1
          rw [h2]
          simp
        · rw [hm] at h1
          cases h1
    · cases h
  · cases h
theorem Sat.inlI {full rest : List Oper} {d : Option Tmp} {x : Operand} {f : FuncId} {name : String} {t : TypeId} {xs : List Operand} {ats : Array TypeId} {type : TypeId} {pos : String} {after : Array Edge} {svs : List SV} {fn : Func} {c : Code} {N' : Nat} {F0 G : Tr} {φ : List Prop} {pins' : List Nat} (dep : Nat) (kill : List Nat)
    (hm : ∀ v w, (method (C.P.types.size + Made.depth) t v name).run C.P w = .ok (f, v) w) (hf : C.P.funcs[f]? = some fn) (hN : fn.ntmps = N') (hx : argsI C.Γ F x xs = some (t, svs)) (hb : fn.body = some c) (hc : callable C.P f = true) (hle : Nat.ble svs.length N' = true) (hF0 : argT 0 svs (Tr.mk dep) = some F0)
    (hp : pinsOf kill C.pins M = some pins') (hG : keepT pins' F = some (G, φ)) (hφ : AllP φ)
    (h : ∀ a E, Sat ⟨C.P, C.W0, C.S, C.T0, C.Γ, N', pins', ⟨pinE pins'.elem E, G, fun t => a.tmps.getD t undef⟩ :: C.hold, C.wide⟩ (bodyPost C.P fn (Inl C Q0 full rest d k a)) (.code c F0 M ids [])) :
    Sat C Q0 (.reg full (⟨d, .call ⟨.invoke x name, ⟨xs⟩, ats⟩, type, pos, after, none⟩ :: rest) F M ids k) :=
  inl_core dep kill hf hN (fun _ _ _ _ hst => argsI_ok hst.vw hx hm _ _ _ _ _ _) hb hc hle hF0 hp hG hφ h
/-- The state of the caller, when the call is over. -/
theorem St.out {a a1 : Act} {w : World} {U : Nat → Prop} {E E1 : Env} {N' : Nat} {pins' : List Nat} {G F1 : Tr} (hd : a.defers = []) (hs : a.tmps.size = C.N) (hpn : ∀ p, p ∈ C.hold → ∀ id b, p.pe id = some b → C.pins.elem id = true)
    (h : St ⟨C.P, C.W0, C.S, C.T0, C.Γ, N', pins', ⟨pinE pins'.elem E, G, fun t => a.tmps.getD t undef⟩ :: C.hold, C.wide⟩ F1 M U E1 a1 w) : St C G M U E1 a w :=
  ⟨hd, hs, fun t s hg => (h.held _ (List.mem_cons_self ..) t s hg).mono (fun i x hi => (h.pin _ (List.mem_cons_self ..) i x hi).2) (fun _ _ h => h) (Chg.refl _ w), h.mem, h.own, h.fresh, h.kp, h.hid, h.glob,
    fun p hp i b hi => ⟨hpn p hp i b hi, (h.pin p (List.mem_cons_of_mem _ hp) i b hi).2⟩, fun p hp => h.held p (List.mem_cons_of_mem _ hp)⟩
theorem out_core {N' : Nat} {pins' : List Nat} {E : Env} {G : Tr} {fn : Func} {full rest : List Oper} {d : Option Tmp} {a : Act} {e : Ex} {F1 F2 : Tr} {s : SV} (he : e = .ret ∨ e = .normal)
    (hv : ∀ U E1 a1 w, Sup ids U → St ⟨C.P, C.W0, C.S, C.T0, C.Γ, N', pins', ⟨pinE pins'.elem E, G, fun t => a.tmps.getD t undef⟩ :: C.hold, C.wide⟩ F1 M U E1 a1 w → ∃ v, (results fn a1.tmps).run C.P w = .ok v w ∧ Rep E1 (trk C.T0 M E1) w s v)
    (hp : putD C.N G d (some s) some = some F2) (h : Sat C Q0 (.reg full rest F2 M ids k)) :
    Sat ⟨C.P, C.W0, C.S, C.T0, C.Γ, N', pins', ⟨pinE pins'.elem E, G, fun t => a.tmps.getD t undef⟩ :: C.hold, C.wide⟩ (bodyPost C.P fn (Inl C Q0 full rest d k a)) (.ext e F1 M ids []) := by
  intro U E1 a1 w hsup hst
  obtain ⟨v, h1, h2⟩ := hv U E1 a1 w hsup hst
  obtain ⟨F3, q1, q2⟩ := putD_inv hp
  cases q1
  have hin : Inl C Q0 full rest d k a (.returned v) w := fun hd hs hpn => ⟨v, rfl, h U E1 _ w hsup ((hst.out hd hs hpn).putD q2 fun s' hs' => by cases hs'; exact h2)⟩
  rcases he with rfl | rfl <;> exact ⟨hst.defers, v, h1, hin⟩
theorem Sat.out1 {N' : Nat} {pins' : List Nat} {E : Env} {G : Tr} {fn : Func} {full rest : List Oper} {d : Option Tmp} {a : Act} {e : Ex} {F1 F2 : Tr} {r : ResultVar} {φ : List Prop} {s : SV} (hr : fn.results = #[r]) (he : e = .ret ∨ e = .normal) (h1 : resV C.P F1 M r = some (φ, s)) (hφ : AllP φ)
    (hp : putD C.N G d (some s) some = some F2) (h : Sat C Q0 (.reg full rest F2 M ids k)) :
    Sat ⟨C.P, C.W0, C.S, C.T0, C.Γ, N', pins', ⟨pinE pins'.elem E, G, fun t => a.tmps.getD t undef⟩ :: C.hold, C.wide⟩ (bodyPost C.P fn (Inl C Q0 full rest d k a)) (.ext e F1 M ids []) :=
  out_core he (fun U E1 a1 w _ hst => by
    obtain ⟨v, q1, q2⟩ := resV_ok hst h1 hφ
    refine ⟨v, ?_, q1⟩
    unfold results
    rw [hr]
    exact mapM_run1 q2) hp h
theorem Sat.out2 {N' : Nat} {pins' : List Nat} {E : Env} {G : Tr} {fn : Func} {full rest : List Oper} {d : Option Tmp} {a : Act} {e : Ex} {F1 F2 : Tr} {r r' : ResultVar} {φ φ' : List Prop} {s s' : SV} (hr : fn.results = #[r, r']) (he : e = .ret ∨ e = .normal) (h1 : resV C.P F1 M r = some (φ, s)) (hφ : AllP φ) (h2 : resV C.P F1 M r' = some (φ', s')) (hφ' : AllP φ')
    (hp : putD C.N G d (some (.tup [s, s'])) some = some F2) (h : Sat C Q0 (.reg full rest F2 M ids k)) :
    Sat ⟨C.P, C.W0, C.S, C.T0, C.Γ, N', pins', ⟨pinE pins'.elem E, G, fun t => a.tmps.getD t undef⟩ :: C.hold, C.wide⟩ (bodyPost C.P fn (Inl C Q0 full rest d k a)) (.ext e F1 M ids []) :=
  out_core he (fun U E1 a1 w _ hst => by
    obtain ⟨v, q1, q2⟩ := resV_ok hst h1 hφ
    obtain ⟨v', q1', q2'⟩ := resV_ok hst h2 hφ'
    refine ⟨.tuple #[v, v'], ?_, .tup _ [v, v'] (.cons _ _ _ _ q1 (.cons _ _ _ _ q1' .nil))⟩
    unfold results
    rw [hr]
    exact mapM_run2 q2 q2') hp h
theorem Sat.out0 {N' : Nat} {pins' : List Nat} {E : Env} {G : Tr} {fn : Func} {full rest : List Oper} {d : Option Tmp} {a : Act} {e : Ex} {F1 F2 : Tr} (hr : fn.results = #[]) (he : e = .ret ∨ e = .normal)
    (hp : putD C.N G d (some (.tup [])) some = some F2) (h : Sat C Q0 (.reg full rest F2 M ids k)) :
    Sat ⟨C.P, C.W0, C.S, C.T0, C.Γ, N', pins', ⟨pinE pins'.elem E, G, fun t => a.tmps.getD t undef⟩ :: C.hold, C.wide⟩ (bodyPost C.P fn (Inl C Q0 full rest d k a)) (.ext e F1 M ids []) :=
  out_core he (fun _ _ _ _ _ _ => ⟨_, results_none hr _ _ _, .tup _ [] .nil⟩) hp h
end
end Go.Proofs.YtmmpflifajjbjaaDoor.V
end
section
namespace Go.Proofs.YtmmpflifajjbjaaDoor.V
open Go.RowKit

section
variable {E E' : Env} {T T' : Nat → Prop} {w w' : World}
mutual
/-- How a reading lasts, where the sizes are kept of the blocks alone that have a number. -/
theorem Rep.monoW (hE : ∀ i b, E i = some b → E' i = some b) (hT : ∀ b, b < w.heap.size → T' b → T b) (hz : w.heap.size ≤ w'.heap.size) (hk : ∀ b, b < w.heap.size → ¬ T b → w'.heap[b]? = w.heap[b]?) (hs : ∀ i b x, E i = some (some b) → w.shape? b = some x → w'.shape? b = some x) :
    ∀ {s : SV} {v : Value}, Rep E T w s v → Rep E' T' w' s v
  | _, _, .bool b => .bool b
  | _, _, .int k n h => .int k n h
  | _, _, .str l h => .str l h
  | _, _, .nilp => .nilp
  | _, _, .ptr id off b h => .ptr id off b (hE _ _ h)
  | _, _, .pel id base sz i j b h => .pel id base sz i j b (hE _ _ h)
  | _, _, .rop e i j b o c hT' hn hc hr hi hj hb =>
    .rop e i j b o c (fun h => hT' (hT b hb h)) hn (fun i j v hi hj => (World.cell?_of_block (hk b hb hT')).trans (hc i j v hi hj)) (fun i hi => Items.monoW hE hT hz hk hs (hr i hi)) hi hj (Nat.lt_of_lt_of_le hb hz)
  | _, _, .nils => .nils
  | _, _, .row id base sz sub len b o c n t h hs' ho hl ok => .row id base sz sub len b o c n t (hE _ _ h) (hs _ _ _ h hs') ho hl ok
  | _, _, .row0 id base sz sub len h hl => .row0 id base sz sub len (hE _ _ h) hl
  | _, _, .ro0 e h => .ro0 e h
  | _, _, .ro1 e a h => .ro1 e a h
  | _, _, .ro e b o n k c hT' hn hc hr he hl ok hb =>
    .ro e b o n k c (fun h => hT' (hT b hb h)) hn (fun i j v hi hj => (World.cell?_of_block (hk b hb hT')).trans (hc i j v hi hj)) (fun i hi => Items.monoW hE hT hz hk hs (hr i hi)) he hl ok (Nat.lt_of_lt_of_le hb hz)
  | _, _, .agg l cs h => .agg l cs (Items.monoW hE hT hz hk hs h)
  | _, _, .arr n e cs c hn hl he h1 hc hr => .arr n e cs c hn hl he h1 hc (fun i hi => Items.monoW hE hT hz hk hs (hr i hi))
  | _, _, .tup l vs h => .tup l vs (Tup.monoW hE hT hz hk hs h)
  | _, _, .fn f l vs h => .fn f l vs (Tup.monoW hE hT hz hk hs h)
  | _, _, .mv f l vs h => .mv f l vs (Tup.monoW hE hT hz hk hs h)
  | _, _, .ifc t s v h => .ifc t s v (Rep.monoW hE hT hz hk hs h)
  | _, _, .nili => .nili
  | _, _, .nilf => .nilf
  | _, _, .may1 g s v h hr => .may1 g s v h (Rep.monoW hE hT hz hk hs hr)
  | _, _, .may0 g s h => .may0 g s h
  | _, _, .bsl id len b n t h hs' hl ok => .bsl id len b n t (hE _ _ h) (hs _ _ _ h hs') hl ok
  | _, _, .bsl0 id len h hl => .bsl0 id len (hE _ _ h) hl
  | _, _, .anyi k n => .anyi k n
  | _, _, .val x => .val x
theorem Items.monoW (hE : ∀ i b, E i = some b → E' i = some b) (hT : ∀ b, b < w.heap.size → T' b → T b) (hz : w.heap.size ≤ w'.heap.size) (hk : ∀ b, b < w.heap.size → ¬ T b → w'.heap[b]? = w.heap[b]?) (hs : ∀ i b x, E i = some (some b) → w.shape? b = some x → w'.shape? b = some x) :
    ∀ {l : List SV} {cs : List Value}, Items E T w l cs → Items E' T' w' l cs
  | _, _, .nil => .nil
  | _, _, .one s c l cs h hr hl => .one s c l cs h (Rep.monoW hE hT hz hk hs hr) (Items.monoW hE hT hz hk hs hl)
  | _, _, .arr n e l c1 cs hr hl => .arr n e l c1 cs (Rep.monoW hE hT hz hk hs hr) (Items.monoW hE hT hz hk hs hl)
theorem Tup.monoW (hE : ∀ i b, E i = some b → E' i = some b) (hT : ∀ b, b < w.heap.size → T' b → T b) (hz : w.heap.size ≤ w'.heap.size) (hk : ∀ b, b < w.heap.size → ¬ T b → w'.heap[b]? = w.heap[b]?) (hs : ∀ i b x, E i = some (some b) → w.shape? b = some x → w'.shape? b = some x) :
    ∀ {l : List SV} {vs : List Value}, Tup E T w l vs → Tup E' T' w' l vs
  | _, _, .nil => .nil
  | _, _, .cons s v l vs hr hl => .cons s v l vs (Rep.monoW hE hT hz hk hs hr) (Tup.monoW hE hT hz hk hs hl)
end
end

/-- All numbers but those of the first blocks. -/
@[reducible] def kill2 : List Nat := [2, 3, 4, 5, 6, 7, 8, 9, 10, 11, 12, 13, 14, 15, 16, 17, 18, 19, 20, 21, 22, 23, 24, 25, 26, 27, 28, 29, 30, 31, 32, 33, 34, 35, 36, 37, 38, 39, 40, 41, 42, 43, 44, 45, 46, 47, 48, 49, 50, 51, 52, 53, 54, 55, 56, 57, 58, 59]
@[reducible] def kill3 : List Nat := [3, 4, 5, 6, 7, 8, 9, 10, 11, 12, 13, 14, 15, 16, 17, 18, 19, 20, 21, 22, 23, 24, 25, 26, 27, 28, 29, 30, 31, 32, 33, 34, 35, 36, 37, 38, 39, 40, 41, 42, 43, 44, 45, 46, 47, 48, 49, 50, 51, 52, 53, 54, 55, 56, 57, 58, 59]
@[reducible] def kill4 : List Nat := [4, 5, 6, 7, 8, 9, 10, 11, 12, 13, 14, 15, 16, 17, 18, 19, 20, 21, 22, 23, 24, 25, 26, 27, 28, 29, 30, 31, 32, 33, 34, 35, 36, 37, 38, 39, 40, 41, 42, 43, 44, 45, 46, 47, 48, 49, 50, 51, 52, 53, 54, 55, 56, 57, 58, 59]
/-! ### What a write reckons -/
def idsM (j : Option Nat) : Mem → List Nat
  | [] => []
  | (k, _) :: r => match j with
    | some j' => match Nat.beq k j' with
      | true => idsM j r
      | false => k :: idsM j r
    | none => k :: idsM none r
/-- The other blocks: none of the elements' type; what they hold has numbers that stay. -/
def bufK (p : List Nat) (e : TypeId) (i : Nat) (j : Option Nat) : Mem → Option (List Prop)
  | [] => some []
  | (k, B) :: r => match Nat.beq k i || (match j with
      | some j' => Nat.beq k j'
      | none => false) with
    | true => bufK p e i j r
    | false => match B with
      | .cells t l => match Nat.beq t e with
        | true => none
        | false => match kpL p l with
          | some φ => match bufK p e i j r with
            | some ψ => some (φ ++ ψ)
            | none => none
          | none => none
      | .row t x => match Nat.beq t e with
        | true => none
        | false => match kpE x with
          | some φ => match bufK p e i j r with
            | some ψ => some (φ ++ ψ)
            | none => none
          | none => none
      | .obj _ => none
def lastB : SV → Bool
  | .anyi .i8 => true
  | .int .i8 _ => true
  | _ => false
structure BufR where
  t : TypeId
  j : Option Nat
  l : List UInt8
  φ : List Prop
/-- The buffer in block i: what it holds, and in which row. -/
def bufAt (e : TypeId) (M : Mem) (i : Nat) : Option BufR :=
  match find M i with
  | some (.cells t [s0, .int .i64 (.ofNat 0), z]) => match lastB z with
    | true => match s0 with
      | .nils => some ⟨t, none, [], []⟩
      | .bsl j len => match find M j with
        | some (.row e' (.u8 l)) => match Nat.beq e' e with
          | true => some ⟨t, some j, l, [len = l.length]⟩
          | false => none
        | _ => none
      | _ => none
    | false => none
  | _ => none
structure BufO where
  G : Tr
  M : Mem
  φ : List Prop
def bufM (pins : List Nat) (e : TypeId) (F : Tr) (M : Mem) (i nx : Nat) (m : List UInt8) : Option BufO :=
  match bufAt e M i with
  | some ⟨t, j, l, φ0⟩ => match keepT (idsM j M) F, bufK (idsM j M) e i j M, pins.all (idsM j M).elem with
    | some (G, φ), some ψ, true => match upd (delO M j) i (.cells t [.bsl nx (l ++ m).length, .int .i64 0, .anyi .i8]) with
      | some M1 => fM M1 fun M1 => fP ((l.length + m.length ≤ 140737488355328) :: (φ0 ++ (φ ++ ψ))) fun χ => some ⟨G, (nx, .row e (.u8 (l ++ m))) :: M1, χ⟩
      | none => none
    | _, _, _ => none
  | none => none

/-! ### What it says -/
theorem idsM_mem {j : Option Nat} : ∀ {M : Mem} {k : Nat}, (idsM j M).elem k = true → (find M k).isSome = true ∧ some k ≠ j
  | [], k, h => by simp [idsM] at h
  | (k0, B) :: r, k, h => by
    unfold idsM at h
    split at h
    · rename_i j'
      split at h
      · obtain ⟨q1, q2⟩ := idsM_mem h
        refine ⟨?_, q2⟩
        rw [find_cons]
        split
        · rfl
        · exact q1
      · rename_i hne
        rw [find_cons]
        by_cases e : k = k0
        · subst e
          rw [if_pos rfl]
          exact ⟨rfl, fun hj => by cases hj; simp at hne⟩
        · rw [if_neg e]
          refine idsM_mem ?_
          simpa [List.elem_cons, e] using h
    · rw [find_cons]
      by_cases e : k = k0
      · rw [if_pos e]; exact ⟨rfl, by simp⟩
      · rw [if_neg e]
        refine idsM_mem ?_
        simpa [List.elem_cons, e] using h
/-- What is known of another block. -/
def othK (p : List Nat) (e : TypeId) : Blk → Prop
  | .cells t l => t ≠ e ∧ keepL p.elem l
  | .row t x => t ≠ e ∧ pureE x
  | .obj _ => False
theorem bufK_at {p : List Nat} {e : TypeId} {i : Nat} {j : Option Nat} : ∀ {M : Mem} {φ : List Prop}, bufK p e i j M = some φ → AllP φ → ∀ k B, find M k = some B → k ≠ i → some k ≠ j → othK p e B
  | [], φ, h, hφ, k, B, hf, _, _ => by simp [find] at hf
  | (k0, B0) :: r, φ, h, hφ, k, B, hf, h1, h2 => by
    rw [find_cons] at hf
    simp only [bufK] at h
    split at h
    · rename_i hk
      split at hf
      · rename_i he
        subst he
        exfalso
        simp only [Bool.or_eq_true] at hk
        rcases hk with hk | hk
        · exact h1 (Nat.eq_of_beq_eq_true hk)
        · split at hk
          · exact h2 (by rw [Nat.eq_of_beq_eq_true hk])
          · cases hk
      · exact bufK_at h hφ k B hf h1 h2
    · split at h
      · rename_i t l
        split at h
        · cases h
        · rename_i hne
          split at h
          · rename_i φ1 hφ1
            split at h
            · rename_i ψ hψ
              simp only [Option.some.injEq] at h
              subst h
              obtain ⟨q1, q2⟩ := AllP.app hφ
              split at hf
              · cases hf
                exact ⟨fun e => by subst e; simp at hne, kpL_ok hφ1 q1⟩
              · exact bufK_at hψ q2 k B hf h1 h2
            · cases h
          · cases h
      · rename_i t x
        split at h
        · cases h
        · rename_i hne
          split at h
          · rename_i φ1 hφ1
            split at h
            · rename_i ψ hψ
              simp only [Option.some.injEq] at h
              subst h
              obtain ⟨q1, q2⟩ := AllP.app hφ
              split at hf
              · cases hf
                exact ⟨fun e => by subst e; simp at hne, kpE_ok hφ1 q1⟩
              · exact bufK_at hψ q2 k B hf h1 h2
            · cases h
          · cases h
      · cases h

abbrev bytesC (l : List UInt8) : List Value := Lib.byteCells l
theorem bytesC_at (l : List UInt8) (i : Nat) (h : i < l.length) : (bytesC l)[i]? = some (.int .u8 ((l.getD i 0).toNat : Int)) := by
  simp [bytesC, Lib.byteCells, List.getD_eq_getElem?_getD, h]
theorem bytesC_len (l : List UInt8) : (bytesC l).length = l.length := Lib.byteCells_length l
theorem bytesC_app (l m : List UInt8) : bytesC (l ++ m) = bytesC l ++ bytesC m := by simp [bytesC, Lib.byteCells]
theorem bytesC_one (l : List UInt8) : ∀ v ∈ bytesC l, v.oneCell' = true := by
  intro v hv
  simp only [bytesC, Lib.byteCells, List.mem_map] at hv
  obtain ⟨b, _, rfl⟩ := hv
  rfl
theorem inR_byte (b : UInt8) : inR .u8 (b.toNat : Int) := by
  have := b.toNat_lt
  refine inR_u8' ?_ ?_ <;> omega

section
variable {C : Ctx} {F G : Tr} {M : Mem} {U : Nat → Prop} {E : Env} {a : Act} {w w' : World}
/-- The buffer is one, as the library's contracts ask. -/
theorem buf_in (hst : St C F M U E a w) (hS : ∀ b, ¬ C.S b) {e : TypeId} {i b : Nat} {r : BufR} (h : bufAt e M i = some r) (hφ : AllP r.φ) (hE : E i = some (some b)) :
    LibA.IsBuffer r.t (fun _ => none) e C.W0.heap.size b 0 (bytesC r.l) w := by
  unfold bufAt at h
  split at h
  · rename_i t s0 z hf
    split at h
    · rename_i hz
      obtain ⟨hb, cs, hh, hI⟩ := hst.mem.at hf hE
      have hown : C.W0.heap.size ≤ b := (hst.own i b (by rw [hf]; rfl) hE).resolve_right (hS b)
      cases hI with
      | arr => dsimp only at h; cases h
      | one _ v0 _ _ q0 r0 hI =>
      cases hI with
      | one _ v1 _ _ q1 r1 hI =>
      cases hI with
      | arr => simp [lastB] at hz
      | one _ v2 _ _ q2 r2 hI =>
      cases hI
      cases r1
      have h3 : ∃ lr, v2 = .int .i8 lr := by
        unfold lastB at hz
        split at hz
        · cases r2; exact ⟨_, rfl⟩
        · cases r2; exact ⟨_, rfl⟩
        · cases hz
      obtain ⟨lr, rfl⟩ := h3
      have h3 := LibA.three_whole (w := w) (b := b) (T := t) (x := v0) (y := .int .i64 0) (z := .int .i8 lr) hh
      split at h
      · simp only [Option.some.injEq] at h
        subst h
        cases r0
        exact ⟨hown, _, lr, h3, World.ownsRow_nil _ _ _ _, by simp [Value.ownBlock]⟩
      · rename_i j len
        split at h
        · rename_i e' l hj
          split at h
          · rename_i he
            simp only [Option.some.injEq] at h
            subst h
            cases Nat.eq_of_beq_eq_true he
            have hlen : len = l.length := hφ.1
            dsimp only
            refine ⟨hown, v0, lr, h3, ?_, ?_⟩
            · refine ⟨by simp, ?_⟩
              rw [bytesC_len]
              cases r0 with
              | bsl0 _ _ hEj hl => exact .inl ⟨rfl, by omega⟩
              | bsl _ _ g n t' hEj hs hl ok =>
                obtain ⟨hg, cur, c, hc0, hc1, hc2, hc3, hc4⟩ := hst.mem.at hj hEj
                have hn : n = cur.length := by
                  simp only [World.shape?, hc0] at hs
                  simpa using (Prod.mk.inj (Option.some.inj hs)).2.symm
                have hgo : C.W0.heap.size ≤ g := (hst.own j g (by rw [hj]; rfl) hEj).resolve_right (hS g)
                refine .inr ⟨g, n, cur.toArray, by rw [hlen], hgo, hc0, by omega, ok, by simp [hn], ?_⟩
                simp only [EV.len, EV.sz, Nat.mul_one] at hc1 hc2 hc3 hc4 ⊢
                refine List.ext_getElem? fun x => ?_
                rw [List.getElem?_take]
                by_cases hx : x < l.length
                · rw [if_pos hx, bytesC_at l x hx]
                  have hI4 := hc4 x hx
                  simp only [EV.items] at hI4
                  have hc5 := hc3 x 0
                  generalize c x = cx at hI4 hc5
                  cases hI4 with
                  | one _ cv _ _ p0 pr pI =>
                    have h4 := hc5 cv hx rfl
                    cases pr
                    simpa using h4
                · rw [if_neg hx, List.getElem?_eq_none (by rw [bytesC_len]; omega)]
            · cases r0 with
              | bsl0 _ _ hEj hl => simp [Value.ownBlock]
              | bsl _ _ g n t' hEj hs hl ok =>
                simp only [Value.ownBlock, ne_eq, Option.some.injEq]
                intro hgb
                subst hgb
                have := hst.mem.inj j i g (by rw [hj]; rfl) (by rw [hf]; rfl) hEj hE
                subst this
                rw [hf] at hj
                cases hj
          · cases h
        · cases h
      · cases h
    · cases h
  · cases h

theorem three_whole' {b : Nat} {T : TypeId} {x y z : Value} (h : LibA.Three w b 0 T (fun _ => none) x y z) : w.heap[b]? = some (.cells #[x, y, z] T (0, 0)) := by
  obtain ⟨cs, h0, h1, h2, h3, h4⟩ := h
  rw [h0]
  have hs : cs.size = 3 := by
    have q1 := (Array.getElem?_eq_some_iff.1 h3).1
    have q2 := h4 3 (by omega)
    rw [Array.getElem?_eq_none_iff] at q2
    omega
  have : cs = #[x, y, z] := by
    apply Array.ext (by simpa using hs)
    intro k k1 k2
    have hk : k < 3 := by omega
    match k, hk with
    | 0, _ => exact (Array.getElem?_eq_some_iff.1 h1).2
    | 1, _ => exact (Array.getElem?_eq_some_iff.1 h2).2
    | 2, _ => exact (Array.getElem?_eq_some_iff.1 h3).2
  rw [this]
/-- What the buffer is, once written. -/
theorem row_of {t e : TypeId} {B b : Nat} {l : List UInt8} (h : LibA.IsBuffer t (fun _ => none) e B b 0 (bytesC l) w) : ∃ gx : Option Nat,
    (∃ v lr, w.heap[b]? = some (.cells #[v, .int .i64 0, .int .i8 lr] t (0, 0)) ∧ ∀ (E : Env) (T : Nat → Prop) (nx : Nat), E nx = some gx → Rep E T w (.bsl nx l.length) v) ∧
    ((∃ g cur, gx = some g ∧ B ≤ g ∧ g ≠ b ∧ w.heap[g]? = some (.cells cur e (0, 0)) ∧ ∀ (E : Env) (T : Nat → Prop), BOk E T w g (.row e (.u8 l))) ∨ (gx = none ∧ l.length = 0)) := by
  obtain ⟨hB, v, lr, h3, ⟨hxl, hown⟩, hne⟩ := h
  have h3' := three_whole' h3
  rw [bytesC_len] at hown
  rcases hown with ⟨rfl, h0⟩ | ⟨g, cap, cur, rfl, hBg, hg, hnc, hcm, hcs, htk⟩
  · exact ⟨none, ⟨_, lr, h3', fun E T nx hE => .bsl0 _ _ hE h0⟩, .inr ⟨rfl, h0⟩⟩
  · rw [Nat.mul_one] at hcs htk
    refine ⟨some g, ⟨_, lr, h3', fun E T nx hE => .bsl _ _ g cap e hE (by simp [World.shape?, hg, hcs]) hnc hcm⟩, .inl ⟨g, cur, rfl, hBg, fun e => hne (by simp [Value.ownBlock, e]), hg, fun E T => ?_⟩⟩
    have hat : ∀ i, i < l.length → cur.toList[i]? = some (.int .u8 ((l.getD i 0).toNat : Int)) := fun i hi => by
      have := congrArg (·[i]?) htk
      simp only [List.getElem?_take, if_pos hi, bytesC_at l i hi] at this
      exact this
    refine ⟨cur.toList, fun i => [.int .u8 ((l.getD i 0).toNat : Int)], hg, by simp [EV.len, EV.sz]; omega, fun i _ => rfl, fun i j v hi hv => ?_, fun i hi => ?_⟩
    · match j, hv with
      | 0, hv =>
        simp at hv
        subst hv
        have := hat i hi
        simpa [EV.sz] using this
      | j + 1, hv => simp at hv
    · exact .one _ _ _ _ rfl (.int _ _ (inR_byte _)) .nil

variable {nx : Nat} {M' : Mem} {φ : List Prop}
theorem bufAt_find {e : TypeId} {i : Nat} {r : BufR} (h : bufAt e M i = some r) : ∃ s0 z, find M i = some (.cells r.t [s0, .int .i64 0, z]) ∧ ∀ j, r.j = some j → ∃ l, find M j = some (.row e (.u8 l)) := by
  unfold bufAt at h
  split at h
  · rename_i t s0 z hf
    split at h
    · split at h
      · simp only [Option.some.injEq] at h
        subst h
        exact ⟨_, z, hf, fun j hj => by cases hj⟩
      · split at h
        · rename_i e' l hj
          split at h
          · rename_i he
            cases Nat.eq_of_beq_eq_true he
            simp only [Option.some.injEq] at h
            subst h
            exact ⟨_, z, hf, fun j hj' => by cases hj'; exact ⟨l, hj⟩⟩
          · cases h
        · cases h
      · cases h
    · cases h
  · cases h
theorem bufM_inv {pins : List Nat} {e : TypeId} {i : Nat} {m : List UInt8} (h : bufM pins e F M i nx m = some ⟨G, M', φ⟩) (hφ : AllP φ) : ∃ r φ1 φ2 M1, bufAt e M i = some r ∧ AllP r.φ ∧ r.l.length + m.length ≤ 140737488355328 ∧
    keepT (idsM r.j M) F = some (G, φ1) ∧ AllP φ1 ∧ bufK (idsM r.j M) e i r.j M = some φ2 ∧ AllP φ2 ∧ pins.all (idsM r.j M).elem = true ∧ upd (delO M r.j) i (.cells r.t [.bsl nx (r.l ++ m).length, .int .i64 0, .anyi .i8]) = some M1 ∧ M' = (nx, .row e (.u8 (r.l ++ m))) :: M1 := by
  unfold bufM at h
  split at h
  · rename_i t j l φ0 hr
    split at h
    · rename_i G' φ1 φ2 h1 h2 h3
      split at h
      · rename_i M1 hM1
        rw [fM_eq, fP_eq] at h
        simp only [Option.some.injEq, BufO.mk.injEq] at h
        obtain ⟨rfl, rfl, rfl⟩ := h
        obtain ⟨p1, p2⟩ := hφ
        obtain ⟨p2, p3⟩ := AllP.app p2
        obtain ⟨p3, p4⟩ := AllP.app p3
        exact ⟨⟨t, j, l, φ0⟩, φ1, φ2, M1, hr, p2, p1, h1, p3, h2, p4, h3, hM1, rfl⟩
      · cases h
    · cases h
  · cases h
theorem Chg.of_heap {S : Nat → Prop} {w0 w w' : World} (h : Chg S w0 w) (hb : Below w0.heap.size w w') : Chg S w0 w' :=
  ⟨Nat.le_trans h.size hb.size, fun b hlt hS => (hb.block b hlt).trans (h.keep b hlt hS), fun b hlt => by
    have := h.shape b hlt
    simp only [World.shape?] at this ⊢
    rw [hb.block b hlt]
    exact this⟩
/-- The state, once the buffer is written. -/
theorem buf_out (hst : St C F M U E a w) (hU : U nx) (hS : ∀ b, ¬ C.S b) (hW : ∀ b, C.W0.heap.size ≤ b → C.T0 b) {e : TypeId} {i b : Nat} {m : List UInt8} {r : BufR} {φ1 φ2 : List Prop} {M1 : Mem} (hr : bufAt e M i = some r) (hφ : AllP r.φ) (hE : E i = some (some b))
    (hG : keepT (idsM r.j M) F = some (G, φ1)) (hφ1 : AllP φ1) (hK : bufK (idsM r.j M) e i r.j M = some φ2) (hφ2 : AllP φ2) (hp : C.pins.all (idsM r.j M).elem = true) (hM : upd (delO M r.j) i (.cells r.t [.bsl nx (r.l ++ m).length, .int .i64 0, .anyi .i8]) = some M1)
    (hB : LibA.IsBuffer r.t (fun _ => none) e C.W0.heap.size b 0 (bytesC (r.l ++ m)) w') (hbel : Below C.W0.heap.size w w') (hok : Lib.OthersKept e (some b) w w') :
    ∃ E', St C G ((nx, .row e (.u8 (r.l ++ m))) :: M1) (rest U nx) E' a w' := by
  have hB0 := buf_in hst hS hr hφ hE
  obtain ⟨s0, z, hfi, hfj⟩ := bufAt_find hr
  obtain ⟨gx, ⟨v, lr, hb', hv⟩, hrow⟩ := row_of hB
  have hb0 : ∃ v0 lr0, w.heap[b]? = some (.cells #[v0, .int .i64 0, .int .i8 lr0] r.t (0, 0)) := by
    obtain ⟨_, v0, lr0, h3, _⟩ := hB0
    exact ⟨v0, lr0, three_whole' h3⟩
  obtain ⟨v0, lr0, hb0⟩ := hb0
  have hnx := hst.fresh nx hU
  have hold : ∀ k x, E k = some x → envWith E nx gx k = some x := envWith_old hnx
  have hkeep : ∀ k, k < w.heap.size → ¬ trk C.T0 M E k → w'.heap[k]? = w.heap[k]? := fun k _ hn => by
    refine hbel.block k ?_
    rcases Nat.lt_or_ge k C.W0.heap.size with h | h
    · exact h
    · exact absurd (.inr (hW k h)) hn
  have hij : some i ≠ r.j := fun hj => by
    obtain ⟨l, hl⟩ := hfj i hj.symm
    rw [hfi] at hl
    cases hl
  have hoth : ∀ k B k', find M k = some B → k ≠ i → some k ≠ r.j → E k = some (some k') → w'.heap[k']? = w.heap[k']? ∧ ∃ cs t, w.heap[k']? = some (.cells cs t (0, 0)) ∧ t ≠ e := fun k B k' hf h1 h2 hEk => by
    have hK' := bufK_at hK hφ2 k B hf h1 h2
    obtain ⟨_, hBk⟩ := hst.mem.at hf hEk
    have hne : some k' ≠ some b := fun hh => by
      cases hh
      exact h1 (hst.mem.inj k i b (by rw [hf]; rfl) (by rw [hfi]; rfl) hEk hE)
    have key : ∀ cs t, w.heap[k']? = some (.cells cs t (0, 0)) → t ≠ e → w'.heap[k']? = w.heap[k']? ∧ ∃ cs t, w.heap[k']? = some (.cells cs t (0, 0)) ∧ t ≠ e := fun cs t hh ht =>
      ⟨(hok k' _ hh hne fun c fz hc => ht (by cases hc; rfl)).trans hh.symm, cs, t, hh, ht⟩
    cases B with
    | cells t l => obtain ⟨cs, hh, _⟩ := hBk; exact key _ _ hh hK'.1
    | row t x => obtain ⟨cs, c, hh, _⟩ := hBk; exact key _ _ hh hK'.1
    | obj o => exact hK'.elim
  have hlive : ∀ k, (idsM r.j M).elem k = true → ∀ k' x, E k = some (some k') → w.shape? k' = some x → w'.shape? k' = some x := fun k hk k' x hEk hx => by
    obtain ⟨h1, h2⟩ := idsM_mem hk
    obtain ⟨B, hf⟩ := Option.isSome_iff_exists.1 h1
    by_cases hki : k = i
    · subst hki
      rw [hE] at hEk
      cases hEk
      rw [← hx]
      simp [World.shape?, hb0, hb']
    · have := (hoth k B k' hf hki h2 hEk).1
      simpa only [World.shape?, this] using hx
  have hshp : ∀ k k' x, pinE (idsM r.j M).elem E k = some (some k') → w.shape? k' = some x → w'.shape? k' = some x := fun k k' x hEk hx => by
    unfold pinE at hEk
    split at hEk
    · rename_i hk; exact hlive k hk k' x hEk hx
    · cases hEk
  have hfind : ∀ k B, find ((nx, .row e (.u8 (r.l ++ m))) :: M1) k = some B → (k = nx ∧ B = .row e (.u8 (r.l ++ m))) ∨ (k ≠ nx ∧ k = i ∧ B = .cells r.t [.bsl nx (r.l ++ m).length, .int .i64 0, .anyi .i8]) ∨ (k ≠ nx ∧ k ≠ i ∧ some k ≠ r.j ∧ find M k = some B) := fun k B hf => by
    rw [find_cons] at hf
    split at hf
    · rename_i hk; cases hf; exact .inl ⟨hk, rfl⟩
    · rename_i hk
      rw [find_upd hM] at hf
      split at hf
      · rename_i hk2; cases hf; exact .inr (.inl ⟨hk, hk2, rfl⟩)
      · rename_i hk2
        obtain ⟨q1, q2⟩ := find_delO hf
        exact .inr (.inr ⟨hk, hk2, q2, q1⟩)
  have hEnx : envWith E nx gx nx = some gx := by simp [envWith]
  have hEne : ∀ k, k ≠ nx → envWith E nx gx k = E k := fun k hk => by simp [envWith, hk]
  have hown : ∀ k k', (find ((nx, .row e (.u8 (r.l ++ m))) :: M1) k).isSome = true → envWith E nx gx k = some (some k') → C.W0.heap.size ≤ k' := fun k k' hf hEk => by
    obtain ⟨B, hf⟩ := Option.isSome_iff_exists.1 hf
    rcases hfind k B hf with ⟨rfl, _⟩ | ⟨h1, rfl, _⟩ | ⟨h1, _, _, h2⟩
    · rw [hEnx] at hEk
      cases hEk
      rcases hrow with ⟨g, cur, hg, q, _⟩ | ⟨hg, _⟩
      · cases hg; exact q
      · cases hg
    · rw [hEne _ h1] at hEk
      exact (hst.own _ _ (by rw [hfi]; rfl) hEk).resolve_right (hS _)
    · rw [hEne _ h1] at hEk
      exact (hst.own _ _ (by rw [h2]; rfl) hEk).resolve_right (hS _)
  have hT : ∀ k, k < w.heap.size → trk C.T0 ((nx, .row e (.u8 (r.l ++ m))) :: M1) (envWith E nx gx) k → trk C.T0 M E k := by
    rintro k _ (⟨id, B, hf, hEk⟩ | h0)
    · exact .inr (hW k (hown id k (by rw [hf]; rfl) hEk))
    · exact .inr h0
  have hpe : ∀ k x, pinE (idsM r.j M).elem E k = some x → envWith E nx gx k = some x := fun k x h => by
    unfold pinE at h
    split at h
    · exact hold k x h
    · cases h
  refine ⟨envWith E nx gx, hst.defers, hst.size, fun t s hs => ?_, ⟨fun k B hf => ?_, fun k1 k2 k' h1 h2 h3 h4 => ?_⟩, fun k k' h1 h2 => .inl (hown k k' h1 h2), fun k hk => ?_, ?_, hst.hid, ?_, fun p hp' k x hx => ?_, fun p hp' t s hs => ?_⟩
  · obtain ⟨q1, q2⟩ := keepT_ok hG hφ1 t s hs
    exact ((hst.slots t s q1).keep q2).monoW hpe hT hbel.size hkeep hshp
  · rcases hfind k B hf with ⟨rfl, rfl⟩ | ⟨h1, rfl, rfl⟩ | ⟨h1, h2, h3, h4⟩
    · rcases hrow with ⟨g, cur, rfl, q1, q2, q3, q4⟩ | ⟨rfl, q1⟩
      · exact .inl ⟨g, hEnx, Lib.lt_of_heap q3, q4 _ _⟩
      · exact .inr ⟨hEnx, e, _, rfl, q1⟩
    · refine .inl ⟨b, by rw [hEne _ h1]; exact hE, Lib.lt_of_heap hb', [v, .int .i64 0, .int .i8 lr], hb', ?_⟩
      exact .one _ _ _ _ rfl (hv _ _ nx hEnx) (.one _ _ _ _ rfl (.int _ _ (inR_i64 (by omega) (by omega))) (.one _ _ _ _ rfl (.anyi _ _) .nil))
    · rcases hst.mem.blk k B h4 with ⟨k', q1, q2, q3⟩ | ⟨q1, q2⟩
      · refine .inl ⟨k', hold _ _ q1, Nat.lt_of_lt_of_le q2 hbel.size, ?_⟩
        have hh := (hoth k B k' h4 h2 h3 q1).1
        have hK' := bufK_at hK hφ2 k B h4 h2 h3
        cases B with
        | cells t l =>
          obtain ⟨cs, p1, p2⟩ := q3
          exact ⟨cs, hh.trans p1, (p2.keep hK'.2).monoW hpe hT hbel.size hkeep hshp⟩
        | row t x =>
          obtain ⟨cs, c, p1, p2, p3, p4, p5⟩ := q3
          exact ⟨cs, c, hh.trans p1, p2, p3, p4, fun i hi => ((p5 i hi).free_ (E' := fun _ => none) (hK'.2.items hi)).monoW (fun _ _ h => by cases h) hT hbel.size hkeep (fun _ _ _ h => by cases h)⟩
        | obj o => exact hK'.elim
      · exact .inr ⟨hold _ _ q1, q2⟩
  · obtain ⟨B1, f1⟩ := Option.isSome_iff_exists.1 h1
    obtain ⟨B2, f2⟩ := Option.isSome_iff_exists.1 h2
    have hx : ∀ k B, k ≠ nx → find ((nx, .row e (.u8 (r.l ++ m))) :: M1) k = some B → envWith E nx gx k = some (some k') → gx ≠ some k' := fun k B hk hf hEk hg => by
      rw [hEne _ hk] at hEk
      rcases hrow with ⟨g, cur, q0, q1, q2, q3, _⟩ | ⟨q0, _⟩
      · rw [hg] at q0
        cases q0
        rcases hfind k B hf with ⟨q, _⟩ | ⟨_, rfl, _⟩ | ⟨_, p1, p2, p3⟩
        · exact hk q
        · rw [hE] at hEk; cases hEk; exact q2 rfl
        · obtain ⟨p4, cs, t, p5, p6⟩ := hoth k B k' p3 p1 p2 hEk
          rw [p4, p5] at q3
          cases q3
          exact p6 rfl
      · rw [hg] at q0; cases q0
    by_cases e1 : k1 = nx
    · by_cases e2 : k2 = nx
      · omega
      · exfalso
        rw [e1, hEnx] at h3
        exact hx k2 B2 e2 f2 h4 (by simpa using h3)
    · by_cases e2 : k2 = nx
      · exfalso
        rw [e2, hEnx] at h4
        exact hx k1 B1 e1 f1 h3 (by simpa using h4)
      · rw [hEne _ e1] at h3
        rw [hEne _ e2] at h4
        have hs : ∀ k B, k ≠ nx → find ((nx, .row e (.u8 (r.l ++ m))) :: M1) k = some B → (find M k).isSome = true := fun k B hk hf => by
          rcases hfind k B hf with ⟨q, _⟩ | ⟨_, rfl, _⟩ | ⟨_, _, _, p3⟩
          · exact absurd q hk
          · rw [hfi]; rfl
          · rw [p3]; rfl
        exact hst.mem.inj k1 k2 k' (hs k1 B1 e1 f1) (hs k2 B2 e2 f2) h3 h4
  · rw [hEne _ hk.2]
    exact hst.fresh k hk.1
  · exact ⟨hbel.os.trans hst.kp.os, hbel.tape.trans hst.kp.tape, hbel.output.trans hst.kp.output, hst.kp.chg.of_heap hbel⟩
  · refine ⟨fun g x hg => (hst.glob.rep g x hg).monoW (fun _ _ h => by cases h) hT hbel.size hkeep (fun _ _ _ h => by cases h), fun g x hg => ?_⟩
    obtain ⟨t, ht⟩ := hst.glob.shp g x hg
    refine ⟨t, ?_⟩
    have hr := hst.glob.rep g x hg
    generalize hadr : (⟨g, 0, none⟩ : Addr) = ad at hr
    cases hr with
    | rop _ _ _ b' o c hT' _ _ _ _ _ hb =>
      have hgb : g = b' := congrArg Addr.block hadr
      subst hgb
      simpa only [World.shape?, hkeep g hb hT'] using ht
  · obtain ⟨q1, q2⟩ := hst.pin p hp' k x hx
    exact ⟨q1, hold _ _ q2⟩
  · refine (hst.held p hp' t s hs).monoW (fun _ _ h => h) hT hbel.size hkeep fun k k' x hEk hx => ?_
    obtain ⟨q1, q2⟩ := hst.pin p hp' k (some k') hEk
    exact hlive k (List.all_eq_true.1 hp k (by simpa using q1)) k' x q2 hx

/-! ### The rules -/
/-- What a method of a buffer writes, and what it returns. -/
def BufOk (P : Program) (e : TypeId) (f : FuncId) (args : List SV) (res : SV) (m : List UInt8) : Prop :=
  ∀ (T : TypeId) (B b : Nat) (l : List UInt8) (w : World) (vs : List Value), LibA.IsBuffer T (fun _ => none) e B b 0 (bytesC l) w → B ≤ w.heap.size → l.length + m.length ≤ 140737488355328 → Tup E0 (fun _ => False) w args vs →
    Calls P f (Value.pointer (some ⟨b, 0, none⟩) :: vs).toArray w fun en w' => (∃ v, en = .returned v ∧ ∀ (E : Env) (T : Nat → Prop) (w : World), Rep E T w res v) ∧ LibA.IsBuffer T (fun _ => none) e B b 0 (bytesC (l ++ m)) w' ∧ Below B w w' ∧ Lib.OthersKept e (some b) w w'
variable {Q0 : Exit → Act → World → Prop} {F' : Tr} {ids' : List Nat} {k : List Kont}
theorem Sat.buf {full rest : List Oper} {d : Option Tmp} {x : Operand} {f : FuncId} {xs : List Operand} {ats : Array TypeId} {type : TypeId} {pos : String} {after : Array Edge} {svs args : List SV} {res : SV} {i : Nat} {e : TypeId} {m : List UInt8}
    (hspec : BufOk C.P e f args res m) (hx : argsF C.Γ F x xs = some (f, .ptr i 0 :: svs)) (hc : callable C.P f = true) (hconv : Convs M svs args) (hb : bufM C.pins e F M i nx m = some ⟨G, M', φ⟩) (hφ : AllP φ) (hp : putD C.N G d (some res) some = some F')
    (hS : ∀ b, ¬ C.S b) (hW : ∀ b, C.W0.heap.size ≤ b → C.T0 b) (h : Sat C Q0 (.reg full rest F' M' ids' k)) :
    Sat C Q0 (.reg full (⟨d, .call ⟨.value x, ⟨xs⟩, ats⟩, type, pos, after, none⟩ :: rest) F M (nx :: ids') k) := by
  intro U E a w hsup hst
  obtain ⟨F1, h1, h2⟩ := putD_inv hp
  cases h1
  refine wpList_plain rfl fun K hK => ?_
  unfold Oper.wp
  obtain ⟨vs, ht, hex⟩ := argsF_ok hst.vw hx
  rw [hex, run_callFunc_go hc]
  obtain ⟨r, φ1, φ2, M1, q1, q2, q3, q4, q5, q6, q7, q8, q9, rfl⟩ := bufM_inv hb hφ
  cases ht with
  | cons _ v0 _ vs hr ht =>
  cases hr with
  | ptr _ _ b hE =>
  have ht' := Convs.tups (T' := fun _ => False) hst.mem (fun _ _ h => h.elim) (fun _ _ _ _ h => h) hconv ht
  refine (hspec r.t C.W0.heap.size b r.l w vs (buf_in hst hS q1 q2 hE) hst.kp.chg.size q3 ht').mono ?_
  rintro en w' ⟨⟨v, rfl, hv⟩, hB, hbel, hok⟩
  obtain ⟨E', hst'⟩ := buf_out hst hsup.1 hS hW q1 q2 hE q4 q5 q6 q7 q8 q9 hB hbel hok
  exact hK _ _ (h _ E' _ w' hsup.2 (hst'.putD h2 fun s' hs' => by cases hs'; exact hv _ _ _))
/-- A pure call in the mode in which everything new is hidden: its result is no memory. -/
theorem Sat.callW {full rest : List Oper} {d : Option Tmp} {x : Operand} {f : FuncId} {xs : List Operand} {ats : Array TypeId} {type : TypeId} {pos : String} {after : Array Edge} {svs args : List SV} {res : SV} {ids : List Nat}
    (hspec : Fun C.P C.Γ f args res) (hrig : rigid res = true) (hx : argsF C.Γ F x xs = some (f, svs)) (hc : callable C.P f = true) (hconv : Convs [] svs args) (hp : putD C.N F d (some res) some = some F') (h : Sat C Q0 (.reg full rest F' M ids k)) :
    Sat C Q0 (.reg full (⟨d, .call ⟨.value x, ⟨xs⟩, ats⟩, type, pos, after, none⟩ :: rest) F M ids k) := by
  intro U E a w hsup hst
  obtain ⟨F1, h1, h2⟩ := putD_inv hp
  cases h1
  refine wpList_plain rfl fun K hK => ?_
  unfold Oper.wp
  obtain ⟨vs, ht, hex⟩ := argsF_ok hst.vw hx
  rw [hex, run_callFunc_go hc]
  have hH : MOk E (trk C.T0 M E) [] w := ⟨fun id B hf => by simp [find] at hf, fun id id' b hf => by simp [find] at hf⟩
  have hT : ∀ b, trk C.T0 M E b ∧ b < w.heap.size → trk C.T0 M E b := fun b h => h.1
  have ht' := Convs.tups (T' := fun b => trk C.T0 M E b ∧ b < w.heap.size) hH (fun b h1 h2 => h2.1) (fun id b hf => by simp [find] at hf) hconv ht
  refine (hspec (fun b => trk C.T0 M E b ∧ b < w.heap.size) w _ (fun b h => h.2) (hst.glob.mono (fun b _ h => h.1) (Chg.refl _ w)) ht').mono ?_
  rintro e w' ⟨v, rfl, hr, hb⟩
  exact hK _ _ (h U E _ w' hsup ((hst.below hb).putD h2 fun s' hs' => by cases hs'; exact hr.rigid_ hrig))
/-- What lies in blocks that are no longer there is forgotten. -/
theorem Sat.drop {c : Code} {ids : List Nat} (hG : keepT (idsM none M) F = some (G, φ)) (hφ : AllP φ) (h : Sat C Q0 (.code c G M ids k)) : Sat C Q0 (.code c F M ids k) := fun U E a w hsup hst =>
  h U E a w hsup ⟨hst.defers, hst.size, fun t s hs => hst.slots t s (keepT_ok hG hφ t s hs).1, hst.mem, hst.own, hst.fresh, hst.kp, hst.hid, hst.glob, hst.pin, hst.held⟩
theorem killF_inv : ∀ {l : List Nat} {F : Tr} {K : Tr → Option Tr} {r : Tr}, killF l F K = some r → ∃ F', K F' = some r ∧ ∀ t s, F'.get t = some s → F.get t = some s
  | [], F, K, r, h => ⟨F, h, fun _ _ h => h⟩
  | d :: l, F, K, r, h => by
    simp only [killF] at h
    obtain ⟨F1, h1, h2⟩ := Tr.putK_eq F d none _ r h
    obtain ⟨F2, h3, h4⟩ := killF_inv h2
    refine ⟨F2, h3, fun t s hs => ?_⟩
    have := h4 t s hs
    rw [Tr.get_put F F1 d none h1] at this
    split at this
    · cases this
    · exact this
/-- Some slots are forgotten. -/
theorem Sat.kill {c : Code} {ids : List Nat} (l : List Nat) (hG : killF l F some = some G) (h : Sat C Q0 (.code c G M ids k)) : Sat C Q0 (.code c F M ids k) := fun U E a w hsup hst => by
  obtain ⟨F1, h1, h2⟩ := killF_inv hG
  cases h1
  exact h U E a w hsup ⟨hst.defers, hst.size, fun t s hs => hst.slots t s (h2 t s hs), hst.mem, hst.own, hst.fresh, hst.kp, hst.hid, hst.glob, hst.pin, hst.held⟩
/-- The mode is left. -/
theorem Sat.narrow {P : Program} {W0 : World} {S T : Nat → Prop} {Γ : Glob} {N : Nat} {c : Cfg} (hT : ∀ b, T b → b < W0.heap.size) (hS : ∀ b, ¬ S b) (h : Sat ⟨P, W0, S, T, Γ, N, [], [], false⟩ Q0 c) :
    Sat ⟨P, W0, S, fun b => T b ∨ W0.heap.size ≤ b, Γ, N, [], [], true⟩ Q0 c := by
  have key : ∀ {F M U E a w}, St ⟨P, W0, S, fun b => T b ∨ W0.heap.size ≤ b, Γ, N, [], [], true⟩ F M U E a w → St ⟨P, W0, S, T, Γ, N, [], [], false⟩ F M U E a w := fun {F M U E a w} hst => by
    have ht : ∀ b, b < w.heap.size → trk T M E b → trk (fun b => T b ∨ W0.heap.size ≤ b) M E b := by
      rintro b _ (h | h)
      · exact .inl h
      · exact .inr (.inl h)
    refine ⟨hst.defers, hst.size, fun t s hs => (hst.slots t s hs).mono (fun _ _ h => h) ht (Chg.refl _ w), ⟨fun id B hf => ?_, hst.mem.inj⟩, hst.own, hst.fresh, hst.kp, fun b hb => .inl ⟨hT b hb, hS b⟩, hst.glob.mono ht (Chg.refl _ w), fun p hp => (by cases hp), fun p hp => (by cases hp)⟩
    rcases hst.mem.blk id B hf with ⟨b, h1, h2, h3⟩ | h1
    · exact .inl ⟨b, h1, h2, h3.mono (fun _ _ h => h) ht (Chg.refl _ w) rfl⟩
    · exact .inr h1
  cases c with
  | reg full rest F M ids k => exact fun U E a w hsup hst => h U E a w hsup (key hst)
  | qreg full rest F M ids k => exact fun U E a w hsup hst => h U E a w hsup (key hst)
  | code c F M ids k => exact fun U E a w hsup hst => h U E a w hsup (key hst)
  | ext e F M ids k => exact fun U E a w hsup hst => h U E a w hsup (key hst)
/-- **A contract, by a walk in which everything new is hidden from what is read.** -/
theorem Fun.mkW {P : Program} {Γ : Glob} {f : FuncId} {fn : Func} {c : Code} {N : Nat} {args : List SV} {res : SV} {F : Tr} (dep : Nat) (hf : P.funcs[f]? = some fn) (hb : fn.body = some c) (hN : fn.ntmps = N) (hle : Nat.ble args.length N = true) (hF : argT 0 args (Tr.mk dep) = some F)
    (h : ∀ (T : Nat → Prop) (w : World), (∀ b, T b → b < w.heap.size) → Sat ⟨P, w, fun _ => False, fun b => T b ∨ w.heap.size ≤ b, Γ, N, [], [], true⟩ (bodyPost P fn (Post T w res)) (.code c F [] ids0 [])) : Fun P Γ f args res := by
  intro T w vs hT hG ht
  have hle' := Nat.le_of_ble_eq_true hle
  have hlen := ht.len
  have hT1 : ∀ b, b < w.heap.size → trk (fun b => T b ∨ w.heap.size ≤ b) [] E0 b → T b := fun b hlt hb => by
    rcases hb with ⟨id, B, hf, _⟩ | h0 | h0
    · simp [find] at hf
    · exact h0
    · omega
  refine calls_of_wp hf hb (h T w hT (fun _ => True) E0 _ w ?_ ⟨rfl, ?_, fun t s hs => ?_, ⟨fun id B hf => by simp [find] at hf, fun id id' b hf => by simp [find] at hf⟩, fun id b hf => by simp [find] at hf, fun _ _ => rfl, ⟨rfl, rfl, rfl, Chg.refl _ w⟩, fun b hb => .inr rfl, hG.mono hT1 (Chg.refl _ w), fun p hp => (by cases hp), fun p hp => (by cases hp)⟩)
  · have : ∀ (l : List Nat) (n : Nat) (U : Nat → Prop), (∀ i, i < l.length → l[i]? = some (n + i)) → (∀ k, n ≤ k → U k) → Sup l U := by
      intro l
      induction l with
      | nil => intro n _ _ _; trivial
      | cons i r ih =>
        intro n U hl hU
        have hi : i = n := by simpa using hl 0 (by simp)
        refine ⟨hU i (by omega), ih (n + 1) _ (fun j hj => ?_) fun k hk => ⟨hU k (by omega), by omega⟩⟩
        have := hl (j + 1) (by simpa using hj)
        simpa [Nat.add_assoc, Nat.add_comm 1 j] using this
    exact this ids0 0 _ (by decide) fun _ _ => trivial
  · simp only [Array.size_append, List.size_toArray, Array.size_replicate, hlen, hN]; omega
  · rcases argT_get hF ht t s hs with ⟨q1, _⟩ | ⟨_, v, q2, q3⟩ | ⟨_, q2⟩
    · omega
    · have hlt : t < vs.length := by simpa using (List.getElem?_eq_some_iff.1 q2).1
      have : (vs.toArray ++ Array.replicate (fn.ntmps - vs.toArray.size) undef).getD t undef = v := by
        rw [Array.getD_eq_getD_getElem?, Array.getElem?_append_left (by simpa using hlt)]
        simp only [Nat.sub_zero] at q2
        simp [q2]
      rw [this]
      exact q3.mono (fun _ _ h => h) hT1 (Chg.refl _ w)
    · rw [mk_get] at q2; cases q2

theorem buf_find {M1 : Mem} {i nx : Nat} {j : Option Nat} {B B' : Blk} (hM : upd (delO M j) i B = some M1) (id : Nat) : find ((nx, B') :: M1) id = (look ((nx, some B') :: (i, some B) :: odCh j) id).getD (find M id) := by
  rw [find_cons]
  simp only [look]
  by_cases h1 : id = nx
  · subst h1
    simp
  · have : Nat.beq nx id = false := by
      cases h : Nat.beq nx id with
      | false => rfl
      | true => exact absurd (Nat.eq_of_beq_eq_true h).symm h1
    rw [if_neg h1, this, find_upd hM]
    by_cases h2 : id = i
    · subst h2
      simp
    · have : Nat.beq i id = false := by
        cases h : Nat.beq i id with
        | false => rfl
        | true => exact absurd (Nat.eq_of_beq_eq_true h).symm h2
      rw [if_neg h2, this]
      cases j with
      | none => rfl
      | some j =>
        simp only [delO, find_del, odCh, look]
        by_cases h3 : id = j
        · subst h3
          simp
        · have : Nat.beq j id = false := by
            cases h : Nat.beq j id with
            | false => rfl
            | true => exact absurd (Nat.eq_of_beq_eq_true h).symm h3
          rw [if_neg h3, this]
          rfl
/-- The same in a region that draws its order: all the others have come up. -/
theorem DSat.buf {full rest : List Oper} {F0 : Tr} {M0 : Mem} {ids0 : List Nat} {n : Nat} {hist : List Ent} {d : Option Tmp} {x : Operand} {f : FuncId} {xs : List Operand} {ats : Array TypeId} {type : TypeId} {pos : String} {after : Array Edge} {svs args : List SV} {res : SV} {i : Nat} {e : TypeId} {m : List UInt8} {r : BufR}
    (hspec : BufOk C.P e f args res m) (hx : argsF C.Γ F x xs = some (f, .ptr i 0 :: svs)) (hc : callable C.P f = true) (hconv : Convs M svs args) (hr : bufAt e M i = some r) (hb : bufM C.pins e F M i nx m = some ⟨F, M', φ⟩) (hφ : AllP φ) (hp : putD C.N F d (some res) some = some F')
    (hS : ∀ b, ¬ C.S b) (hW : ∀ b, C.W0.heap.size ≤ b → C.T0 b)
    (h : DSat C Q0 k full F0 M0 ids0 (n + 1) (⟨n, d, some res, some nx, (nx, some (.row e (.u8 (r.l ++ m)))) :: (i, some (.cells r.t [.bsl nx (r.l ++ m).length, .int .i64 0, .anyi .i8])) :: odCh r.j, [], true⟩ :: hist) rest F' M' ids') :
    DSat C Q0 k full F0 M0 ids0 n hist (⟨d, .call ⟨.value x, ⟨xs⟩, ats⟩, type, pos, after, none⟩ :: rest) F M (nx :: ids') := by
  intro D
  obtain ⟨F1, h1, h2⟩ := putD_inv hp
  cases h1
  obtain ⟨p1, p2⟩ := putD_get h2
  obtain ⟨r', φ1, φ2, M1, q1, q2, q3, q4, q5, q6, q7, q8, q9, rfl⟩ := bufM_inv hb hφ
  rw [hr] at q1
  cases q1
  refine h (D.step (fun ho Q K Fa Ma U E a w u1 u2 u4 u3 hst hK => ?_) rfl rfl p2 (fun id => buf_find q9 id) rfl)
  obtain ⟨v1, v2⟩ := u4 rfl
  have hst' : St C F M U E a w := hst.ext (fun t => (v1 t).symm) (fun id => (v2 id).symm) fun _ h => h
  refine wpOp_plain ho rfl ?_
  unfold Oper.wp
  obtain ⟨vs, ht, hex⟩ := argsF_ok hst'.vw hx
  rw [hex, run_callFunc_go hc]
  cases ht with
  | cons _ v0 _ vs hr0 ht =>
  cases hr0 with
  | ptr _ _ b hE =>
  have ht' := Convs.tups (T' := fun _ => False) hst'.mem (fun _ _ h => h.elim) (fun _ _ _ _ h => h) hconv ht
  refine (hspec r.t C.W0.heap.size b r.l w vs (buf_in hst' hS hr q2 hE) hst'.kp.chg.size q3 ht').mono ?_
  rintro en w' ⟨⟨v, rfl, hv⟩, hB, hbel, hok⟩
  obtain ⟨E', hst2⟩ := buf_out hst' (u3 nx rfl) hS hW hr q2 hE q4 q5 q6 q7 q8 q9 hB hbel hok
  refine hK F' _ (V.rest U nx) E' _ w' (fun t => ?_) (fun id => ?_) (fun k => ⟨fun h => ⟨h.1, fun e => h.2 (by cases e; rfl)⟩, fun h => ⟨h.1, fun e => h.2 (by rw [e])⟩⟩) (hst2.putG p1 p2 fun s' hs' => by cases hs'; exact hv _ _ _)
  · rw [p2 t, v1 t]
  · rw [buf_find q9 id, v2 id]
theorem Fun.mkWF {P : Program} {Γ : Glob} {f : FuncId} {fn : Func} {c : Code} {N : Nat} {args : List SV} {res : SV} {F : Tr} (dep : Nat) (hf : P.funcs[f]? = some fn) (hb : fn.body = some c) (hN : fn.ntmps = N) (hle : Nat.ble args.length N = true) (hF : argT 0 args (Tr.mk dep) = some F)
    (h : factsL args → ∀ (T : Nat → Prop) (w : World), (∀ b, T b → b < w.heap.size) → Sat ⟨P, w, fun _ => False, fun b => T b ∨ w.heap.size ≤ b, Γ, N, [], [], true⟩ (bodyPost P fn (Post T w res)) (.code c F [] ids0 [])) : Fun P Γ f args res :=
  fun T w vs hT hG ht => Fun.mkW dep hf hb hN hle hF (h ht.facts) T w vs hT hG ht
end
end Go.Proofs.YtmmpflifajjbjaaDoor.V
end
section
namespace Go.Proofs.YtmmpflifajjbjaaDoor.V
open Go.RowKit

/-- A function that is given a pointer to a block of cells: what it returns, and what the block holds then; nothing else is written. -/
def MFun (P : Program) (Γ : Glob) (f : FuncId) (args : List SV) (t : TypeId) (c c' : List SV) (res : SV) : Prop :=
  ∀ (T : Nat → Prop) (w : World) (vs : List Value) (b : Nat) (cs : List Value), (∀ k, T k → k < w.heap.size) → T b → GOk Γ T w → w.heap[b]? = some (.cells cs.toArray t (0, 0)) → Items E0 T w c cs → Tup E0 T w args vs →
    Calls P f (Value.pointer (some ⟨b, 0, none⟩) :: vs).toArray w fun e w' => ∃ v cs', e = .returned v ∧ Rep E0 T w' res v ∧ w'.heap[b]? = some (.cells cs'.toArray t (0, 0)) ∧ cs'.length = cs.length ∧ Items E0 T w' c' cs' ∧
      w'.os = w.os ∧ w'.tape = w.tape ∧ w'.output = w.output ∧ w.heap.size ≤ w'.heap.size ∧ ∀ k, k < w.heap.size → k ≠ b → w'.heap[k]? = w.heap[k]?
def MPost (T : Nat → Prop) (w : World) (t : TypeId) (b n : Nat) (c' : List SV) (res : SV) (e : Ending) (w' : World) : Prop := ∃ v cs', e = .returned v ∧ Rep E0 T w' res v ∧ w'.heap[b]? = some (.cells cs'.toArray t (0, 0)) ∧ cs'.length = n ∧ Items E0 T w' c' cs' ∧
      w'.os = w.os ∧ w'.tape = w.tape ∧ w'.output = w.output ∧ w.heap.size ≤ w'.heap.size ∧ ∀ k, k < w.heap.size → k ≠ b → w'.heap[k]? = w.heap[k]?
def pe0 (b : Nat) : Env := fun i => if i = 0 then some (some b) else none
def ids1 : List Nat := 1 :: 2 :: 3 :: 4 :: 5 :: 6 :: 7 :: 8 :: 9 :: 10 :: 11 :: 12 :: 13 :: 14 :: 15 :: 16 :: 17 :: 18 :: 19 :: 20 :: 21 :: 22 :: 23 :: 24 :: 25 :: 26 :: 27 :: 28 :: 29 :: 30 :: 31 :: 32 :: 33 :: 34 :: 35 :: 36 :: 37 :: 38 :: 39 :: 40 :: []
/-- What such a function's walk is under. -/
@[reducible] def mctx (P : Program) (Γ : Glob) (N : Nat) (T : Nat → Prop) (w : World) (b : Nat) : Ctx := ⟨P, w, fun k => k = b, fun k => T k ∧ k ≠ b, Γ, N, [0], [⟨pe0 b, .e, fun _ => undef⟩], false⟩
theorem sup_ids {l : List Nat} {n : Nat} {U : Nat → Prop} (hl : ∀ i, i < l.length → l[i]? = some (n + i)) (hU : ∀ k, n ≤ k → U k) : Sup l U := by
  induction l generalizing n U with
  | nil => trivial
  | cons i r ih =>
    have hi : i = n := by simpa using hl 0 (by simp)
    refine ⟨hU i (by omega), ih (n := n + 1) (fun j hj => ?_) fun k hk => ⟨hU k (by omega), by omega⟩⟩
    have := hl (j + 1) (by simpa using hj)
    simpa [Nat.add_assoc, Nat.add_comm 1 j] using this
section
variable {P : Program} {Γ : Glob} {f : FuncId} {fn : Func} {c : Code} {N : Nat} {args : List SV} {res : SV} {F : Tr} {t : TypeId} {cl cl' : List SV}
/-- **The contract of a function that writes a block, by a walk.** -/
theorem MFun.mk (dep : Nat) (hf : P.funcs[f]? = some fn) (hb : fn.body = some c) (hN : fn.ntmps = N) (hle : Nat.ble (args.length + 1) N = true) (hF : argT 0 (.ptr 0 0 :: args) (Tr.mk dep) = some F)
    (h : factsL args → factsL cl → ∀ (T : Nat → Prop) (w : World) (b : Nat), (∀ k, T k → k < w.heap.size) → T b → Sat (mctx P Γ N T w b) (bodyPost P fn (MPost T w t b (wI cl) cl' res)) (.code c F [(0, .cells t cl)] ids1 [])) : MFun P Γ f args t cl cl' res := by
  intro T w vs b cs hT hTb hG hbk hI ht
  have hle' := Nat.le_of_ble_eq_true hle
  have hlen := ht.len
  have hE : pe0 b 0 = some (some b) := rfl
  have hne : ∀ i x, pe0 b i = some x → i = 0 ∧ x = some b := fun i x hx => by
    unfold pe0 at hx
    split at hx
    · rename_i e; cases hx; exact ⟨e, rfl⟩
    · cases hx
  have htr : ∀ k, trk (fun k => T k ∧ k ≠ b) [(0, .cells t cl)] (pe0 b) k → T k := fun k hk => by
    rcases hk with ⟨id, B, hf, hEk⟩ | h0
    · have := (hne _ _ hEk).2
      cases this
      exact hTb
    · exact h0.1
  have hup : ∀ i x, E0 i = some x → pe0 b i = some x := fun i x hx => by cases hx
  have hwl := (wI_len hI).symm
  rw [hwl]
  refine calls_of_wp hf hb (h ht.facts hI.facts T w b hT hTb (fun k => k ≠ 0) (pe0 b) _ w (sup_ids (n := 1) (by decide) (fun k hk => by omega)) ⟨rfl, ?_, fun t' s hs => ?_, ⟨fun id B hf => ?_, fun id id' b' h1 h2 h3 h4 => ?_⟩, fun id b' hf hEk => .inr ?_, fun k hk => by simp [pe0, hk], ⟨rfl, rfl, rfl, Chg.refl _ w⟩, fun k hk => .inl ⟨hT k hk.1, hk.2⟩, hG.mono (fun k _ hk => htr k hk) (Chg.refl _ w), fun p hp id x hx => ?_, fun p hp t' s hs => ?_⟩)
  · simp only [Array.size_append, List.size_toArray, Array.size_replicate, List.length_cons, hlen, hN]; omega
  · have ht2 : Tup (pe0 b) (trk (fun k => T k ∧ k ≠ b) [(0, .cells t cl)] (pe0 b)) w (.ptr 0 0 :: args) (Value.pointer (some ⟨b, 0, none⟩) :: vs) :=
      .cons _ _ _ _ (.ptr 0 0 b hE) (ht.mono hup (fun k _ hk => htr k hk) (Chg.refl _ w))
    rcases argT_get hF ht2 t' s hs with ⟨q1, _⟩ | ⟨_, v, q2, q3⟩ | ⟨_, q2⟩
    · omega
    · have hlt : t' < (Value.pointer (some ⟨b, 0, none⟩) :: vs).length := by simpa using (List.getElem?_eq_some_iff.1 q2).1
      have : ((Value.pointer (some ⟨b, 0, none⟩) :: vs).toArray ++ Array.replicate (fn.ntmps - (Value.pointer (some ⟨b, 0, none⟩) :: vs).toArray.size) undef).getD t' undef = v := by
        rw [Array.getD_eq_getD_getElem?, Array.getElem?_append_left (by simpa using hlt)]
        simp only [Nat.sub_zero] at q2
        simpa using congrArg (fun o => Option.getD o undef) q2
      rw [this]
      exact q3
    · rw [mk_get] at q2; cases q2
  · rw [find_cons] at hf
    split at hf
    · rename_i e
      cases hf
      subst e
      exact .inl ⟨b, hE, hT b hTb, cs, hbk, hI.mono hup (fun k _ hk => htr k hk) (Chg.refl _ w)⟩
    · simp [find] at hf
  · rw [(hne _ _ h3).1, (hne _ _ h4).1]
  · have := (hne _ _ hEk).2
    cases this
    rfl
  · simp only [List.mem_singleton] at hp
    subst hp
    have := hne _ _ hx
    rw [this.1]
    exact ⟨rfl, by rw [this.2]; rfl⟩
  · simp only [List.mem_singleton] at hp
    subst hp
    cases t' <;> simp [Tr.get] at hs
variable {e : Ex} {M : Mem} {ids : List Nat} {w : World} {b n : Nat} {T : Nat → Prop}
theorem mend_core {c2 : List SV} (hT : ∀ k, T k → k < w.heap.size) (hfM : find M 0 = some (.cells t c2)) (hc : Convs (del M 0) c2 cl') (he : e = .ret ∨ e = .normal) (hn : wI c2 = n)
    (hv : ∀ U E a w', Sup ids U → St (mctx P Γ N T w b) F M U E a w' → ∃ v s, (results fn a.tmps).run P w' = .ok v w' ∧ Rep E (trk (fun k => T k ∧ k ≠ b) M E) w' s v ∧ Conv (del M 0) s res) :
    Sat (mctx P Γ N T w b) (bodyPost P fn (MPost T w t b n cl' res)) (.ext e F M ids []) := by
  intro U E a w' hsup hst
  obtain ⟨v, s, h1, h2, h3⟩ := hv U E a w' hsup hst
  have hE : E 0 = some (some b) := (hst.pin _ (List.mem_singleton.2 rfl) 0 (some b) rfl).2
  obtain ⟨hlt, cs, hh, hI⟩ := hst.mem.at hfM hE
  have hle : MLe (del M 0) M := fun id B hf => by
    rw [find_del] at hf
    split at hf
    · cases hf
    · exact hf
  have hM := hst.mem.le hle
  have hTT : ∀ k, k < w'.heap.size → T k → trk (fun k => T k ∧ k ≠ b) M E k := fun k _ hk => by
    by_cases hkb : k = b
    · subst hkb; exact .inl ⟨0, _, hfM, hE⟩
    · exact .inr ⟨hk, hkb⟩
  have ho : ∀ id k, (find (del M 0) id).isSome = true → E id = some (some k) → ¬ T k := fun id k hf hEk hTk => by
    obtain ⟨B, hB⟩ := Option.isSome_iff_exists.1 hf
    have hid : id ≠ 0 := fun e => by rw [find_del, if_pos e] at hB; cases hB
    have hfi := hle id B hB
    rcases hst.own id k (by rw [hfi]; rfl) hEk with h | h
    · have := hT k hTk
      dsimp only at h
      omega
    · dsimp only at h
      subst h
      exact hid (hst.mem.inj id 0 k (by rw [hfi]; rfl) (by rw [hfM]; rfl) hEk hE)
  have hpost : MPost T w t b n cl' res (.returned v) w' :=
    ⟨v, cs, rfl, Conv.ok hM hTT ho h3 h2, hh, (wI_len hI).symm.trans hn, Convs.items hM hTT ho hc hI, hst.kp.os, hst.kp.tape, hst.kp.output, hst.kp.chg.size, fun k hk hkb => hst.kp.chg.keep k hk hkb⟩
  rcases he with rfl | rfl <;> exact ⟨hst.defers, v, h1, hpost⟩
theorem Sat.mend1 {c2 : List SV} {r : ResultVar} {φ : List Prop} {s : SV} (hT : ∀ k, T k → k < w.heap.size) (hr : fn.results = #[r]) (h1 : resV P F M r = some (φ, s)) (hφ : AllP φ) (hfM : find M 0 = some (.cells t c2)) (hc : Convs (del M 0) c2 cl') (hs : Conv (del M 0) s res) (he : e = .ret ∨ e = .normal) (hn : wI c2 = n) :
    Sat (mctx P Γ N T w b) (bodyPost P fn (MPost T w t b n cl' res)) (.ext e F M ids []) :=
  mend_core hT hfM hc he hn fun U E a w' _ hst => by
    obtain ⟨v, q1, q2⟩ := resV_ok hst h1 hφ
    refine ⟨v, s, ?_, q1, hs⟩
    unfold results
    rw [hr]
    exact mapM_run1 q2
theorem Sat.mfin {x : Cfg} {Q : Ctx} {res' : SV} {cl2 : List SV} (h : Sat Q (bodyPost P fn (MPost T w t b n cl2 res')) x) (h1 : res = res') (h2 : cl' = cl2) : Sat Q (bodyPost P fn (MPost T w t b n cl' res)) x := by
  subst h1 h2
  exact h
end
section
variable {C : Ctx} {Q0 : Exit → Act → World → Prop} {F F' : Tr} {M M' : Mem} {ids : List Nat} {k : List Kont} {f : FuncId} {t : TypeId} {c c' : List SV} {args svs : List SV} {res : SV} {i : Nat}
/-- What such a call does, where the block is one of one's own. -/
theorem mcall_core {U : Nat → Prop} {E : Env} {a : Act} {w : World} (hst : St C F M U E a w) (hn : C.wide = false) (hspec : MFun C.P C.Γ f args t c c' res) (hf : find M i = some (.cells t c)) (hpc : pureL c) (hM : upd M i (.cells t c') = some M') {vs : List Value} {b : Nat} (hE : E i = some (some b)) (ht : Tup E0 (trk C.T0 M E) w args vs) :
    Calls C.P f (Value.pointer (some ⟨b, 0, none⟩) :: vs).toArray w fun e w' => ∃ v, e = .returned v ∧ Rep E0 (trk C.T0 M' E) w' res v ∧ St C F M' U E a w' := by
  obtain ⟨hlt, cs, hh, hI⟩ := hst.mem.at hf hE
  have hmine : mine M E b := ⟨i, _, hf, hE⟩
  refine (hspec (trk C.T0 M E) w vs b cs (hst.lt hn) (.inl hmine) hst.glob hh (hI.free_ hpc) ht).mono ?_
  rintro e w' ⟨v, cs', rfl, h1, h2, h3, h4, h5, h6, h7, h8, h9⟩
  have hfind := find_upd hM
  have htr : ∀ k, trk C.T0 M' E k ↔ trk C.T0 M E k := fun k => by
    constructor
    · rintro (⟨id, B, q1, q2⟩ | h0)
      · rw [hfind] at q1
        split at q1
        · rename_i e; subst e; exact .inl ⟨id, _, hf, q2⟩
        · exact .inl ⟨id, B, q1, q2⟩
      · exact .inr h0
    · rintro (⟨id, B, q1, q2⟩ | h0)
      · by_cases e : id = i
        · subst e; exact .inl ⟨id, .cells t c', by rw [hfind, if_pos rfl], q2⟩
        · exact .inl ⟨id, B, by rw [hfind, if_neg e]; exact q1, q2⟩
      · exact .inr h0
  have hteq : trk C.T0 M' E = trk C.T0 M E := funext fun k => propext (htr k)
  have hchg : Chg (mine M E) w w' := ⟨h8, fun k hk hnm => h9 k hk fun e => hnm (e ▸ hmine), fun k hk => by
    by_cases e : k = b
    · subst e; simp [World.shape?, hh, h2, h3]
    · simp [World.shape?, h9 k hk e]⟩
  have hchg2 := hchg.weak (T' := trk C.T0 M E) fun _ => .inl
  refine ⟨v, rfl, by rw [hteq]; exact h1, hst.go (fun _ _ h => h) (fun k _ hk => (htr k).1 hk) hchg h5 h6 h7 ⟨fun id B hB => ?_, fun id id' b' q1 q2 q3 q4 => ?_⟩ (fun id b' q1 q2 => ?_) hst.fresh⟩
  · rw [hfind] at hB
    split at hB
    · rename_i e
      subst e
      cases hB
      refine .inl ⟨b, hE, Nat.lt_of_lt_of_le hlt h8, cs', h2, ?_⟩
      rw [hteq]
      exact h4.mono (fun _ _ h => by cases h) (fun _ _ h => h) (Chg.refl _ w')
    · rename_i e
      rcases hst.mem.blk id B hB with ⟨b', q1, q2, q3⟩ | q1
      · refine .inl ⟨b', q1, Nat.lt_of_lt_of_le q2 h8, ?_⟩
        have hne : b' ≠ b := fun e2 => by
          subst e2
          exact e (hst.mem.inj id i b' (by rw [hB]; rfl) (by rw [hf]; rfl) q1 hE)
        rw [hteq]
        exact q3.mono (fun _ _ h => h) (fun _ _ h => h) hchg2 (h9 b' q2 hne)
      · exact .inr q1
  · have hs : ∀ j, (find M' j).isSome = true → (find M j).isSome = true := fun j hj => by
      rw [hfind] at hj
      split at hj
      · rename_i e; subst e; rw [hf]; rfl
      · exact hj
    exact hst.mem.inj id id' b' (hs id q1) (hs id' q2) q3 q4
  · refine hst.own id b' ?_ q2
    rw [hfind] at q1
    split at q1
    · rename_i e; subst e; rw [hf]; rfl
    · exact q1
theorem Sat.mcall {full rest : List Oper} {d : Option Tmp} {x : Operand} {xs : List Operand} {ats : Array TypeId} {type : TypeId} {pos : String} {after : Array Edge}
    (hspec : MFun C.P C.Γ f args t c c' res) (hn : C.wide = false) (hx : argsF C.Γ F x xs = some (f, .ptr i 0 :: svs)) (hc : callable C.P f = true) (hconv : Convs [] svs args) (hf : find M i = some (.cells t c)) (hpc : pureL c) (hM : upd M i (.cells t c') = some M') (hp : putD C.N F d (some res) some = some F') (h : Sat C Q0 (.reg full rest F' M' ids k)) :
    Sat C Q0 (.reg full (⟨d, .call ⟨.value x, ⟨xs⟩, ats⟩, type, pos, after, none⟩ :: rest) F M ids k) := by
  intro U E a w hsup hst
  obtain ⟨F1, h1, h2⟩ := putD_inv hp
  cases h1
  refine wpList_plain rfl fun K hK => ?_
  unfold Oper.wp
  obtain ⟨vs, ht, hex⟩ := argsF_ok hst.vw hx
  rw [hex, run_callFunc_go hc]
  cases ht with
  | cons _ v0 _ vs hr ht =>
  cases hr with
  | ptr _ _ b hE =>
  have hH : MOk E (trk C.T0 M E) [] w := ⟨fun id B hf => by simp [find] at hf, fun id id' b hf => by simp [find] at hf⟩
  have ht' := Convs.tups (T' := trk C.T0 M E) hH (fun _ _ h => h) (fun id b hf => by simp [find] at hf) hconv ht
  refine (mcall_core hst hn hspec hf hpc hM hE ht').mono ?_
  rintro e w' ⟨v, rfl, hr, hst'⟩
  exact hK _ _ (h U E _ w' hsup (hst'.putD h2 fun s' hs' => by cases hs'; exact hr.up))
/-- The same in a region that draws its order. -/
theorem DSat.mcall {full rest : List Oper} {F0 : Tr} {M0 : Mem} {ids0 : List Nat} {n : Nat} {hist : List Ent} {d : Option Tmp} {x : Operand} {xs : List Operand} {ats : Array TypeId} {type : TypeId} {pos : String} {after : Array Edge}
    (hspec : MFun C.P C.Γ f args t c c' res) (hn : C.wide = false) (hx : argsF C.Γ F x xs = some (f, .ptr i 0 :: svs)) (hc : callable C.P f = true) (hconv : Convs [] svs args) (hf : find M i = some (.cells t c)) (hpc : pureL c) (hM : upd M i (.cells t c') = some M') (hp : putD C.N F d (some res) some = some F')
    (h : DSat C Q0 k full F0 M0 ids0 (n + 1) (⟨n, d, some res, none, [(i, some (.cells t c'))], [i], false⟩ :: hist) rest F' M' ids) :
    DSat C Q0 k full F0 M0 ids0 n hist (⟨d, .call ⟨.value x, ⟨xs⟩, ats⟩, type, pos, after, none⟩ :: rest) F M ids := by
  intro D
  obtain ⟨F1, h1, h2⟩ := putD_inv hp
  cases h1
  obtain ⟨p1, p2⟩ := putD_get h2
  have hlook : ∀ (M : Mem) (M' : Mem), upd M i (.cells t c') = some M' → ∀ id, find M' id = (look [(i, some (Blk.cells t c'))] id).getD (find M id) := fun M M' hM id => by
    rw [find_upd hM]
    simp only [look]
    by_cases e : id = i
    · subst e; simp
    · have : Nat.beq i id = false := by
        cases h : Nat.beq i id with
        | false => rfl
        | true => exact absurd (Nat.eq_of_beq_eq_true h).symm e
      rw [if_neg e, this]
      rfl
  refine h (D.step (fun ho Q K Fa Ma U E a w q1 q2 _ q3 hst hK => ?_) rfl rfl p2 (hlook _ _ hM) rfl)
  have hfa : find Ma i = some (.cells t c) := (q2 i (List.mem_singleton.2 rfl)).trans hf
  obtain ⟨Ma', hMa⟩ := upd_some (B' := .cells t c') hfa
  refine wpOp_plain ho rfl ?_
  unfold Oper.wp
  obtain ⟨vs, ht, hex⟩ := argsF_ok hst.vw (argsF_le (looks_le (F := F) q1 fun _ => rfl) hx)
  rw [hex, run_callFunc_go hc]
  cases ht with
  | cons _ v0 _ vs hr ht =>
  cases hr with
  | ptr _ _ b hE =>
  have hH : MOk E (trk C.T0 Ma E) [] w := ⟨fun id B hf => by simp [find] at hf, fun id id' b hf => by simp [find] at hf⟩
  have ht' := Convs.tups (T' := trk C.T0 Ma E) hH (fun _ _ h => h) (fun id b hf => by simp [find] at hf) hconv ht
  refine (mcall_core hst hn hspec hfa hpc hMa hE ht').mono ?_
  rintro e w' ⟨v, rfl, hr, hst'⟩
  obtain ⟨F2, hF2⟩ := tr_put Fa d (some res)
  exact hK F2 Ma' U E _ w' hF2 (hlook _ _ hMa) (fun k => by simp) (hst'.putG p1 hF2 fun s' hs' => by cases hs'; exact hr.up)
end
end Go.Proofs.YtmmpflifajjbjaaDoor.V
end
section
namespace Go.Proofs.YtmmpflifajjbjaaDoor.V
open Go.RowKit

theorem exec_copy {P : Program} {a : Act} {o : Oper} {s x : Operand} {t t' : TypeId} (ho : o.op = .call ⟨.builtin .copy, ⟨[s, x]⟩, ⟨[t, t']⟩⟩) {v : Value} {w w' : World} (h : (Builtin.copy_ #[t, t'] o.type #[a.eval s, a.eval x]).run P w = .ok v w') : (execOp a.eval o).run P w = .ok (.value v) w' := by
  obtain ⟨cs, hc⟩ := exec_call_builtin (a := a) ho
  rw [hc]
  simp only [builtin, Sem.run_bind]
  have : ([s, x].map a.eval).toArray = #[a.eval s, a.eval x] := rfl
  rw [this]
  simp [h]
/-- An array of bytes, by its cells. -/
theorem arr_rep {E : Env} {T : Nat → Prop} {w : World} {n : Nat} {m : List UInt8} (h : m.length = n) : Rep E T w (.arr n (.u8 m)) (.agg (bytesC m).toArray) := by
  refine .arr n (.u8 m) (bytesC m) (fun i => [.int .u8 ((m.getD i 0).toNat : Int)]) (fun i _ => rfl) (by rw [bytesC_len]; exact h) (by simp [EV.len, EV.sz, h]) (bytesC_one m) (fun i j v hi hv => ?_) (fun i hi => .one _ _ _ _ rfl (.int _ _ (inR_byte _)) .nil)
  match j, hv with
  | 0, hv =>
    simp at hv
    subst hv
    have := bytesC_at m i hi
    simpa [EV.sz] using this
  | j + 1, hv => simp at hv
theorem sizeF_size {P : Program} {t : TypeId} {n : Nat} (h : sizeF P t = some n) : (P.info? t).map (·.size) = some n := by
  unfold sizeF at h
  split at h
  · rename_i i hi
    simp only [Option.some.injEq] at h
    rw [hi]
    simp [h]
  · cases h
section
variable {C : Ctx} {Q0 : Exit → Act → World → Prop} {F F' : Tr} {M M' : Mem} {ids : List Nat} {k : List Kont} {i n : Nat} {t ta tb elem : TypeId} {old m : List UInt8}
theorem copy_core {U : Nat → Prop} {E : Env} {a : Act} {w : World} (hst : St C F M U E a w) {o : Oper} {x y : Operand} (ho : o.op = .call ⟨.builtin .copy, ⟨[x, y]⟩, ⟨[ta, tb]⟩⟩) (hu : C.P.underlying ta = some (.slice elem)) (hsz : sizeF C.P elem = some 1)
    (hx : opd C.Γ F x = some (.row i 0 1 0 n)) (hy : opd C.Γ F y = some (.ro (.u8 m))) (hn : 0 < n) (hf : find M i = some (.cells t [.arr n (.u8 old)])) (hm : m.length = n ∨ m.length = 0) (hM : upd M i (.cells t [.arr n (.u8 (if m.length = n then m else old))]) = some M') :
    ∃ w', (execOp a.eval o).run C.P w = .ok (.value (.int .i64 (m.length : Int))) w' ∧ St C F M' U E a w' := by
  have hrx := opd_rep hst.vw hx
  have hry := opd_rep hst.vw hy
  have hs1 := sizeF_size hsz
  generalize hvx : a.eval x = vx at hrx
  cases hrx with
  | row0 _ _ _ _ _ hE h0 => omega
  | row _ _ _ _ _ b o' c n' t' hE hs hoff hl ok =>
  have hc0 : c ≠ 0 := by omega
  obtain ⟨ho1, _⟩ := hoff hc0
  simp only [Nat.zero_mul, Nat.add_zero] at ho1
  subst ho1
  obtain ⟨hlt, cs, hh, hI⟩ := hst.mem.at hf hE
  cases hI with
  | one _ _ _ _ h1 => simp [SV.one] at h1
  | arr _ _ _ c1 cs' hra hl' =>
  cases hl'
  rw [List.append_nil] at hh
  have hlen1 := hra.arr_len
  obtain ⟨hol, hat⟩ := arr_u8_cells hra
  -- the cells of the source
  have key : ∀ (ad : Addr) (k' : Nat) (csrc : List Value), csrc.length = m.length → csrc = bytesC m → m.length ≤ n → a.eval y = .slice (some ad) m.length k' → (∀ j v, csrc[j]? = some v → w.cell? (ad.add j) = some v) →
      (execOp a.eval o).run C.P w = .ok (.value (.int .i64 (m.length : Int))) (w.setRow b (csrc ++ c1.drop m.length).toArray) := fun ad k' csrc q1 q2 q3 q4 q5 => by
    refine exec_copy ho ?_
    rw [hvx, q4]
    have := run_copy_row (P := C.P) w ta tb o.type elem b 0 n c ad m.length k' c1.toArray t csrc hu hs1 hh (by rw [q1]; exact (Nat.min_eq_left q3).symm) q5 (by simp [q1, hlen1]; omega) (by rw [q2]; exact bytesC_one m)
    rw [this]
    simp [goInt, q1]
  have fin : ∀ w1, (execOp a.eval o).run C.P w = .ok (.value (.int .i64 (m.length : Int))) w1 → (∃ cs2 : List Value, w1 = w.setRow b cs2.toArray ∧ cs2.length = c1.length ∧ ∀ E T w, Rep E T w (.arr n (.u8 (if m.length = n then m else old))) (.agg cs2.toArray)) →
      ∃ w', (execOp a.eval o).run C.P w = .ok (.value (.int .i64 (m.length : Int))) w' ∧ St C F M' U E a w' := fun w1 q1 ⟨cs2, q2, q3, q4⟩ => by
    subst q2
    refine ⟨_, q1, hst.upd_ hM hf hE hh q3 ⟨cs2, ?_, ?_⟩⟩
    · exact setRow_heap w b c1.toArray _ t (0, 0) hh
    · have := Items.arr (E := E) (T := trk C.T0 M' E) (w := w.setRow b cs2.toArray) n (.u8 (if m.length = n then m else old)) [] cs2 [] (q4 _ _ _) .nil
      rwa [List.append_nil] at this
  have hold : Rep E0 (fun _ => False) w (.arr n (.u8 old)) (.agg c1.toArray) := by
    have := Rep.free_ (E' := E0) hra (by simp [pureS, pureE])
    exact this.mono (fun _ _ h => h) (fun _ _ h => h.elim) (Chg.refl _ w)
  have holdc : ∀ (E : Env) (T : Nat → Prop) (w : World), Rep E T w (.arr n (.u8 old)) (.agg c1.toArray) := fun E T w => by
    have e : c1 = bytesC old := by
      refine List.ext_getElem? fun j => ?_
      by_cases hj : j < n
      · rw [hat j hj, bytesC_at old j (by omega)]
      · rw [List.getElem?_eq_none (by omega), List.getElem?_eq_none (by rw [bytesC_len]; omega)]
    rw [e]
    exact arr_rep hol
  by_cases hmn : m.length = n
  · generalize hvy : a.eval y = vy at hry
    cases hry with
    | ro0 _ h0 => simp only [EV.len] at h0; omega
    | ro1 _ _ h0 => simp only [EV.len] at h0; omega
    | ro _ bb oo n2 k2 c2 hT2 hn2 hc2 hr2 he2 hl2 ok2 hb2 =>
      simp only [EV.len, EV.sz, Nat.mul_one] at he2 hn2 hc2 hr2
      subst he2
      have hsrc : ∀ j v, (bytesC m)[j]? = some v → w.cell? ((⟨bb, oo, none⟩ : Addr).add j) = some v := fun j v hv => by
        rcases Nat.lt_or_ge j m.length with hj | hj
        · rw [bytesC_at m j hj] at hv
          cases hv
          have hI2 := hr2 j hj
          have hcj := hc2 j 0
          simp only [EV.items] at hI2
          generalize c2 j = cj at hI2 hcj
          cases hI2 with
          | one _ cv _ _ p0 pr pI =>
            cases pr
            rw [Lib.addr_add]
            exact hcj _ hj rfl
        · rw [List.getElem?_eq_none (by rw [bytesC_len]; exact hj)] at hv
          cases hv
      refine fin _ (key ⟨bb, oo, none⟩ k2 (bytesC m) (bytesC_len m) rfl (by omega) hvy hsrc) ⟨_, rfl, ?_, fun E T w => ?_⟩
      · simp [bytesC_len, hlen1, hmn]
      · rw [if_pos hmn, List.drop_of_length_le (by omega), List.append_nil]
        exact arr_rep hmn
  · have hm0 : m.length = 0 := hm.resolve_left hmn
    have hmnil : m = [] := List.eq_nil_of_length_eq_zero hm0
    subst hmnil
    have hself : ∀ w2, w2 = w → ∃ cs2 : List Value, w2 = w.setRow b cs2.toArray ∧ cs2.length = c1.length ∧ ∀ E T w, Rep E T w (.arr n (.u8 (if ([] : List UInt8).length = n then [] else old))) (.agg cs2.toArray) := fun w2 e => by
      refine ⟨c1, ?_, rfl, fun E T w => by rw [if_neg hmn]; exact holdc E T w⟩
      rw [e]
      exact (setRow_self w b c1.toArray t (0, 0) hh).symm
    have hsome : ∀ (ad : Addr) (k' : Nat), a.eval y = .slice (some ad) 0 k' → ∃ w', (execOp a.eval o).run C.P w = .ok (.value (.int .i64 ((([] : List UInt8)).length : Int))) w' ∧ St C F M' U E a w' := fun ad k' he => by
      have := key ad k' [] rfl rfl (Nat.zero_le _) he (fun j v hj => by simp at hj)
      refine fin _ this (hself _ ?_)
      simp only [List.nil_append, List.length_nil, List.drop_zero]
      exact setRow_self w b c1.toArray t (0, 0) hh
    generalize hvy : a.eval y = vy at hry
    cases hry with
    | ro0 _ h0 =>
      refine fin w ?_ (hself w rfl)
      refine exec_copy ho ?_
      rw [hvx, hvy]
      exact run_copy_nil (P := C.P) w ta tb o.type elem ⟨b, 0, none⟩ n c hu (by rw [hs1]; rfl)
    | ro1 _ ad h0 => exact hsome ad 0 hvy
    | ro _ bb oo n2 k2 c2 hT2 hn2 hc2 hr2 he2 hl2 ok2 hb2 =>
      simp only [EV.len, List.length_nil] at he2
      subst he2
      exact hsome ⟨bb, oo, none⟩ k2 hvy
theorem Sat.copy {full rest : List Oper} {d : Option Tmp} {x y : Operand} {type : TypeId} {pos : String} {after : Array Edge}
    (hu : C.P.underlying ta = some (.slice elem)) (hsz : sizeF C.P elem = some 1) (hx : opd C.Γ F x = some (.row i 0 1 0 n)) (hy : opd C.Γ F y = some (.ro (.u8 m))) (hn : Nat.blt 0 n = true) (hf : find M i = some (.cells t [.arr n (.u8 old)])) (hM : upd M i (.cells t [.arr n (.u8 (if m.length = n then m else old))]) = some M') (hm : m.length = n ∨ m.length = 0)
    (hp : putD C.N F d (some (.int .i64 (m.length : Int))) some = some F') (h : Sat C Q0 (.reg full rest F' M' ids k)) :
    Sat C Q0 (.reg full (⟨d, .call ⟨.builtin .copy, ⟨[x, y]⟩, ⟨[ta, tb]⟩⟩, type, pos, after, none⟩ :: rest) F M ids k) := by
  intro U E a w hsup hst
  obtain ⟨F1, h1, h2⟩ := putD_inv hp
  cases h1
  refine wpList_plain rfl fun K hK => ?_
  unfold Oper.wp
  obtain ⟨w', q1, q2⟩ := copy_core hst (o := ⟨d, .call ⟨.builtin .copy, ⟨[x, y]⟩, ⟨[ta, tb]⟩⟩, type, pos, after, none⟩) rfl hu hsz hx hy (by simpa using hn) hf hm hM
  rw [q1]
  have hlen : okLen m.length := by
    have hr := opd_rep hst.vw hy
    generalize a.eval y = vy at hr
    cases hr with
    | ro0 _ h0 => simp only [EV.len] at h0; rw [h0]; unfold okLen; omega
    | ro1 _ _ h0 => simp only [EV.len] at h0; rw [h0]; unfold okLen; omega
    | ro _ _ _ _ _ _ _ _ _ _ he hl ok _ => simp only [EV.len] at he; rw [← he]; unfold okLen at ok ⊢; omega
  unfold okLen at hlen
  exact hK _ _ (h U E _ w' hsup (q2.putD h2 fun s' hs' => by cases hs'; exact .int _ _ (inR_i64 (by omega) (by omega))))
theorem DSat.copy {full rest : List Oper} {F0 : Tr} {M0 : Mem} {ids0 : List Nat} {j : Nat} {hist : List Ent} {d : Option Tmp} {x y : Operand} {type : TypeId} {pos : String} {after : Array Edge}
    (hu : C.P.underlying ta = some (.slice elem)) (hsz : sizeF C.P elem = some 1) (hx : opd C.Γ F x = some (.row i 0 1 0 n)) (hy : opd C.Γ F y = some (.ro (.u8 m))) (hn : Nat.blt 0 n = true) (hf : find M i = some (.cells t [.arr n (.u8 old)])) (hM : upd M i (.cells t [.arr n (.u8 (if m.length = n then m else old))]) = some M') (hm : m.length = n ∨ m.length = 0)
    (hp : putD C.N F d (some (.int .i64 (m.length : Int))) some = some F')
    (h : DSat C Q0 k full F0 M0 ids0 (j + 1) (⟨j, d, some (.int .i64 (m.length : Int)), none, [(i, some (.cells t [.arr n (.u8 (if m.length = n then m else old))]))], [i], false⟩ :: hist) rest F' M' ids) :
    DSat C Q0 k full F0 M0 ids0 j hist (⟨d, .call ⟨.builtin .copy, ⟨[x, y]⟩, ⟨[ta, tb]⟩⟩, type, pos, after, none⟩ :: rest) F M ids := by
  intro D
  obtain ⟨F1, h1, h2⟩ := putD_inv hp
  cases h1
  obtain ⟨p1, p2⟩ := putD_get h2
  have hlook : ∀ (B : Blk) (M : Mem) (M' : Mem), upd M i B = some M' → ∀ id, find M' id = (look [(i, some B)] id).getD (find M id) := fun B M M' hM id => by
    rw [find_upd hM]
    simp only [look]
    by_cases e : id = i
    · subst e; simp
    · have : Nat.beq i id = false := by
        cases h : Nat.beq i id with
        | false => rfl
        | true => exact absurd (Nat.eq_of_beq_eq_true h).symm e
      rw [if_neg e, this]
      rfl
  refine h (D.step (fun ho Q K Fa Ma U E a w q1 q2 _ q3 hst hK => ?_) rfl rfl p2 (hlook _ _ _ hM) rfl)
  have hfa : find Ma i = some (.cells t [.arr n (.u8 old)]) := (q2 i (List.mem_singleton.2 rfl)).trans hf
  obtain ⟨Ma', hMa⟩ := upd_some (B' := .cells t [.arr n (.u8 (if m.length = n then m else old))]) hfa
  have hxa : opd C.Γ Fa x = some (.row i 0 1 0 n) := looks_le (F := F) q1 (fun _ => rfl) x (by simp [Op.operands, Call.operands]) _ hx
  have hya : opd C.Γ Fa y = some (.ro (.u8 m)) := looks_le (F := F) q1 (fun _ => rfl) y (by simp [Op.operands, Call.operands]) _ hy
  refine wpOp_plain ho rfl ?_
  unfold Oper.wp
  obtain ⟨w', r1, r2⟩ := copy_core hst (o := ⟨d, .call ⟨.builtin .copy, ⟨[x, y]⟩, ⟨[ta, tb]⟩⟩, type, pos, after, none⟩) rfl hu hsz hxa hya (by simpa using hn) hfa hm hMa
  rw [r1]
  have hlen : okLen m.length := by
    have hr := opd_rep hst.vw hya
    generalize a.eval y = vy at hr
    cases hr with
    | ro0 _ h0 => simp only [EV.len] at h0; rw [h0]; unfold okLen; omega
    | ro1 _ _ h0 => simp only [EV.len] at h0; rw [h0]; unfold okLen; omega
    | ro _ _ _ _ _ _ _ _ _ _ he hl ok _ => simp only [EV.len] at he; rw [← he]; unfold okLen at ok ⊢; omega
  unfold okLen at hlen
  obtain ⟨F2, hF2⟩ := tr_put Fa d (some (.int .i64 (m.length : Int)))
  exact hK F2 Ma' U E _ w' hF2 (hlook _ _ _ hMa) (fun k => by simp) (r2.putG p1 hF2 fun s' hs' => by cases hs'; exact .int _ _ (inR_i64 (by omega) (by omega)))
/-- A row is given up, in the midst of a region. -/
theorem Sat.freezeR {full rest : List Oper} {φ : List Prop} (wh : Bool) (id : Nat) (hz : frz C.wide C.pins ids wh id F M = some ⟨F', M', φ⟩) (hφ : AllP φ) (hn : Sat C Q0 (.reg full rest F' M' ids k)) : Sat C Q0 (.reg full rest F M ids k) := by
  intro U E a w _ hst
  obtain ⟨U', E', h1, h2⟩ := frz_ok hz hφ hst
  exact hn U' E' a w h1 h2
/-- An operation whose guard is known not to hold: whatever its slot is said to hold, were the guard to hold. -/
theorem Sat.goffM {full rest : List Oper} {d : Option Tmp} {op : Op} {type : TypeId} {pos : String} {after : Array Edge} {j : Nat} {want : Bool} {H : Prop} (v : SV) (hH : guardH F full j want = some H) (hh : ¬ H) (hp : putD C.N F d (some (.may H v)) some = some F') (h : Sat C Q0 (.reg full rest F' M ids k)) :
    Sat C Q0 (.reg full (⟨d, op, type, pos, after, some (j, want)⟩ :: rest) F M ids k) := by
  intro U E a w hsup hst
  have hy : ¬ (yielded full.toArray a.tmps j == some want) = true := fun hy => hh ((guardH_ok (full := full) hst hH).1 hy)
  obtain ⟨F1, h1, h2⟩ := putD_inv hp
  cases h1
  refine wpList_step fun K hK => ?_
  simp only [Region.wanted, hy]
  exact hK _ _ (h U E _ w hsup (hst.putD h2 fun s' hs' => by cases hs'; exact .may0 _ _ hh))
end
end Go.Proofs.YtmmpflifajjbjaaDoor.V
end
section
namespace Go.Proofs.YtmmpflifajjbjaaDoor.V
open Go.RowKit
section
variable {C : Ctx} {Q0 : Exit → Act → World → Prop} {F F' : Tr} {M M' : Mem} {ids : List Nat} {k : List Kont}
theorem Sat.one {X : IntKind → Bool} {full rest : List Oper} {o : Oper} {φ : List Prop} {ids' : List Nat} (h : step1 X C.P C.Γ C.N full o F M ids = some ⟨F', M', ids', φ⟩) (hφ : AllP φ) (hn : Sat C Q0 (.reg full rest F' M' ids' k)) : Sat C Q0 (.reg full (o :: rest) F M ids k) := by
  intro U E a w hsup hst
  exact step1_ok hst hsup h hφ.all fun U E a w h1 h2 => hn U E a w h1 h2
/-- The run, no further than n steps of code. -/
theorem Sat.runN {X : IntKind → Bool} {c c' : Cfg} {φ : List Prop} (n : Nat) (h : runC X C.P C.Γ C.N n c [] = some (c', φ)) (hφ : AllP φ) (hn : Sat C Q0 c') : Sat C Q0 c := (runC_ok n h hφ.all hn).2
/-- A region is entered. -/
theorem Sat.enter {id : Nat} {ops : List Oper} (h : Sat C Q0 (.reg ops ops F M ids k)) : Sat C Q0 (.code (.region id ⟨ops⟩ false) F M ids k) :=
  fun U E a w hsup hst => wp_region_lit (h U E a w hsup hst)
end
end Go.Proofs.YtmmpflifajjbjaaDoor.V
end
section
namespace Go.Proofs.YtmmpflifajjbjaaDoor.V
open Go.RowKit
section
variable {C : Ctx} {Q0 : Exit → Act → World → Prop} {F F' F0 : Tr} {M M' M0 : Mem} {ids ids' ids0 : List Nat} {k : List Kont} {full rest : List Oper} {hist : List Ent} {i : Nat}
theorem Sat.call0 {d : Option Tmp} {x : Operand} {f : FuncId} {ats : Array TypeId} {type : TypeId} {pos : String} {after : Array Edge} {res : SV}
    (hspec : Fun C.P C.Γ f [] res) (hn : C.wide = false) (hx : argsF C.Γ F x [] = some (f, [])) (hc : callable C.P f = true) (hp : putD C.N F d (some res) some = some F') (h : Sat C Q0 (.reg full rest F' M ids k)) :
    Sat C Q0 (.reg full (⟨d, .call ⟨.value x, #[], ats⟩, type, pos, after, none⟩ :: rest) F M ids k) := Sat.call hspec hn hx hc .nil hp h
theorem DSat.call0 {d : Option Tmp} {x : Operand} {f : FuncId} {ats : Array TypeId} {type : TypeId} {pos : String} {after : Array Edge} {res : SV}
    (hspec : Fun C.P C.Γ f [] res) (hn : C.wide = false) (hx : argsF C.Γ F x [] = some (f, [])) (hc : callable C.P f = true) (hp : putD C.N F d (some res) some = some F')
    (h : DSat C Q0 k full F0 M0 ids0 (i + 1) (⟨i, d, some res, none, [], [], false⟩ :: hist) rest F' M ids) :
    DSat C Q0 k full F0 M0 ids0 i hist (⟨d, .call ⟨.value x, #[], ats⟩, type, pos, after, none⟩ :: rest) F M ids := DSat.call hspec hn hx hc .nil hp h
theorem DSat.callM {d : Option Tmp} {x : Operand} {f : FuncId} {xs : List Operand} {ats : Array TypeId} {type : TypeId} {pos : String} {after : Array Edge} {svs args : List SV} {res : SV} {j : Nat} {want : Bool} {H : Prop}
    (hspec : Fun C.P C.Γ f args res) (hn : C.wide = false) (hH : guardH F full j want = some H) (hh : H) (hx : argsF C.Γ F x xs = some (f, svs)) (hc : callable C.P f = true) (hconv : Convs [] svs args) (hp : putD C.N F d (some res) some = some F')
    (h : DSat C Q0 k full F0 M0 ids0 (i + 1) (⟨i, d, some res, none, [], [], false⟩ :: hist) rest F' M ids) :
    DSat C Q0 k full F0 M0 ids0 i hist (⟨d, .call ⟨.value x, ⟨xs⟩, ats⟩, type, pos, after, some (j, want)⟩ :: rest) F M ids := by
  intro D
  obtain ⟨F1, h1, h2⟩ := putD_inv hp
  cases h1
  obtain ⟨p1, p2⟩ := putD_get h2
  refine h (D.step (fun ho Q K Fa Ma U E a w q1 q2 _ q3 hst hK => ?_) rfl rfl p2 (fun id => rfl) rfl)
  have hiff := guardH_ok (full := full) hst (guardH_le rfl q1 hH)
  obtain ⟨F2, hF2⟩ := tr_put Fa d (some res)
  unfold wpOp
  simp only [List.getElem?_toArray, ho]
  have hy := hiff.2 hh
  simp only [Region.wanted, hy, if_true]
  left
  unfold Oper.wp
  obtain ⟨vs, ht, hex⟩ := argsF_ok hst.vw (argsF_le (looks_le (F := F) q1 fun _ => rfl) hx)
  rw [hex, run_callFunc_go hc]
  have hH : MOk E (trk C.T0 Ma E) [] w := ⟨fun id B hf => by simp [find] at hf, fun id id' b hf => by simp [find] at hf⟩
  have ht' := Convs.tups (T' := trk C.T0 Ma E) hH (fun _ _ h => h) (fun id b hf => by simp [find] at hf) hconv ht
  refine (hspec (trk C.T0 Ma E) w _ (hst.lt hn) hst.glob ht').mono ?_
  rintro e w' ⟨v, rfl, hr, hb⟩
  exact hK F2 Ma U E _ w' hF2 (fun id => rfl) (fun k => by simp) ((hst.below hb).putG p1 hF2 fun s' hs' => by cases hs'; exact hr.up)
theorem DSat.callM0 {d : Option Tmp} {x : Operand} {f : FuncId} {ats : Array TypeId} {type : TypeId} {pos : String} {after : Array Edge} {res : SV} {j : Nat} {want : Bool} {H : Prop}
    (hspec : Fun C.P C.Γ f [] res) (hn : C.wide = false) (hH : guardH F full j want = some H) (hh : H) (hx : argsF C.Γ F x [] = some (f, [])) (hc : callable C.P f = true) (hp : putD C.N F d (some res) some = some F')
    (h : DSat C Q0 k full F0 M0 ids0 (i + 1) (⟨i, d, some res, none, [], [], false⟩ :: hist) rest F' M ids) :
    DSat C Q0 k full F0 M0 ids0 i hist (⟨d, .call ⟨.value x, #[], ats⟩, type, pos, after, some (j, want)⟩ :: rest) F M ids := DSat.callM hspec hn hH hh hx hc .nil hp h
/-! ### Slots that speak of blocks that are gone -/
def hasAll (M : Mem) : List Nat → Bool
  | [] => true
  | i :: r => hasB M i && hasAll M r
def tidyK {α : Type} (M : Mem) : Tr → (Tr → Option α) → Option α
  | .e, K => K .e
  | .n l x r, K => tidyK M l fun l' => tidyK M r fun r' => match x with
    | none => K (.n l' none r')
    | some s => match hasAll M (idsOf s) with
      | true => K (.n l' (some s) r')
      | false => K (.n l' none r')
def tidyT (M : Mem) : Tr → Tr
  | .e => .e
  | .n l x r => match x with
    | none => .n (tidyT M l) none (tidyT M r)
    | some s => match hasAll M (idsOf s) with
      | true => .n (tidyT M l) (some s) (tidyT M r)
      | false => .n (tidyT M l) none (tidyT M r)
theorem tidyK_eq {α : Type} : ∀ {F : Tr} {K : Tr → Option α}, tidyK M F K = K (tidyT M F)
  | .e, K => rfl
  | .n l x r, K => by
    simp only [tidyK, tidyT]
    rw [tidyK_eq, tidyK_eq]
    cases x with
    | none => rfl
    | some s =>
      dsimp only
      cases hasAll M (idsOf s) <;> rfl
theorem tidyT_get : ∀ (F : Tr) (t : Nat) (s : SV), (tidyT M F).get t = some s → F.get t = some s
  | .e, t, s => fun h => by cases t <;> exact h
  | .n l x r, t, s => by
    have h1 := tidyT_get l
    have h2 := tidyT_get r
    intro h
    have key : ∀ y, (x = none → y = none) → (∀ z, y = some z → x = some z) → (Tr.n (tidyT M l) y (tidyT M r)).get t = some s → (Tr.n l x r).get t = some s := by
      intro y _ hy h
      cases t with
      | zero => exact hy _ h
      | succ t =>
        simp only [Tr.get] at h ⊢
        cases hb : Nat.beq (Nat.mod t 2) 0 with
        | true => rw [hb] at h; exact h1 _ _ h
        | false => rw [hb] at h; exact h2 _ _ h
    unfold tidyT at h
    cases x with
    | none => exact key none (fun h => h) (fun z hz => hz) h
    | some x =>
      dsimp only at h
      split at h
      · exact key (some x) (fun h => h) (fun z hz => hz) h
      · exact key none (fun _ => rfl) (fun z hz => by cases hz) h
theorem Sat.tidy (hz : tidyK M F some = some F') (hn : Sat C Q0 (.reg full rest F' M ids k)) : Sat C Q0 (.reg full rest F M ids k) := by
  rw [tidyK_eq] at hz
  cases hz
  intro U E a w hsup h
  exact hn U E a w hsup ⟨h.defers, h.size, fun t s hs => h.slots t s (tidyT_get _ _ _ hs), h.mem, h.own, h.fresh, h.kp, h.hid, h.glob, h.pin, h.held⟩
end
end Go.Proofs.YtmmpflifajjbjaaDoor.V
end
section
namespace Go.Proofs.YtmmpflifajjbjaaDoor.V
open Go.RowKit
section
variable {C : Ctx} {Q0 : Exit → Act → World → Prop} {F F' F0 : Tr} {M M' M0 : Mem} {ids ids' ids0 : List Nat} {k : List Kont} {full rest : List Oper} {hist : List Ent} {i : Nat}
theorem DSat.goffM {d : Option Tmp} {op : Op} {type : TypeId} {pos : String} {after : Array Edge} {j : Nat} {want : Bool} {H : Prop} (v : SV) (hH : guardH F full j want = some H) (hh : ¬ H) (hp : putD C.N F d (some (.may H v)) some = some F')
    (h : DSat C Q0 k full F0 M0 ids0 (i + 1) (⟨i, d, some (.may H v), none, [], [], false⟩ :: hist) rest F' M ids) : DSat C Q0 k full F0 M0 ids0 i hist (⟨d, op, type, pos, after, some (j, want)⟩ :: rest) F M ids := by
  intro D
  obtain ⟨F1, h1, h2⟩ := putD_inv hp
  cases h1
  obtain ⟨p1, p2⟩ := putD_get h2
  refine h (D.step (fun ho Q K Fa Ma U E a w q1 q2 _ q3 hst hK => ?_) rfl rfl p2 (fun id => rfl) rfl)
  have hiff := guardH_ok (full := full) hst (guardH_le rfl q1 hH)
  have hy : ¬ (yielded full.toArray a.tmps j == some want) = true := fun hy => hh (hiff.1 hy)
  obtain ⟨F2, hF2⟩ := tr_put Fa d (some (.may H v))
  unfold wpOp
  simp only [List.getElem?_toArray, ho]
  simp only [Region.wanted, hy]
  exact hK F2 Ma U E _ w hF2 (fun id => rfl) (fun k => by simp) (hst.putG p1 hF2 fun s' hs' => by cases hs'; exact .may0 _ _ hh)
/-! ### A row that stands in the elements of another -/
def setGK {α : Type} (Y : Nat) (g : Nat → List SV) : Mem → (Mem → Option α) → Option α
  | [], K => K []
  | (i, B) :: r, K => match Nat.beq i Y with
    | true => match B with
      | .row t (.g n sz _) => K ((i, .row t (.g n sz g)) :: r)
      | _ => none
    | false => setGK Y g r fun r' => K ((i, B) :: r')
theorem setGK_inv {α : Type} {Y : Nat} {g : Nat → List SV} {x : α} : ∀ {L : Mem} {K : Mem → Option α}, setGK Y g L K = some x → ∃ L', K L' = some x
  | [], K, h => ⟨_, h⟩
  | (i, B) :: r, K, h => by
    simp only [setGK] at h
    split at h
    · split at h
      · exact ⟨_, h⟩
      · cases h
    · obtain ⟨L', h'⟩ := setGK_inv h
      exact ⟨_, h'⟩
def nst (wide : Bool) (pins : List Nat) (ids : List Nat) (X Y : Nat) (g : Nat → List SV) (F : Tr) (M : Mem) : Option Frz :=
  frzTK M true X F fun F' => frzMK M true X M fun M1 => setGK Y g M1 fun M' => match intoF wide pins [(1000 + Y, none)] F M F' M' ids with
    | some φ => some ⟨F', M', φ⟩
    | none => none
theorem nst_ok {X Y : Nat} {g : Nat → List SV} {φ : List Prop} {U : Nat → Prop} {E : Env} {a : Act} {w : World} (h : nst C.wide C.pins ids X Y g F M = some ⟨F', M', φ⟩) (hφ : AllP φ) (hst : St C F M U E a w) : ∃ U' E', Sup ids U' ∧ St C F' M' U' E' a w := by
  unfold nst at h
  rw [frzTK_eq, frzMK_eq] at h
  obtain ⟨L', h⟩ := setGK_inv h
  split at h
  · rename_i ψ hi
    simp only [Option.some.injEq, Frz.mk.injEq] at h
    obtain ⟨rfl, rfl, rfl⟩ := h
    exact into_ok hst hi hφ
  · cases h
/-- Row X, which stands in elements of row Y, is given up; Y's elements are said anew. -/
theorem Sat.nest {φ : List Prop} (X Y : Nat) (g : Nat → List SV) (hz : nst C.wide C.pins ids X Y g F M = some ⟨F', M', φ⟩) (hφ : AllP φ) (hn : Sat C Q0 (.reg full rest F' M' ids k)) : Sat C Q0 (.reg full rest F M ids k) := by
  intro U E a w _ hst
  obtain ⟨U', E', h1, h2⟩ := nst_ok hz hφ hst
  exact hn U' E' a w h1 h2
end
end Go.Proofs.YtmmpflifajjbjaaDoor.V
end
section
namespace Go.Proofs.YtmmpflifajjbjaaDoor.V
open Go.RowKit
section
variable {C : Ctx} {Q0 : Exit → Act → World → Prop} {F F' : Tr} {M M' : Mem} {ids : List Nat} {k : List Kont} {full rest : List Oper}
theorem Sat.rangeS {d : Option Tmp} {x : Operand} {t : TypeId} {type : TypeId} {pos : String} {after : Array Edge} {l : List UInt8} {i : Nat}
    (hu : C.P.underlying t = some .string) (hx : opd C.Γ F x = some (.str l)) (hp : putD C.N F d (some (.ptr i 0)) some = some F')
    (h : Sat C Q0 (.reg full rest F' ((i, .obj (.stringIter ⟨l.toArray⟩ 0)) :: M) ids k)) :
    Sat C Q0 (.reg full (⟨d, .range t x, type, pos, after, none⟩ :: rest) F M (i :: ids) k) := by
  intro U E a w hsup hst
  obtain ⟨hi, hs'⟩ := hsup
  obtain ⟨F1, h1, h2⟩ := putD_inv hp
  cases h1
  refine wpList_plain rfl fun K hK => ?_
  unfold Oper.wp
  have hr := opd_rep hst.vw hx
  generalize hv : a.eval x = v at hr
  cases hr with
  | str _ hl =>
    have hrun : (execOp a.eval ⟨d, .range t x, type, pos, after, none⟩).run C.P w = .ok (.value (.pointer (some ⟨w.heap.size, 0, none⟩))) (w.alloc (.stringIter ⟨l.toArray⟩ 0)) := by
      unfold execOp
      simp only [Instr.range, hv, Sem.run_bind, run_underlying hu, Result.andThen_ok, Sem.run_pure, run_newObj_alloc]
    rw [hrun]
    exact hK _ _ (h _ _ _ _ hs' ((hst.new hi (B := .obj (.stringIter ⟨l.toArray⟩ 0)) (show (w.heap.push _)[w.heap.size]? = _ by simp)).putD h2 fun s' hs' => by cases hs'; exact .ptr _ 0 _ (by simp [envWith])))
theorem St.iter {U : Nat → Prop} {E : Env} {a : Act} {w : World} (h : St C F M U E a w) {id b : Nat} {s : ByteArray} {p p' : Nat} (hM : upd M id (.obj (.stringIter s p')) = some M') (hf : find M id = some (.obj (.stringIter s p))) (hE : E id = some (some b)) : St C F M' U E a (w.iterAt b s p') := by
  have hk : w.heap[b]? = some (.stringIter s p) := (h.mem.at hf hE).2
  have hfind := find_upd hM
  have hsome : ∀ k, (find M' k).isSome = true → (find M k).isSome = true := fun k hk => by
    rw [hfind] at hk
    split at hk
    · rename_i e; subst e; rw [hf]; rfl
    · exact hk
  have hT : ∀ x, x < w.heap.size → trk C.T0 M' E x → trk C.T0 M E x := by
    rintro x _ (⟨k, B1, h1, h2⟩ | h0)
    · have := hsome k (by rw [h1]; rfl)
      obtain ⟨B2, hB2⟩ := Option.isSome_iff_exists.1 this
      exact .inl ⟨k, B2, hB2, h2⟩
    · exact .inr h0
  have hTb : mine M E b := ⟨id, _, hf, hE⟩
  have hw : Chg (mine M E) w (w.iterAt b s p') := by
    refine ⟨by rw [Lib.iterAt_size]; exact Nat.le_refl _, fun x _ hn => Lib.iterAt_other w b x s p' (fun e => hn (by rw [e]; exact hTb)), fun x _ => ?_⟩
    by_cases e : x = b
    · subst e
      simp only [World.shape?, Lib.iterAt_heap w x s p p' hk, hk]
    · simp only [World.shape?, Lib.iterAt_other w b x s p' e]
  refine h.go (fun _ _ h => h) hT hw rfl rfl rfl ⟨fun k B1 h1 => ?_, fun k k' x h1 h2 h3 h4 => h.mem.inj k k' x (hsome k h1) (hsome k' h2) h3 h4⟩ (fun k x h1 h2 => h.own k x (hsome k h1) h2) h.fresh
  rw [hfind] at h1
  split at h1
  · rename_i e
    subst e
    simp at h1
    subst h1
    left
    exact ⟨b, hE, by rw [Lib.iterAt_size]; exact (h.mem.at hf hE).1, Lib.iterAt_heap w b s p p' hk⟩
  · rename_i e
    rcases h.mem.blk k B1 h1 with ⟨x, h2, h3, h4⟩ | h2
    · left
      have hxb : x ≠ b := fun e' => by
        subst e'
        exact e (h.mem.inj k id x (by rw [h1]; rfl) (by rw [hf]; rfl) h2 hE)
      exact ⟨x, h2, by rw [Lib.iterAt_size]; exact h3, h4.mono (fun _ _ h => h) hT (hw.weak fun _ => .inl) (Lib.iterAt_other w b x s p' hxb)⟩
    · right; exact h2
section
variable {d : Option Tmp} {x : Operand} {type : TypeId} {pos : String} {after : Array Edge} {l : List UInt8} {p i : Nat}
theorem iter_at {U : Nat → Prop} {E : Env} {a : Act} {w : World} (hst : St C F M U E a w) (hx : opd C.Γ F x = some (.ptr i 0)) : ∃ b, a.eval x = .pointer (some ⟨b, 0, none⟩) ∧ E i = some (some b) := by
  have hr := opd_rep hst.vw hx
  generalize a.eval x = v at hr
  cases hr with
  | ptr _ _ b h => exact ⟨b, rfl, h⟩
/-- At the end. -/
theorem Sat.nextE (hx : opd C.Γ F x = some (.ptr i 0)) (hf : find M i = some (.obj (.stringIter ⟨l.toArray⟩ p))) (hl : ¬ p < l.length) (hp : putD C.N F d (some (.tup [.bool false])) some = some F') (h : Sat C Q0 (.reg full rest F' M ids k)) :
    Sat C Q0 (.reg full (⟨d, .next x true, type, pos, after, none⟩ :: rest) F M ids k) := by
  intro U E a w hsup hst
  obtain ⟨F1, h1, h2⟩ := putD_inv hp
  cases h1
  refine wpList_plain rfl fun K hK => ?_
  unfold Oper.wp
  obtain ⟨b, hv, hE⟩ := iter_at hst hx
  have hk : w.heap[b]? = some (.stringIter ⟨l.toArray⟩ p) := (hst.mem.at hf hE).2
  have hrun : (execOp a.eval ⟨d, .next x true, type, pos, after, none⟩).run C.P w = .ok (.value (.tuple #[.bool false])) w := by
    unfold execOp
    simp only [hv, Sem.run_bind, Lib.run_next_end_at w b _ p type hk (by simpa [ByteArray.size] using hl), Result.andThen_ok, Sem.run_pure]
  rw [hrun]
  exact hK _ _ (h U E _ _ hsup (hst.putD h2 fun s' hs' => by cases hs'; exact .tup _ [_] (.cons _ _ _ _ (.bool _) .nil)))
theorem Sat.next (hx : opd C.Γ F x = some (.ptr i 0)) (hf : find M i = some (.obj (.stringIter ⟨l.toArray⟩ p))) (hok : okLen l.length) (hl : p < l.length)
    (hp : putD C.N F d (some (.tup [.bool true, .int .i64 (p : Int), .int .i32 ((Utf8.decode ⟨l.toArray⟩ p).1 : Int)])) some = some F')
    (hM : upd M i (.obj (.stringIter ⟨l.toArray⟩ (p + (Utf8.decode ⟨l.toArray⟩ p).2))) = some M') (hn : Sat C Q0 (.reg full rest F' M' ids k)) :
    Sat C Q0 (.reg full (⟨d, .next x true, type, pos, after, none⟩ :: rest) F M ids k) := by
  intro U E a w hsup hst
  obtain ⟨F1, h1, h2⟩ := putD_inv hp
  cases h1
  refine wpList_plain rfl fun K hK => ?_
  unfold Oper.wp
  obtain ⟨b, hv, hE⟩ := iter_at hst hx
  have hk : w.heap[b]? = some (.stringIter ⟨l.toArray⟩ p) := (hst.mem.at hf hE).2
  have hrun : (execOp a.eval ⟨d, .next x true, type, pos, after, none⟩).run C.P w = .ok (.value (.tuple #[.bool true, .int .i64 p, .int .i32 (Utf8.decode ⟨l.toArray⟩ p).1])) (w.iterAt b ⟨l.toArray⟩ (p + (Utf8.decode ⟨l.toArray⟩ p).2)) := by
    unfold execOp
    simp only [hv, Sem.run_bind, Lib.run_next_any_at w b _ p type hk (by simpa [ByteArray.size] using hl), Result.andThen_ok, Sem.run_pure]
  rw [hrun]
  have hc := Lib.rune_le ⟨l.toArray⟩ p
  unfold okLen at hok
  exact hK _ _ (hn U E _ _ hsup ((hst.iter hM hf hE).putD h2 fun s' hs' => by
    cases hs'
    exact .tup _ [_, _, _] (.cons _ _ _ _ (.bool _) (.cons _ _ _ _ (.int _ _ (inR_i64 (by omega) (by omega))) (.cons _ _ _ _ (.int _ _ (by simp [inR, IntKind.min, IntKind.max, IntKind.signed, IntKind.bits]; omega)) .nil)))))
theorem dec_lo (s : ByteArray) (i : Nat) (h : (s.get! i).toNat < 128) : Utf8.decode s i = ((s.get! i).toNat, 1) := by
  unfold Utf8.decode
  simp only [Nat.add_zero]
  rw [if_pos h]
theorem dec_hi (s : ByteArray) (i : Nat) (h : ¬ (s.get! i).toNat < 128) : 128 ≤ (Utf8.decode s i).1 := by
  unfold Utf8.decode
  simp only [Nat.add_zero]
  rw [if_neg h]
  split
  · split
    · rename_i h2; exact h2
    · simp [Utf8.runeError]
  · split
    · split
      · rename_i h2; simp only [Bool.and_eq_true, decide_eq_true_eq, ge_iff_le] at h2; omega
      · simp [Utf8.runeError]
    · split
      · split
        · rename_i h2; simp only [Bool.and_eq_true, decide_eq_true_eq, ge_iff_le] at h2; omega
        · simp [Utf8.runeError]
      · simp [Utf8.runeError]
theorem get_l (hl : p < l.length) : (ByteArray.get! ⟨l.toArray⟩ p) = l.getD p 0 := by
  show l.toArray[p]! = _
  simp [hl, List.getD]
/-- A byte below 128. -/
theorem Sat.nextA (hx : opd C.Γ F x = some (.ptr i 0)) (hf : find M i = some (.obj (.stringIter ⟨l.toArray⟩ p))) (hok : okLen l.length) (hl : p < l.length) (ha : (l.getD p 0).toNat < 128)
    (hp : putD C.N F d (some (.tup [.bool true, .int .i64 (p : Int), .int .i32 ((l.getD p 0).toNat : Int)])) some = some F')
    (hM : upd M i (.obj (.stringIter ⟨l.toArray⟩ (p + 1))) = some M') (hn : Sat C Q0 (.reg full rest F' M' ids k)) :
    Sat C Q0 (.reg full (⟨d, .next x true, type, pos, after, none⟩ :: rest) F M ids k) := by
  have e := dec_lo ⟨l.toArray⟩ p (by rw [get_l hl]; exact ha)
  rw [get_l hl] at e
  exact Sat.next hx hf hok hl (by rw [e]; exact hp) (by rw [e]; exact hM) hn
/-- Another rune. -/
theorem Sat.nextN {Ff : Nat → Tr} {Mf : Nat → Mem} (hx : opd C.Γ F x = some (.ptr i 0)) (hf : find M i = some (.obj (.stringIter ⟨l.toArray⟩ p))) (hok : okLen l.length) (hl : p < l.length) (ha : ¬ (l.getD p 0).toNat < 128)
    (hp : ∀ c : Nat, putD C.N F d (some (.tup [.bool true, .int .i64 (p : Int), .int .i32 (c : Int)])) some = some (Ff c))
    (hM : ∀ q : Nat, upd M i (.obj (.stringIter ⟨l.toArray⟩ q)) = some (Mf q)) (hn : ∀ c q : Nat, 128 ≤ c → c ≤ 1114111 → Sat C Q0 (.reg full rest (Ff c) (Mf q) ids k)) :
    Sat C Q0 (.reg full (⟨d, .next x true, type, pos, after, none⟩ :: rest) F M ids k) :=
  Sat.next hx hf hok hl (hp _) (hM _) (hn _ _ (dec_hi ⟨l.toArray⟩ p (by rw [get_l hl]; exact ha)) (Lib.rune_le _ _))
end
end
end Go.Proofs.YtmmpflifajjbjaaDoor.V
end
section
namespace Go.Proofs.YtmmpflifajjbjaaDoor.V
open Go.RowKit
theorem phi {p : Prop} (h : p := by ((try dsimp only [V.EV.sub, V.EV.len]) <;> (repeat' (first | exact AllP.nil | with_reducible refine AllP.cons ?_ ?_ | with_reducible apply And.intro)) <;> (first | assumption | exact True.intro | exact rfl | (show eqOk _ _ = true; kernel_rfl) | omega | decide | (simp only [V.EV.sub, V.EV.len, List.length_cons, List.length_nil, List.length_append, List.length_drop, List.length_take]; omega) | (simp only [IntKind.bits]; omega) | (show IntKind.min _ ≤ _ ∧ _ ≤ IntKind.max _; decide) | (apply inR_i64 <;> omega) | (apply inR_i64 <;> (try simp only [Int.reduceToNat, Int.reducePow, Int.reduceSub, Int.reduceMul, Int.reduceAdd, Nat.reducePow, Nat.reduceAdd, Nat.reduceSub]) <;> omega) | (apply inR_u64 <;> omega) | (apply inR_u32 <;> omega) | (apply inR_u8' <;> omega) | (intro _; first | contradiction | (show eqOk _ _ = true; kernel_rfl) | assumption | exact rfl | omega | (show IntKind.min _ ≤ _ ∧ _ ≤ IntKind.max _; decide) | (apply inR_i64 <;> omega) | (apply inR_i64 <;> (try simp only [Int.reduceToNat, Int.reducePow, Int.reduceSub, Int.reduceMul, Int.reduceAdd, Nat.reducePow, Nat.reduceAdd, Nat.reduceSub]) <;> omega) | (apply inR_u64 <;> omega) | (apply inR_u32 <;> omega) | (apply inR_u8' <;> omega) | (apply And.intro <;> first | omega | (simp only [IntKind.bits]; omega))) | (simp; done) | (simp_all; done) | (simp_all; omega))) <;> fail) : p := h
theorem pur {p : Prop} (h : p := by ((repeat' (first | exact True.intro | assumption | apply And.intro))) <;> fail) : p := h
theorem purX {p : Prop} (h : p := by ((repeat' (first | exact True.intro | assumption | (intro _ _; simp [pureL, pureS, pureE]; done) | apply And.intro))) <;> fail) : p := h
theorem cnv {p : Prop} (h : p := by ((repeat' (first | exact Convs.nil | apply Convs.cons | exact Conv.refl _ pur | (refine Conv.may _ _ _ ?_ ?_; first | exact rfl | assumption | (decide +kernel) | (simp_all; done) | omega) | exact Conv.nils _ rfl | (refine Conv.all _ _ _ _ _ rfl rfl ?_ ?_ <;> first | rfl | exact True.intro | assumption | omega) | (refine Conv.gx _ _ _ _ _ (Conv.all _ _ _ _ _ rfl rfl ?_ ?_) ?_; exact rfl; (refine fun i hi => ?_; rcases i with _ | _ | _ | _ | _ | _ | i <;> first | exact ⟨trivial, trivial⟩ | exact trivial | (exfalso; simp only [List.length_cons, List.length_nil] at hi; omega)); (intro i hi; rcases i with _ | _ | _ | _ | _ | _ | i <;> first | rfl | (exfalso; simp only [List.length_cons, List.length_nil] at hi; omega))) | apply Conv.agg | apply Conv.tup | apply Conv.fn | (refine Conv.pr _ _ _ _ rfl ?_ rfl ?_ <;> first | exact pur | decide)))) <;> fail) : p := h
theorem cnvX {p : Prop} (h : p := by ((repeat' (first | exact Convs.nil | apply Convs.cons | exact Conv.refl _ purX | (refine Conv.may _ _ _ ?_ ?_; first | exact rfl | assumption | (decide +kernel) | (simp_all; done) | omega) | exact Conv.nils _ rfl | (refine Conv.all _ _ _ _ _ rfl rfl ?_ ?_ <;> first | rfl | exact True.intro | assumption | omega) | (refine Conv.gx _ _ _ _ _ (Conv.all _ _ _ _ _ rfl rfl ?_ ?_) ?_; exact rfl; (refine fun i hi => ?_; rcases i with _ | _ | _ | _ | _ | _ | i <;> first | exact ⟨trivial, trivial⟩ | exact trivial | (exfalso; simp only [List.length_cons, List.length_nil] at hi; omega)); (intro i hi; rcases i with _ | _ | _ | _ | _ | _ | i <;> first | rfl | (exfalso; simp only [List.length_cons, List.length_nil] at hi; omega))) | apply Conv.agg | apply Conv.tup | apply Conv.fn | (refine Conv.pr _ _ _ _ rfl ?_ rfl ?_ <;> first | exact purX | decide)))) <;> fail) : p := h
end Go.Proofs.YtmmpflifajjbjaaDoor.V
end
section
namespace Go.Proofs.YtmmpflifajjbjaaDoor
open Go.RowKit V
set_option maxRecDepth 100000
set_option maxHeartbeats 4000000
set_option linter.unusedSimpArgs false
@[reducible] def X64 : IntKind → Bool
  | .i64 => true
  | _ => false
theorem all_iff {α : Type} (l : List α) (p : α → Bool) (z : α) : l.all p = true ↔ ∀ i, i < l.length → p (l.getD i z) = true := by
  rw [List.all_eq_true]
  constructor
  · intro h i hi
    rw [List.getD_eq_getElem?_getD, List.getElem?_eq_getElem hi]
    exact h _ (List.getElem_mem hi)
  · intro h x hx
    obtain ⟨i, hi, rfl⟩ := List.mem_iff_getElem.1 hx
    have := h i hi
    rwa [List.getD_eq_getElem?_getD, List.getElem?_eq_getElem hi] at this
/-- The bytes of a name. -/
def nameC (c : UInt8) : Bool := (decide (97 ≤ c.toNat) && decide (c.toNat ≤ 122)) || (decide (65 ≤ c.toNat) && decide (c.toNat ≤ 90)) || (decide (48 ≤ c.toNat) && decide (c.toNat ≤ 57))
theorem nameC_iff (c : UInt8) : nameC c = true ↔ (97 ≤ (c.toNat : Int) ∧ (c.toNat : Int) ≤ 122) ∨ (65 ≤ (c.toNat : Int) ∧ (c.toNat : Int) ≤ 90) ∨ (48 ≤ (c.toNat : Int) ∧ (c.toNat : Int) ≤ 57) := by
  unfold nameC
  simp only [Bool.or_eq_true, Bool.and_eq_true, decide_eq_true_eq]
  omega
def nameB (s : List UInt8) : Bool := s.all nameC && (decide (1 ≤ s.length) && decide (s.length ≤ 12))
attribute [local irreducible] V.Sat V.DSat
theorem sign_ref (c : UInt8) : Fun Tryd.prog [] 43 [.int .u8 (c.toNat : Int)] (.bool (nameC c)) := by
  refine Fun.mk 6 Tryd.func43 rfl Tryd.ntmps43 rfl rfl fun T w0 => ?_
  repeat' (first
      | ((with_reducible apply Sat.run (X := X64)); exact rfl; (first | exact True.intro | (exact phi) | skip))
      | ((with_reducible apply Sat.drawn); kernel_rfl)
      | ((with_reducible apply DSat.run (X := X64)); exact rfl; (first | exact True.intro | (exact phi) | skip))
      | ((with_reducible apply DSat.fin); kernel_rfl)
      | ((with_reducible apply Sat.cond_t); exact rfl)
      | ((with_reducible apply Sat.cond_f); exact rfl)
      | ((with_reducible apply Sat.cond_pt); exact rfl; (try dsimp only [V.EV.sub, V.EV.len]); first | assumption | omega)
      | ((with_reducible apply Sat.cond_pf); exact rfl; (try dsimp only [V.EV.sub, V.EV.len]); first | assumption | omega)
      | ((with_reducible apply Sat.cond_p); exact rfl; all_goals (intro h; (try simp only [V.EV.sub, V.EV.len] at h)))
      | ((with_reducible apply Sat.cond); exact rfl; all_goals (intro h; (try simp only [V.EV.sub, V.EV.len, Bool.cond_true_left, Bool.cond_false_right, Bool.or_eq_true, Bool.and_eq_true, Bool.or_eq_false_iff, Bool.and_eq_false_iff, Bool.not_eq_true', Bool.not_eq_false', decide_eq_true_eq, decide_eq_false_iff_not, ne_eq] at h))) | fail)
  (refine Sat.fin (Sat.end1 rfl rfl rfl True.intro (.refl _ pur) (by first | exact .inl rfl | exact .inr rfl) (fun _ h => h)) ?_; (refine congrArg SV.bool ?_; apply Bool.eq_iff_iff.2; rw [nameC_iff]; simp [Bool.cond_eq_ite]; omega))
theorem name_ref (s : List UInt8) : Fun Tryd.prog [] 31 [.str s] (.bool (nameB s)) := by
  refine Fun.mkF 6 Tryd.func31 rfl Tryd.ntmps31 rfl rfl fun hf T w0 => ?_
  obtain ⟨hl, _⟩ := hf
  unfold factsS okLen at hl
  repeat' (first
      | ((with_reducible apply Sat.run (X := X64)); exact rfl; (first | exact True.intro | (exact phi) | skip))
      | ((with_reducible apply Sat.drawn); kernel_rfl)
      | ((with_reducible apply DSat.run (X := X64)); exact rfl; (first | exact True.intro | (exact phi) | skip))
      | ((with_reducible apply DSat.fin); kernel_rfl)
      | ((with_reducible apply Sat.cond_t); exact rfl)
      | ((with_reducible apply Sat.cond_f); exact rfl)
      | ((with_reducible apply Sat.cond_pt); exact rfl; (try dsimp only [V.EV.sub, V.EV.len]); first | assumption | omega)
      | ((with_reducible apply Sat.cond_pf); exact rfl; (try dsimp only [V.EV.sub, V.EV.len]); first | assumption | omega)
      | ((with_reducible apply Sat.cond_p); exact rfl; all_goals (intro h; (try simp only [V.EV.sub, V.EV.len] at h)))
      | ((with_reducible apply Sat.cond); exact rfl; all_goals (intro h; (try simp only [V.EV.sub, V.EV.len, Bool.cond_true_left, Bool.cond_false_right, Bool.or_eq_true, Bool.and_eq_true, Bool.or_eq_false_iff, Bool.and_eq_false_iff, Bool.not_eq_true', Bool.not_eq_false', decide_eq_true_eq, decide_eq_false_iff_not, ne_eq] at h))) | fail)
  apply Sat.loop (α := Nat) (fun x => x ≤ s.length ∧ ∀ i, i < x → nameC (s.getD i 0) = true) (fun x => s.length - x) 0 (fun x => [(3, .int .i64 (x : Int))]) (fun _ => []) [] [] 0
  · intro x; exact rfl
  · intro x; exact rfl
  · exact rfl
  · exact rfl
  · (repeat' (first | exact AllP.nil | with_reducible refine AllP.cons ?_ ?_)) <;> first | exact rfl | exact trivial
  · exact ⟨Nat.zero_le _, fun i hi => by omega⟩
  · rintro x ⟨x1, x2⟩
    by_cases hx : x < s.length
    · have hs := sign_ref (s.getD (x : Int).toNat 0)
      cases hc : nameC (s.getD (x : Int).toNat 0) with
      | true =>
        rw [hc] at hs
        repeat' (first
            | ((with_reducible apply Sat.run (X := X64)); exact rfl; (first | exact True.intro | (exact phi) | skip))
            | ((with_reducible apply Sat.drawn); kernel_rfl)
            | ((with_reducible apply DSat.run (X := X64)); exact rfl; (first | exact True.intro | (exact phi) | skip))
            | ((with_reducible apply DSat.fin); kernel_rfl)
            | ((with_reducible apply Sat.cond_t); exact rfl)
            | ((with_reducible apply Sat.cond_f); exact rfl)
            | ((with_reducible apply Sat.cond_pt); exact rfl; (try dsimp only [V.EV.sub, V.EV.len]); first | assumption | omega)
            | ((with_reducible apply Sat.cond_pf); exact rfl; (try dsimp only [V.EV.sub, V.EV.len]); first | assumption | omega)
            | ((with_reducible apply Sat.cond_p); exact rfl; all_goals intro h)
            | ((with_reducible apply Sat.cond); exact rfl; all_goals intro h)
            | ((with_reducible apply Sat.callR (hs)); exact rfl; exact rfl; exact rfl; kernel_rfl; (exact cnv); exact rfl)
            | ((with_reducible apply DSat.callR (hs)); exact rfl; exact rfl; exact rfl; kernel_rfl; (exact cnv); exact rfl) | fail)
        refine Sat.back (x + 1) [] rfl ?_ ?_ ?_
        · (repeat' (first | exact AllP.nil | with_reducible refine AllP.cons ?_ ?_)) <;> first | exact rfl | exact trivial | exact Int.natCast_add_one _
        · refine ⟨by omega, fun i hi => ?_⟩
          rcases Nat.lt_succ_iff_lt_or_eq.1 hi with h1 | rfl
          · exact x2 i h1
          · exact hc
        · omega
      | false =>
        rw [hc] at hs
        repeat' (first
            | ((with_reducible apply Sat.run (X := X64)); exact rfl; (first | exact True.intro | (exact phi) | skip))
            | ((with_reducible apply Sat.drawn); kernel_rfl)
            | ((with_reducible apply DSat.run (X := X64)); exact rfl; (first | exact True.intro | (exact phi) | skip))
            | ((with_reducible apply DSat.fin); kernel_rfl)
            | ((with_reducible apply Sat.cond_t); exact rfl)
            | ((with_reducible apply Sat.cond_f); exact rfl)
            | ((with_reducible apply Sat.cond_pt); exact rfl; (try dsimp only [V.EV.sub, V.EV.len]); first | assumption | omega)
            | ((with_reducible apply Sat.cond_pf); exact rfl; (try dsimp only [V.EV.sub, V.EV.len]); first | assumption | omega)
            | ((with_reducible apply Sat.cond_p); exact rfl; all_goals intro h)
            | ((with_reducible apply Sat.cond); exact rfl; all_goals intro h)
            | ((with_reducible apply Sat.callR (hs)); exact rfl; exact rfl; exact rfl; kernel_rfl; (exact cnv); exact rfl)
            | ((with_reducible apply DSat.callR (hs)); exact rfl; exact rfl; exact rfl; kernel_rfl; (exact cnv); exact rfl) | fail)
        (refine Sat.fin (Sat.end1 rfl rfl rfl True.intro (.refl _ pur) (by first | exact .inl rfl | exact .inr rfl) (fun _ h => h)) ?_; (refine congrArg SV.bool ?_; unfold nameB; rw [show s.all nameC = false from Bool.eq_false_iff.2 fun e => by have q := (all_iff s nameC 0).1 e x hx; rw [Int.toNat_natCast] at hc; rw [hc] at q; cases q]; rfl))
    · have hx2 : x = s.length := by omega
      subst hx2
      repeat' (first
          | ((with_reducible apply Sat.run (X := X64)); exact rfl; (first | exact True.intro | (exact phi) | skip))
          | ((with_reducible apply Sat.drawn); kernel_rfl)
          | ((with_reducible apply DSat.run (X := X64)); exact rfl; (first | exact True.intro | (exact phi) | skip))
          | ((with_reducible apply DSat.fin); kernel_rfl)
          | ((with_reducible apply Sat.cond_t); exact rfl)
          | ((with_reducible apply Sat.cond_f); exact rfl)
          | ((with_reducible apply Sat.cond_pt); exact rfl; (try dsimp only [V.EV.sub, V.EV.len]); first | assumption | omega)
          | ((with_reducible apply Sat.cond_pf); exact rfl; (try dsimp only [V.EV.sub, V.EV.len]); first | assumption | omega)
          | ((with_reducible apply Sat.cond_p); exact rfl; all_goals intro h)
          | ((with_reducible apply Sat.cond); exact rfl; all_goals intro h) | fail)
      (refine Sat.fin (Sat.end1 rfl rfl rfl True.intro (.refl _ pur) (by first | exact .inl rfl | exact .inr rfl) (fun _ h => h)) ?_; (refine congrArg SV.bool ?_; unfold nameB; rw [(all_iff s nameC 0).2 fun i hi => x2 i hi]; apply Bool.eq_iff_iff.2; simp [Bool.cond_eq_ite]; omega))
end Go.Proofs.YtmmpflifajjbjaaDoor
end
section
namespace Go.Proofs.YtmmpflifajjbjaaDoor
open Go.RowKit V
set_option maxRecDepth 100000
set_option maxHeartbeats 4000000
set_option linter.unusedSimpArgs false
attribute [local irreducible] V.Sat V.DSat
theorem isName_spec (s : List UInt8) : Fun Tryd.prog [] 29 [.str s] (.bool (nameB s)) := by
  refine Fun.mkF 6 Tryd.func29 rfl Tryd.ntmps29 rfl rfl fun hf T w0 => ?_
  obtain ⟨hok, _⟩ := hf
  have hok : okLen s.length := hok
  have hl := hok
  unfold okLen at hl
  repeat' (first
      | ((with_reducible apply Sat.run (X := X64)); exact rfl; (first | exact True.intro | (exact phi) | skip))
      | ((with_reducible apply Sat.drawn); kernel_rfl)
      | ((with_reducible apply DSat.run (X := X64)); exact rfl; (first | exact True.intro | (exact phi) | skip))
      | ((with_reducible apply DSat.fin); kernel_rfl) | fail)
  apply Sat.rangeS
  · kernel_rfl
  · exact rfl
  · exact rfl
  repeat' (first
      | ((with_reducible apply Sat.run (X := X64)); exact rfl; (first | exact True.intro | (exact phi) | skip))
      | ((with_reducible apply Sat.drawn); kernel_rfl)
      | ((with_reducible apply DSat.run (X := X64)); exact rfl; (first | exact True.intro | (exact phi) | skip))
      | ((with_reducible apply DSat.fin); kernel_rfl) | fail)
  apply Sat.loop (α := Nat) (fun x => x ≤ s.length ∧ ∀ i, i < x → nameC (s.getD i 0) = true) (fun x => s.length - x) 0 (fun x => []) (fun x => [(0, .obj (.stringIter ⟨s.toArray⟩ x))]) [] [] 0
  · intro x; exact rfl
  · intro x; exact rfl
  · exact rfl
  · exact rfl
  · (repeat' (first | exact AllP.nil | with_reducible refine AllP.cons ?_ ?_)) <;> first | exact rfl | exact trivial
  · exact ⟨Nat.zero_le _, fun i hi => by omega⟩
  rintro x ⟨x1, x2⟩
  have hno : ∀ i, i < s.length → nameC (s.getD i 0) = false → nameB s = false := fun i hi hc => by
    unfold nameB
    rw [show s.all nameC = false from Bool.eq_false_iff.2 fun e => by have q := (all_iff s nameC 0).1 e i hi; rw [hc] at q; cases q]
    rfl
  by_cases hx : x < s.length
  · by_cases ha : (s.getD x 0).toNat < 128
    · repeat' (first
          | ((with_reducible apply Sat.run (X := X64)); exact rfl; (first | exact True.intro | (exact phi) | skip))
          | ((with_reducible apply Sat.drawn); kernel_rfl)
          | ((with_reducible apply DSat.run (X := X64)); exact rfl; (first | exact True.intro | (exact phi) | skip))
          | ((with_reducible apply DSat.fin); kernel_rfl) | fail)
      with_reducible apply Sat.nextA
      · exact rfl
      · exact rfl
      · exact hok
      · exact hx
      · exact ha
      · exact rfl
      · exact rfl
      repeat' (first
          | ((with_reducible apply Sat.run (X := X64)); exact rfl; (first | exact True.intro | (exact phi) | skip))
          | ((with_reducible apply Sat.drawn); kernel_rfl)
          | ((with_reducible apply DSat.run (X := X64)); exact rfl; (first | exact True.intro | (exact phi) | skip))
          | ((with_reducible apply DSat.fin); kernel_rfl) | fail)
      with_reducible apply Sat.cond_t
      · exact rfl
      repeat' (first
          | ((with_reducible apply Sat.run (X := X64)); exact rfl; (first | exact True.intro | (exact phi) | skip))
          | ((with_reducible apply Sat.drawn); kernel_rfl)
          | ((with_reducible apply DSat.run (X := X64)); exact rfl; (first | exact True.intro | (exact phi) | skip))
          | ((with_reducible apply DSat.fin); kernel_rfl) | fail)
      with_reducible apply Sat.cond
      · exact rfl
      · intro h
        have hc : nameC (s.getD x 0) = false := by
          cases hc : nameC (s.getD x 0) with
          | false => rfl
          | true =>
            exfalso
            rw [nameC_iff, List.getD_eq_getElem?_getD] at hc
            simp [Bool.cond_eq_ite] at h
            omega
        rw [hno x hx hc]
        repeat' (first
            | ((with_reducible apply Sat.run (X := X64)); exact rfl; (first | exact True.intro | (exact phi) | skip))
            | ((with_reducible apply Sat.drawn); kernel_rfl)
            | ((with_reducible apply DSat.run (X := X64)); exact rfl; (first | exact True.intro | (exact phi) | skip))
            | ((with_reducible apply DSat.fin); kernel_rfl) | fail)
        (refine Sat.fin (Sat.end1 rfl rfl rfl True.intro (.refl _ pur) (by first | exact .inl rfl | exact .inr rfl) (fun _ h => h)) ?_; rfl)
      · intro h
        have hc : nameC (s.getD x 0) = true := by
          rw [nameC_iff, List.getD_eq_getElem?_getD]
          simp [Bool.cond_eq_ite] at h
          omega
        repeat' (first
            | ((with_reducible apply Sat.run (X := X64)); exact rfl; (first | exact True.intro | (exact phi) | skip))
            | ((with_reducible apply Sat.drawn); kernel_rfl)
            | ((with_reducible apply DSat.run (X := X64)); exact rfl; (first | exact True.intro | (exact phi) | skip))
            | ((with_reducible apply DSat.fin); kernel_rfl) | fail)
        refine Sat.back (x + 1) [] rfl ?_ ?_ ?_
        · (repeat' (first | exact AllP.nil | with_reducible refine AllP.cons ?_ ?_)) <;> first | exact rfl | exact trivial | exact Int.natCast_add_one _
        · refine ⟨by omega, fun i hi => ?_⟩
          rcases Nat.lt_succ_iff_lt_or_eq.1 hi with h1 | rfl
          · exact x2 i h1
          · exact hc
        · omega
    · have hc : nameC (s.getD x 0) = false := by
        cases hc : nameC (s.getD x 0) with
        | false => rfl
        | true =>
          exfalso
          rw [nameC_iff] at hc
          omega
      rw [hno x hx hc]
      repeat' (first
          | ((with_reducible apply Sat.run (X := X64)); exact rfl; (first | exact True.intro | (exact phi) | skip))
          | ((with_reducible apply Sat.drawn); kernel_rfl)
          | ((with_reducible apply DSat.run (X := X64)); exact rfl; (first | exact True.intro | (exact phi) | skip))
          | ((with_reducible apply DSat.fin); kernel_rfl) | fail)
      with_reducible apply Sat.nextN
      · exact rfl
      · exact rfl
      · exact hok
      · exact hx
      · exact ha
      · intro c; exact rfl
      · intro q; exact rfl
      intro c q hc1 hc2
      repeat' (first
          | ((with_reducible apply Sat.run (X := X64)); exact rfl; (first | exact True.intro | (exact phi) | skip))
          | ((with_reducible apply Sat.drawn); kernel_rfl)
          | ((with_reducible apply DSat.run (X := X64)); exact rfl; (first | exact True.intro | (exact phi) | skip))
          | ((with_reducible apply DSat.fin); kernel_rfl) | fail)
      with_reducible apply Sat.cond_t
      · exact rfl
      repeat' (first
          | ((with_reducible apply Sat.run (X := X64)); exact rfl; (first | exact True.intro | (exact phi) | skip))
          | ((with_reducible apply Sat.drawn); kernel_rfl)
          | ((with_reducible apply DSat.run (X := X64)); exact rfl; (first | exact True.intro | (exact phi) | skip))
          | ((with_reducible apply DSat.fin); kernel_rfl) | fail)
      with_reducible apply Sat.cond
      · exact rfl
      · intro h
        repeat' (first
            | ((with_reducible apply Sat.run (X := X64)); exact rfl; (first | exact True.intro | (exact phi) | skip))
            | ((with_reducible apply Sat.drawn); kernel_rfl)
            | ((with_reducible apply DSat.run (X := X64)); exact rfl; (first | exact True.intro | (exact phi) | skip))
            | ((with_reducible apply DSat.fin); kernel_rfl) | fail)
        (refine Sat.fin (Sat.end1 rfl rfl rfl True.intro (.refl _ pur) (by first | exact .inl rfl | exact .inr rfl) (fun _ h => h)) ?_; rfl)
      · intro h
        exfalso
        simp [Bool.cond_eq_ite] at h
        omega
  · have hx2 : x = s.length := by omega
    subst hx2
    repeat' (first
        | ((with_reducible apply Sat.run (X := X64)); exact rfl; (first | exact True.intro | (exact phi) | skip))
        | ((with_reducible apply Sat.drawn); kernel_rfl)
        | ((with_reducible apply DSat.run (X := X64)); exact rfl; (first | exact True.intro | (exact phi) | skip))
        | ((with_reducible apply DSat.fin); kernel_rfl) | fail)
    with_reducible apply Sat.nextE
    · exact rfl
    · exact rfl
    · exact hx
    · exact rfl
    repeat' (first
        | ((with_reducible apply Sat.run (X := X64)); exact rfl; (first | exact True.intro | (exact phi) | skip))
        | ((with_reducible apply Sat.drawn); kernel_rfl)
        | ((with_reducible apply DSat.run (X := X64)); exact rfl; (first | exact True.intro | (exact phi) | skip))
        | ((with_reducible apply DSat.fin); kernel_rfl) | fail)
    with_reducible apply Sat.cond_f
    · exact rfl
    repeat' (first
        | ((with_reducible apply Sat.run (X := X64)); exact rfl; (first | exact True.intro | (exact phi) | skip))
        | ((with_reducible apply Sat.drawn); kernel_rfl)
        | ((with_reducible apply DSat.run (X := X64)); exact rfl; (first | exact True.intro | (exact phi) | skip))
        | ((with_reducible apply DSat.fin); kernel_rfl) | fail)
    (refine Sat.fin (Sat.end1 rfl rfl rfl True.intro (.refl _ pur) (by first | exact .inl rfl | exact .inr rfl) (fun _ h => h)) ?_; (refine congrArg SV.bool ?_; unfold nameB; rw [(all_iff s nameC 0).2 fun i hi => x2 i hi]; apply Bool.eq_iff_iff.2; simp [Bool.cond_eq_ite]; omega))
end Go.Proofs.YtmmpflifajjbjaaDoor
end
section
namespace Go.Proofs.YtmmpflifajjbjaaDoor
open Go.RowKit V
--PURE: (intro _ _; simp [pureL, pureS, pureE]; done)
set_option maxRecDepth 100000
set_option maxHeartbeats 4000000
set_option linter.unusedSimpArgs false
structure SecL where
  name : List UInt8
  fr : Int
  to : Int
  code : Bool
@[reducible] def SecL.l (x : SecL) : List SV := [.str x.name, .int .i64 x.fr, .int .i64 x.to, .bool x.code]
@[reducible] def SecL.v (x : SecL) : SV := .agg [.str x.name, .int .i64 x.fr, .int .i64 x.to, .bool x.code]
def sec0 : SecL := ⟨[], 0, 0, false⟩
@[reducible] def secE (l : List SecL) : EV := .g l.length 4 fun i => [.str (l.getD i sec0).name, .int .i64 (l.getD i sec0).fr, .int .i64 (l.getD i sec0).to, .bool (l.getD i sec0).code]
/-- Where the first element of a kind stands, or -1. -/
def idxL {α : Type} (p : α → Bool) : List α → Nat → Int
  | [], _ => -1
  | a :: r, k => match p a with
    | true => (k : Int)
    | false => idxL p r (k + 1)
theorem idxL_at {α : Type} (p : α → Bool) (z : α) : ∀ (l : List α) (k x : Nat), (∀ i, i < x → p (l.getD i z) = false) → x < l.length → p (l.getD x z) = true → idxL p l k = ((k + x : Nat) : Int)
  | [], _, _, _, h, _ => by simp at h
  | a :: r, k, 0, _, _, h => by
    have : p a = true := h
    simp [idxL, this]
  | a :: r, k, x + 1, h1, h2, h3 => by
    have h0 : p a = false := h1 0 (by omega)
    simp only [idxL, h0]
    rw [idxL_at p z r (k + 1) x (fun i hi => by simpa using h1 (i + 1) (by omega)) (by simpa using h2) (by simpa using h3)]
    omega
theorem idxL_none {α : Type} (p : α → Bool) (z : α) : ∀ (l : List α) (k : Nat), (∀ i, i < l.length → p (l.getD i z) = false) → idxL p l k = -1
  | [], _, _ => rfl
  | a :: r, k, h => by
    have h0 : p a = false := h 0 (by simp)
    rw [idxL, h0]
    exact idxL_none p z r (k + 1) fun i hi => by simpa using h (i + 1) (by simpa using hi)
theorem idxL_any {α : Type} (p : α → Bool) : ∀ (l : List α) (k : Nat), decide (0 ≤ idxL p l k) = l.any p
  | [], _ => rfl
  | a :: r, k => by
    rw [idxL, List.any_cons]
    cases h : p a with
    | true => simp
    | false => simpa using idxL_any p r (k + 1)
attribute [local irreducible] V.Sat V.DSat
theorem indexFunc_sec (p : SecL → Bool) (f : FuncId) (e : EV) (hpe : pureE e) (hcl : callable Tryd.prog f = true) (hp : ∀ y : SecL, Fun Tryd.prog [] f [y.v, .rop e 0 0] (.bool (p y))) (l : List SecL) : Fun Tryd.prog [] 38 [.ro (secE l), .fn f [.rop e 0 0]] (.int .i64 (idxL p l 0)) := by
  refine Fun.mkF 6 Tryd.func38 rfl Tryd.ntmps38 rfl rfl fun hf T w0 => ?_
  obtain ⟨⟨hl, _⟩, _⟩ := hf
  have hl : l.length ≤ 9223372036854775807 := hl
  repeat' (first
      | ((with_reducible apply Sat.run (X := X64)); exact rfl; (first | exact True.intro | (exact phi) | skip))
      | ((with_reducible apply Sat.drawn); kernel_rfl)
      | ((with_reducible apply DSat.run (X := X64)); exact rfl; (first | exact True.intro | (exact phi) | skip))
      | ((with_reducible apply DSat.fin); kernel_rfl) | fail)
  apply Sat.loop (α := Nat) (fun x => x ≤ l.length ∧ ∀ i, i < x → p (l.getD i sec0) = false) (fun x => l.length - x) 0 (fun x => [(8, .int .i64 (x : Int))]) (fun _ => []) [] [] 0
  · intro x; exact rfl
  · intro x; exact rfl
  · exact rfl
  · exact rfl
  · (repeat' (first | exact AllP.nil | with_reducible refine AllP.cons ?_ ?_)) <;> first | exact rfl | exact trivial | exact hpe | exact purX
  · exact ⟨Nat.zero_le _, fun i hi => by omega⟩
  · rintro x ⟨x1, x2⟩
    by_cases hx : x < l.length
    · have hc := hp (l.getD (x : Int).toNat sec0)
      have hcc : (x : Int) < ((secE l).len : Int) := by show (x : Int) < (l.length : Int); omega
      cases hv : p (l.getD (x : Int).toNat sec0) with
      | true =>
        rw [hv] at hc
        repeat' (first
            | ((with_reducible apply Sat.run (X := X64)); exact rfl; (first | exact True.intro | (exact phi) | skip))
            | ((with_reducible apply Sat.drawn); kernel_rfl)
            | ((with_reducible apply DSat.run (X := X64)); exact rfl; (first | exact True.intro | (exact phi) | skip))
            | ((with_reducible apply DSat.fin); kernel_rfl)
            | ((with_reducible apply Sat.cond_t); exact rfl)
            | ((with_reducible apply Sat.cond_f); exact rfl)
            | ((with_reducible apply Sat.cond_pt); exact rfl; (try dsimp only [V.EV.sub, V.EV.len]); first | assumption | omega)
            | ((with_reducible apply Sat.cond_pf); exact rfl; (try dsimp only [V.EV.sub, V.EV.len]); first | assumption | omega)
            | ((with_reducible apply Sat.cond_p); exact rfl; all_goals intro h)
            | ((with_reducible apply Sat.cond); exact rfl; all_goals intro h)
            | ((with_reducible apply Sat.callR (hc)); exact rfl; exact rfl; exact rfl; exact hcl; (exact cnvX); exact rfl)
            | ((with_reducible apply DSat.callR (hc)); exact rfl; exact rfl; exact rfl; exact hcl; (exact cnvX); exact rfl) | fail)
        (refine Sat.fin (Sat.end1 rfl rfl rfl True.intro (.refl _ purX) (by first | exact .inl rfl | exact .inr rfl) (fun _ h => h)) ?_; (rw [idxL_at p sec0 l 0 x x2 hx hv, Nat.zero_add]))
      | false =>
        rw [hv] at hc
        repeat' (first
            | ((with_reducible apply Sat.run (X := X64)); exact rfl; (first | exact True.intro | (exact phi) | skip))
            | ((with_reducible apply Sat.drawn); kernel_rfl)
            | ((with_reducible apply DSat.run (X := X64)); exact rfl; (first | exact True.intro | (exact phi) | skip))
            | ((with_reducible apply DSat.fin); kernel_rfl)
            | ((with_reducible apply Sat.cond_t); exact rfl)
            | ((with_reducible apply Sat.cond_f); exact rfl)
            | ((with_reducible apply Sat.cond_pt); exact rfl; (try dsimp only [V.EV.sub, V.EV.len]); first | assumption | omega)
            | ((with_reducible apply Sat.cond_pf); exact rfl; (try dsimp only [V.EV.sub, V.EV.len]); first | assumption | omega)
            | ((with_reducible apply Sat.cond_p); exact rfl; all_goals intro h)
            | ((with_reducible apply Sat.cond); exact rfl; all_goals intro h)
            | ((with_reducible apply Sat.callR (hc)); exact rfl; exact rfl; exact rfl; exact hcl; (exact cnvX); exact rfl)
            | ((with_reducible apply DSat.callR (hc)); exact rfl; exact rfl; exact rfl; exact hcl; (exact cnvX); exact rfl) | fail)
        refine Sat.back (x + 1) [] rfl ?_ ?_ ?_
        · (repeat' (first | exact AllP.nil | with_reducible refine AllP.cons ?_ ?_)) <;> first | exact rfl | exact trivial | exact Int.natCast_add_one _ | exact purX
        · refine ⟨by omega, fun i hi => ?_⟩
          rcases Nat.lt_succ_iff_lt_or_eq.1 hi with h1 | rfl
          · exact x2 i h1
          · exact hv
        · omega
    · have hx2 : x = l.length := by omega
      subst hx2
      repeat' (first
          | ((with_reducible apply Sat.run (X := X64)); exact rfl; (first | exact True.intro | (exact phi) | skip))
          | ((with_reducible apply Sat.drawn); kernel_rfl)
          | ((with_reducible apply DSat.run (X := X64)); exact rfl; (first | exact True.intro | (exact phi) | skip))
          | ((with_reducible apply DSat.fin); kernel_rfl) | fail)
      with_reducible apply Sat.cond_pf
      · exact rfl
      · show ¬ (l.length : Int) < (l.length : Int); omega
      repeat' (first
          | ((with_reducible apply Sat.run (X := X64)); exact rfl; (first | exact True.intro | (exact phi) | skip))
          | ((with_reducible apply Sat.drawn); kernel_rfl)
          | ((with_reducible apply DSat.run (X := X64)); exact rfl; (first | exact True.intro | (exact phi) | skip))
          | ((with_reducible apply DSat.fin); kernel_rfl) | fail)
      (refine Sat.fin (Sat.end1 rfl rfl rfl True.intro (.refl _ purX) (by first | exact .inl rfl | exact .inr rfl) (fun _ h => h)) ?_; (rw [idxL_none p sec0 l 0 x2]))
theorem contains_sec (p : SecL → Bool) (f : FuncId) (e : EV) (hpe : pureE e) (hcl : callable Tryd.prog f = true) (hp : ∀ y : SecL, Fun Tryd.prog [] f [y.v, .rop e 0 0] (.bool (p y))) (l : List SecL) : Fun Tryd.prog [] 30 [.ro (secE l), .fn f [.rop e 0 0]] (.bool (l.any p)) := by
  have hi := indexFunc_sec p f e hpe hcl hp l
  refine Fun.mk 6 Tryd.func30 rfl Tryd.ntmps30 rfl rfl fun T w0 => ?_
  repeat' (first
      | ((with_reducible apply Sat.run (X := X64)); exact rfl; (first | exact True.intro | (exact phi) | skip))
      | ((with_reducible apply Sat.drawn); kernel_rfl)
      | ((with_reducible apply DSat.run (X := X64)); exact rfl; (first | exact True.intro | (exact phi) | skip))
      | ((with_reducible apply DSat.fin); kernel_rfl)
      | ((with_reducible apply Sat.cond_t); exact rfl)
      | ((with_reducible apply Sat.cond_f); exact rfl)
      | ((with_reducible apply Sat.cond_pt); exact rfl; (try dsimp only [V.EV.sub, V.EV.len]); first | assumption | omega)
      | ((with_reducible apply Sat.cond_pf); exact rfl; (try dsimp only [V.EV.sub, V.EV.len]); first | assumption | omega)
      | ((with_reducible apply Sat.cond_p); exact rfl; all_goals intro h)
      | ((with_reducible apply Sat.cond); exact rfl; all_goals intro h)
      | ((with_reducible apply Sat.callR (hi)); exact rfl; exact rfl; exact rfl; kernel_rfl; (exact cnvX); exact rfl)
      | ((with_reducible apply DSat.callR (hi)); exact rfl; exact rfl; exact rfl; kernel_rfl; (exact cnvX); exact rfl) | fail)
  (refine Sat.fin (Sat.end1 rfl rfl rfl True.intro (.refl _ purX) (by first | exact .inl rfl | exact .inr rfl) (fun _ h => h)) ?_; (rw [idxL_any]))
theorem twin_spec (x y : SecL) : Fun Tryd.prog [] 28 [y.v, .rop (.g 1 4 fun _ => x.l) 0 0] (.bool (decide (y.name = x.name))) := by
  refine Fun.mk 6 Tryd.func28 rfl Tryd.ntmps28 rfl rfl fun T w0 => ?_
  repeat' (first
      | ((with_reducible apply Sat.run (X := X64)); exact rfl; (first | exact True.intro | (exact phi) | skip))
      | ((with_reducible apply Sat.drawn); kernel_rfl)
      | ((with_reducible apply DSat.run (X := X64)); exact rfl; (first | exact True.intro | (exact phi) | skip))
      | ((with_reducible apply DSat.fin); kernel_rfl)
      | ((with_reducible apply Sat.cond_t); exact rfl)
      | ((with_reducible apply Sat.cond_f); exact rfl)
      | ((with_reducible apply Sat.cond_pt); exact rfl; (try dsimp only [V.EV.sub, V.EV.len]); first | assumption | omega)
      | ((with_reducible apply Sat.cond_pf); exact rfl; (try dsimp only [V.EV.sub, V.EV.len]); first | assumption | omega)
      | ((with_reducible apply Sat.cond_p); exact rfl; all_goals intro h)
      | ((with_reducible apply Sat.cond); exact rfl; all_goals intro h) | fail)
  (refine Sat.fin (Sat.end1 rfl rfl rfl True.intro (.refl _ purX) (by first | exact .inl rfl | exact .inr rfl) (fun _ h => h)) ?_; rfl)
theorem finds_spec (a : Int) (y : SecL) : Fun Tryd.prog [] 39 [y.v, .rop (.g 1 1 fun _ => [.int .i64 a]) 0 0] (.bool (decide (y.fr ≤ a) && decide (a < y.to))) := by
  refine Fun.mk 6 Tryd.func39 rfl Tryd.ntmps39 rfl rfl fun T w0 => ?_
  repeat' (first
      | ((with_reducible apply Sat.run (X := X64)); exact rfl; (first | exact True.intro | (exact phi) | skip))
      | ((with_reducible apply Sat.drawn); kernel_rfl)
      | ((with_reducible apply DSat.run (X := X64)); exact rfl; (first | exact True.intro | (exact phi) | skip))
      | ((with_reducible apply DSat.fin); kernel_rfl)
      | ((with_reducible apply Sat.cond_t); exact rfl)
      | ((with_reducible apply Sat.cond_f); exact rfl)
      | ((with_reducible apply Sat.cond_pt); exact rfl; (try dsimp only [V.EV.sub, V.EV.len]); first | assumption | omega)
      | ((with_reducible apply Sat.cond_pf); exact rfl; (try dsimp only [V.EV.sub, V.EV.len]); first | assumption | omega)
      | ((with_reducible apply Sat.cond_p); exact rfl; all_goals intro h)
      | ((with_reducible apply Sat.cond); exact rfl; all_goals intro h) | fail)
  (refine Sat.fin (Sat.end1 rfl rfl rfl True.intro (.refl _ purX) (by first | exact .inl rfl | exact .inr rfl) (fun _ h => h)) ?_; (cases decide (y.fr ≤ a) <;> rfl))
def findP (a : Int) (y : SecL) : Bool := decide (y.fr ≤ a) && decide (a < y.to)
theorem find_spec (l : List SecL) (a : Int) : Fun Tryd.prog [] 16 [.ro (secE l), .int .i64 a] (.int .i64 (idxL (findP a) l 0)) := by
  have hi := indexFunc_sec (findP a) 39 (.g 1 1 fun _ => [.int .i64 a]) (fun _ _ => ⟨trivial, trivial⟩) (by kernel_rfl) (finds_spec a) l
  refine Fun.mk 6 Tryd.func16 rfl Tryd.ntmps16 rfl rfl fun T w0 => ?_
  repeat' (first
      | ((with_reducible apply Sat.run (X := X64)); exact rfl; (first | exact True.intro | (exact phi) | skip))
      | ((with_reducible apply Sat.drawn); kernel_rfl)
      | ((with_reducible apply DSat.run (X := X64)); exact rfl; (first | exact True.intro | (exact phi) | skip))
      | ((with_reducible apply DSat.fin); kernel_rfl)
      | ((with_reducible apply Sat.cond_t); exact rfl)
      | ((with_reducible apply Sat.cond_f); exact rfl)
      | ((with_reducible apply Sat.cond_pt); exact rfl; (try dsimp only [V.EV.sub, V.EV.len]); first | assumption | omega)
      | ((with_reducible apply Sat.cond_pf); exact rfl; (try dsimp only [V.EV.sub, V.EV.len]); first | assumption | omega)
      | ((with_reducible apply Sat.cond_p); exact rfl; all_goals intro h)
      | ((with_reducible apply Sat.cond); exact rfl; all_goals intro h)
      | ((with_reducible apply Sat.callR (hi)); exact rfl; exact rfl; exact rfl; kernel_rfl; (exact cnvX); exact rfl)
      | ((with_reducible apply DSat.callR (hi)); exact rfl; exact rfl; exact rfl; kernel_rfl; (exact cnvX); exact rfl) | fail)
  (refine Sat.fin (Sat.end1 rfl rfl rfl True.intro (.refl _ purX) (by first | exact .inl rfl | exact .inr rfl) (fun _ h => h)) ?_; rfl)
end Go.Proofs.YtmmpflifajjbjaaDoor
end
section
namespace Go.Proofs.YtmmpflifajjbjaaDoor
open Go.RowKit V
--PURE: (intro _ _; simp [pureL, pureS, pureE]; done)
set_option maxRecDepth 100000
set_option maxHeartbeats 4000000
set_option linter.unusedSimpArgs false
@[reducible] def XN : IntKind → Bool := fun _ => false
def lastI (l : List SecL) : Nat → Int
  | 0 => 0
  | i + 1 => (l.getD i sec0).to
def Sec1 (x : SecL) (last n : Int) : Prop := nameB x.name = true ∧ last ≤ x.fr ∧ x.fr < x.to ∧ x.to ≤ n ∧ (x.code = true → x.fr.tmod 4 = 0 ∧ x.to.tmod 4 = 0)
instance (x : SecL) (last n : Int) : Decidable (Sec1 x last n) := by unfold Sec1; infer_instance
def SecP (l : List SecL) (n : Int) (i : Nat) : Prop := Sec1 (l.getD i sec0) (lastI l i) n ∧ ∀ k, k < i → (l.getD k sec0).name ≠ (l.getD i sec0).name
instance (l : List SecL) (n : Int) (i : Nat) : Decidable (SecP l n i) := by unfold SecP; infer_instance
def validB (l : List SecL) (n : Int) : Bool := decide (l.length ≤ 8) && decide (∀ i, i < l.length → SecP l n i)
theorem sec1_val (x : SecL) (last n : Int) : (bif bif bif bif !nameB x.name then true else decide (x.fr < last) then true else decide (x.to ≤ x.fr) then true else decide (n < x.to) then true else bif x.code then bif decide (x.fr.tmod 4 ≠ 0) then true else decide (x.to.tmod 4 ≠ 0) else false) = !decide (Sec1 x last n) := by
  have e : decide (Sec1 x last n) = (nameB x.name && (decide (last ≤ x.fr) && (decide (x.fr < x.to) && (decide (x.to ≤ n) && (!x.code || (decide (x.fr.tmod 4 = 0) && decide (x.to.tmod 4 = 0))))))) := by
    unfold Sec1
    apply Bool.eq_iff_iff.2
    refine Iff.trans decide_eq_true_iff ?_
    simp only [decide_eq_true_eq, Bool.and_eq_true, Bool.or_eq_true, Bool.not_eq_true']
    cases x.code <;> simp
  have n1 : decide (x.fr < last) = !decide (last ≤ x.fr) := by rw [← decide_not]; exact decide_eq_decide.2 (by omega)
  have n2 : decide (x.to ≤ x.fr) = !decide (x.fr < x.to) := by rw [← decide_not]; exact decide_eq_decide.2 (by omega)
  have n3 : decide (n < x.to) = !decide (x.to ≤ n) := by rw [← decide_not]; exact decide_eq_decide.2 (by omega)
  rw [e, n1, n2, n3, decide_not, decide_not]
  cases nameB x.name <;> cases decide (last ≤ x.fr) <;> cases decide (x.fr < x.to) <;> cases decide (x.to ≤ n) <;> cases x.code <;> cases decide (x.fr.tmod 4 = 0) <;> cases decide (x.to.tmod 4 = 0) <;> rfl
attribute [local irreducible] V.Sat V.DSat
theorem valid_ref (l : List SecL) (n : Int) : Fun Tryd.prog [] 12 [.ro (secE l), .int .i64 n] (.bool (validB l n)) := by
  refine Fun.mkF 7 Tryd.func12 rfl Tryd.ntmps12 rfl rfl fun hf T w0 => ?_
  obtain ⟨⟨hl, _⟩, _⟩ := hf
  have hl : l.length ≤ 9223372036854775807 := hl
  repeat' (first
      | ((with_reducible apply Sat.run (X := X64)); exact rfl; (first | exact True.intro | (exact phi) | skip))
      | ((with_reducible apply Sat.drawn); kernel_rfl)
      | ((with_reducible apply DSat.run (X := X64)); exact rfl; (first | exact True.intro | (exact phi) | skip))
      | ((with_reducible apply DSat.fin); kernel_rfl) | fail)
  with_reducible apply Sat.cond_p
  · exact rfl
  · intro h
    have h : (8 : Int) < (l.length : Int) := h
    repeat' (first
        | ((with_reducible apply Sat.run (X := X64)); exact rfl; (first | exact True.intro | (exact phi) | skip))
        | ((with_reducible apply Sat.drawn); kernel_rfl)
        | ((with_reducible apply DSat.run (X := X64)); exact rfl; (first | exact True.intro | (exact phi) | skip))
        | ((with_reducible apply DSat.fin); kernel_rfl) | fail)
    (refine Sat.fin (Sat.end1 rfl rfl rfl True.intro (.refl _ purX) (by first | exact .inl rfl | exact .inr rfl) (fun _ h => h)) ?_; (refine congrArg SV.bool ?_; unfold validB; rw [decide_eq_false (by omega)]; rfl))
  intro h8
  have h8 : ¬ (8 : Int) < (l.length : Int) := h8
  repeat' (first
      | ((with_reducible apply Sat.run (X := X64)); exact rfl; (first | exact True.intro | (exact phi) | skip))
      | ((with_reducible apply Sat.drawn); kernel_rfl)
      | ((with_reducible apply DSat.run (X := X64)); exact rfl; (first | exact True.intro | (exact phi) | skip))
      | ((with_reducible apply DSat.fin); kernel_rfl) | fail)
  apply Sat.loop (α := Nat) (fun x => x ≤ l.length ∧ ∀ i, i < x → SecP l n i) (fun x => l.length - x) 0 (fun x => [(5, .int .i64 (lastI l x)), (6, .int .i64 (x : Int))]) (fun _ => []) [] [] 0
  · intro x; exact rfl
  · intro x; exact rfl
  · exact rfl
  · exact rfl
  · (repeat' (first | exact AllP.nil | with_reducible refine AllP.cons ?_ ?_)) <;> first | exact rfl | exact trivial | exact purX
  · exact ⟨Nat.zero_le _, fun i hi => by omega⟩
  rintro x ⟨x1, x2⟩
  by_cases hx : x < l.length
  · have hcc : (x : Int) < ((secE l).len : Int) := by show (x : Int) < (l.length : Int); omega
    have hn := name_ref (l.getD (x : Int).toNat sec0).name
    have hno : ¬ SecP l n x → validB l n = false := fun h => by
      unfold validB
      rw [decide_eq_false (p := ∀ i, i < l.length → SecP l n i) fun e => h (e x hx), Bool.and_false]
    repeat' (first
        | ((with_reducible apply Sat.run (X := X64)); exact rfl; (first | exact True.intro | (exact phi) | skip))
        | ((with_reducible apply Sat.drawn); kernel_rfl)
        | ((with_reducible apply DSat.run (X := X64)); exact rfl; (first | exact True.intro | (exact phi) | skip))
        | ((with_reducible apply DSat.fin); kernel_rfl)
        | ((with_reducible apply Sat.cond_t); exact rfl)
        | ((with_reducible apply Sat.cond_f); exact rfl)
        | ((with_reducible apply Sat.cond_pt); exact rfl; (try dsimp only [V.EV.sub, V.EV.len]); first | assumption | omega)
        | ((with_reducible apply Sat.cond_pf); exact rfl; (try dsimp only [V.EV.sub, V.EV.len]); first | assumption | omega)
        | ((with_reducible apply Sat.cond_p); exact rfl; all_goals intro h)
        | ((with_reducible apply Sat.cond); exact rfl; all_goals intro h) | fail)
    repeat' (first
        | ((with_reducible apply Sat.run (X := XN)); exact rfl; (first | exact True.intro | (exact phi) | skip))
        | ((with_reducible apply Sat.drawn); kernel_rfl)
        | ((with_reducible apply DSat.run (X := XN)); exact rfl; (first | exact True.intro | (exact phi) | skip))
        | ((with_reducible apply DSat.fin); kernel_rfl)
        | ((with_reducible apply Sat.callR (hn)); exact rfl; exact rfl; exact rfl; kernel_rfl; (exact cnvX); exact rfl)
        | ((with_reducible apply DSat.callR (hn)); exact rfl; exact rfl; exact rfl; kernel_rfl; (exact cnvX); exact rfl) | fail)
    with_reducible apply Sat.cond
    · exact rfl
    · intro h
      rw [sec1_val (l.getD (x : Int).toNat sec0) (lastI l x) n] at h
      rw [hno fun e => by have := e.1; rw [Int.toNat_natCast] at h; rw [decide_eq_true this] at h; cases h]
      repeat' (first
          | ((with_reducible apply Sat.run (X := X64)); exact rfl; (first | exact True.intro | (exact phi) | skip))
          | ((with_reducible apply Sat.drawn); kernel_rfl)
          | ((with_reducible apply DSat.run (X := X64)); exact rfl; (first | exact True.intro | (exact phi) | skip))
          | ((with_reducible apply DSat.fin); kernel_rfl) | fail)
      (refine Sat.fin (Sat.end1 rfl rfl rfl True.intro (.refl _ purX) (by first | exact .inl rfl | exact .inr rfl) (fun _ h => h)) ?_; rfl)
    intro h
    rw [sec1_val (l.getD (x : Int).toNat sec0) (lastI l x) n] at h
    have hs : Sec1 (l.getD x sec0) (lastI l x) n := by
      rw [Int.toNat_natCast] at h
      cases hd : decide (Sec1 (l.getD x sec0) (lastI l x) n) with
      | true => exact of_decide_eq_true hd
      | false => rw [hd] at h; cases h
    repeat' (first
        | ((with_reducible apply Sat.run (X := X64)); exact rfl; (first | exact True.intro | (exact phi) | skip))
        | ((with_reducible apply Sat.drawn); kernel_rfl)
        | ((with_reducible apply DSat.run (X := X64)); exact rfl; (first | exact True.intro | (exact phi) | skip))
        | ((with_reducible apply DSat.fin); kernel_rfl) | fail)
    apply Sat.loop (α := Nat) (fun y => y ≤ x ∧ ∀ k, k < y → (l.getD k sec0).name ≠ (l.getD x sec0).name) (fun y => x - y) 0 (fun y => [(8, .int .i64 (y : Int))]) (fun _ => []) [] [] 0
    · intro y; exact rfl
    · intro y; exact rfl
    · exact rfl
    · exact rfl
    · (repeat' (first | exact AllP.nil | with_reducible refine AllP.cons ?_ ?_)) <;> first | exact rfl | exact trivial | exact Int.natCast_add_one _ | exact purX
    · exact ⟨Nat.zero_le _, fun i hi => by omega⟩
    rintro y ⟨y1, y2⟩
    by_cases hy : y < x
    · have hyl : (y : Int) < ((secE l).len : Int) := by show (y : Int) < (l.length : Int); omega
      repeat' (first
          | ((with_reducible apply Sat.run (X := X64)); exact rfl; (first | exact True.intro | (exact phi) | skip))
          | ((with_reducible apply Sat.drawn); kernel_rfl)
          | ((with_reducible apply DSat.run (X := X64)); exact rfl; (first | exact True.intro | (exact phi) | skip))
          | ((with_reducible apply DSat.fin); kernel_rfl)
          | ((with_reducible apply Sat.cond_t); exact rfl)
          | ((with_reducible apply Sat.cond_f); exact rfl)
          | ((with_reducible apply Sat.cond_pt); exact rfl; (try dsimp only [V.EV.sub, V.EV.len]); first | assumption | omega)
          | ((with_reducible apply Sat.cond_pf); exact rfl; (try dsimp only [V.EV.sub, V.EV.len]); first | assumption | omega)
          | ((with_reducible apply Sat.cond_p); exact rfl; all_goals intro h)
          | ((with_reducible apply Sat.cond); exact rfl; all_goals intro h) | fail)
      · rw [hno fun e => e.2 y hy (by simpa using h)]
        repeat' (first
            | ((with_reducible apply Sat.run (X := X64)); exact rfl; (first | exact True.intro | (exact phi) | skip))
            | ((with_reducible apply Sat.drawn); kernel_rfl)
            | ((with_reducible apply DSat.run (X := X64)); exact rfl; (first | exact True.intro | (exact phi) | skip))
            | ((with_reducible apply DSat.fin); kernel_rfl) | fail)
        (refine Sat.fin (Sat.end1 rfl rfl rfl True.intro (.refl _ purX) (by first | exact .inl rfl | exact .inr rfl) (fun _ h => h)) ?_; rfl)
      · refine Sat.back (y + 1) [] rfl ?_ ?_ ?_
        · (repeat' (first | exact AllP.nil | with_reducible refine AllP.cons ?_ ?_)) <;> first | exact rfl | exact trivial | exact Int.natCast_add_one _ | exact purX
        · refine ⟨by omega, fun k hk => ?_⟩
          rcases Nat.lt_succ_iff_lt_or_eq.1 hk with h1 | rfl
          · exact y2 k h1
          · simpa using h
        · omega
    obtain rfl : y = x := by omega
    repeat' (first
        | ((with_reducible apply Sat.run (X := X64)); exact rfl; (first | exact True.intro | (exact phi) | skip))
        | ((with_reducible apply Sat.drawn); kernel_rfl)
        | ((with_reducible apply DSat.run (X := X64)); exact rfl; (first | exact True.intro | (exact phi) | skip))
        | ((with_reducible apply DSat.fin); kernel_rfl)
        | ((with_reducible apply Sat.cond_t); exact rfl)
        | ((with_reducible apply Sat.cond_f); exact rfl)
        | ((with_reducible apply Sat.cond_pt); exact rfl; (try dsimp only [V.EV.sub, V.EV.len]); first | assumption | omega)
        | ((with_reducible apply Sat.cond_pf); exact rfl; (try dsimp only [V.EV.sub, V.EV.len]); first | assumption | omega)
        | ((with_reducible apply Sat.cond_p); exact rfl; all_goals intro h)
        | ((with_reducible apply Sat.cond); exact rfl; all_goals intro h) | fail)
    refine Sat.back (y + 1) [] rfl ?_ ?_ ?_
    · (repeat' (first | exact AllP.nil | with_reducible refine AllP.cons ?_ ?_)) <;> first | exact rfl | exact trivial | exact Int.natCast_add_one _ | exact purX
    · refine ⟨by omega, fun k hk => ?_⟩
      rcases Nat.lt_succ_iff_lt_or_eq.1 hk with h1 | rfl
      · exact x2 k h1
      · exact ⟨hs, y2⟩
    · omega
  · obtain rfl : x = l.length := by omega
    repeat' (first
        | ((with_reducible apply Sat.run (X := X64)); exact rfl; (first | exact True.intro | (exact phi) | skip))
        | ((with_reducible apply Sat.drawn); kernel_rfl)
        | ((with_reducible apply DSat.run (X := X64)); exact rfl; (first | exact True.intro | (exact phi) | skip))
        | ((with_reducible apply DSat.fin); kernel_rfl) | fail)
    with_reducible apply Sat.cond_pf
    · exact rfl
    · show ¬ (l.length : Int) < (l.length : Int); omega
    repeat' (first
        | ((with_reducible apply Sat.run (X := X64)); exact rfl; (first | exact True.intro | (exact phi) | skip))
        | ((with_reducible apply Sat.drawn); kernel_rfl)
        | ((with_reducible apply DSat.run (X := X64)); exact rfl; (first | exact True.intro | (exact phi) | skip))
        | ((with_reducible apply DSat.fin); kernel_rfl) | fail)
    (refine Sat.fin (Sat.end1 rfl rfl rfl True.intro (.refl _ purX) (by first | exact .inl rfl | exact .inr rfl) (fun _ h => h)) ?_; (refine congrArg SV.bool ?_; unfold validB; rw [decide_eq_true (p := l.length ≤ 8) (by omega), decide_eq_true x2]; rfl))
end Go.Proofs.YtmmpflifajjbjaaDoor
end
section
namespace Go.Proofs.YtmmpflifajjbjaaDoor
open Go.RowKit V
--PURE: (intro _ _; simp [pureL, pureS, pureE]; done)
set_option maxRecDepth 100000
set_option maxHeartbeats 4000000
set_option linter.unusedSimpArgs false
def twinP (x y : SecL) : Bool := decide (y.name = x.name)
theorem twins (l : List SecL) (x : Nat) (hx : x ≤ l.length) (X : SecL) : (l.take x).any (twinP X) = false ↔ ∀ k, k < x → (l.getD k sec0).name ≠ X.name := by
  rw [List.any_eq_false]
  constructor
  · intro h k hk e
    refine h (l.getD k sec0) ?_ (decide_eq_true e)
    rw [List.getD_eq_getElem?_getD, List.getElem?_eq_getElem (by omega)]
    exact List.mem_take_iff_getElem.2 ⟨k, by omega, rfl⟩
  · intro h y hy e
    obtain ⟨k, hk, rfl⟩ := List.mem_take_iff_getElem.1 hy
    refine h k (by omega) ?_
    have e := of_decide_eq_true e
    rw [List.getD_eq_getElem?_getD, List.getElem?_eq_getElem (by omega)]
    exact e
theorem take_at (l : List SecL) (x i : Nat) (hi : i < x) : (l.take x).getD i sec0 = l.getD i sec0 := by
  rw [List.getD_eq_getElem?_getD, List.getD_eq_getElem?_getD, List.getElem?_take_of_lt hi]
theorem chain_f {nb d1 d2 d3 an : Bool} (h : (bif bif bif bif !nb then true else d1 then true else d2 then true else d3 then true else an) = false) : nb = true ∧ d1 = false ∧ d2 = false ∧ d3 = false ∧ an = false := by
  revert h
  cases nb <;> cases d1 <;> cases d2 <;> cases d3 <;> cases an <;> simp
theorem chain_t {nb d1 d2 d3 an : Bool} (h : (bif bif bif bif !nb then true else d1 then true else d2 then true else d3 then true else an) = true) : ¬ (nb = true ∧ d1 = false ∧ d2 = false ∧ d3 = false ∧ an = false) := by
  revert h
  cases nb <;> cases d1 <;> cases d2 <;> cases d3 <;> cases an <;> simp
attribute [local irreducible] V.Sat V.DSat
theorem containsTake (l : List SecL) (x : Nat) (hx : x ≤ l.length) (X : SecL) : Fun Tryd.prog [] 30 [.ro (.g x 4 fun i => [.str ((l.take x).getD i sec0).name, .int .i64 ((l.take x).getD i sec0).fr, .int .i64 ((l.take x).getD i sec0).to, .bool ((l.take x).getD i sec0).code]), .fn 28 [.rop (.g 1 4 fun _ => X.l) 0 0]] (.bool ((l.take x).any (twinP X))) := by
  have h := contains_sec (twinP X) 28 (.g 1 4 fun _ => X.l) (fun _ _ => ⟨trivial, trivial, trivial, trivial, trivial⟩) (by kernel_rfl) (twin_spec X) (l.take x)
  unfold secE at h
  rw [List.length_take, Nat.min_eq_left hx] at h
  exact h
theorem valid_spec (l : List SecL) (n : Int) : Fun Tryd.prog [] 11 [.ro (secE l), .int .i64 n] (.bool (validB l n)) := by
  refine Fun.mkF 7 Tryd.func11 rfl Tryd.ntmps11 rfl rfl fun hf T w0 => ?_
  obtain ⟨⟨hl, _⟩, _⟩ := hf
  have hl : l.length ≤ 9223372036854775807 := hl
  repeat' (first
      | ((with_reducible apply Sat.run (X := X64)); exact rfl; (first | exact True.intro | (exact phi) | skip))
      | ((with_reducible apply Sat.drawn); kernel_rfl)
      | ((with_reducible apply DSat.run (X := X64)); exact rfl; (first | exact True.intro | (exact phi) | skip))
      | ((with_reducible apply DSat.fin); kernel_rfl) | fail)
  apply Sat.loop (α := Nat) (fun x => x ≤ l.length ∧ ∀ i, i < x → SecP l n i) (fun x => l.length - x) 0 (fun x => [(5, .int .i64 (lastI l x)), (11, .int .i64 (x : Int))]) (fun _ => []) [] [] 0
  · intro x; exact rfl
  · intro x; exact rfl
  · exact rfl
  · exact rfl
  · (repeat' (first | exact AllP.nil | with_reducible refine AllP.cons ?_ ?_)) <;> first | exact rfl | exact trivial | exact purX
  · exact ⟨Nat.zero_le _, fun i hi => by omega⟩
  rintro x ⟨x1, x2⟩
  by_cases hx : x < l.length
  · have hcc : (x : Int) < ((secE l).len : Int) := by show (x : Int) < (l.length : Int); omega
    have hn := isName_spec (l.getD (x : Int).toNat sec0).name
    have hct := containsTake l x x1 (l.getD (x : Int).toNat sec0)
    have hno : ¬ SecP l n x → validB l n = false := fun h => by
      unfold validB
      rw [decide_eq_false (p := ∀ i, i < l.length → SecP l n i) fun e => h (e x hx), Bool.and_false]
    repeat' (first
        | ((with_reducible apply Sat.run (X := X64)); exact rfl; (first | exact True.intro | (exact phi) | skip))
        | ((with_reducible apply Sat.drawn); kernel_rfl)
        | ((with_reducible apply DSat.run (X := X64)); exact rfl; (first | exact True.intro | (exact phi) | skip))
        | ((with_reducible apply DSat.fin); kernel_rfl)
        | ((with_reducible apply Sat.cond_t); exact rfl)
        | ((with_reducible apply Sat.cond_f); exact rfl)
        | ((with_reducible apply Sat.cond_pt); exact rfl; (try dsimp only [V.EV.sub, V.EV.len]); first | assumption | omega)
        | ((with_reducible apply Sat.cond_pf); exact rfl; (try dsimp only [V.EV.sub, V.EV.len]); first | assumption | omega)
        | ((with_reducible apply Sat.cond_p); exact rfl; all_goals intro h)
        | ((with_reducible apply Sat.cond); exact rfl; all_goals intro h)
        | ((with_reducible apply Sat.callR (hn)); exact rfl; exact rfl; exact rfl; kernel_rfl; (exact cnvX); exact rfl)
        | ((with_reducible apply DSat.callR (hn)); exact rfl; exact rfl; exact rfl; kernel_rfl; (exact cnvX); exact rfl) | fail)
    with_reducible apply Sat.callG1 hct
    · exact rfl
    · exact rfl
    · exact rfl
    · exact rfl
    · kernel_rfl
    · intro hG
      refine Convs.cons _ _ _ _ (.may _ _ _ hG (.gx _ x 4 _ _ (.refl _ ?_) ?_)) (Convs.cons _ _ _ _ (.may _ _ _ hG (.fn _ _ _ (.cons _ _ _ _ (.pr _ _ _ _ rfl ⟨trivial, trivial, trivial, trivial, trivial⟩ rfl (by decide)) .nil))) .nil)
      · intro _ _
        exact ⟨trivial, trivial, trivial, trivial, trivial⟩
      · intro i hi
        have e := take_at l x i hi
        rw [e]
        simp only [Option.getD_none, Nat.zero_add]
    · exact rfl
    repeat' (first
        | ((with_reducible apply Sat.run (X := X64)); exact rfl; (first | exact True.intro | (exact phi) | skip))
        | ((with_reducible apply Sat.drawn); kernel_rfl)
        | ((with_reducible apply DSat.run (X := X64)); exact rfl; (first | exact True.intro | (exact phi) | skip))
        | ((with_reducible apply DSat.fin); kernel_rfl) | fail)
    with_reducible apply Sat.cond
    · exact rfl
    · intro h
      rw [Int.toNat_natCast] at h
      have h := chain_t h
      rw [hno fun e => by
        obtain ⟨⟨e1, e2, e3, e4, e5⟩, e6⟩ := e
        exact h ⟨e1, decide_eq_false (by omega), decide_eq_false (by omega), decide_eq_false (by omega), (twins l x x1 _).2 e6⟩]
      repeat' (first
          | ((with_reducible apply Sat.run (X := X64)); exact rfl; (first | exact True.intro | (exact phi) | skip))
          | ((with_reducible apply Sat.drawn); kernel_rfl)
          | ((with_reducible apply DSat.run (X := X64)); exact rfl; (first | exact True.intro | (exact phi) | skip))
          | ((with_reducible apply DSat.fin); kernel_rfl) | fail)
      (refine Sat.fin (Sat.end1 rfl rfl rfl True.intro (.refl _ purX) (by first | exact .inl rfl | exact .inr rfl) (fun _ h => h)) ?_; rfl)
    intro h
    rw [Int.toNat_natCast] at h
    obtain ⟨c1, c2, c3, c4, c5⟩ := chain_f h
    have c2 := of_decide_eq_false c2
    have c3 := of_decide_eq_false c3
    have c4 := of_decide_eq_false c4
    have c5 := (twins l x x1 _).1 c5
    repeat' (first
        | ((with_reducible apply Sat.run (X := XN)); exact rfl; (first | exact True.intro | (exact phi) | skip))
        | ((with_reducible apply Sat.drawn); kernel_rfl)
        | ((with_reducible apply DSat.run (X := XN)); exact rfl; (first | exact True.intro | (exact phi) | skip))
        | ((with_reducible apply DSat.fin); kernel_rfl) | fail)
    with_reducible apply Sat.cond
    · exact rfl
    · intro h
      rw [Int.toNat_natCast] at h
      rw [hno fun e => by
        have e5 := e.1.2.2.2.2
        cases hcd : (l.getD x sec0).code with
        | false => rw [hcd] at h; cases h
        | true =>
          rw [hcd] at h
          obtain ⟨a1, a2⟩ := e5 hcd
          rw [a1, a2] at h
          simp at h]
      repeat' (first
          | ((with_reducible apply Sat.run (X := X64)); exact rfl; (first | exact True.intro | (exact phi) | skip))
          | ((with_reducible apply Sat.drawn); kernel_rfl)
          | ((with_reducible apply DSat.run (X := X64)); exact rfl; (first | exact True.intro | (exact phi) | skip))
          | ((with_reducible apply DSat.fin); kernel_rfl) | fail)
      (refine Sat.fin (Sat.end1 rfl rfl rfl True.intro (.refl _ purX) (by first | exact .inl rfl | exact .inr rfl) (fun _ h => h)) ?_; rfl)
    intro h
    rw [Int.toNat_natCast] at h
    repeat' (first
        | ((with_reducible apply Sat.run (X := X64)); exact rfl; (first | exact True.intro | (exact phi) | skip))
        | ((with_reducible apply Sat.drawn); kernel_rfl)
        | ((with_reducible apply DSat.run (X := X64)); exact rfl; (first | exact True.intro | (exact phi) | skip))
        | ((with_reducible apply DSat.fin); kernel_rfl) | fail)
    refine Sat.back (x + 1) [] rfl ?_ ?_ ?_
    · (repeat' (first | exact AllP.nil | with_reducible refine AllP.cons ?_ ?_)) <;> first | exact rfl | exact trivial | exact Int.natCast_add_one _ | exact purX
    · refine ⟨by omega, fun k hk => ?_⟩
      rcases Nat.lt_succ_iff_lt_or_eq.1 hk with h1 | rfl
      · exact x2 k h1
      · refine ⟨⟨c1, by omega, by omega, by omega, fun hcd => ?_⟩, c5⟩
        rw [hcd] at h
        have h : (bif decide ((l.getD k sec0).fr.tmod 4 ≠ 0) then true else decide ((l.getD k sec0).to.tmod 4 ≠ 0)) = false := h
        rw [Bool.cond_eq_ite] at h
        simpa using h
    · omega
  · obtain rfl : x = l.length := by omega
    repeat' (first
        | ((with_reducible apply Sat.run (X := X64)); exact rfl; (first | exact True.intro | (exact phi) | skip))
        | ((with_reducible apply Sat.drawn); kernel_rfl)
        | ((with_reducible apply DSat.run (X := X64)); exact rfl; (first | exact True.intro | (exact phi) | skip))
        | ((with_reducible apply DSat.fin); kernel_rfl) | fail)
    with_reducible apply Sat.cond_pf
    · exact rfl
    · show ¬ (l.length : Int) < (l.length : Int); omega
    repeat' (first
        | ((with_reducible apply Sat.run (X := X64)); exact rfl; (first | exact True.intro | (exact phi) | skip))
        | ((with_reducible apply Sat.drawn); kernel_rfl)
        | ((with_reducible apply DSat.run (X := X64)); exact rfl; (first | exact True.intro | (exact phi) | skip))
        | ((with_reducible apply DSat.fin); kernel_rfl) | fail)
    (refine Sat.fin (Sat.end1 rfl rfl rfl True.intro (.refl _ purX) (by first | exact .inl rfl | exact .inr rfl) (fun _ h => h)) ?_; (refine congrArg SV.bool ?_; unfold validB; rw [decide_eq_true x2, Bool.and_true]; exact decide_eq_decide.2 (by show l.length ≤ 8 ↔ (l.length : Int) ≤ 8; omega)))
end Go.Proofs.YtmmpflifajjbjaaDoor
end
section
namespace Go.Proofs.YtmmpflifajjbjaaDoor.V
open Go.RowKit

theorem wrap_id {k : IntKind} {n : Int} (h : inR k n) : k.wrap n = n := wrap_inR h
theorem wrap_nat {k : IntKind} {n : Nat} (h : n < 2 ^ (k.bits - 1)) : k.wrap (n : Int) = n := by
  refine wrap_inR ?_
  cases k <;> simp [inR, IntKind.min, IntKind.max, IntKind.bits, IntKind.signed] at h ⊢ <;> omega
theorem toNat_ofInt_lt {n : Nat} {a : Int} : (BitVec.ofInt n a).toNat = (a % (2 ^ n : Nat)).toNat := by simp
theorem band_mask (k : IntKind) (a : Int) (m : Nat) (hm : m < k.bits) : k.wrap ((BitVec.ofInt k.bits a &&& BitVec.ofInt k.bits (2 ^ m - 1)).toNat : Int) = a % 2 ^ m := by
  have hp : (2 : Nat) ^ m < 2 ^ k.bits := Nat.pow_lt_pow_right (by decide) hm
  have hpos : 0 < (2 : Nat) ^ m := Nat.two_pow_pos m
  have hposb : 0 < (2 : Nat) ^ k.bits := Nat.two_pow_pos _
  have e1 : (BitVec.ofInt k.bits (2 ^ m - 1)).toNat = 2 ^ m - 1 := by
    rw [toNat_ofInt_lt]
    have h1 : ((2 : Int) ^ m - 1) = ((2 ^ m - 1 : Nat) : Int) := by
      rw [Int.natCast_sub hpos]
      simp
    rw [h1, ← Int.natCast_emod, Int.toNat_natCast]
    exact Nat.mod_eq_of_lt (by omega)
  have e2 : (((BitVec.ofInt k.bits a &&& BitVec.ofInt k.bits (2 ^ m - 1)).toNat : Nat) : Int) = a % 2 ^ m := by
    rw [BitVec.toNat_and, e1, Nat.and_two_pow_sub_one_eq_mod, toNat_ofInt_lt]
    have h0 : 0 ≤ a % ((2 ^ k.bits : Nat) : Int) := Int.emod_nonneg _ (by omega)
    rw [Int.natCast_emod, Int.toNat_of_nonneg h0]
    have hd : (((2 ^ m : Nat) : Int)) ∣ ((2 ^ k.bits : Nat) : Int) := Int.natCast_dvd_natCast.2 (Nat.pow_dvd_pow 2 (Nat.le_of_lt hm))
    rw [Int.emod_emod_of_dvd _ hd]
    simp
  rw [e2]
  have h0 : 0 ≤ a % 2 ^ m := Int.emod_nonneg _ (by have := Int.pow_pos (n := 2) (m := m) (by decide); omega)
  have h1 : a % 2 ^ m < 2 ^ m := Int.emod_lt_of_pos _ (Int.pow_pos (by decide))
  obtain ⟨n, hn⟩ := Int.eq_ofNat_of_zero_le h0
  rw [hn] at h1 ⊢
  apply wrap_nat
  have h2 : n < 2 ^ m := by
    have : ((n : Int)) < ((2 ^ m : Nat) : Int) := by simpa using h1
    exact_mod_cast this
  exact Nat.lt_of_lt_of_le h2 (Nat.pow_le_pow_right (by decide) (by omega))
/-- Two numbers without a bit in common. -/
theorem bor_add (k : IntKind) (a b : Nat) (m : Nat) (hb : b < 2 ^ m) (h : a * 2 ^ m + b < 2 ^ k.bits) (hs : k.signed = true → a * 2 ^ m + b < 2 ^ (k.bits - 1)) : k.wrap ((BitVec.ofInt k.bits ((a * 2 ^ m : Nat) : Int) ||| BitVec.ofInt k.bits (b : Int)).toNat : Int) = ((a * 2 ^ m + b : Nat) : Int) := by
  have e : ∀ n : Nat, n < 2 ^ k.bits → (BitVec.ofInt k.bits (n : Int)).toNat = n := fun n hn => by
    rw [toNat_ofInt_lt, ← Int.natCast_emod, Int.toNat_natCast, Nat.mod_eq_of_lt hn]
  have hor : a * 2 ^ m ||| b = a * 2 ^ m + b := by
    have := Nat.two_pow_add_eq_or_of_lt hb a
    rw [Nat.mul_comm]; exact this.symm
  rw [BitVec.toNat_or, e _ (by omega), e _ (by omega), hor]
  refine wrap_inR ?_
  clear hor e
  generalize a * 2 ^ m + b = c at h hs ⊢
  cases k <;> simp [inR, IntKind.min, IntKind.max, IntKind.bits, IntKind.signed] at h hs ⊢ <;> omega
theorem band255 (k : IntKind) (a : Int) (hk : 8 < k.bits) : k.wrap ((BitVec.ofInt k.bits a &&& BitVec.ofInt k.bits 255).toNat : Int) = a % 256 := band_mask k a 8 hk
end Go.Proofs.YtmmpflifajjbjaaDoor.V
end
section
namespace Go.Proofs.YtmmpflifajjbjaaDoor
open Go.RowKit V
--PURE: (intro _ _; simp [pureL, pureS, pureE]; done)
set_option maxRecDepth 100000
set_option maxHeartbeats 4000000
set_option linter.unusedSimpArgs false
@[reducible] def digs : List UInt8 := [48, 49, 50, 51, 52, 53, 54, 55, 56, 57, 97, 98, 99, 100, 101, 102]
def hex1 (b : UInt8) : List UInt8 := [digs.getD (b.toNat / 16) 0, digs.getD (b.toNat % 16) 0]
def hexB (l : List UInt8) : List UInt8 := l.flatMap hex1
theorem hex1_nat : ∀ n : Nat, n < 256 → List.take 2 (List.drop 0 [UInt8.ofNat (((digs.getD ((((UInt8.ofNat n).toNat : Int).fdiv (2 ^ min (Int.toNat 4) IntKind.u8.bits)).toNat) 0).toNat : Nat) : Int).toNat, UInt8.ofNat (((digs.getD ((IntKind.u8.wrap ((BitVec.ofInt IntKind.u8.bits ((UInt8.ofNat n).toNat : Int) &&& BitVec.ofInt IntKind.u8.bits 15).toNat : Int)).toNat) 0).toNat : Nat) : Int).toNat]) = hex1 (UInt8.ofNat n) := by decide +kernel
theorem hex1_walk (b : UInt8) : List.take 2 (List.drop 0 [UInt8.ofNat (((digs.getD (((b.toNat : Int).fdiv (2 ^ min (Int.toNat 4) IntKind.u8.bits)).toNat) 0).toNat : Nat) : Int).toNat, UInt8.ofNat (((digs.getD ((IntKind.u8.wrap ((BitVec.ofInt IntKind.u8.bits (b.toNat : Int) &&& BitVec.ofInt IntKind.u8.bits 15).toNat : Int)).toNat) 0).toNat : Nat) : Int).toNat]) = hex1 b := by
  have h := hex1_nat b.toNat b.toNat_lt
  rwa [UInt8.ofNat_toNat] at h
theorem hexi_nat : ∀ n : Nat, n < 256 → (0 ≤ ((UInt8.ofNat n).toNat : Int).fdiv (2 ^ min (Int.toNat 4) IntKind.u8.bits) ∧ ((UInt8.ofNat n).toNat : Int).fdiv (2 ^ min (Int.toNat 4) IntKind.u8.bits) < (digs.length : Int)) ∧ (0 ≤ IntKind.u8.wrap ((BitVec.ofInt IntKind.u8.bits ((UInt8.ofNat n).toNat : Int) &&& BitVec.ofInt IntKind.u8.bits 15).toNat : Int) ∧ IntKind.u8.wrap ((BitVec.ofInt IntKind.u8.bits ((UInt8.ofNat n).toNat : Int) &&& BitVec.ofInt IntKind.u8.bits 15).toNat : Int) < (digs.length : Int)) := by decide +kernel
theorem hexi_walk (b : UInt8) : (0 ≤ (b.toNat : Int).fdiv (2 ^ min (Int.toNat 4) IntKind.u8.bits) ∧ (b.toNat : Int).fdiv (2 ^ min (Int.toNat 4) IntKind.u8.bits) < (digs.length : Int)) ∧ (0 ≤ IntKind.u8.wrap ((BitVec.ofInt IntKind.u8.bits (b.toNat : Int) &&& BitVec.ofInt IntKind.u8.bits 15).toNat : Int) ∧ IntKind.u8.wrap ((BitVec.ofInt IntKind.u8.bits (b.toNat : Int) &&& BitVec.ofInt IntKind.u8.bits 15).toNat : Int) < (digs.length : Int)) := by
  have h := hexi_nat b.toNat b.toNat_lt
  rwa [UInt8.ofNat_toNat] at h
theorem hexB_len : ∀ l : List UInt8, (hexB l).length = 2 * l.length
  | [] => rfl
  | x :: r => by
    have := hexB_len r
    unfold hexB at *
    rw [List.flatMap_cons, List.length_append, this, List.length_cons]
    show 2 + 2 * r.length = 2 * (r.length + 1)
    omega
theorem hexB_step (l : List UInt8) (x : Nat) (hx : x < l.length) : hexB (l.take (x + 1)) = hexB (l.take x) ++ hex1 (l.getD x 0) := by
  unfold hexB
  rw [List.take_add_one, List.flatMap_append, List.getD_eq_getElem?_getD, List.getElem?_eq_getElem hx]
  simp
attribute [local irreducible] V.Sat V.DSat
theorem hex_spec (l : List UInt8) (hs : l.length ≤ 100000) : Fun Tryd.prog [] 25 [.ro (.u8 l)] (.str (hexB l)) := by
  refine Fun.mkF 6 Tryd.func25 rfl Tryd.ntmps25 rfl rfl fun hf T w0 => ?_
  repeat' (first
      | ((with_reducible apply Sat.run (X := X64)); exact rfl; (first | exact True.intro | (exact phi) | skip))
      | ((with_reducible apply Sat.drawn); kernel_rfl)
      | ((with_reducible apply DSat.run (X := X64)); exact rfl; (first | exact True.intro | (exact phi) | skip))
      | ((with_reducible apply DSat.fin); kernel_rfl) | fail)
  · refine .cons ⟨by omega, by show 0 ≤ 2 * (l.length : Int); omega, by show (1 : Int) * (2 * (l.length : Int)) ≤ 281474976710656; omega, by show 2 * (l.length : Int) ≤ 9223372036854775807; omega⟩ (.cons (inR_i64 (by show -9223372036854775808 ≤ 2 * (l.length : Int); omega) (by show 2 * (l.length : Int) ≤ 9223372036854775807; omega)) .nil)
  refine Sat.kill [9] rfl ?_
  apply Sat.loop (α := Nat) (fun x => x ≤ l.length) (fun x => l.length - x) 0 (fun x => [(3, .row 0 0 1 0 (2 * x)), (12, .int .i64 (x : Int))]) (fun x => [(0, .row 5 (.u8 (hexB (l.take x))))]) [] [] 0
  · intro x; exact rfl
  · intro x; exact rfl
  · exact rfl
  · exact rfl
  · (repeat' (first | exact AllP.nil | with_reducible refine AllP.cons ?_ ?_)) <;> first | exact rfl | exact trivial | exact purX | exact ⟨rfl, rfl, rfl, rfl⟩
  · exact Nat.zero_le _
  rintro x hx0
  by_cases hx : x < l.length
  · have hcc : (x : Int) < ((EV.u8 l).len : Int) := by show (x : Int) < (l.length : Int); omega
    have hw := hex1_walk (l.getD (x : Int).toNat 0)
    obtain ⟨hi1, hi2⟩ := hexi_walk (l.getD (x : Int).toNat 0)
    have hb := hexB_len (l.take x)
    rw [List.length_take, Nat.min_eq_left hx0] at hb
    have hb2 : 2 * x = (EV.u8 (hexB (l.take x))).len := hb.symm
    repeat' (first
        | ((with_reducible apply Sat.run (X := X64)); exact rfl; (first | exact True.intro | (exact phi) | skip))
        | ((with_reducible apply Sat.drawn); kernel_rfl)
        | ((with_reducible apply DSat.run (X := X64)); exact rfl; (first | exact True.intro | (exact phi) | skip))
        | ((with_reducible apply DSat.fin); kernel_rfl)
        | ((with_reducible apply Sat.cond_t); exact rfl)
        | ((with_reducible apply Sat.cond_f); exact rfl)
        | ((with_reducible apply Sat.cond_pt); exact rfl; (try dsimp only [V.EV.sub, V.EV.len]); first | assumption | omega)
        | ((with_reducible apply Sat.cond_pf); exact rfl; (try dsimp only [V.EV.sub, V.EV.len]); first | assumption | omega)
        | ((with_reducible apply Sat.cond_p); exact rfl; all_goals intro h)
        | ((with_reducible apply Sat.cond); exact rfl; all_goals intro h) | fail)
    refine Sat.back (x + 1) [(0, some 2)] rfl ?_ (by omega) (by omega)
    (repeat' (first | exact AllP.nil | with_reducible refine AllP.cons ?_ ?_)) <;> first | exact rfl | exact trivial | exact Int.natCast_add_one _ | (rw [hexB_step l x hx, Int.toNat_natCast] at *; exact congrArg (fun z => EV.u8 (hexB (l.take x) ++ z)) hw) | exact ⟨rfl, rfl, rfl, rfl⟩ | exact purX
  · obtain rfl : x = l.length := by omega
    repeat' (first
        | ((with_reducible apply Sat.run (X := X64)); exact rfl; (first | exact True.intro | (exact phi) | skip))
        | ((with_reducible apply Sat.drawn); kernel_rfl)
        | ((with_reducible apply DSat.run (X := X64)); exact rfl; (first | exact True.intro | (exact phi) | skip))
        | ((with_reducible apply DSat.fin); kernel_rfl) | fail)
    with_reducible apply Sat.cond_pf
    · exact rfl
    · show ¬ (l.length : Int) < (l.length : Int); omega
    have hb3 : 0 + 2 * l.length ≤ (hexB (List.take l.length l)).length := by rw [hexB_len, List.take_length]; omega
    have hok : okLen (2 * l.length) := by unfold okLen; omega
    repeat' (first
        | ((with_reducible apply Sat.run (X := X64)); exact rfl; (first | exact True.intro | (exact phi) | skip))
        | ((with_reducible apply Sat.drawn); kernel_rfl)
        | ((with_reducible apply DSat.run (X := X64)); exact rfl; (first | exact True.intro | (exact phi) | skip))
        | ((with_reducible apply DSat.fin); kernel_rfl) | fail)
    (refine Sat.fin (Sat.end1 rfl rfl rfl True.intro (.refl _ purX) (by first | exact .inl rfl | exact .inr rfl) (fun _ h => h)) ?_; (rw [List.take_length, ← hexB_len l, List.drop_zero, List.take_length]))
end Go.Proofs.YtmmpflifajjbjaaDoor
end
