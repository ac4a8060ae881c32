/-
  Joined texts: Vz: A walk by abstract values: calls that are walked where they stand (what they write is seen by the caller).
  Tac: A walk by abstract values: how side conditions are closed (kept once, as default proofs).
  CA: Coder: sum, ones.
  CoP: Coder, plain: the range coder over any counts; what is coded is read again.
  CoQ: Coder, plain: what is coded is read again.
  CoR: Coder, plain: the three models; sizes, zeros, tables.
  Ba: A walk by abstract values: a bytes.Buffer of one's own that is only written (in the mode in which everything new is hidden from what is read).
  Bb: A walk by abstract values: functions that write one block of their caller's.
  Bc: A walk by abstract values: copy into an array of one's own, the whole of it or nothing.
  Bd: A walk by abstract values: one operation of a region alone.
  Be: Calls without arguments; calls under a guard that is known to hold, in a region that draws its order.
  Bf: Operations of a region that draws its order, under a guard that is known not to hold; a row that stands in the elements of another is given up.
  Bg: Ranges over strings: the iterator is a block of one's own.
  Bh: A slice that is read compared with nil; a copy into a part of a row of one's own.
  Bi: A builder's own check: it stores its own address.
  Bj: The text of a builder, at the end of a function: all memory is given up.
  Bk: A region that draws its order, of which the last operation waits for all the others: it is walked alone, in the end.
  Bl: The nil interface compared with nil; what a table's cell holds.
  Bm: A region of which one operation is a round of a range over a function (a call of yield): the operations ahead of it are walked as everywhere.
  Bn: A literal's row that the run-time marks ([]byte of a constant text): it is given up, and read alone from here on.
  Bo: Contracts whose result is new; an append behind which the old slice is still used.
  Bp: An append behind which the old slice is still used: what it gives goes at once to a call that fails.
  CC: Coder: a table goes on after a byte.
  Bq: The context of a walk changed on the way: what is known of old blocks is known of the world where the piece begins.
-/
import Derived.Test.YtcnpgmohnclojaaDoorQB
import Derived.FollowTie
import Derived.Test.YtcnpgmohnclojaaDoorQA
import Derived.Lib.BufferAt
import Derived.Lib.OthersKept
import Derived.Lib.UnsafeStr
import Derived.Lib.TrimU
import Derived.WideLaws
import Derived.RangeFuncNested
section
namespace Go.Proofs.YtcnpgmohnclojaaDoor.V
open Go.RowKit

/-! ### What the caller keeps -/
mutual
/-- Do the numbers in a value all lie among these? -/
def keepS (p : Nat → Bool) : SV → Prop
  | .ptr id _ => p id = true
  | .pel id _ _ _ _ => p id = true
  | .row id _ _ _ _ => p id = true
  | .bsl id _ => p id = true
  | .rop e _ _ => pureE e
  | .ro e => pureE e
  | .agg l => keepL p l
  | .arr _ e => pureE e
  | .tup l => keepL p l
  | .fn _ l => keepL p l
  | .mv _ l => keepL p l
  | .ifc _ v => keepS p v
  | .may _ v => keepS p v
  | _ => True
def keepL (p : Nat → Bool) : List SV → Prop
  | [] => True
  | s :: r => keepS p s ∧ keepL p r
end
def pinE (p : Nat → Bool) (E : Env) : Env := fun i => if p i = true then E i else none
theorem pinE_at {p : Nat → Bool} {E : Env} {i : Nat} (h : p i = true) : pinE p E i = E i := by simp [pinE, h]
section
variable {E : Env} {T : Nat → Prop} {w : World} {p : Nat → Bool}
mutual
theorem Rep.keep : ∀ {s : SV} {v : Value}, Rep E T w s v → keepS p s → Rep (pinE p E) T w s v
  | _, _, .bool b, _ => .bool b
  | _, _, .int k n h, _ => .int k n h
  | _, _, .str l h, _ => .str l h
  | _, _, .nilp, _ => .nilp
  | _, _, .ptr id off b h, hp => .ptr id off b ((pinE_at (by simpa only [keepS] using hp)).trans h)
  | _, _, .pel id base sz i j b h, hp => .pel id base sz i j b ((pinE_at (by simpa only [keepS] using hp)).trans h)
  | _, _, .rop e i j b o c hT' hn hc hr hi hj hb, hp => by
    simp only [keepS] at hp
    exact .rop e i j b o c hT' hn hc (fun i hi => Items.free_ (hr i hi) (hp.items hi)) hi hj hb
  | _, _, .nils, _ => .nils
  | _, _, .row id base sz sub len b o c n t h hs ho hl ok, hp => .row id base sz sub len b o c n t ((pinE_at (by simpa only [keepS] using hp)).trans h) hs ho hl ok
  | _, _, .row0 id base sz sub len h hl, hp => .row0 id base sz sub len ((pinE_at (by simpa only [keepS] using hp)).trans h) hl
  | _, _, .ro0 e h, _ => .ro0 e h
  | _, _, .ro1 e a h, _ => .ro1 e a h
  | _, _, .ro e b o n k c hT' hn hc hr he hl ok hb, hp => by
    simp only [keepS] at hp
    exact .ro e b o n k c hT' hn hc (fun i hi => Items.free_ (hr i hi) (hp.items hi)) he hl ok hb
  | _, _, .agg l cs h, hp => .agg l cs (Items.keep h (by simpa only [keepS] using hp))
  | _, _, .arr n e cs c hn hl he h1 hc hr, hp => by
    simp only [keepS] at hp
    exact .arr n e cs c hn hl he h1 hc (fun i hi => Items.free_ (hr i hi) (hp.items hi))
  | _, _, .tup l vs h, hp => .tup l vs (Tup.keep h (by simpa only [keepS] using hp))
  | _, _, .fn f l vs h, hp => .fn f l vs (Tup.keep h (by simpa only [keepS] using hp))
  | _, _, .mv f l vs h, hp => .mv f l vs (Tup.keep h (by simpa only [keepS] using hp))
  | _, _, .ifc t s v h, hp => .ifc t s v (Rep.keep h (by simpa only [keepS] using hp))
  | _, _, .nili, _ => .nili
  | _, _, .nilf, _ => .nilf
  | _, _, .may1 g s v h hr, hp => .may1 g s v h (Rep.keep hr (by simpa only [keepS] using hp))
  | _, _, .may0 g s h, _ => .may0 g s h
  | _, _, .bsl id len b n t h hs hl ok, hp => .bsl id len b n t ((pinE_at (by simpa only [keepS] using hp)).trans h) hs hl ok
  | _, _, .bsl0 id len h hl, hp => .bsl0 id len ((pinE_at (by simpa only [keepS] using hp)).trans h) hl
  | _, _, .anyi k n, _ => .anyi k n
  | _, _, .val x, _ => .val x
theorem Items.keep : ∀ {l : List SV} {cs : List Value}, Items E T w l cs → keepL p l → Items (pinE p E) T w l cs
  | _, _, .nil, _ => .nil
  | _, _, .one s c l cs h hr hl, hp => by
    simp only [keepL] at hp
    exact .one s c l cs h (Rep.keep hr hp.1) (Items.keep hl hp.2)
  | _, _, .arr n e l c1 cs hr hl, hp => by
    simp only [keepL] at hp
    exact .arr n e l c1 cs (Rep.keep hr hp.1) (Items.keep hl hp.2)
theorem Tup.keep : ∀ {l : List SV} {vs : List Value}, Tup E T w l vs → keepL p l → Tup (pinE p E) T w l vs
  | _, _, .nil, _ => .nil
  | _, _, .cons s v l vs hr hl, hp => by
    simp only [keepL] at hp
    exact .cons s v l vs (Rep.keep hr hp.1) (Tup.keep hl hp.2)
end
end
mutual
/-- The same, reckoned: what is left to show (for runs of parts). -/
def kpS (p : List Nat) : SV → Option (List Prop)
  | .ptr id _ => bif p.elem id then some [] else none
  | .pel id _ _ _ _ => bif p.elem id then some [] else none
  | .row id _ _ _ _ => bif p.elem id then some [] else none
  | .bsl id _ => bif p.elem id then some [] else none
  | .rop e _ _ => kpE e
  | .ro e => kpE e
  | .agg l => kpL p l
  | .arr _ e => kpE e
  | .tup l => kpL p l
  | .fn _ l => kpL p l
  | .mv _ l => kpL p l
  | .ifc _ v => kpS p v
  | .may _ v => kpS p v
  | _ => some []
def kpE : EV → Option (List Prop)
  | .g n sz f => some [pureE (.g n sz f)]
  | .u8 _ => some []
  | .ints _ _ => some []
def kpL (p : List Nat) : List SV → Option (List Prop)
  | [] => some []
  | s :: r => match kpS p s with
    | some φ => match kpL p r with
      | some ψ => some (φ ++ ψ)
      | none => none
    | none => none
end
theorem kpE_ok {e : EV} {φ : List Prop} (h : kpE e = some φ) (hφ : AllP φ) : pureE e := by
  cases e with
  | u8 l => simp [pureE]
  | ints k l => simp [pureE]
  | g n sz f =>
    simp only [kpE, Option.some.injEq] at h
    subst h
    exact hφ.1
theorem bif_some {b : Bool} {φ : List Prop} (h : (bif b then some [] else none) = some φ) : b = true := by cases b <;> simp at h ⊢
mutual
theorem kpS_ok {p : List Nat} : ∀ {s : SV} {φ : List Prop}, kpS p s = some φ → AllP φ → keepS p.elem s
  | .ptr id _, φ, h, hφ => by simp only [kpS] at h; simp only [keepS]; exact bif_some h
  | .pel id _ _ _ _, φ, h, hφ => by simp only [kpS] at h; simp only [keepS]; exact bif_some h
  | .row id _ _ _ _, φ, h, hφ => by simp only [kpS] at h; simp only [keepS]; exact bif_some h
  | .bsl id _, φ, h, hφ => by simp only [kpS] at h; simp only [keepS]; exact bif_some h
  | .anyi _, _, _, _ => by simp only [keepS]
  | .rop e _ _, φ, h, hφ => by simp only [kpS] at h; simp only [keepS]; exact kpE_ok h hφ
  | .ro e, φ, h, hφ => by simp only [kpS] at h; simp only [keepS]; exact kpE_ok h hφ
  | .agg l, φ, h, hφ => by simp only [kpS] at h; simp only [keepS]; exact kpL_ok h hφ
  | .arr _ e, φ, h, hφ => by simp only [kpS] at h; simp only [keepS]; exact kpE_ok h hφ
  | .tup l, φ, h, hφ => by simp only [kpS] at h; simp only [keepS]; exact kpL_ok h hφ
  | .fn _ l, φ, h, hφ => by simp only [kpS] at h; simp only [keepS]; exact kpL_ok h hφ
  | .mv _ l, φ, h, hφ => by simp only [kpS] at h; simp only [keepS]; exact kpL_ok h hφ
  | .ifc _ v, φ, h, hφ => by simp only [kpS] at h; simp only [keepS]; exact kpS_ok h hφ
  | .may _ v, φ, h, hφ => by simp only [kpS] at h; simp only [keepS]; exact kpS_ok h hφ
  | .bool _, _, _, _ => by simp only [keepS]
  | .int _ _, _, _, _ => by simp only [keepS]
  | .str _, _, _, _ => by simp only [keepS]
  | .nilp, _, _, _ => by simp only [keepS]
  | .nils, _, _, _ => by simp only [keepS]
  | .nili, _, _, _ => by simp only [keepS]
  | .nilf, _, _, _ => by simp only [keepS]
  | .val _, _, _, _ => by simp only [keepS]
theorem kpL_ok {p : List Nat} : ∀ {l : List SV} {φ : List Prop}, kpL p l = some φ → AllP φ → keepL p.elem l
  | [], _, _, _ => by simp only [keepL]
  | s :: r, φ, h, hφ => by
    simp only [kpL] at h
    simp only [keepL]
    split at h
    · rename_i φ1 h1
      split at h
      · rename_i ψ h2
        simp only [Option.some.injEq] at h
        subst h
        obtain ⟨q1, q2⟩ := AllP.app hφ
        exact ⟨kpS_ok h1 q1, kpL_ok h2 q2⟩
      · cases h
    · cases h
end
/-- The slots that are kept. -/
def kpTK {α : Type} (p : List Nat) : Tr → List Prop → (Tr → List Prop → Option α) → Option α
  | .e, acc, K => K .e acc
  | .n l x r, acc, K => kpTK p l acc fun l' φ1 => kpTK p r φ1 fun r' φ2 => match x with
    | none => K (.n l' none r') φ2
    | some s => match kpS p s with
      | some φ => fP φ fun φ => K (.n l' (some s) r') (φ ++ φ2)
      | none => K (.n l' none r') φ2
def keepT (p : List Nat) (F : Tr) : Option (Tr × List Prop) := kpTK p F [] fun G φ => fP φ fun φ => some (G, φ)
theorem kpTK_ok {α : Type} {p : List Nat} : ∀ {F : Tr} {acc : List Prop} {K : Tr → List Prop → Option α} {r : α}, kpTK p F acc K = some r →
    ∃ G φ, K G φ = some r ∧ (AllP φ → AllP acc ∧ ∀ t s, G.get t = some s → F.get t = some s ∧ keepS p.elem s)
  | .e, acc, K, r, h => ⟨.e, acc, h, fun ha => ⟨ha, fun t s hs => by simp [Tr.get] at hs⟩⟩
  | .n l x r', acc, K, r, h => by
    simp only [kpTK] at h
    obtain ⟨l1, φ1, h1, k1⟩ := kpTK_ok h
    obtain ⟨r1, φ2, h2, k2⟩ := kpTK_ok h1
    have key : ∀ (y : Option SV) (φ3 : List Prop), (AllP φ3 → AllP φ2 ∧ ∀ s, y = some s → x = some s ∧ keepS p.elem s) → AllP φ3 → AllP acc ∧ ∀ t s, (Tr.n l1 y r1).get t = some s → (Tr.n l x r').get t = some s ∧ keepS p.elem s := by
      intro y φ3 hy h3
      obtain ⟨q2, q3⟩ := hy h3
      obtain ⟨q1, k2'⟩ := k2 q2
      obtain ⟨q0, k1'⟩ := k1 q1
      refine ⟨q0, fun t s hs => ?_⟩
      cases t with
      | zero => simp only [Tr.get] at hs ⊢; exact q3 s hs
      | succ t =>
        simp only [Tr.get] at hs ⊢
        split at hs
        · exact k1' _ _ hs
        · exact k2' _ _ hs
    cases x with
    | none => exact ⟨_, _, h2, key none φ2 fun h => ⟨h, fun s hs => by cases hs⟩⟩
    | some s0 =>
      dsimp only at h2
      split at h2
      · rename_i φ hφ
        rw [fP_eq] at h2
        refine ⟨_, _, h2, key (some s0) (φ ++ φ2) fun h => ?_⟩
        obtain ⟨q1, q2⟩ := AllP.app h
        exact ⟨q2, fun s hs => by cases hs; exact ⟨rfl, kpS_ok hφ q1⟩⟩
      · exact ⟨_, _, h2, key none φ2 fun h => ⟨h, fun s hs => by cases hs⟩⟩
theorem keepT_ok {p : List Nat} {F G : Tr} {φ : List Prop} (h : keepT p F = some (G, φ)) (hφ : AllP φ) : ∀ t s, G.get t = some s → F.get t = some s ∧ keepS p.elem s := by
  unfold keepT at h
  obtain ⟨G', φ', h1, h2⟩ := kpTK_ok h
  rw [fP_eq] at h1
  simp only [Option.some.injEq, Prod.mk.injEq] at h1
  obtain ⟨rfl, rfl⟩ := h1
  exact (h2 hφ).2
/-- The blocks that stay where they are. -/
def pinsK {α : Type} (kill : List Nat) : Mem → List Nat → (List Nat → Option α) → Option α
  | [], acc, K => K acc
  | (i, _) :: r, acc, K => match kill.elem i || acc.elem i with
    | true => pinsK kill r acc K
    | false => pinsK kill r (i :: acc) K
def pinsOf (kill pins : List Nat) (M : Mem) : Option (List Nat) := pinsK kill M pins some
theorem pinsK_sub {kill : List Nat} : ∀ {M : Mem} {acc r : List Nat}, pinsK kill M acc some = some r → ∀ i, acc.elem i = true → r.elem i = true
  | [], acc, r, h, i, hi => by simp only [pinsK, Option.some.injEq] at h; rw [← h]; exact hi
  | (j, _) :: M, acc, r, h, i, hi => by
    simp only [pinsK] at h
    split at h
    · exact pinsK_sub h i hi
    · exact pinsK_sub h i (by rw [List.elem]; split <;> first | rfl | exact hi)

/-! ### The call -/
/-- What is asked of a call's end: that the caller goes on well. -/
def Inl (C : Ctx) (Q0 : Exit → Act → World → Prop) (full rest : List Oper) (d : Option Tmp) (k : List Kont) (a : Act) (e : Ending) (w' : World) : Prop :=
  a.defers = [] → a.tmps.size = C.N → (∀ p, p ∈ C.hold → ∀ id b, p.pe id = some b → C.pins.elem id = true) → ∃ v, e = .returned v ∧ wpList C.P full.toArray (Kq C.P Q0 k) rest (a.put d v) w'
section
variable {C : Ctx} {Q0 : Exit → Act → World → Prop} {F F' : Tr} {M M' : Mem} {ids : List Nat} {k : List Kont}
/-- A call, walked where it stands: what it writes is the caller's memory. -/
theorem inl_core {full rest : List Oper} {d : Option Tmp} {op : Op} {type : TypeId} {pos : String} {after : Array Edge} {f : FuncId} {svs : List SV} {fn : Func} {c : Code} {N' : Nat} {F0 G : Tr} {φ : List Prop} {pins' : List Nat} (dep : Nat) (kill : List Nat)
    (hf : C.P.funcs[f]? = some fn) (hN : fn.ntmps = N') (hx : ∀ U E a w, St C F M U E a w → ∃ vs, Tup E (trk C.T0 M E) w svs vs ∧ (execOp a.eval ⟨d, op, type, pos, after, none⟩).run C.P w = (callFunc f vs.toArray).run C.P w) (hb : fn.body = some c) (hc : callable C.P f = true) (hle : Nat.ble svs.length N' = true) (hF0 : argT 0 svs (Tr.mk dep) = some F0)
    (hp : pinsOf kill C.pins M = some pins') (hG : keepT pins' F = some (G, φ)) (hφ : AllP φ)
    (h : ∀ a E, Sat ⟨C.P, C.W0, C.S, C.T0, C.Γ, N', pins', ⟨pinE pins'.elem E, G, fun t => a.tmps.getD t undef⟩ :: C.hold, C.wide⟩ (bodyPost C.P fn (Inl C Q0 full rest d k a)) (.code c F0 M ids [])) :
    Sat C Q0 (.reg full (⟨d, op, type, pos, after, none⟩ :: rest) F M ids k) := by
  intro U E a w hsup hst
  refine wpList_plain rfl fun K hK => ?_
  unfold Oper.wp
  obtain ⟨vs, ht, hex⟩ := hx U E a w hst
  rw [hex, run_callFunc_go hc]
  have hlen := ht.len
  have hle' := Nat.le_of_ble_eq_true hle
  have hsub := pinsK_sub hp
  have hkeep := keepT_ok hG hφ
  refine (calls_of_wp hf hb (h a E U E _ w hsup ⟨rfl, ?_, fun t s hs => ?_, hst.mem, hst.own, hst.fresh, hst.kp, hst.hid, hst.glob, fun p hp id b h1 => ?_, fun p hp t s hs => ?_⟩)).mono ?_
  · simp only [Array.size_append, List.size_toArray, Array.size_replicate, hlen, hN]; omega
  · rcases argT_get hF0 ht t s hs with ⟨q1, _⟩ | ⟨_, v, q2, q3⟩ | ⟨_, q2⟩
    · omega
    · have hlt : t < vs.length := by simpa using (List.getElem?_eq_some_iff.1 q2).1
      have : (vs.toArray ++ Array.replicate (fn.ntmps - vs.toArray.size) undef).getD t undef = v := by
        rw [Array.getD_eq_getD_getElem?, Array.getElem?_append_left (by simpa using hlt)]
        simp only [Nat.sub_zero] at q2
        simp [q2]
      rw [this]
      exact q3
    · rw [mk_get] at q2; cases q2
  · rcases List.mem_cons.1 hp with rfl | hp
    · dsimp only [pinE] at h1
      split at h1
      · rename_i hi; exact ⟨hi, h1⟩
      · cases h1
    · obtain ⟨q1, q2⟩ := hst.pin p hp id b h1
      exact ⟨hsub id q1, q2⟩
  · rcases List.mem_cons.1 hp with rfl | hp
    · obtain ⟨q1, q2⟩ := hkeep t s hs
      exact (hst.slots t s q1).keep q2
    · exact hst.held p hp t s hs
  · intro e w' hI
    obtain ⟨v, rfl, hv⟩ := hI hst.defers hst.size fun p hp id b h => (hst.pin p hp id b h).1
    exact hK _ _ hv
theorem Sat.inl {full rest : List Oper} {d : Option Tmp} {x : Operand} {f : FuncId} {xs : List Operand} {ats : Array TypeId} {type : TypeId} {pos : String} {after : Array Edge} {svs : List SV} {fn : Func} {c : Code} {N' : Nat} {F0 G : Tr} {φ : List Prop} {pins' : List Nat} (dep : Nat) (kill : List Nat)
    (hf : C.P.funcs[f]? = some fn) (hN : fn.ntmps = N') (hx : argsF C.Γ F x xs = some (f, svs)) (hb : fn.body = some c) (hc : callable C.P f = true) (hle : Nat.ble svs.length N' = true) (hF0 : argT 0 svs (Tr.mk dep) = some F0)
    (hp : pinsOf kill C.pins M = some pins') (hG : keepT pins' F = some (G, φ)) (hφ : AllP φ)
    (h : ∀ a E, Sat ⟨C.P, C.W0, C.S, C.T0, C.Γ, N', pins', ⟨pinE pins'.elem E, G, fun t => a.tmps.getD t undef⟩ :: C.hold, C.wide⟩ (bodyPost C.P fn (Inl C Q0 full rest d k a)) (.code c F0 M ids [])) :
    Sat C Q0 (.reg full (⟨d, .call ⟨.value x, ⟨xs⟩, ats⟩, type, pos, after, none⟩ :: rest) F M ids k) :=
  inl_core dep kill hf hN (fun U E a w hst => by
    obtain ⟨vs, ht, hex⟩ := argsF_ok hst.vw hx
    exact ⟨vs, ht, by rw [hex]⟩) hb hc hle hF0 hp hG hφ h
/-- The same by an interface value whose type is known. -/
def argsI (Γ : Glob) (F : Tr) (x : Operand) (xs : List Operand) : Option (TypeId × List SV) :=
  match opd Γ F x with
  | some (.ifc t s) => match opdsC Γ F xs with
    | some svs => some (t, s :: svs)
    | none => none
  | _ => none
theorem argsI_ok {Γ : Glob} {E : Env} {T : Nat → Prop} {a : Act} {w : World} {P : Program} (V : Vw Γ F M E T a w) {x : Operand} {xs : List Operand} {f : FuncId} {t : TypeId} {name : String} {svs : List SV} (h : argsI Γ F x xs = some (t, svs)) (hm : ∀ v w, (method (P.types.size + Made.depth) t v name).run P w = .ok (f, v) w)
    (d : Option Tmp) (ats : Array TypeId) (type : TypeId) (pos : String) (after : Array Edge) (guard : Option (Nat × Bool)) :
    ∃ vs, Tup E T w svs vs ∧ (execOp a.eval ⟨d, .call ⟨.invoke x name, ⟨xs⟩, ats⟩, type, pos, after, guard⟩).run P w = (callFunc f vs.toArray).run P w := by
  unfold argsI at h
  split at h
  · rename_i t' s hs
    have hr := opd_rep V hs
    split at h
    · rename_i svs' hx
      have ht := opdsC_tup V hx
      simp only [Option.some.injEq, Prod.mk.injEq] at h
      obtain ⟨rfl, rfl⟩ := h
      generalize hv : a.eval x = v at hr
      cases hr with
      | ifc _ _ u hu =>
        refine ⟨u :: xs.map a.eval, .cons _ _ _ _ hu ht, ?_⟩
        have e : execOp a.eval ⟨d, .call ⟨.invoke x name, ⟨xs⟩, ats⟩, type, pos, after, guard⟩ = callMethod (.iface t' u) name (xs.map a.eval).toArray := by
          unfold execOp resolve
          simp [hv, invoke]
          rw [List.take_of_length_le (by simp)]
        rw [e]
        rcases callMethod_tie P w t' u name (xs.map a.eval).toArray with ⟨f', r', w', h1, h2⟩ | ⟨hh, w', h1, _⟩
        · rw [hm] at h1
          cases h1
          rw [h2]
          simp
        · rw [hm] at h1
          cases h1
    · cases h
  · cases h
theorem Sat.inlI {full rest : List Oper} {d : Option Tmp} {x : Operand} {f : FuncId} {name : String} {t : TypeId} {xs : List Operand} {ats : Array TypeId} {type : TypeId} {pos : String} {after : Array Edge} {svs : List SV} {fn : Func} {c : Code} {N' : Nat} {F0 G : Tr} {φ : List Prop} {pins' : List Nat} (dep : Nat) (kill : List Nat)
    (hm : ∀ v w, (method (C.P.types.size + Made.depth) t v name).run C.P w = .ok (f, v) w) (hf : C.P.funcs[f]? = some fn) (hN : fn.ntmps = N') (hx : argsI C.Γ F x xs = some (t, svs)) (hb : fn.body = some c) (hc : callable C.P f = true) (hle : Nat.ble svs.length N' = true) (hF0 : argT 0 svs (Tr.mk dep) = some F0)
    (hp : pinsOf kill C.pins M = some pins') (hG : keepT pins' F = some (G, φ)) (hφ : AllP φ)
    (h : ∀ a E, Sat ⟨C.P, C.W0, C.S, C.T0, C.Γ, N', pins', ⟨pinE pins'.elem E, G, fun t => a.tmps.getD t undef⟩ :: C.hold, C.wide⟩ (bodyPost C.P fn (Inl C Q0 full rest d k a)) (.code c F0 M ids [])) :
    Sat C Q0 (.reg full (⟨d, .call ⟨.invoke x name, ⟨xs⟩, ats⟩, type, pos, after, none⟩ :: rest) F M ids k) :=
  inl_core dep kill hf hN (fun _ _ _ _ hst => argsI_ok hst.vw hx hm _ _ _ _ _ _) hb hc hle hF0 hp hG hφ h
/-- The state of the caller, when the call is over. -/
theorem St.out {a a1 : Act} {w : World} {U : Nat → Prop} {E E1 : Env} {N' : Nat} {pins' : List Nat} {G F1 : Tr} (hd : a.defers = []) (hs : a.tmps.size = C.N) (hpn : ∀ p, p ∈ C.hold → ∀ id b, p.pe id = some b → C.pins.elem id = true)
    (h : St ⟨C.P, C.W0, C.S, C.T0, C.Γ, N', pins', ⟨pinE pins'.elem E, G, fun t => a.tmps.getD t undef⟩ :: C.hold, C.wide⟩ F1 M U E1 a1 w) : St C G M U E1 a w :=
  ⟨hd, hs, fun t s hg => (h.held _ (List.mem_cons_self ..) t s hg).mono (fun i x hi => (h.pin _ (List.mem_cons_self ..) i x hi).2) (fun _ _ h => h) (Chg.refl _ w), h.mem, h.own, h.fresh, h.kp, h.hid, h.glob,
    fun p hp i b hi => ⟨hpn p hp i b hi, (h.pin p (List.mem_cons_of_mem _ hp) i b hi).2⟩, fun p hp => h.held p (List.mem_cons_of_mem _ hp)⟩
theorem out_core {N' : Nat} {pins' : List Nat} {E : Env} {G : Tr} {fn : Func} {full rest : List Oper} {d : Option Tmp} {a : Act} {e : Ex} {F1 F2 : Tr} {s : SV} (he : e = .ret ∨ e = .normal)
    (hv : ∀ U E1 a1 w, Sup ids U → St ⟨C.P, C.W0, C.S, C.T0, C.Γ, N', pins', ⟨pinE pins'.elem E, G, fun t => a.tmps.getD t undef⟩ :: C.hold, C.wide⟩ F1 M U E1 a1 w → ∃ v, (results fn a1.tmps).run C.P w = .ok v w ∧ Rep E1 (trk C.T0 M E1) w s v)
    (hp : putD C.N G d (some s) some = some F2) (h : Sat C Q0 (.reg full rest F2 M ids k)) :
    Sat ⟨C.P, C.W0, C.S, C.T0, C.Γ, N', pins', ⟨pinE pins'.elem E, G, fun t => a.tmps.getD t undef⟩ :: C.hold, C.wide⟩ (bodyPost C.P fn (Inl C Q0 full rest d k a)) (.ext e F1 M ids []) := by
  intro U E1 a1 w hsup hst
  obtain ⟨v, h1, h2⟩ := hv U E1 a1 w hsup hst
  obtain ⟨F3, q1, q2⟩ := putD_inv hp
  cases q1
  have hin : Inl C Q0 full rest d k a (.returned v) w := fun hd hs hpn => ⟨v, rfl, h U E1 _ w hsup ((hst.out hd hs hpn).putD q2 fun s' hs' => by cases hs'; exact h2)⟩
  rcases he with rfl | rfl <;> exact ⟨hst.defers, v, h1, hin⟩
theorem Sat.out1 {N' : Nat} {pins' : List Nat} {E : Env} {G : Tr} {fn : Func} {full rest : List Oper} {d : Option Tmp} {a : Act} {e : Ex} {F1 F2 : Tr} {r : ResultVar} {φ : List Prop} {s : SV} (hr : fn.results = #[r]) (he : e = .ret ∨ e = .normal) (h1 : resV C.P F1 M r = some (φ, s)) (hφ : AllP φ)
    (hp : putD C.N G d (some s) some = some F2) (h : Sat C Q0 (.reg full rest F2 M ids k)) :
    Sat ⟨C.P, C.W0, C.S, C.T0, C.Γ, N', pins', ⟨pinE pins'.elem E, G, fun t => a.tmps.getD t undef⟩ :: C.hold, C.wide⟩ (bodyPost C.P fn (Inl C Q0 full rest d k a)) (.ext e F1 M ids []) :=
  out_core he (fun U E1 a1 w _ hst => by
    obtain ⟨v, q1, q2⟩ := resV_ok hst h1 hφ
    refine ⟨v, ?_, q1⟩
    unfold results
    rw [hr]
    exact mapM_run1 q2) hp h
theorem Sat.out2 {N' : Nat} {pins' : List Nat} {E : Env} {G : Tr} {fn : Func} {full rest : List Oper} {d : Option Tmp} {a : Act} {e : Ex} {F1 F2 : Tr} {r r' : ResultVar} {φ φ' : List Prop} {s s' : SV} (hr : fn.results = #[r, r']) (he : e = .ret ∨ e = .normal) (h1 : resV C.P F1 M r = some (φ, s)) (hφ : AllP φ) (h2 : resV C.P F1 M r' = some (φ', s')) (hφ' : AllP φ')
    (hp : putD C.N G d (some (.tup [s, s'])) some = some F2) (h : Sat C Q0 (.reg full rest F2 M ids k)) :
    Sat ⟨C.P, C.W0, C.S, C.T0, C.Γ, N', pins', ⟨pinE pins'.elem E, G, fun t => a.tmps.getD t undef⟩ :: C.hold, C.wide⟩ (bodyPost C.P fn (Inl C Q0 full rest d k a)) (.ext e F1 M ids []) :=
  out_core he (fun U E1 a1 w _ hst => by
    obtain ⟨v, q1, q2⟩ := resV_ok hst h1 hφ
    obtain ⟨v', q1', q2'⟩ := resV_ok hst h2 hφ'
    refine ⟨.tuple #[v, v'], ?_, .tup _ [v, v'] (.cons _ _ _ _ q1 (.cons _ _ _ _ q1' .nil))⟩
    unfold results
    rw [hr]
    exact mapM_run2 q2 q2') hp h
theorem Sat.out0 {N' : Nat} {pins' : List Nat} {E : Env} {G : Tr} {fn : Func} {full rest : List Oper} {d : Option Tmp} {a : Act} {e : Ex} {F1 F2 : Tr} (hr : fn.results = #[]) (he : e = .ret ∨ e = .normal)
    (hp : putD C.N G d (some (.tup [])) some = some F2) (h : Sat C Q0 (.reg full rest F2 M ids k)) :
    Sat ⟨C.P, C.W0, C.S, C.T0, C.Γ, N', pins', ⟨pinE pins'.elem E, G, fun t => a.tmps.getD t undef⟩ :: C.hold, C.wide⟩ (bodyPost C.P fn (Inl C Q0 full rest d k a)) (.ext e F1 M ids []) :=
  out_core he (fun _ _ _ _ _ _ => ⟨_, results_none hr _ _ _, .tup _ [] .nil⟩) hp h
end
end Go.Proofs.YtcnpgmohnclojaaDoor.V
end
section
namespace Go.Proofs.YtcnpgmohnclojaaDoor.V
open Go.RowKit
theorem phi {p : Prop} (h : p := by ((try dsimp only [V.EV.sub, V.EV.len]) <;> (repeat' (first | exact AllP.nil | with_reducible refine AllP.cons ?_ ?_ | with_reducible apply And.intro)) <;> (first | assumption | exact True.intro | exact rfl | (show eqOk _ _ = true; kernel_rfl) | omega | decide | (simp only [V.EV.sub, V.EV.len, List.length_cons, List.length_nil, List.length_append, List.length_drop, List.length_take]; omega) | (simp only [IntKind.bits]; omega) | (show IntKind.min _ ≤ _ ∧ _ ≤ IntKind.max _; decide) | (apply inR_i64 <;> omega) | (apply inR_i64 <;> (try simp only [Int.reduceToNat, Int.reducePow, Int.reduceSub, Int.reduceMul, Int.reduceAdd, Nat.reducePow, Nat.reduceAdd, Nat.reduceSub]) <;> omega) | (apply inR_u64 <;> omega) | (apply inR_u32 <;> omega) | (apply inR_u8' <;> omega) | (intro _; first | contradiction | (show eqOk _ _ = true; kernel_rfl) | assumption | exact rfl | omega | (show IntKind.min _ ≤ _ ∧ _ ≤ IntKind.max _; decide) | (apply inR_i64 <;> omega) | (apply inR_i64 <;> (try simp only [Int.reduceToNat, Int.reducePow, Int.reduceSub, Int.reduceMul, Int.reduceAdd, Nat.reducePow, Nat.reduceAdd, Nat.reduceSub]) <;> omega) | (apply inR_u64 <;> omega) | (apply inR_u32 <;> omega) | (apply inR_u8' <;> omega) | (apply And.intro <;> first | omega | (simp only [IntKind.bits]; omega))) | (simp; done) | (simp_all; done) | (simp_all; omega))) <;> fail) : p := h
theorem pur {p : Prop} (h : p := by ((repeat' (first | exact True.intro | assumption | apply And.intro))) <;> fail) : p := h
theorem purX {p : Prop} (h : p := by ((repeat' (first | exact True.intro | assumption | (intro _ _; simp [pureL, pureS, pureE]; done) | apply And.intro))) <;> fail) : p := h
theorem cnv {p : Prop} (h : p := by ((repeat' (first | exact Convs.nil | apply Convs.cons | exact Conv.refl _ pur | (refine Conv.may _ _ _ ?_ ?_; first | exact rfl | assumption | (decide +kernel) | (simp_all; done) | omega) | exact Conv.nils _ rfl | (refine Conv.all _ _ _ _ _ rfl rfl ?_ ?_ <;> first | rfl | exact True.intro | assumption | omega) | (refine Conv.gx _ _ _ _ _ (Conv.all _ _ _ _ _ rfl rfl ?_ ?_) ?_; exact rfl; (refine fun i hi => ?_; rcases i with _ | _ | _ | _ | _ | _ | i <;> first | exact ⟨trivial, trivial⟩ | exact trivial | (exfalso; simp only [List.length_cons, List.length_nil] at hi; omega)); (intro i hi; rcases i with _ | _ | _ | _ | _ | _ | i <;> first | rfl | (exfalso; simp only [List.length_cons, List.length_nil] at hi; omega))) | apply Conv.agg | apply Conv.tup | apply Conv.fn | (refine Conv.pr _ _ _ _ rfl ?_ rfl ?_ <;> first | exact pur | decide)))) <;> fail) : p := h
theorem cnvX {p : Prop} (h : p := by ((repeat' (first | exact Convs.nil | apply Convs.cons | exact Conv.refl _ purX | (refine Conv.may _ _ _ ?_ ?_; first | exact rfl | assumption | (decide +kernel) | (simp_all; done) | omega) | exact Conv.nils _ rfl | (refine Conv.all _ _ _ _ _ rfl rfl ?_ ?_ <;> first | rfl | exact True.intro | assumption | omega) | (refine Conv.gx _ _ _ _ _ (Conv.all _ _ _ _ _ rfl rfl ?_ ?_) ?_; exact rfl; (refine fun i hi => ?_; rcases i with _ | _ | _ | _ | _ | _ | i <;> first | exact ⟨trivial, trivial⟩ | exact trivial | (exfalso; simp only [List.length_cons, List.length_nil] at hi; omega)); (intro i hi; rcases i with _ | _ | _ | _ | _ | _ | i <;> first | rfl | (exfalso; simp only [List.length_cons, List.length_nil] at hi; omega))) | apply Conv.agg | apply Conv.tup | apply Conv.fn | (refine Conv.pr _ _ _ _ rfl ?_ rfl ?_ <;> first | exact purX | decide)))) <;> fail) : p := h
end Go.Proofs.YtcnpgmohnclojaaDoor.V
end
section
namespace Go.Proofs.YtcnpgmohnclojaaDoor
open Go.RowKit V
set_option maxRecDepth 100000
set_option maxHeartbeats 8000000
set_option linter.unusedSimpArgs false
attribute [local irreducible] V.Sat V.DSat
@[reducible] def X64 : IntKind → Bool
  | .i64 => true
  | .u64 => true
  | _ => false
def sumL : List Int → Int
  | [] => 0
  | x :: r => x + sumL r
theorem sumL_app (l m : List Int) : sumL (l ++ m) = sumL l + sumL m := by
  induction l with
  | nil => simp [sumL]
  | cons x r ih => simp only [List.cons_append, sumL, ih]; omega
theorem sumL_take (l : List Int) (i : Nat) (h : i < l.length) : sumL (l.take (i + 1)) = sumL (l.take i) + l.getD i 0 := by
  rw [List.take_add_one, List.getElem?_eq_getElem h, sumL_app]
  simp [sumL, List.getD, List.getElem?_eq_getElem h]
theorem sum_spec (l : List Int) (hn : ∀ x ∈ l, 0 ≤ x ∧ x ≤ 4294967295) (hs : l.length ≤ 256) : Fun Tryd.prog [] 23 [.ro (.ints .u32 l)] (.int .u64 (sumL l)) := by
  refine Fun.mkF 6 Tryd.func23 rfl Tryd.ntmps23 rfl rfl fun hf T w0 => ?_
  repeat' (first
      | ((with_reducible apply Sat.run (X := X64)); exact rfl; (first | exact True.intro | (exact phi) | skip))
      | ((with_reducible apply Sat.drawn); kernel_rfl)
      | ((with_reducible apply DSat.run (X := X64)); exact rfl; (first | exact True.intro | (exact phi) | skip))
      | ((with_reducible apply DSat.fin); kernel_rfl)
      | ((with_reducible apply Sat.cond_t); exact rfl)
      | ((with_reducible apply Sat.cond_f); exact rfl)
      | ((with_reducible apply Sat.cond_pt); exact rfl; (try dsimp only [V.EV.sub, V.EV.len]); first | assumption | omega)
      | ((with_reducible apply Sat.cond_pf); exact rfl; (try dsimp only [V.EV.sub, V.EV.len]); first | assumption | omega)
      | ((with_reducible apply Sat.cond_p); exact rfl; all_goals (intro h; (try simp only [V.EV.sub, V.EV.len] at h)))
      | ((with_reducible apply Sat.cond); exact rfl; all_goals (intro h; (try simp only [V.EV.sub, V.EV.len, Bool.cond_true_left, Bool.cond_false_right, Bool.or_eq_true, Bool.and_eq_true, Bool.or_eq_false_iff, Bool.and_eq_false_iff, Bool.not_eq_true', Bool.not_eq_false', decide_eq_true_eq, decide_eq_false_iff_not, ne_eq] at h))) | fail)
  apply Sat.loop (α := Nat) (fun x => x ≤ l.length ∧ 0 ≤ sumL (l.take x) ∧ sumL (l.take x) ≤ x * 4294967295) (fun x => l.length - x) 0 (fun x => [(8, .int .i64 (x : Int)), (3, .int .u64 (sumL (l.take x)))]) (fun _ => []) [] [] 0
  · intro x; exact rfl
  · intro x; exact rfl
  · exact rfl
  · exact rfl
  · (repeat' (first | exact AllP.nil | with_reducible refine AllP.cons ?_ ?_)) <;> first | exact rfl | exact trivial | exact Int.natCast_add_one _
  · exact ⟨Nat.zero_le _, by simp [sumL], by simp [sumL]⟩
  · rintro x ⟨x1, x2, x3⟩
    have hx : x < l.length → 0 ≤ l.getD (x : Int).toNat 0 ∧ l.getD (x : Int).toNat 0 ≤ 4294967295 := fun hi => by
      rw [show (x : Int).toNat = x from rfl, List.getD_eq_getElem?_getD, List.getElem?_eq_getElem hi]
      exact hn _ (List.getElem_mem hi)
    repeat' (first
        | ((with_reducible apply Sat.run (X := X64)); exact rfl; (first | exact True.intro | (exact phi) | skip))
        | ((with_reducible apply Sat.drawn); kernel_rfl)
        | ((with_reducible apply DSat.run (X := X64)); exact rfl; (first | exact True.intro | (exact phi) | skip))
        | ((with_reducible apply DSat.fin); kernel_rfl)
        | ((with_reducible apply Sat.cond_t); exact rfl)
        | ((with_reducible apply Sat.cond_f); exact rfl)
        | ((with_reducible apply Sat.cond_pt); exact rfl; (try dsimp only [V.EV.sub, V.EV.len]); first | assumption | omega)
        | ((with_reducible apply Sat.cond_pf); exact rfl; (try dsimp only [V.EV.sub, V.EV.len]); first | assumption | omega)
        | ((with_reducible apply Sat.cond_p); exact rfl; all_goals (intro h; (try simp only [V.EV.sub, V.EV.len] at h)))
        | ((with_reducible apply Sat.cond); exact rfl; all_goals (intro h; (try simp only [V.EV.sub, V.EV.len, Bool.cond_true_left, Bool.cond_false_right, Bool.or_eq_true, Bool.and_eq_true, Bool.or_eq_false_iff, Bool.and_eq_false_iff, Bool.not_eq_true', Bool.not_eq_false', decide_eq_true_eq, decide_eq_false_iff_not, ne_eq] at h))) | fail)
    · refine Sat.back (x + 1) [] rfl ?_ ?_ ?_
      · (repeat' (first | exact AllP.nil | with_reducible refine AllP.cons ?_ ?_)) <;> first | exact rfl | exact trivial | exact Int.natCast_add_one _ | skip
        exact (sumL_take l x (by omega)).symm
      · have hi : x < l.length := by omega
        have h2 := hx hi
        rw [sumL_take l x hi]
        rw [show (x : Int).toNat = x from rfl] at h2
        omega
      · omega
    · (refine Sat.fin (Sat.end1 rfl rfl rfl True.intro (.refl _ pur) (by first | exact .inl rfl | exact .inr rfl) (fun _ h => h)) ?_; (rw [List.take_of_length_le (by omega)]))
theorem ones_spec : Fun Tryd.prog [] 32 [] (.arr 256 (.ints .u32 (List.replicate 256 1))) := by
  refine Fun.mk 6 Tryd.func32 rfl Tryd.ntmps32 rfl rfl fun T w0 => ?_
  repeat' (first
      | ((with_reducible apply Sat.run (X := X64)); exact rfl; (first | exact True.intro | (exact phi) | skip))
      | ((with_reducible apply Sat.drawn); kernel_rfl)
      | ((with_reducible apply DSat.run (X := X64)); exact rfl; (first | exact True.intro | (exact phi) | skip))
      | ((with_reducible apply DSat.fin); kernel_rfl)
      | ((with_reducible apply Sat.cond_t); exact rfl)
      | ((with_reducible apply Sat.cond_f); exact rfl)
      | ((with_reducible apply Sat.cond_pt); exact rfl; (try dsimp only [V.EV.sub, V.EV.len]); first | assumption | omega)
      | ((with_reducible apply Sat.cond_pf); exact rfl; (try dsimp only [V.EV.sub, V.EV.len]); first | assumption | omega)
      | ((with_reducible apply Sat.cond_p); exact rfl; all_goals (intro h; (try simp only [V.EV.sub, V.EV.len] at h)))
      | ((with_reducible apply Sat.cond); exact rfl; all_goals (intro h; (try simp only [V.EV.sub, V.EV.len, Bool.cond_true_left, Bool.cond_false_right, Bool.or_eq_true, Bool.and_eq_true, Bool.or_eq_false_iff, Bool.and_eq_false_iff, Bool.not_eq_true', Bool.not_eq_false', decide_eq_true_eq, decide_eq_false_iff_not, ne_eq] at h))) | fail)
  apply Sat.loop (α := Nat) (fun x => x ≤ 256) (fun x => 256 - x) 0 (fun x => [(3, .int .i64 (x : Int))]) (fun x => [(1, .cells 77 [.arr 256 (.ints .u32 (List.replicate x 1 ++ List.replicate (256 - x) 0))])]) [] [] 0
  · intro x; exact rfl
  · intro x; exact rfl
  · exact rfl
  · exact rfl
  · (repeat' (first | exact AllP.nil | with_reducible refine AllP.cons ?_ ?_)) <;> first | exact rfl | exact trivial | exact Int.natCast_add_one _
  · exact Nat.zero_le _
  · rintro x x1
    repeat' (first
        | ((with_reducible apply Sat.run (X := X64)); exact rfl; (first | exact True.intro | (exact phi) | skip))
        | ((with_reducible apply Sat.drawn); kernel_rfl)
        | ((with_reducible apply DSat.run (X := X64)); exact rfl; (first | exact True.intro | (exact phi) | skip))
        | ((with_reducible apply DSat.fin); kernel_rfl)
        | ((with_reducible apply Sat.cond_t); exact rfl)
        | ((with_reducible apply Sat.cond_f); exact rfl)
        | ((with_reducible apply Sat.cond_pt); exact rfl; (try dsimp only [V.EV.sub, V.EV.len]); first | assumption | omega)
        | ((with_reducible apply Sat.cond_pf); exact rfl; (try dsimp only [V.EV.sub, V.EV.len]); first | assumption | omega)
        | ((with_reducible apply Sat.cond_p); exact rfl; all_goals (intro h; (try simp only [V.EV.sub, V.EV.len] at h)))
        | ((with_reducible apply Sat.cond); exact rfl; all_goals (intro h; (try simp only [V.EV.sub, V.EV.len, Bool.cond_true_left, Bool.cond_false_right, Bool.or_eq_true, Bool.and_eq_true, Bool.or_eq_false_iff, Bool.and_eq_false_iff, Bool.not_eq_true', Bool.not_eq_false', decide_eq_true_eq, decide_eq_false_iff_not, ne_eq] at h))) | fail)
    · refine Sat.back (x + 1) [] rfl ?_ ?_ ?_
      · (repeat' (first | exact AllP.nil | with_reducible refine AllP.cons ?_ ?_)) <;> first | exact rfl | exact trivial | exact Int.natCast_add_one _ | skip
        refine congrArg _ (List.ext_getElem (by simp; omega) fun i h1 h2 => ?_)
        simp only [Int.toNat_natCast, List.getElem_set, List.getElem_append, List.length_replicate, List.getElem_replicate]
        repeat' split
        all_goals first | rfl | omega
      · omega
      · omega
    · have hx : x = 256 := by omega
      subst hx
      (refine Sat.fin (Sat.end1 rfl rfl rfl True.intro (.refl _ pur) (by first | exact .inl rfl | exact .inr rfl) (fun _ h => h)) ?_; rfl)
end Go.Proofs.YtcnpgmohnclojaaDoor
end
section
namespace Go.Proofs.YtcnpgmohnclojaaDoor
namespace Rc
set_option maxRecDepth 10000
/-! ### Numbers of bytes -/
/-- The number whose digits the bytes are, the first one the greatest. -/
def num (l : List UInt8) : Nat := l.foldl (fun a b => a * 256 + b.toNat) 0
theorem num_snoc (l : List UInt8) (b : UInt8) : num (l ++ [b]) = num l * 256 + b.toNat := by simp [num]
/-- The same, the first one the least. -/
def numR : List UInt8 → Nat
  | [] => 0
  | b :: r => b.toNat + 256 * numR r
theorem num_rev : ∀ l : List UInt8, num l.reverse = numR l
  | [] => rfl
  | b :: r => by rw [List.reverse_cons, num_snoc, num_rev r, numR]; omega
theorem num_eq (l : List UInt8) : num l = numR l.reverse := by rw [← num_rev, List.reverse_reverse]
theorem numR_lt : ∀ l : List UInt8, numR l < 256 ^ l.length
  | [] => by simp [numR]
  | b :: r => by
    have := numR_lt r
    have := b.toNat_lt
    rw [numR, List.length_cons, Nat.pow_succ]
    omega
theorem num_lt (l : List UInt8) : num l < 256 ^ l.length := by
  rw [num_eq]
  have := numR_lt l.reverse
  rwa [List.length_reverse] at this
def incR : List UInt8 → List UInt8
  | [] => []
  | b :: r => if b = 255 then 0 :: incR r else (b + 1) :: r
theorem incR_len : ∀ l : List UInt8, (incR l).length = l.length
  | [] => rfl
  | b :: r => by
    rw [incR]
    split
    · simp [incR_len r]
    · simp
theorem incR_num : ∀ l : List UInt8, numR l + 1 < 256 ^ l.length → numR (incR l) = numR l + 1
  | [], h => by simp [numR] at h
  | b :: r, h => by
    rw [incR]
    rw [numR, List.length_cons, Nat.pow_succ] at h
    split
    · rename_i hb
      subst hb
      have e : (255 : UInt8).toNat = 255 := rfl
      rw [e] at h
      rw [numR, numR, incR_num r (by omega), e]
      have e0 : (0 : UInt8).toNat = 0 := rfl
      rw [e0]
      omega
    · rename_i hb
      have h1 : b.toNat ≠ 255 := fun q => hb (UInt8.toNat_inj.1 q)
      have h2 := b.toNat_lt
      have h3 : (b + 1).toNat = b.toNat + 1 := by rw [UInt8.toNat_add]; show (b.toNat + 1) % 256 = _; omega
      rw [numR, numR, h3]
      omega
/-- One is added to the number. -/
def carry (l : List UInt8) : List UInt8 := (incR l.reverse).reverse
theorem carry_len (l : List UInt8) : (carry l).length = l.length := by simp [carry, incR_len]
theorem carry_num (l : List UInt8) (h : num l + 1 < 256 ^ l.length) : num (carry l) = num l + 1 := by
  unfold carry
  rw [num_rev, incR_num _ (by rw [List.length_reverse, ← num_eq]; exact h), ← num_eq]

/-! ### Counts -/
def sumN : List Nat → Nat
  | [] => 0
  | x :: r => x + sumN r
theorem sumN_app (l m : List Nat) : sumN (l ++ m) = sumN l + sumN m := by
  induction l with
  | nil => simp [sumN]
  | cons x r ih => simp only [List.cons_append, sumN, ih]; omega
def bef (l : List Nat) (c : Nat) : Nat := sumN (l.take c)
theorem bef_succ (l : List Nat) (c : Nat) (h : c < l.length) : bef l (c + 1) = bef l c + l.getD c 0 := by
  unfold bef
  rw [List.take_succ_eq_append_getElem h, sumN_app, List.getD_eq_getElem?_getD, List.getElem?_eq_getElem h]
  simp [sumN]
theorem bef_le (l : List Nat) (c : Nat) : bef l c ≤ sumN l := by
  unfold bef
  have : sumN l = sumN (l.take c) + sumN (l.drop c) := by rw [← sumN_app, List.take_append_drop]
  omega
theorem bef_mono (l : List Nat) (c d : Nat) (h : c ≤ d) : bef l c ≤ bef l d := by
  unfold bef
  have : l.take d = l.take c ++ (l.take d).drop c := by
    have := (List.take_append_drop c (l.take d)).symm
    rwa [List.take_take, Nat.min_eq_left h] at this
  rw [this, sumN_app]
  omega
/-- A table of counts that can be coded with. -/
structure Tab (l : List Nat) (t : Nat) : Prop where
  len : l.length = 256
  pos : ∀ c, c < 256 → 1 ≤ l.getD c 0
  tot : t = sumN l
  big : t ≤ 65536
theorem Tab.tpos {l : List Nat} {t : Nat} (h : Tab l t) : 1 ≤ t := by
  have h1 := h.pos 0 (by omega)
  have h2 : bef l 1 = bef l 0 + l.getD 0 0 := bef_succ l 0 (by rw [h.len]; omega)
  have h3 := bef_le l 1
  rw [h.tot]
  omega
theorem Tab.part {l : List Nat} {t : Nat} (h : Tab l t) (c : Nat) (hc : c < 256) : bef l c + l.getD c 0 ≤ t := by
  have h2 := bef_succ l c (by rw [h.len]; exact hc)
  have h3 := bef_le l (c + 1)
  rw [h.tot]
  omega

/-! ### The encoder -/
structure Enc where
  low : Nat
  size : Nat
  out : List UInt8
/-- Digits are put out, until the range is great enough. -/
def norm (low size : Nat) (out : List UInt8) : Enc :=
  if 0 < size ∧ size < 16777216 then norm (low % 16777216 * 256) (size * 256) (out ++ [UInt8.ofNat (low / 16777216)]) else ⟨low, size, out⟩
termination_by 16777216 - size
def cut (low : Nat) (out : List UInt8) : Nat × List UInt8 := if 4294967296 ≤ low then (low - 4294967296, carry out) else (low, out)
def stepE (l : List Nat) (t : Nat) (s : Enc) (c : Nat) : Enc :=
  norm (cut (s.low + s.size / t * bef l c) s.out).1 (s.size / t * l.getD c 0) (cut (s.low + s.size / t * bef l c) s.out).2
/-- The number that stands for a state. -/
def Enc.v (s : Enc) : Nat := num s.out * 4294967296 + s.low
structure Ok (s : Enc) : Prop where
  low : s.low < 4294967296
  lo : 16777216 ≤ s.size
  hi : s.size < 4294967296
  fit : s.v + s.size ≤ 256 ^ (s.out.length + 4)
theorem pow4 (n : Nat) : 256 ^ (n + 4) = 256 ^ n * 4294967296 := by rw [Nat.pow_add]
/-- What is put out: the number goes on by places. -/
theorem norm_end {low size : Nat} {out : List UInt8} (h : ¬ (0 < size ∧ size < 16777216)) : norm low size out = ⟨low, size, out⟩ := by
  rw [norm, if_neg h]
theorem norm_more {low size : Nat} {out : List UInt8} (h : 0 < size ∧ size < 16777216) : norm low size out = norm (low % 16777216 * 256) (size * 256) (out ++ [UInt8.ofNat (low / 16777216)]) := by
  rw [norm, if_pos h]
theorem norm_ok (n : Nat) : ∀ (low size : Nat) (out : List UInt8), 16777216 ≤ size + n → low < 4294967296 → 0 < size → size < 4294967296 → num out * 4294967296 + low + size ≤ 256 ^ (out.length + 4) →
    Ok (norm low size out) ∧ ∃ j, (norm low size out).out.length = out.length + j ∧ (norm low size out).v = (num out * 4294967296 + low) * 256 ^ j ∧ (norm low size out).size = size * 256 ^ j := by
  induction n with
  | zero =>
    intro low size out hn h1 h2 h3 h4
    rw [norm_end (by omega)]
    exact ⟨⟨h1, hn, h3, h4⟩, 0, rfl, by show _ = _ * 1; rw [Nat.mul_one]; rfl, by show size = size * 1; omega⟩
  | succ n ih =>
    intro low size out hn h1 h2 h3 h4
    by_cases hc : size < 16777216
    · have hb : (UInt8.ofNat (low / 16777216)).toNat = low / 16777216 := UInt8.toNat_ofNat_of_lt' (show low / 16777216 < 256 by omega)
      have hv : num (out ++ [UInt8.ofNat (low / 16777216)]) * 4294967296 + low % 16777216 * 256 = (num out * 4294967296 + low) * 256 := by
        rw [num_snoc, hb]
        omega
      rw [norm_more ⟨h2, hc⟩]
      obtain ⟨q1, j, q2, q3, q4⟩ := ih (low % 16777216 * 256) (size * 256) (out ++ [UInt8.ofNat (low / 16777216)]) (by omega) (by omega) (by omega) (by omega) (by
        rw [hv, List.length_append, show (out.length + [UInt8.ofNat (low / 16777216)].length) + 4 = (out.length + 4) + 1 from rfl, Nat.pow_succ, ← Nat.add_mul]
        exact Nat.mul_le_mul_right _ h4)
      refine ⟨q1, j + 1, ?_, ?_, ?_⟩
      · rw [q2, List.length_append]
        show out.length + 1 + j = _
        omega
      · rw [q3, hv, Nat.pow_succ, Nat.mul_assoc, Nat.mul_comm 256]
      · rw [q4, Nat.pow_succ, Nat.mul_assoc, Nat.mul_comm 256]
    · rw [norm_end (by omega)]
      exact ⟨⟨h1, by show 16777216 ≤ size; omega, h3, h4⟩, 0, rfl, by show _ = _ * 1; rw [Nat.mul_one]; rfl, by show size = size * 1; omega⟩
theorem part_le {size t l c : Nat} (h : l + c ≤ t) : size / t * l + size / t * c ≤ size := by
  rw [← Nat.mul_add]
  exact Nat.le_trans (Nat.mul_le_mul_left _ h) (Nat.div_mul_le_self size t)
theorem cut_ok {low : Nat} {out : List UInt8} {size : Nat} (h1 : low < 8589934592) (hs : 0 < size) (h : num out * 4294967296 + low + size ≤ 256 ^ (out.length + 4)) :
    (cut low out).1 < 4294967296 ∧ (cut low out).2.length = out.length ∧ num (cut low out).2 * 4294967296 + (cut low out).1 = num out * 4294967296 + low := by
  unfold cut
  split
  · rename_i hc
    have hlt : num out + 1 < 256 ^ out.length := by
      rw [pow4] at h
      generalize 256 ^ out.length = p at h
      omega
    refine ⟨by show low - 4294967296 < _; omega, carry_len out, ?_⟩
    show num (carry out) * 4294967296 + (low - 4294967296) = _
    rw [carry_num out hlt]
    omega
  · exact ⟨by show low < _; omega, rfl, rfl⟩
/-- One byte: the new range lies in the old one. -/
theorem step_ok {l : List Nat} {t : Nat} (T : Tab l t) {s : Enc} (h : Ok s) (c : Nat) (hc : c < 256) :
    Ok (stepE l t s c) ∧ ∃ j, (stepE l t s c).out.length = s.out.length + j ∧ (stepE l t s c).v = (s.v + s.size / t * bef l c) * 256 ^ j ∧ (stepE l t s c).size = s.size / t * l.getD c 0 * 256 ^ j := by
  have hp := part_le (size := s.size) (T.part c hc)
  have ht := T.tpos
  have hr : 1 ≤ s.size / t := Nat.div_pos (Nat.le_trans T.big (Nat.le_trans (by decide) h.lo)) ht
  have hcnt := T.pos c hc
  have hsz : 0 < s.size / t * l.getD c 0 := Nat.mul_pos hr hcnt
  have hlow := h.low
  have hhi := h.hi
  have hfit := h.fit
  have hv : s.v = num s.out * 4294967296 + s.low := rfl
  rw [hv] at hfit
  obtain ⟨c1, c2, c3⟩ := cut_ok (low := s.low + s.size / t * bef l c) (out := s.out) (size := s.size / t * l.getD c 0) (by omega) hsz (by omega)
  obtain ⟨n1, j, n2, n3, n4⟩ := norm_ok 16777216 (cut (s.low + s.size / t * bef l c) s.out).1 (s.size / t * l.getD c 0) (cut (s.low + s.size / t * bef l c) s.out).2 (Nat.le_add_left ..) c1 hsz (by omega) (by rw [c3, c2]; omega)
  refine ⟨n1, j, ?_, ?_, n4⟩
  · exact n2.trans (by rw [c2])
  · refine n3.trans ?_
    rw [c3, hv, Nat.add_assoc]
end Rc
end Go.Proofs.YtcnpgmohnclojaaDoor
end
section
namespace Go.Proofs.YtcnpgmohnclojaaDoor
namespace Rc
set_option maxRecDepth 10000
/-- A model: a state, its counts, and what it does after a byte. -/
structure Mdl where
  σ : Type
  l : σ → List Nat
  t : σ → Nat
  saw : σ → UInt8 → σ
  inv : σ → Prop
  tab : ∀ s, inv s → Tab (l s) (t s)
  keep : ∀ s c, inv s → inv (saw s c)
def encS (M : Mdl) : M.σ → Enc → List UInt8 → Enc
  | _, e, [] => e
  | s, e, c :: r => encS M (M.saw s c) (stepE (M.l s) (M.t s) e c.toNat) r
theorem enc_in (M : Mdl) : ∀ (x : List UInt8) (s : M.σ) (e : Enc), M.inv s → Ok e → Ok (encS M s e x) ∧ ∃ j, (encS M s e x).out.length = e.out.length + j ∧ e.v * 256 ^ j ≤ (encS M s e x).v ∧ (encS M s e x).v + (encS M s e x).size ≤ (e.v + e.size) * 256 ^ j
  | [], s, e, _, h => ⟨h, 0, rfl, by rw [Nat.pow_zero, Nat.mul_one]; exact Nat.le_refl _, by rw [Nat.pow_zero, Nat.mul_one]; exact Nat.le_refl _⟩
  | c :: r, s, e, hs, h => by
    have T := M.tab s hs
    have hc : c.toNat < 256 := c.toNat_lt
    obtain ⟨q1, j1, q2, q3, q4⟩ := step_ok T h c.toNat hc
    obtain ⟨p1, j2, p2, p3, p4⟩ := enc_in M r (M.saw s c) _ (M.keep s c hs) q1
    have hp := part_le (size := e.size) (T.part c.toNat hc)
    refine ⟨p1, j1 + j2, ?_, ?_, ?_⟩
    · show (encS M (M.saw s c) _ r).out.length = _
      rw [p2, q2]; omega
    · refine Nat.le_trans ?_ p3
      rw [q3, Nat.pow_add, ← Nat.mul_assoc]
      exact Nat.mul_le_mul_right _ (Nat.mul_le_mul_right _ (Nat.le_add_right _ _))
    · refine Nat.le_trans p4 ?_
      rw [q3, q4, Nat.pow_add, ← Nat.mul_assoc, ← Nat.add_mul]
      exact Nat.mul_le_mul_right _ (Nat.mul_le_mul_right _ (by omega))
/-! ### Digits of a text, followed by zeros -/
def wn (b : List UInt8) : Nat → Nat
  | 0 => 0
  | k + 1 => wn b k * 256 + (b.getD k 0).toNat
theorem wn_div (b : List UInt8) (k : Nat) : ∀ j, wn b k = wn b (k + j) / 256 ^ j
  | 0 => by rw [Nat.pow_zero, Nat.div_one]; rfl
  | j + 1 => by
    have h := (b.getD (k + j) 0).toNat_lt
    rw [wn_div b k j, Nat.pow_succ, Nat.mul_comm (256 ^ j), ← Nat.div_div_eq_div_mul]
    congr 1
    show _ = (wn b (k + j) * 256 + (b.getD (k + j) 0).toNat) / 256
    omega
theorem wn_num (b : List UInt8) : ∀ k, k ≤ b.length → wn b k = num (b.take k)
  | 0, _ => rfl
  | k + 1, h => by
    rw [wn, wn_num b k (by omega), List.take_succ_eq_append_getElem (by omega), num_snoc, List.getD_eq_getElem?_getD, List.getElem?_eq_getElem (by omega)]
    rfl
theorem wn_all (b : List UInt8) : wn b b.length = num b := by rw [wn_num b _ (Nat.le_refl _), List.take_length]
theorem wn_congr {a b : List UInt8} (h : ∀ i, a.getD i 0 = b.getD i 0) : ∀ k, wn a k = wn b k
  | 0 => rfl
  | k + 1 => by rw [wn, wn, wn_congr h k, h k]
/-! ### The decoder -/
def normD (b : List UInt8) (a size k : Nat) : Nat × Nat × Nat :=
  if 0 < size ∧ size < 16777216 then normD b (a * 256 + (b.getD k 0).toNat) (size * 256) (k + 1) else (a, size, k)
termination_by 16777216 - size
theorem normD_end {b : List UInt8} {a size k : Nat} (h : ¬ (0 < size ∧ size < 16777216)) : normD b a size k = (a, size, k) := by rw [normD, if_neg h]
theorem normD_more {b : List UInt8} {a size k : Nat} (h : 0 < size ∧ size < 16777216) : normD b a size k = normD b (a * 256 + (b.getD k 0).toNat) (size * 256) (k + 1) := by rw [normD, if_pos h]
/-- Both put their digits out, and in, at the same time. -/
theorem normD_ok (b : List UInt8) (n : Nat) : ∀ (low size : Nat) (out : List UInt8), 16777216 ≤ size + n → 0 < size → low < 4294967296 → num out * 4294967296 + low ≤ wn b (out.length + 4) →
    (norm low size out).v ≤ wn b ((norm low size out).out.length + 4) ∧ normD b (wn b (out.length + 4) - (num out * 4294967296 + low)) size (out.length + 4) = (wn b ((norm low size out).out.length + 4) - (norm low size out).v, (norm low size out).size, (norm low size out).out.length + 4) := by
  induction n with
  | zero =>
    intro low size out hn h0 h1 h2
    rw [norm_end (by omega), normD_end (by omega)]
    exact ⟨h2, rfl⟩
  | succ n ih =>
    intro low size out hn h0 h1 h2
    by_cases hc : size < 16777216
    · have hb : (UInt8.ofNat (low / 16777216)).toNat = low / 16777216 := UInt8.toNat_ofNat_of_lt' (show low / 16777216 < 256 by omega)
      have hv : num (out ++ [UInt8.ofNat (low / 16777216)]) * 4294967296 + low % 16777216 * 256 = (num out * 4294967296 + low) * 256 := by
        rw [num_snoc, hb]
        omega
      have hl : (out ++ [UInt8.ofNat (low / 16777216)]).length + 4 = (out.length + 4) + 1 := by rw [List.length_append]; rfl
      have hw : wn b ((out.length + 4) + 1) = wn b (out.length + 4) * 256 + (b.getD (out.length + 4) 0).toNat := rfl
      obtain ⟨q1, q2⟩ := ih (low % 16777216 * 256) (size * 256) (out ++ [UInt8.ofNat (low / 16777216)]) (by omega) (by omega) (by omega) (by rw [hv, hl, hw]; omega)
      rw [norm_more ⟨h0, hc⟩, normD_more ⟨h0, hc⟩]
      refine ⟨q1, ?_⟩
      rw [← q2, hv, hl, hw]
      congr 1
      omega
    · rw [norm_end (by omega), normD_end (by omega)]
      exact ⟨h2, rfl⟩
def findC (l : List Nat) (r a c : Nat) : Nat := if c < 255 ∧ r * bef l (c + 1) ≤ a then findC l r a (c + 1) else c
termination_by 255 - c
theorem find_at (l : List Nat) (r a x : Nat) (hx : x ≤ 255) (h1 : r * bef l x ≤ a) (h2 : a < r * bef l (x + 1)) : ∀ (n c : Nat), c + n = x → findC l r a c = x
  | 0, c, h => by
    rw [findC, if_neg (fun q => by rw [show c = x by omega] at q; omega)]
    omega
  | n + 1, c, h => by
    have hm : r * bef l (c + 1) ≤ r * bef l x := Nat.mul_le_mul_left _ (bef_mono l (c + 1) x (by omega))
    rw [findC, if_pos ⟨by omega, by omega⟩]
    exact find_at l r a x hx h1 h2 n (c + 1) (by omega)
def decL (M : Mdl) (b : List UInt8) : Nat → M.σ → Nat → Nat → Nat → List UInt8 → Option (List UInt8)
  | 0, _, _, _, _, out => some out
  | n + 1, s, a, size, k, out =>
    if size / M.t s * (M.l s).getD (findC (M.l s) (size / M.t s) a 0) 0 ≤ a - size / M.t s * bef (M.l s) (findC (M.l s) (size / M.t s) a 0) then none else
    decL M b n (M.saw s (UInt8.ofNat (findC (M.l s) (size / M.t s) a 0)))
      (normD b (a - size / M.t s * bef (M.l s) (findC (M.l s) (size / M.t s) a 0)) (size / M.t s * (M.l s).getD (findC (M.l s) (size / M.t s) a 0) 0) k).1
      (normD b (a - size / M.t s * bef (M.l s) (findC (M.l s) (size / M.t s) a 0)) (size / M.t s * (M.l s).getD (findC (M.l s) (size / M.t s) a 0) 0) k).2.1
      (normD b (a - size / M.t s * bef (M.l s) (findC (M.l s) (size / M.t s) a 0)) (size / M.t s * (M.l s).getD (findC (M.l s) (size / M.t s) a 0) 0) k).2.2
      (out ++ [UInt8.ofNat (findC (M.l s) (size / M.t s) a 0)])
/-- What is coded is read again. -/
theorem dec_enc (M : Mdl) (b : List UInt8) (x : List UInt8) : ∀ (s : M.σ) (e : Enc) (out : List UInt8), M.inv s → Ok e → e.v ≤ wn b (e.out.length + 4) → wn b ((encS M s e x).out.length + 4) = (encS M s e x).v →
    decL M b x.length s (wn b (e.out.length + 4) - e.v) e.size (e.out.length + 4) out = some (out ++ x) := by
  induction x with
  | nil =>
    intro s e out _ _ _ _
    rw [List.append_nil]
    rfl
  | cons c r ih =>
    intro s e out hs he hv hE
    have T := M.tab s hs
    have hc : c.toNat < 256 := c.toNat_lt
    obtain ⟨q1, j1, q2, q3, q4⟩ := step_ok T he c.toNat hc
    obtain ⟨p1, j2, p2, p3, p4⟩ := enc_in M r (M.saw s c) _ (M.keep s c hs) q1
    have hE : wn b ((encS M (M.saw s c) (stepE (M.l s) (M.t s) e c.toNat) r).out.length + 4) = (encS M (M.saw s c) (stepE (M.l s) (M.t s) e c.toNat) r).v := hE
    have hsz := p1.lo
    -- where the number lies
    have hd := wn_div b (e.out.length + 4) (j1 + j2)
    rw [show e.out.length + 4 + (j1 + j2) = (encS M (M.saw s c) (stepE (M.l s) (M.t s) e c.toNat) r).out.length + 4 by rw [p2, q2]; omega, hE] at hd
    have hpos : 0 < 256 ^ (j1 + j2) := Nat.pow_pos (by decide)
    have w1 : e.v + e.size / M.t s * bef (M.l s) c.toNat ≤ wn b (e.out.length + 4) := by
      rw [hd, Nat.le_div_iff_mul_le hpos, Nat.pow_add, ← Nat.mul_assoc, ← q3]
      exact p3
    have w2 : wn b (e.out.length + 4) < e.v + e.size / M.t s * bef (M.l s) c.toNat + e.size / M.t s * (M.l s).getD c.toNat 0 := by
      rw [hd, Nat.div_lt_iff_lt_mul hpos, Nat.pow_add, ← Nat.mul_assoc, Nat.add_mul, ← q3, ← q4]
      omega
    have hb1 := bef_succ (M.l s) c.toNat (by rw [T.len]; exact hc)
    have hf : findC (M.l s) (e.size / M.t s) (wn b (e.out.length + 4) - e.v) 0 = c.toNat := find_at _ _ _ _ (by omega) (by omega) (by rw [hb1, Nat.mul_add]; omega) c.toNat 0 (by omega)
    have hr : 1 ≤ e.size / M.t s := Nat.div_pos (Nat.le_trans T.big (Nat.le_trans (by decide) he.lo)) T.tpos
    have hcnt := T.pos c.toNat hc
    have hsz2 : 0 < e.size / M.t s * (M.l s).getD c.toNat 0 := Nat.mul_pos hr hcnt
    have hp := part_le (size := e.size) (T.part c.toNat hc)
    have hlow := he.low
    have hhi := he.hi
    have hfit := he.fit
    have hve : e.v = num e.out * 4294967296 + e.low := rfl
    obtain ⟨c1, c2, c3⟩ := cut_ok (low := e.low + e.size / M.t s * bef (M.l s) c.toNat) (out := e.out) (size := e.size / M.t s * (M.l s).getD c.toNat 0) (by omega) hsz2 (by rw [hve] at hfit; omega)
    have hcut : num (cut (e.low + e.size / M.t s * bef (M.l s) c.toNat) e.out).2 * 4294967296 + (cut (e.low + e.size / M.t s * bef (M.l s) c.toNat) e.out).1 = e.v + e.size / M.t s * bef (M.l s) c.toNat := c3.trans (by rw [hve, Nat.add_assoc])
    obtain ⟨d1, d2⟩ := normD_ok b 16777216 (cut (e.low + e.size / M.t s * bef (M.l s) c.toNat) e.out).1 (e.size / M.t s * (M.l s).getD c.toNat 0) (cut (e.low + e.size / M.t s * bef (M.l s) c.toNat) e.out).2 (Nat.le_add_left ..) hsz2 c1 (by rw [hcut, c2]; exact w1)
    rw [hcut, c2] at d2
    have d2 : normD b (wn b (e.out.length + 4) - (e.v + e.size / M.t s * bef (M.l s) c.toNat)) (e.size / M.t s * (M.l s).getD c.toNat 0) (e.out.length + 4) = (wn b ((stepE (M.l s) (M.t s) e c.toNat).out.length + 4) - (stepE (M.l s) (M.t s) e c.toNat).v, (stepE (M.l s) (M.t s) e c.toNat).size, (stepE (M.l s) (M.t s) e c.toNat).out.length + 4) := d2
    have d1 : (stepE (M.l s) (M.t s) e c.toNat).v ≤ wn b ((stepE (M.l s) (M.t s) e c.toNat).out.length + 4) := d1
    rw [List.length_cons, decL, hf, if_neg (by omega), Nat.sub_sub, d2, UInt8.ofNat_toNat, ih (M.saw s c) _ (out ++ [c]) (M.keep s c hs) q1 d1 hE, List.append_assoc]
    rfl
/-! ### The code -/
def be4 (low : Nat) : List UInt8 := [UInt8.ofNat (low / 16777216), UInt8.ofNat (low / 65536), UInt8.ofNat (low / 256), UInt8.ofNat low]
def full (e : Enc) : List UInt8 := e.out ++ be4 e.low
def trim (l : List UInt8) : List UInt8 := (l.reverse.dropWhile (· == 0)).reverse
def e0 : Enc := ⟨0, 4294967295, []⟩
theorem e0_ok : Ok e0 := ⟨by decide, by decide, by decide, by decide⟩
def code (M : Mdl) (s : M.σ) (x : List UInt8) : List UInt8 := trim (full (encS M s e0 x))
theorem full_num (e : Enc) (h : e.low < 4294967296) : num (full e) = e.v := by
  unfold full be4
  rw [show e.out ++ [UInt8.ofNat (e.low / 16777216), UInt8.ofNat (e.low / 65536), UInt8.ofNat (e.low / 256), UInt8.ofNat e.low] = e.out ++ [UInt8.ofNat (e.low / 16777216)] ++ [UInt8.ofNat (e.low / 65536)] ++ [UInt8.ofNat (e.low / 256)] ++ [UInt8.ofNat e.low] by simp, num_snoc, num_snoc, num_snoc, num_snoc]
  simp only [UInt8.toNat_ofNat']
  show _ = num e.out * 4294967296 + e.low
  omega
theorem full_len (e : Enc) : (full e).length = e.out.length + 4 := by unfold full be4; rw [List.length_append]; rfl
theorem trim_nil : trim [] = [] := rfl
theorem trim_zero (l : List UInt8) : trim (l ++ [0]) = trim l := by
  unfold trim
  rw [List.reverse_append]
  rfl
theorem trim_keep (l : List UInt8) (b : UInt8) (h : b ≠ 0) : trim (l ++ [b]) = l ++ [b] := by
  unfold trim
  rw [List.reverse_append]
  show (List.dropWhile (· == 0) (b :: l.reverse)).reverse = _
  rw [List.dropWhile_cons_of_neg (by simpa using h)]
  simp
theorem snoc_cases (l : List UInt8) : l = [] ∨ ∃ m b, l = m ++ [b] := by
  rcases List.eq_nil_or_concat l with h | ⟨m, b, h⟩
  · exact .inl h
  · exact .inr ⟨m, b, by rw [h, List.concat_eq_append]⟩
theorem trim_get (n : Nat) : ∀ l : List UInt8, l.length ≤ n → ∀ i, (trim l).getD i 0 = l.getD i 0 := by
  induction n with
  | zero =>
    intro l h i
    rw [List.eq_nil_of_length_eq_zero (Nat.le_zero.1 h)]
    rfl
  | succ n ih =>
    intro l h i
    rcases snoc_cases l with rfl | ⟨m, b, rfl⟩
    · rfl
    · by_cases hb : b = 0
      · subst hb
        rw [List.length_append] at h
        have h : m.length + 1 ≤ n + 1 := h
        rw [trim_zero, ih m (by omega) i]
        rcases Nat.lt_trichotomy i m.length with hi | hi | hi
        · rw [List.getD_eq_getElem?_getD, List.getD_eq_getElem?_getD, List.getElem?_append_left hi]
        · subst hi; simp
        · rw [List.getD_eq_getElem?_getD, List.getD_eq_getElem?_getD, List.getElem?_eq_none (by omega), List.getElem?_eq_none (by rw [List.length_append]; show m.length + 1 ≤ i; omega)]
      · rw [trim_keep m b hb]
theorem trim_last (n : Nat) : ∀ l : List UInt8, l.length ≤ n → ∀ m b, trim l = m ++ [b] → b ≠ 0 := by
  induction n with
  | zero =>
    intro l h m b hm
    rw [List.eq_nil_of_length_eq_zero (Nat.le_zero.1 h), trim_nil] at hm
    simp at hm
  | succ n ih =>
    intro l h m b hm
    rcases snoc_cases l with rfl | ⟨q, d, rfl⟩
    · rw [trim_nil] at hm
      simp at hm
    · rw [List.length_append] at h
      have h : q.length + 1 ≤ n + 1 := h
      by_cases hd : d = 0
      · subst hd
        rw [trim_zero] at hm
        exact ih q (by omega) m b hm
      · rw [trim_keep q d hd] at hm
        have := (List.append_inj' hm rfl).2
        cases this
        exact hd
theorem trim_len (l : List UInt8) : (trim l).length ≤ l.length := by
  unfold trim
  rw [List.length_reverse]
  have := (List.dropWhile_sublist (· == 0) (l := l.reverse)).length_le
  rwa [List.length_reverse] at this
/-- **The code of a text is read as the text.** -/
theorem inverts (M : Mdl) (s : M.σ) (hs : M.inv s) (x : List UInt8) : decL M (code M s x) x.length s (wn (code M s x) 4) 4294967295 4 [] = some x := by
  obtain ⟨q1, j, q2, q3, q4⟩ := enc_in M x s e0 hs e0_ok
  have hg : ∀ k, wn (code M s x) k = wn (full (encS M s e0 x)) k := wn_congr (trim_get _ _ (Nat.le_refl _))
  have hw : wn (code M s x) ((encS M s e0 x).out.length + 4) = (encS M s e0 x).v := by
    rw [hg, ← full_len, wn_all, full_num _ q1.low]
  have h := dec_enc M (code M s x) x s e0 [] hs e0_ok (Nat.zero_le _) hw
  rw [List.nil_append] at h
  exact h
/-- Texts of the same length with the same code are the same. -/
theorem code_inj (M : Mdl) (s : M.σ) (hs : M.inv s) (x y : List UInt8) (hl : x.length = y.length) (h : code M s x = code M s y) : x = y := by
  have h1 := inverts M s hs x
  rw [h, hl, inverts M s hs y] at h1
  exact (Option.some.inj h1).symm
end Rc
end Go.Proofs.YtcnpgmohnclojaaDoor
end
section
namespace Go.Proofs.YtcnpgmohnclojaaDoor
namespace Rc
set_option maxRecDepth 10000
theorem sumN_set : ∀ (l : List Nat) (c v : Nat), c < l.length → sumN (l.set c v) + l.getD c 0 = sumN l + v
  | [], c, v, h => by simp at h
  | x :: l, 0, v, _ => by simp [sumN]; omega
  | x :: l, c + 1, v, h => by
    have := sumN_set l c v (by simpa using h)
    simp only [List.set_cons_succ, sumN, List.getD_cons_succ]
    omega
theorem sumN_half : ∀ l : List Nat, 2 * sumN (l.map fun n => (n + 1) / 2) ≤ sumN l + l.length
  | [] => by simp [sumN]
  | x :: l => by
    have := sumN_half l
    simp only [List.map_cons, sumN, List.length_cons]
    omega
def sawT (p : List Nat × Nat) (c : UInt8) : List Nat × Nat :=
  if p.2 + 32 ≤ 65536 then (p.1.set c.toNat (p.1.getD c.toNat 0 + 32), p.2 + 32) else ((p.1.set c.toNat (p.1.getD c.toNat 0 + 32)).map fun n => (n + 1) / 2, sumN ((p.1.set c.toNat (p.1.getD c.toNat 0 + 32)).map fun n => (n + 1) / 2))
theorem getD_set (l : List Nat) (c v i : Nat) (hc : c < l.length) : (l.set c v).getD i 0 = if i = c then v else l.getD i 0 := by
  simp only [List.getD_eq_getElem?_getD, List.getElem?_set]
  by_cases h : c = i
  · subst h
    rw [if_pos rfl, if_pos rfl, if_pos hc]
    rfl
  · rw [if_neg h, if_neg (Ne.symm h)]
theorem tab_saw {p : List Nat × Nat} (h : Tab p.1 p.2) (c : UInt8) : Tab (sawT p c).1 (sawT p c).2 := by
  have hc : c.toNat < p.1.length := by rw [h.len]; exact c.toNat_lt
  have hs := sumN_set p.1 c.toNat (p.1.getD c.toNat 0 + 32) hc
  have ht := h.tot
  have hb := h.big
  have hl : (p.1.set c.toNat (p.1.getD c.toNat 0 + 32)).length = 256 := by rw [List.length_set, h.len]
  have hp : ∀ i, i < 256 → 1 ≤ (p.1.set c.toNat (p.1.getD c.toNat 0 + 32)).getD i 0 := fun i hi => by
    rw [getD_set _ _ _ _ hc]
    have := h.pos i hi
    split <;> omega
  unfold sawT
  split
  · exact ⟨hl, hp, by show p.2 + 32 = sumN (p.1.set c.toNat (p.1.getD c.toNat 0 + 32)); omega, by show p.2 + 32 ≤ 65536; omega⟩
  · have hh := sumN_half (p.1.set c.toNat (p.1.getD c.toNat 0 + 32))
    refine ⟨by rw [List.length_map]; exact hl, fun i hi => ?_, rfl, ?_⟩
    · have := hp i hi
      show 1 ≤ (List.map (fun n => (n + 1) / 2) (p.1.set c.toNat (p.1.getD c.toNat 0 + 32))).getD i 0
      simp only [List.getD_eq_getElem?_getD] at this hl ⊢
      generalize p.1.set c.toNat (p.1[c.toNat]?.getD 0 + 32) = q at *
      have hi : i < q.length := by rw [hl]; exact hi
      rw [List.getElem?_map, List.getElem?_eq_getElem hi]
      rw [List.getElem?_eq_getElem hi] at this
      have this : 1 ≤ q[i] := this
      show 1 ≤ (q[i] + 1) / 2
      omega
    · show sumN (List.map _ _) ≤ 65536
      omega
def onesN : List Nat := List.replicate 256 1
theorem sumN_rep (n : Nat) : sumN (List.replicate n 1) = n := by
  induction n with
  | zero => rfl
  | succ n ih => rw [List.replicate_succ, sumN, ih]; omega
theorem ones_at (c : Nat) (h : c < 256) : onesN.getD c 0 = 1 := by
  unfold onesN
  rw [List.getD_eq_getElem?_getD, List.getElem?_replicate, if_pos h]
  rfl
theorem tab_ones : Tab onesN 256 := ⟨List.length_replicate .., fun c hc => by rw [ones_at c hc]; exact Nat.le_refl _, by rw [onesN, sumN_rep], by decide⟩
/-- Model 0. -/
def M0 : Mdl := ⟨Unit, fun _ => onesN, fun _ => 256, fun s _ => s, fun _ => True, fun _ _ => tab_ones, fun _ _ h => h⟩
/-- Model 1. -/
def M1 : Mdl := ⟨List Nat × Nat, fun p => p.1, fun p => p.2, sawT, fun p => Tab p.1 p.2, fun _ h => h, fun _ c h => tab_saw h c⟩
def T1 : List Nat × Nat := (onesN, 256)
/-- Model 2: the tables, and the last byte. -/
def M2 : Mdl := ⟨(UInt8 → List Nat × Nat) × UInt8, fun s => (s.1 s.2).1, fun s => (s.1 s.2).2, fun s c => (fun k => if k = s.2 then sawT (s.1 s.2) c else s.1 k, c), fun s => ∀ k, Tab (s.1 k).1 (s.1 k).2, fun s h => h s.2, fun s c h k => by
  show Tab (if k = s.2 then sawT (s.1 s.2) c else s.1 k).1 (if k = s.2 then sawT (s.1 s.2) c else s.1 k).2
  split
  · exact tab_saw (h s.2) c
  · exact h k⟩
def T2 : (UInt8 → List Nat × Nat) × UInt8 := (fun _ => T1, 0)
theorem inv0 : M0.inv () := True.intro
theorem inv1 : M1.inv T1 := tab_ones
theorem inv2 : M2.inv T2 := fun _ => tab_ones
/-! ### Zeros -/
def AllZ (l : List UInt8) : Prop := ∀ b ∈ l, b = 0
theorem norm_zero (n : Nat) : ∀ (size : Nat) (out : List UInt8), 16777216 ≤ size + n → AllZ out → (norm 0 size out).low = 0 ∧ AllZ (norm 0 size out).out := by
  induction n with
  | zero =>
    intro size out hn h
    rw [norm_end (by omega)]
    exact ⟨rfl, h⟩
  | succ n ih =>
    intro size out hn h
    by_cases hc : 0 < size ∧ size < 16777216
    · rw [norm_more hc]
      refine ih (size * 256) _ (by omega) fun b hb => ?_
      rcases List.mem_append.1 hb with hb | hb
      · exact h b hb
      · exact List.mem_singleton.1 hb
    · rw [norm_end hc]
      exact ⟨rfl, h⟩
theorem enc_zero (M : Mdl) (n : Nat) : ∀ (s : M.σ) (e : Enc), e.low = 0 → AllZ e.out → (encS M s e (List.replicate n 0)).low = 0 ∧ AllZ (encS M s e (List.replicate n 0)).out := by
  induction n with
  | zero => intro s e h1 h2; exact ⟨h1, h2⟩
  | succ n ih =>
    intro s e h1 h2
    rw [List.replicate_succ]
    refine ih (M.saw s 0) _ ?_ ?_
    all_goals
      unfold stepE
      rw [show e.low + e.size / M.t s * bef (M.l s) (0 : UInt8).toNat = 0 by rw [h1]; rfl]
    · exact (norm_zero 16777216 _ _ (Nat.le_add_left ..) h2).1
    · exact (norm_zero 16777216 _ _ (Nat.le_add_left ..) h2).2
theorem trim_all : ∀ (n : Nat) (l : List UInt8), l.length ≤ n → AllZ l → trim l = []
  | 0, l, h, _ => by rw [List.eq_nil_of_length_eq_zero (Nat.le_zero.1 h)]; rfl
  | n + 1, l, h, hz => by
    rcases snoc_cases l with rfl | ⟨m, b, rfl⟩
    · rfl
    · have hb : b = 0 := hz b (by simp)
      subst hb
      rw [trim_zero]
      rw [List.length_append] at h
      exact trim_all n m (by have h : m.length + 1 ≤ n + 1 := h; omega) fun b hb => hz b (by simp [hb])
theorem code_zero (M : Mdl) (s : M.σ) (n : Nat) : code M s (List.replicate n 0) = [] := by
  obtain ⟨h1, h2⟩ := enc_zero M n s e0 rfl (fun _ h => by cases h)
  refine trim_all _ _ (Nat.le_refl _) fun b hb => ?_
  unfold full at hb
  rcases List.mem_append.1 hb with hb | hb
  · exact h2 b hb
  · rw [h1] at hb
    simp only [be4, List.mem_cons, List.not_mem_nil, or_false] at hb
    rcases hb with rfl | rfl | rfl | rfl <;> rfl
/-! ### Model 0: at most four bytes more -/
theorem enc0_len : ∀ (x : List UInt8) (e : Enc), Ok e → (encS M0 () e x).out.length = e.out.length + x.length
  | [], _, _ => rfl
  | c :: r, e, h => by
    have hc : c.toNat < 256 := c.toNat_lt
    obtain ⟨q1, j, q2, q3, q4⟩ := step_ok tab_ones h c.toNat hc
    have hlo := h.lo
    have hhi := h.hi
    have hone := ones_at c.toNat hc
    have hl : (stepE onesN 256 e c.toNat).out.length = e.out.length + 1 := by
      unfold stepE
      rw [hone, Nat.mul_one, norm_more ⟨by omega, by omega⟩, norm_end (by omega)]
      show (_ ++ [_] : List UInt8).length = _
      rw [List.length_append]
      show _ + 1 = _
      unfold cut
      split
      · rw [show ((_, carry e.out) : Nat × List UInt8).2 = carry e.out from rfl, carry_len]
      · rfl
    show (encS M0 () (stepE onesN 256 e c.toNat) r).out.length = _
    rw [enc0_len r _ q1, hl, List.length_cons]
    omega
theorem code0_len (x : List UInt8) : (code M0 () x).length ≤ x.length + 4 := by
  refine Nat.le_trans (trim_len _) ?_
  rw [full_len, enc0_len x e0 e0_ok]
  show 0 + x.length + 4 ≤ _
  omega
theorem code_last (M : Mdl) (s : M.σ) (x : List UInt8) (m : List UInt8) (b : UInt8) (h : code M s x = m ++ [b]) : b ≠ 0 := trim_last _ _ (Nat.le_refl _) m b h
/-! ### Models 1 and 2, where all bytes but the last one are 0 -/
theorem enc12 (c : UInt8) (n : Nat) : ∀ (p : List Nat × Nat) (f : UInt8 → List Nat × Nat) (e : Enc), f 0 = p → encS M2 (f, 0) e (List.replicate n 0 ++ [c]) = encS M1 p e (List.replicate n 0 ++ [c]) := by
  induction n with
  | zero =>
    intro p f e h
    subst h
    rfl
  | succ n ih =>
    intro p f e h
    subst h
    exact ih (sawT (f 0) 0) (fun k => if k = 0 then sawT (f 0) 0 else f k) (stepE (f 0).1 (f 0).2 e 0) rfl
theorem code12 (c : UInt8) (n : Nat) : code M1 T1 (List.replicate n 0 ++ [c]) = code M2 T2 (List.replicate n 0 ++ [c]) := by
  unfold code
  rw [show T2 = ((fun _ => T1 : UInt8 → List Nat × Nat), (0 : UInt8)) from rfl, enc12 c n T1 (fun _ => T1) e0 rfl]
end Rc
end Go.Proofs.YtcnpgmohnclojaaDoor
end
section
namespace Go.Proofs.YtcnpgmohnclojaaDoor.V
open Go.RowKit

section
variable {E E' : Env} {T T' : Nat → Prop} {w w' : World}
mutual
/-- How a reading lasts, where the sizes are kept of the blocks alone that have a number. -/
theorem Rep.monoW (hE : ∀ i b, E i = some b → E' i = some b) (hT : ∀ b, b < w.heap.size → T' b → T b) (hz : w.heap.size ≤ w'.heap.size) (hk : ∀ b, b < w.heap.size → ¬ T b → w'.heap[b]? = w.heap[b]?) (hs : ∀ i b x, E i = some (some b) → w.shape? b = some x → w'.shape? b = some x) :
    ∀ {s : SV} {v : Value}, Rep E T w s v → Rep E' T' w' s v
  | _, _, .bool b => .bool b
  | _, _, .int k n h => .int k n h
  | _, _, .str l h => .str l h
  | _, _, .nilp => .nilp
  | _, _, .ptr id off b h => .ptr id off b (hE _ _ h)
  | _, _, .pel id base sz i j b h => .pel id base sz i j b (hE _ _ h)
  | _, _, .rop e i j b o c hT' hn hc hr hi hj hb =>
    .rop e i j b o c (fun h => hT' (hT b hb h)) hn (fun i j v hi hj => (World.cell?_of_block (hk b hb hT')).trans (hc i j v hi hj)) (fun i hi => Items.monoW hE hT hz hk hs (hr i hi)) hi hj (Nat.lt_of_lt_of_le hb hz)
  | _, _, .nils => .nils
  | _, _, .row id base sz sub len b o c n t h hs' ho hl ok => .row id base sz sub len b o c n t (hE _ _ h) (hs _ _ _ h hs') ho hl ok
  | _, _, .row0 id base sz sub len h hl => .row0 id base sz sub len (hE _ _ h) hl
  | _, _, .ro0 e h => .ro0 e h
  | _, _, .ro1 e a h => .ro1 e a h
  | _, _, .ro e b o n k c hT' hn hc hr he hl ok hb =>
    .ro e b o n k c (fun h => hT' (hT b hb h)) hn (fun i j v hi hj => (World.cell?_of_block (hk b hb hT')).trans (hc i j v hi hj)) (fun i hi => Items.monoW hE hT hz hk hs (hr i hi)) he hl ok (Nat.lt_of_lt_of_le hb hz)
  | _, _, .agg l cs h => .agg l cs (Items.monoW hE hT hz hk hs h)
  | _, _, .arr n e cs c hn hl he h1 hc hr => .arr n e cs c hn hl he h1 hc (fun i hi => Items.monoW hE hT hz hk hs (hr i hi))
  | _, _, .tup l vs h => .tup l vs (Tup.monoW hE hT hz hk hs h)
  | _, _, .fn f l vs h => .fn f l vs (Tup.monoW hE hT hz hk hs h)
  | _, _, .mv f l vs h => .mv f l vs (Tup.monoW hE hT hz hk hs h)
  | _, _, .ifc t s v h => .ifc t s v (Rep.monoW hE hT hz hk hs h)
  | _, _, .nili => .nili
  | _, _, .nilf => .nilf
  | _, _, .may1 g s v h hr => .may1 g s v h (Rep.monoW hE hT hz hk hs hr)
  | _, _, .may0 g s h => .may0 g s h
  | _, _, .bsl id len b n t h hs' hl ok => .bsl id len b n t (hE _ _ h) (hs _ _ _ h hs') hl ok
  | _, _, .bsl0 id len h hl => .bsl0 id len (hE _ _ h) hl
  | _, _, .anyi k n => .anyi k n
  | _, _, .val x => .val x
theorem Items.monoW (hE : ∀ i b, E i = some b → E' i = some b) (hT : ∀ b, b < w.heap.size → T' b → T b) (hz : w.heap.size ≤ w'.heap.size) (hk : ∀ b, b < w.heap.size → ¬ T b → w'.heap[b]? = w.heap[b]?) (hs : ∀ i b x, E i = some (some b) → w.shape? b = some x → w'.shape? b = some x) :
    ∀ {l : List SV} {cs : List Value}, Items E T w l cs → Items E' T' w' l cs
  | _, _, .nil => .nil
  | _, _, .one s c l cs h hr hl => .one s c l cs h (Rep.monoW hE hT hz hk hs hr) (Items.monoW hE hT hz hk hs hl)
  | _, _, .arr n e l c1 cs hr hl => .arr n e l c1 cs (Rep.monoW hE hT hz hk hs hr) (Items.monoW hE hT hz hk hs hl)
theorem Tup.monoW (hE : ∀ i b, E i = some b → E' i = some b) (hT : ∀ b, b < w.heap.size → T' b → T b) (hz : w.heap.size ≤ w'.heap.size) (hk : ∀ b, b < w.heap.size → ¬ T b → w'.heap[b]? = w.heap[b]?) (hs : ∀ i b x, E i = some (some b) → w.shape? b = some x → w'.shape? b = some x) :
    ∀ {l : List SV} {vs : List Value}, Tup E T w l vs → Tup E' T' w' l vs
  | _, _, .nil => .nil
  | _, _, .cons s v l vs hr hl => .cons s v l vs (Rep.monoW hE hT hz hk hs hr) (Tup.monoW hE hT hz hk hs hl)
end
end

/-- All numbers but those of the first blocks. -/
@[reducible] def kill2 : List Nat := [2, 3, 4, 5, 6, 7, 8, 9, 10, 11, 12, 13, 14, 15, 16, 17, 18, 19, 20, 21, 22, 23, 24, 25, 26, 27, 28, 29, 30, 31, 32, 33, 34, 35, 36, 37, 38, 39, 40, 41, 42, 43, 44, 45, 46, 47, 48, 49, 50, 51, 52, 53, 54, 55, 56, 57, 58, 59]
@[reducible] def kill3 : List Nat := [3, 4, 5, 6, 7, 8, 9, 10, 11, 12, 13, 14, 15, 16, 17, 18, 19, 20, 21, 22, 23, 24, 25, 26, 27, 28, 29, 30, 31, 32, 33, 34, 35, 36, 37, 38, 39, 40, 41, 42, 43, 44, 45, 46, 47, 48, 49, 50, 51, 52, 53, 54, 55, 56, 57, 58, 59]
@[reducible] def kill4 : List Nat := [4, 5, 6, 7, 8, 9, 10, 11, 12, 13, 14, 15, 16, 17, 18, 19, 20, 21, 22, 23, 24, 25, 26, 27, 28, 29, 30, 31, 32, 33, 34, 35, 36, 37, 38, 39, 40, 41, 42, 43, 44, 45, 46, 47, 48, 49, 50, 51, 52, 53, 54, 55, 56, 57, 58, 59]
/-! ### What a write reckons -/
def idsM (j : Option Nat) : Mem → List Nat
  | [] => []
  | (k, _) :: r => match j with
    | some j' => match Nat.beq k j' with
      | true => idsM j r
      | false => k :: idsM j r
    | none => k :: idsM none r
/-- The other blocks: none of the elements' type; what they hold has numbers that stay. -/
def bufK (p : List Nat) (e : TypeId) (i : Nat) (j : Option Nat) : Mem → Option (List Prop)
  | [] => some []
  | (k, B) :: r => match Nat.beq k i || (match j with
      | some j' => Nat.beq k j'
      | none => false) with
    | true => bufK p e i j r
    | false => match B with
      | .cells t l => match Nat.beq t e with
        | true => none
        | false => match kpL p l with
          | some φ => match bufK p e i j r with
            | some ψ => some (φ ++ ψ)
            | none => none
          | none => none
      | .row t x => match Nat.beq t e with
        | true => none
        | false => match kpE x with
          | some φ => match bufK p e i j r with
            | some ψ => some (φ ++ ψ)
            | none => none
          | none => none
      | .obj _ => none
def lastB : SV → Bool
  | .anyi .i8 => true
  | .int .i8 _ => true
  | _ => false
structure BufR where
  t : TypeId
  j : Option Nat
  l : List UInt8
  φ : List Prop
/-- The buffer in block i: what it holds, and in which row. -/
def bufAt (e : TypeId) (M : Mem) (i : Nat) : Option BufR :=
  match find M i with
  | some (.cells t [s0, .int .i64 (.ofNat 0), z]) => match lastB z with
    | true => match s0 with
      | .nils => some ⟨t, none, [], []⟩
      | .bsl j len => match find M j with
        | some (.row e' (.u8 l)) => match Nat.beq e' e with
          | true => some ⟨t, some j, l, [len = l.length]⟩
          | false => none
        | _ => none
      | _ => none
    | false => none
  | _ => none
structure BufO where
  G : Tr
  M : Mem
  φ : List Prop
def bufM (pins : List Nat) (e : TypeId) (F : Tr) (M : Mem) (i nx : Nat) (m : List UInt8) : Option BufO :=
  match bufAt e M i with
  | some ⟨t, j, l, φ0⟩ => match keepT (idsM j M) F, bufK (idsM j M) e i j M, pins.all (idsM j M).elem with
    | some (G, φ), some ψ, true => match upd (delO M j) i (.cells t [.bsl nx (l ++ m).length, .int .i64 0, .anyi .i8]) with
      | some M1 => fM M1 fun M1 => fP ((l.length + m.length ≤ 140737488355328) :: (φ0 ++ (φ ++ ψ))) fun χ => some ⟨G, (nx, .row e (.u8 (l ++ m))) :: M1, χ⟩
      | none => none
    | _, _, _ => none
  | none => none

/-! ### What it says -/
theorem idsM_mem {j : Option Nat} : ∀ {M : Mem} {k : Nat}, (idsM j M).elem k = true → (find M k).isSome = true ∧ some k ≠ j
  | [], k, h => by simp [idsM] at h
  | (k0, B) :: r, k, h => by
    unfold idsM at h
    split at h
    · rename_i j'
      split at h
      · obtain ⟨q1, q2⟩ := idsM_mem h
        refine ⟨?_, q2⟩
        rw [find_cons]
        split
        · rfl
        · exact q1
      · rename_i hne
        rw [find_cons]
        by_cases e : k = k0
        · subst e
          rw [if_pos rfl]
          exact ⟨rfl, fun hj => by cases hj; simp at hne⟩
        · rw [if_neg e]
          refine idsM_mem ?_
          simpa [List.elem_cons, e] using h
    · rw [find_cons]
      by_cases e : k = k0
      · rw [if_pos e]; exact ⟨rfl, by simp⟩
      · rw [if_neg e]
        refine idsM_mem ?_
        simpa [List.elem_cons, e] using h
/-- What is known of another block. -/
def othK (p : List Nat) (e : TypeId) : Blk → Prop
  | .cells t l => t ≠ e ∧ keepL p.elem l
  | .row t x => t ≠ e ∧ pureE x
  | .obj _ => False
theorem bufK_at {p : List Nat} {e : TypeId} {i : Nat} {j : Option Nat} : ∀ {M : Mem} {φ : List Prop}, bufK p e i j M = some φ → AllP φ → ∀ k B, find M k = some B → k ≠ i → some k ≠ j → othK p e B
  | [], φ, h, hφ, k, B, hf, _, _ => by simp [find] at hf
  | (k0, B0) :: r, φ, h, hφ, k, B, hf, h1, h2 => by
    rw [find_cons] at hf
    simp only [bufK] at h
    split at h
    · rename_i hk
      split at hf
      · rename_i he
        subst he
        exfalso
        simp only [Bool.or_eq_true] at hk
        rcases hk with hk | hk
        · exact h1 (Nat.eq_of_beq_eq_true hk)
        · split at hk
          · exact h2 (by rw [Nat.eq_of_beq_eq_true hk])
          · cases hk
      · exact bufK_at h hφ k B hf h1 h2
    · split at h
      · rename_i t l
        split at h
        · cases h
        · rename_i hne
          split at h
          · rename_i φ1 hφ1
            split at h
            · rename_i ψ hψ
              simp only [Option.some.injEq] at h
              subst h
              obtain ⟨q1, q2⟩ := AllP.app hφ
              split at hf
              · cases hf
                exact ⟨fun e => by subst e; simp at hne, kpL_ok hφ1 q1⟩
              · exact bufK_at hψ q2 k B hf h1 h2
            · cases h
          · cases h
      · rename_i t x
        split at h
        · cases h
        · rename_i hne
          split at h
          · rename_i φ1 hφ1
            split at h
            · rename_i ψ hψ
              simp only [Option.some.injEq] at h
              subst h
              obtain ⟨q1, q2⟩ := AllP.app hφ
              split at hf
              · cases hf
                exact ⟨fun e => by subst e; simp at hne, kpE_ok hφ1 q1⟩
              · exact bufK_at hψ q2 k B hf h1 h2
            · cases h
          · cases h
      · cases h

abbrev bytesC (l : List UInt8) : List Value := Lib.byteCells l
theorem bytesC_at (l : List UInt8) (i : Nat) (h : i < l.length) : (bytesC l)[i]? = some (.int .u8 ((l.getD i 0).toNat : Int)) := by
  simp [bytesC, Lib.byteCells, List.getD_eq_getElem?_getD, h]
theorem bytesC_len (l : List UInt8) : (bytesC l).length = l.length := Lib.byteCells_length l
theorem bytesC_app (l m : List UInt8) : bytesC (l ++ m) = bytesC l ++ bytesC m := by simp [bytesC, Lib.byteCells]
theorem bytesC_one (l : List UInt8) : ∀ v ∈ bytesC l, v.oneCell' = true := by
  intro v hv
  simp only [bytesC, Lib.byteCells, List.mem_map] at hv
  obtain ⟨b, _, rfl⟩ := hv
  rfl
theorem inR_byte (b : UInt8) : inR .u8 (b.toNat : Int) := by
  have := b.toNat_lt
  refine inR_u8' ?_ ?_ <;> omega

section
variable {C : Ctx} {F G : Tr} {M : Mem} {U : Nat → Prop} {E : Env} {a : Act} {w w' : World}
/-- The buffer is one, as the library's contracts ask. -/
theorem buf_in (hst : St C F M U E a w) (hS : ∀ b, ¬ C.S b) {e : TypeId} {i b : Nat} {r : BufR} (h : bufAt e M i = some r) (hφ : AllP r.φ) (hE : E i = some (some b)) :
    LibA.IsBuffer r.t (fun _ => none) e C.W0.heap.size b 0 (bytesC r.l) w := by
  unfold bufAt at h
  split at h
  · rename_i t s0 z hf
    split at h
    · rename_i hz
      obtain ⟨hb, cs, hh, hI⟩ := hst.mem.at hf hE
      have hown : C.W0.heap.size ≤ b := (hst.own i b (by rw [hf]; rfl) hE).resolve_right (hS b)
      cases hI with
      | arr => dsimp only at h; cases h
      | one _ v0 _ _ q0 r0 hI =>
      cases hI with
      | one _ v1 _ _ q1 r1 hI =>
      cases hI with
      | arr => simp [lastB] at hz
      | one _ v2 _ _ q2 r2 hI =>
      cases hI
      cases r1
      have h3 : ∃ lr, v2 = .int .i8 lr := by
        unfold lastB at hz
        split at hz
        · cases r2; exact ⟨_, rfl⟩
        · cases r2; exact ⟨_, rfl⟩
        · cases hz
      obtain ⟨lr, rfl⟩ := h3
      have h3 := LibA.three_whole (w := w) (b := b) (T := t) (x := v0) (y := .int .i64 0) (z := .int .i8 lr) hh
      split at h
      · simp only [Option.some.injEq] at h
        subst h
        cases r0
        exact ⟨hown, _, lr, h3, World.ownsRow_nil _ _ _ _, by simp [Value.ownBlock]⟩
      · rename_i j len
        split at h
        · rename_i e' l hj
          split at h
          · rename_i he
            simp only [Option.some.injEq] at h
            subst h
            cases Nat.eq_of_beq_eq_true he
            have hlen : len = l.length := hφ.1
            dsimp only
            refine ⟨hown, v0, lr, h3, ?_, ?_⟩
            · refine ⟨by simp, ?_⟩
              rw [bytesC_len]
              cases r0 with
              | bsl0 _ _ hEj hl => exact .inl ⟨rfl, by omega⟩
              | bsl _ _ g n t' hEj hs hl ok =>
                obtain ⟨hg, cur, c, hc0, hc1, hc2, hc3, hc4⟩ := hst.mem.at hj hEj
                have hn : n = cur.length := by
                  simp only [World.shape?, hc0] at hs
                  simpa using (Prod.mk.inj (Option.some.inj hs)).2.symm
                have hgo : C.W0.heap.size ≤ g := (hst.own j g (by rw [hj]; rfl) hEj).resolve_right (hS g)
                refine .inr ⟨g, n, cur.toArray, by rw [hlen], hgo, hc0, by omega, ok, by simp [hn], ?_⟩
                simp only [EV.len, EV.sz, Nat.mul_one] at hc1 hc2 hc3 hc4 ⊢
                refine List.ext_getElem? fun x => ?_
                rw [List.getElem?_take]
                by_cases hx : x < l.length
                · rw [if_pos hx, bytesC_at l x hx]
                  have hI4 := hc4 x hx
                  simp only [EV.items] at hI4
                  have hc5 := hc3 x 0
                  generalize c x = cx at hI4 hc5
                  cases hI4 with
                  | one _ cv _ _ p0 pr pI =>
                    have h4 := hc5 cv hx rfl
                    cases pr
                    simpa using h4
                · rw [if_neg hx, List.getElem?_eq_none (by rw [bytesC_len]; omega)]
            · cases r0 with
              | bsl0 _ _ hEj hl => simp [Value.ownBlock]
              | bsl _ _ g n t' hEj hs hl ok =>
                simp only [Value.ownBlock, ne_eq, Option.some.injEq]
                intro hgb
                subst hgb
                have := hst.mem.inj j i g (by rw [hj]; rfl) (by rw [hf]; rfl) hEj hE
                subst this
                rw [hf] at hj
                cases hj
          · cases h
        · cases h
      · cases h
    · cases h
  · cases h

theorem three_whole' {b : Nat} {T : TypeId} {x y z : Value} (h : LibA.Three w b 0 T (fun _ => none) x y z) : w.heap[b]? = some (.cells #[x, y, z] T (0, 0)) := by
  obtain ⟨cs, h0, h1, h2, h3, h4⟩ := h
  rw [h0]
  have hs : cs.size = 3 := by
    have q1 := (Array.getElem?_eq_some_iff.1 h3).1
    have q2 := h4 3 (by omega)
    rw [Array.getElem?_eq_none_iff] at q2
    omega
  have : cs = #[x, y, z] := by
    apply Array.ext (by simpa using hs)
    intro k k1 k2
    have hk : k < 3 := by omega
    match k, hk with
    | 0, _ => exact (Array.getElem?_eq_some_iff.1 h1).2
    | 1, _ => exact (Array.getElem?_eq_some_iff.1 h2).2
    | 2, _ => exact (Array.getElem?_eq_some_iff.1 h3).2
  rw [this]
/-- What the buffer is, once written. -/
theorem row_of {t e : TypeId} {B b : Nat} {l : List UInt8} (h : LibA.IsBuffer t (fun _ => none) e B b 0 (bytesC l) w) : ∃ gx : Option Nat,
    (∃ v lr, w.heap[b]? = some (.cells #[v, .int .i64 0, .int .i8 lr] t (0, 0)) ∧ ∀ (E : Env) (T : Nat → Prop) (nx : Nat), E nx = some gx → Rep E T w (.bsl nx l.length) v) ∧
    ((∃ g cur, gx = some g ∧ B ≤ g ∧ g ≠ b ∧ w.heap[g]? = some (.cells cur e (0, 0)) ∧ ∀ (E : Env) (T : Nat → Prop), BOk E T w g (.row e (.u8 l))) ∨ (gx = none ∧ l.length = 0)) := by
  obtain ⟨hB, v, lr, h3, ⟨hxl, hown⟩, hne⟩ := h
  have h3' := three_whole' h3
  rw [bytesC_len] at hown
  rcases hown with ⟨rfl, h0⟩ | ⟨g, cap, cur, rfl, hBg, hg, hnc, hcm, hcs, htk⟩
  · exact ⟨none, ⟨_, lr, h3', fun E T nx hE => .bsl0 _ _ hE h0⟩, .inr ⟨rfl, h0⟩⟩
  · rw [Nat.mul_one] at hcs htk
    refine ⟨some g, ⟨_, lr, h3', fun E T nx hE => .bsl _ _ g cap e hE (by simp [World.shape?, hg, hcs]) hnc hcm⟩, .inl ⟨g, cur, rfl, hBg, fun e => hne (by simp [Value.ownBlock, e]), hg, fun E T => ?_⟩⟩
    have hat : ∀ i, i < l.length → cur.toList[i]? = some (.int .u8 ((l.getD i 0).toNat : Int)) := fun i hi => by
      have := congrArg (·[i]?) htk
      simp only [List.getElem?_take, if_pos hi, bytesC_at l i hi] at this
      exact this
    refine ⟨cur.toList, fun i => [.int .u8 ((l.getD i 0).toNat : Int)], hg, by simp [EV.len, EV.sz]; omega, fun i _ => rfl, fun i j v hi hv => ?_, fun i hi => ?_⟩
    · match j, hv with
      | 0, hv =>
        simp at hv
        subst hv
        have := hat i hi
        simpa [EV.sz] using this
      | j + 1, hv => simp at hv
    · exact .one _ _ _ _ rfl (.int _ _ (inR_byte _)) .nil

variable {nx : Nat} {M' : Mem} {φ : List Prop}
theorem bufAt_find {e : TypeId} {i : Nat} {r : BufR} (h : bufAt e M i = some r) : ∃ s0 z, find M i = some (.cells r.t [s0, .int .i64 0, z]) ∧ ∀ j, r.j = some j → ∃ l, find M j = some (.row e (.u8 l)) := by
  unfold bufAt at h
  split at h
  · rename_i t s0 z hf
    split at h
    · split at h
      · simp only [Option.some.injEq] at h
        subst h
        exact ⟨_, z, hf, fun j hj => by cases hj⟩
      · split at h
        · rename_i e' l hj
          split at h
          · rename_i he
            cases Nat.eq_of_beq_eq_true he
            simp only [Option.some.injEq] at h
            subst h
            exact ⟨_, z, hf, fun j hj' => by cases hj'; exact ⟨l, hj⟩⟩
          · cases h
        · cases h
      · cases h
    · cases h
  · cases h
theorem bufM_inv {pins : List Nat} {e : TypeId} {i : Nat} {m : List UInt8} (h : bufM pins e F M i nx m = some ⟨G, M', φ⟩) (hφ : AllP φ) : ∃ r φ1 φ2 M1, bufAt e M i = some r ∧ AllP r.φ ∧ r.l.length + m.length ≤ 140737488355328 ∧
    keepT (idsM r.j M) F = some (G, φ1) ∧ AllP φ1 ∧ bufK (idsM r.j M) e i r.j M = some φ2 ∧ AllP φ2 ∧ pins.all (idsM r.j M).elem = true ∧ upd (delO M r.j) i (.cells r.t [.bsl nx (r.l ++ m).length, .int .i64 0, .anyi .i8]) = some M1 ∧ M' = (nx, .row e (.u8 (r.l ++ m))) :: M1 := by
  unfold bufM at h
  split at h
  · rename_i t j l φ0 hr
    split at h
    · rename_i G' φ1 φ2 h1 h2 h3
      split at h
      · rename_i M1 hM1
        rw [fM_eq, fP_eq] at h
        simp only [Option.some.injEq, BufO.mk.injEq] at h
        obtain ⟨rfl, rfl, rfl⟩ := h
        obtain ⟨p1, p2⟩ := hφ
        obtain ⟨p2, p3⟩ := AllP.app p2
        obtain ⟨p3, p4⟩ := AllP.app p3
        exact ⟨⟨t, j, l, φ0⟩, φ1, φ2, M1, hr, p2, p1, h1, p3, h2, p4, h3, hM1, rfl⟩
      · cases h
    · cases h
  · cases h
theorem Chg.of_heap {S : Nat → Prop} {w0 w w' : World} (h : Chg S w0 w) (hb : Below w0.heap.size w w') : Chg S w0 w' :=
  ⟨Nat.le_trans h.size hb.size, fun b hlt hS => (hb.block b hlt).trans (h.keep b hlt hS), fun b hlt => by
    have := h.shape b hlt
    simp only [World.shape?] at this ⊢
    rw [hb.block b hlt]
    exact this⟩
/-- The state, once the buffer is written. -/
theorem buf_out (hst : St C F M U E a w) (hU : U nx) (hS : ∀ b, ¬ C.S b) (hW : ∀ b, C.W0.heap.size ≤ b → C.T0 b) {e : TypeId} {i b : Nat} {m : List UInt8} {r : BufR} {φ1 φ2 : List Prop} {M1 : Mem} (hr : bufAt e M i = some r) (hφ : AllP r.φ) (hE : E i = some (some b))
    (hG : keepT (idsM r.j M) F = some (G, φ1)) (hφ1 : AllP φ1) (hK : bufK (idsM r.j M) e i r.j M = some φ2) (hφ2 : AllP φ2) (hp : C.pins.all (idsM r.j M).elem = true) (hM : upd (delO M r.j) i (.cells r.t [.bsl nx (r.l ++ m).length, .int .i64 0, .anyi .i8]) = some M1)
    (hB : LibA.IsBuffer r.t (fun _ => none) e C.W0.heap.size b 0 (bytesC (r.l ++ m)) w') (hbel : Below C.W0.heap.size w w') (hok : Lib.OthersKept e (some b) w w') :
    ∃ E', St C G ((nx, .row e (.u8 (r.l ++ m))) :: M1) (rest U nx) E' a w' := by
  have hB0 := buf_in hst hS hr hφ hE
  obtain ⟨s0, z, hfi, hfj⟩ := bufAt_find hr
  obtain ⟨gx, ⟨v, lr, hb', hv⟩, hrow⟩ := row_of hB
  have hb0 : ∃ v0 lr0, w.heap[b]? = some (.cells #[v0, .int .i64 0, .int .i8 lr0] r.t (0, 0)) := by
    obtain ⟨_, v0, lr0, h3, _⟩ := hB0
    exact ⟨v0, lr0, three_whole' h3⟩
  obtain ⟨v0, lr0, hb0⟩ := hb0
  have hnx := hst.fresh nx hU
  have hold : ∀ k x, E k = some x → envWith E nx gx k = some x := envWith_old hnx
  have hkeep : ∀ k, k < w.heap.size → ¬ trk C.T0 M E k → w'.heap[k]? = w.heap[k]? := fun k _ hn => by
    refine hbel.block k ?_
    rcases Nat.lt_or_ge k C.W0.heap.size with h | h
    · exact h
    · exact absurd (.inr (hW k h)) hn
  have hij : some i ≠ r.j := fun hj => by
    obtain ⟨l, hl⟩ := hfj i hj.symm
    rw [hfi] at hl
    cases hl
  have hoth : ∀ k B k', find M k = some B → k ≠ i → some k ≠ r.j → E k = some (some k') → w'.heap[k']? = w.heap[k']? ∧ ∃ cs t, w.heap[k']? = some (.cells cs t (0, 0)) ∧ t ≠ e := fun k B k' hf h1 h2 hEk => by
    have hK' := bufK_at hK hφ2 k B hf h1 h2
    obtain ⟨_, hBk⟩ := hst.mem.at hf hEk
    have hne : some k' ≠ some b := fun hh => by
      cases hh
      exact h1 (hst.mem.inj k i b (by rw [hf]; rfl) (by rw [hfi]; rfl) hEk hE)
    have key : ∀ cs t, w.heap[k']? = some (.cells cs t (0, 0)) → t ≠ e → w'.heap[k']? = w.heap[k']? ∧ ∃ cs t, w.heap[k']? = some (.cells cs t (0, 0)) ∧ t ≠ e := fun cs t hh ht =>
      ⟨(hok k' _ hh hne fun c fz hc => ht (by cases hc; rfl)).trans hh.symm, cs, t, hh, ht⟩
    cases B with
    | cells t l => obtain ⟨cs, hh, _⟩ := hBk; exact key _ _ hh hK'.1
    | row t x => obtain ⟨cs, c, hh, _⟩ := hBk; exact key _ _ hh hK'.1
    | obj o => exact hK'.elim
  have hlive : ∀ k, (idsM r.j M).elem k = true → ∀ k' x, E k = some (some k') → w.shape? k' = some x → w'.shape? k' = some x := fun k hk k' x hEk hx => by
    obtain ⟨h1, h2⟩ := idsM_mem hk
    obtain ⟨B, hf⟩ := Option.isSome_iff_exists.1 h1
    by_cases hki : k = i
    · subst hki
      rw [hE] at hEk
      cases hEk
      rw [← hx]
      simp [World.shape?, hb0, hb']
    · have := (hoth k B k' hf hki h2 hEk).1
      simpa only [World.shape?, this] using hx
  have hshp : ∀ k k' x, pinE (idsM r.j M).elem E k = some (some k') → w.shape? k' = some x → w'.shape? k' = some x := fun k k' x hEk hx => by
    unfold pinE at hEk
    split at hEk
    · rename_i hk; exact hlive k hk k' x hEk hx
    · cases hEk
  have hfind : ∀ k B, find ((nx, .row e (.u8 (r.l ++ m))) :: M1) k = some B → (k = nx ∧ B = .row e (.u8 (r.l ++ m))) ∨ (k ≠ nx ∧ k = i ∧ B = .cells r.t [.bsl nx (r.l ++ m).length, .int .i64 0, .anyi .i8]) ∨ (k ≠ nx ∧ k ≠ i ∧ some k ≠ r.j ∧ find M k = some B) := fun k B hf => by
    rw [find_cons] at hf
    split at hf
    · rename_i hk; cases hf; exact .inl ⟨hk, rfl⟩
    · rename_i hk
      rw [find_upd hM] at hf
      split at hf
      · rename_i hk2; cases hf; exact .inr (.inl ⟨hk, hk2, rfl⟩)
      · rename_i hk2
        obtain ⟨q1, q2⟩ := find_delO hf
        exact .inr (.inr ⟨hk, hk2, q2, q1⟩)
  have hEnx : envWith E nx gx nx = some gx := by simp [envWith]
  have hEne : ∀ k, k ≠ nx → envWith E nx gx k = E k := fun k hk => by simp [envWith, hk]
  have hown : ∀ k k', (find ((nx, .row e (.u8 (r.l ++ m))) :: M1) k).isSome = true → envWith E nx gx k = some (some k') → C.W0.heap.size ≤ k' := fun k k' hf hEk => by
    obtain ⟨B, hf⟩ := Option.isSome_iff_exists.1 hf
    rcases hfind k B hf with ⟨rfl, _⟩ | ⟨h1, rfl, _⟩ | ⟨h1, _, _, h2⟩
    · rw [hEnx] at hEk
      cases hEk
      rcases hrow with ⟨g, cur, hg, q, _⟩ | ⟨hg, _⟩
      · cases hg; exact q
      · cases hg
    · rw [hEne _ h1] at hEk
      exact (hst.own _ _ (by rw [hfi]; rfl) hEk).resolve_right (hS _)
    · rw [hEne _ h1] at hEk
      exact (hst.own _ _ (by rw [h2]; rfl) hEk).resolve_right (hS _)
  have hT : ∀ k, k < w.heap.size → trk C.T0 ((nx, .row e (.u8 (r.l ++ m))) :: M1) (envWith E nx gx) k → trk C.T0 M E k := by
    rintro k _ (⟨id, B, hf, hEk⟩ | h0)
    · exact .inr (hW k (hown id k (by rw [hf]; rfl) hEk))
    · exact .inr h0
  have hpe : ∀ k x, pinE (idsM r.j M).elem E k = some x → envWith E nx gx k = some x := fun k x h => by
    unfold pinE at h
    split at h
    · exact hold k x h
    · cases h
  refine ⟨envWith E nx gx, hst.defers, hst.size, fun t s hs => ?_, ⟨fun k B hf => ?_, fun k1 k2 k' h1 h2 h3 h4 => ?_⟩, fun k k' h1 h2 => .inl (hown k k' h1 h2), fun k hk => ?_, ?_, hst.hid, ?_, fun p hp' k x hx => ?_, fun p hp' t s hs => ?_⟩
  · obtain ⟨q1, q2⟩ := keepT_ok hG hφ1 t s hs
    exact ((hst.slots t s q1).keep q2).monoW hpe hT hbel.size hkeep hshp
  · rcases hfind k B hf with ⟨rfl, rfl⟩ | ⟨h1, rfl, rfl⟩ | ⟨h1, h2, h3, h4⟩
    · rcases hrow with ⟨g, cur, rfl, q1, q2, q3, q4⟩ | ⟨rfl, q1⟩
      · exact .inl ⟨g, hEnx, Lib.lt_of_heap q3, q4 _ _⟩
      · exact .inr ⟨hEnx, e, _, rfl, q1⟩
    · refine .inl ⟨b, by rw [hEne _ h1]; exact hE, Lib.lt_of_heap hb', [v, .int .i64 0, .int .i8 lr], hb', ?_⟩
      exact .one _ _ _ _ rfl (hv _ _ nx hEnx) (.one _ _ _ _ rfl (.int _ _ (inR_i64 (by omega) (by omega))) (.one _ _ _ _ rfl (.anyi _ _) .nil))
    · rcases hst.mem.blk k B h4 with ⟨k', q1, q2, q3⟩ | ⟨q1, q2⟩
      · refine .inl ⟨k', hold _ _ q1, Nat.lt_of_lt_of_le q2 hbel.size, ?_⟩
        have hh := (hoth k B k' h4 h2 h3 q1).1
        have hK' := bufK_at hK hφ2 k B h4 h2 h3
        cases B with
        | cells t l =>
          obtain ⟨cs, p1, p2⟩ := q3
          exact ⟨cs, hh.trans p1, (p2.keep hK'.2).monoW hpe hT hbel.size hkeep hshp⟩
        | row t x =>
          obtain ⟨cs, c, p1, p2, p3, p4, p5⟩ := q3
          exact ⟨cs, c, hh.trans p1, p2, p3, p4, fun i hi => ((p5 i hi).free_ (E' := fun _ => none) (hK'.2.items hi)).monoW (fun _ _ h => by cases h) hT hbel.size hkeep (fun _ _ _ h => by cases h)⟩
        | obj o => exact hK'.elim
      · exact .inr ⟨hold _ _ q1, q2⟩
  · obtain ⟨B1, f1⟩ := Option.isSome_iff_exists.1 h1
    obtain ⟨B2, f2⟩ := Option.isSome_iff_exists.1 h2
    have hx : ∀ k B, k ≠ nx → find ((nx, .row e (.u8 (r.l ++ m))) :: M1) k = some B → envWith E nx gx k = some (some k') → gx ≠ some k' := fun k B hk hf hEk hg => by
      rw [hEne _ hk] at hEk
      rcases hrow with ⟨g, cur, q0, q1, q2, q3, _⟩ | ⟨q0, _⟩
      · rw [hg] at q0
        cases q0
        rcases hfind k B hf with ⟨q, _⟩ | ⟨_, rfl, _⟩ | ⟨_, p1, p2, p3⟩
        · exact hk q
        · rw [hE] at hEk; cases hEk; exact q2 rfl
        · obtain ⟨p4, cs, t, p5, p6⟩ := hoth k B k' p3 p1 p2 hEk
          rw [p4, p5] at q3
          cases q3
          exact p6 rfl
      · rw [hg] at q0; cases q0
    by_cases e1 : k1 = nx
    · by_cases e2 : k2 = nx
      · omega
      · exfalso
        rw [e1, hEnx] at h3
        exact hx k2 B2 e2 f2 h4 (by simpa using h3)
    · by_cases e2 : k2 = nx
      · exfalso
        rw [e2, hEnx] at h4
        exact hx k1 B1 e1 f1 h3 (by simpa using h4)
      · rw [hEne _ e1] at h3
        rw [hEne _ e2] at h4
        have hs : ∀ k B, k ≠ nx → find ((nx, .row e (.u8 (r.l ++ m))) :: M1) k = some B → (find M k).isSome = true := fun k B hk hf => by
          rcases hfind k B hf with ⟨q, _⟩ | ⟨_, rfl, _⟩ | ⟨_, _, _, p3⟩
          · exact absurd q hk
          · rw [hfi]; rfl
          · rw [p3]; rfl
        exact hst.mem.inj k1 k2 k' (hs k1 B1 e1 f1) (hs k2 B2 e2 f2) h3 h4
  · rw [hEne _ hk.2]
    exact hst.fresh k hk.1
  · exact ⟨hbel.os.trans hst.kp.os, hbel.tape.trans hst.kp.tape, hbel.output.trans hst.kp.output, hst.kp.chg.of_heap hbel⟩
  · refine ⟨fun g x hg => (hst.glob.rep g x hg).monoW (fun _ _ h => by cases h) hT hbel.size hkeep (fun _ _ _ h => by cases h), fun g x hg => ?_⟩
    obtain ⟨t, ht⟩ := hst.glob.shp g x hg
    refine ⟨t, ?_⟩
    have hr := hst.glob.rep g x hg
    generalize hadr : (⟨g, 0, none⟩ : Addr) = ad at hr
    cases hr with
    | rop _ _ _ b' o c hT' _ _ _ _ _ hb =>
      have hgb : g = b' := congrArg Addr.block hadr
      subst hgb
      simpa only [World.shape?, hkeep g hb hT'] using ht
  · obtain ⟨q1, q2⟩ := hst.pin p hp' k x hx
    exact ⟨q1, hold _ _ q2⟩
  · refine (hst.held p hp' t s hs).monoW (fun _ _ h => h) hT hbel.size hkeep fun k k' x hEk hx => ?_
    obtain ⟨q1, q2⟩ := hst.pin p hp' k (some k') hEk
    exact hlive k (List.all_eq_true.1 hp k (by simpa using q1)) k' x q2 hx

/-! ### The rules -/
/-- What a method of a buffer writes, and what it returns. -/
def BufOk (P : Program) (e : TypeId) (f : FuncId) (args : List SV) (res : SV) (m : List UInt8) : Prop :=
  ∀ (T : TypeId) (B b : Nat) (l : List UInt8) (w : World) (vs : List Value), LibA.IsBuffer T (fun _ => none) e B b 0 (bytesC l) w → B ≤ w.heap.size → l.length + m.length ≤ 140737488355328 → Tup E0 (fun _ => False) w args vs →
    Calls P f (Value.pointer (some ⟨b, 0, none⟩) :: vs).toArray w fun en w' => (∃ v, en = .returned v ∧ ∀ (E : Env) (T : Nat → Prop) (w : World), Rep E T w res v) ∧ LibA.IsBuffer T (fun _ => none) e B b 0 (bytesC (l ++ m)) w' ∧ Below B w w' ∧ Lib.OthersKept e (some b) w w'
variable {Q0 : Exit → Act → World → Prop} {F' : Tr} {ids' : List Nat} {k : List Kont}
theorem Sat.buf {full rest : List Oper} {d : Option Tmp} {x : Operand} {f : FuncId} {xs : List Operand} {ats : Array TypeId} {type : TypeId} {pos : String} {after : Array Edge} {svs args : List SV} {res : SV} {i : Nat} {e : TypeId} {m : List UInt8}
    (hspec : BufOk C.P e f args res m) (hx : argsF C.Γ F x xs = some (f, .ptr i 0 :: svs)) (hc : callable C.P f = true) (hconv : Convs M svs args) (hb : bufM C.pins e F M i nx m = some ⟨G, M', φ⟩) (hφ : AllP φ) (hp : putD C.N G d (some res) some = some F')
    (hS : ∀ b, ¬ C.S b) (hW : ∀ b, C.W0.heap.size ≤ b → C.T0 b) (h : Sat C Q0 (.reg full rest F' M' ids' k)) :
    Sat C Q0 (.reg full (⟨d, .call ⟨.value x, ⟨xs⟩, ats⟩, type, pos, after, none⟩ :: rest) F M (nx :: ids') k) := by
  intro U E a w hsup hst
  obtain ⟨F1, h1, h2⟩ := putD_inv hp
  cases h1
  refine wpList_plain rfl fun K hK => ?_
  unfold Oper.wp
  obtain ⟨vs, ht, hex⟩ := argsF_ok hst.vw hx
  rw [hex, run_callFunc_go hc]
  obtain ⟨r, φ1, φ2, M1, q1, q2, q3, q4, q5, q6, q7, q8, q9, rfl⟩ := bufM_inv hb hφ
  cases ht with
  | cons _ v0 _ vs hr ht =>
  cases hr with
  | ptr _ _ b hE =>
  have ht' := Convs.tups (T' := fun _ => False) hst.mem (fun _ _ h => h.elim) (fun _ _ _ _ h => h) hconv ht
  refine (hspec r.t C.W0.heap.size b r.l w vs (buf_in hst hS q1 q2 hE) hst.kp.chg.size q3 ht').mono ?_
  rintro en w' ⟨⟨v, rfl, hv⟩, hB, hbel, hok⟩
  obtain ⟨E', hst'⟩ := buf_out hst hsup.1 hS hW q1 q2 hE q4 q5 q6 q7 q8 q9 hB hbel hok
  exact hK _ _ (h _ E' _ w' hsup.2 (hst'.putD h2 fun s' hs' => by cases hs'; exact hv _ _ _))
/-- A pure call in the mode in which everything new is hidden: its result is no memory. -/
theorem Sat.callW {full rest : List Oper} {d : Option Tmp} {x : Operand} {f : FuncId} {xs : List Operand} {ats : Array TypeId} {type : TypeId} {pos : String} {after : Array Edge} {svs args : List SV} {res : SV} {ids : List Nat}
    (hspec : Fun C.P C.Γ f args res) (hrig : rigid res = true) (hx : argsF C.Γ F x xs = some (f, svs)) (hc : callable C.P f = true) (hconv : Convs [] svs args) (hp : putD C.N F d (some res) some = some F') (h : Sat C Q0 (.reg full rest F' M ids k)) :
    Sat C Q0 (.reg full (⟨d, .call ⟨.value x, ⟨xs⟩, ats⟩, type, pos, after, none⟩ :: rest) F M ids k) := by
  intro U E a w hsup hst
  obtain ⟨F1, h1, h2⟩ := putD_inv hp
  cases h1
  refine wpList_plain rfl fun K hK => ?_
  unfold Oper.wp
  obtain ⟨vs, ht, hex⟩ := argsF_ok hst.vw hx
  rw [hex, run_callFunc_go hc]
  have hH : MOk E (trk C.T0 M E) [] w := ⟨fun id B hf => by simp [find] at hf, fun id id' b hf => by simp [find] at hf⟩
  have hT : ∀ b, trk C.T0 M E b ∧ b < w.heap.size → trk C.T0 M E b := fun b h => h.1
  have ht' := Convs.tups (T' := fun b => trk C.T0 M E b ∧ b < w.heap.size) hH (fun b h1 h2 => h2.1) (fun id b hf => by simp [find] at hf) hconv ht
  refine (hspec (fun b => trk C.T0 M E b ∧ b < w.heap.size) w _ (fun b h => h.2) (hst.glob.mono (fun b _ h => h.1) (Chg.refl _ w)) ht').mono ?_
  rintro e w' ⟨v, rfl, hr, hb⟩
  exact hK _ _ (h U E _ w' hsup ((hst.below hb).putD h2 fun s' hs' => by cases hs'; exact hr.rigid_ hrig))
/-- What lies in blocks that are no longer there is forgotten. -/
theorem Sat.drop {c : Code} {ids : List Nat} (hG : keepT (idsM none M) F = some (G, φ)) (hφ : AllP φ) (h : Sat C Q0 (.code c G M ids k)) : Sat C Q0 (.code c F M ids k) := fun U E a w hsup hst =>
  h U E a w hsup ⟨hst.defers, hst.size, fun t s hs => hst.slots t s (keepT_ok hG hφ t s hs).1, hst.mem, hst.own, hst.fresh, hst.kp, hst.hid, hst.glob, hst.pin, hst.held⟩
theorem killF_inv : ∀ {l : List Nat} {F : Tr} {K : Tr → Option Tr} {r : Tr}, killF l F K = some r → ∃ F', K F' = some r ∧ ∀ t s, F'.get t = some s → F.get t = some s
  | [], F, K, r, h => ⟨F, h, fun _ _ h => h⟩
  | d :: l, F, K, r, h => by
    simp only [killF] at h
    obtain ⟨F1, h1, h2⟩ := Tr.putK_eq F d none _ r h
    obtain ⟨F2, h3, h4⟩ := killF_inv h2
    refine ⟨F2, h3, fun t s hs => ?_⟩
    have := h4 t s hs
    rw [Tr.get_put F F1 d none h1] at this
    split at this
    · cases this
    · exact this
/-- Some slots are forgotten. -/
theorem Sat.kill {c : Code} {ids : List Nat} (l : List Nat) (hG : killF l F some = some G) (h : Sat C Q0 (.code c G M ids k)) : Sat C Q0 (.code c F M ids k) := fun U E a w hsup hst => by
  obtain ⟨F1, h1, h2⟩ := killF_inv hG
  cases h1
  exact h U E a w hsup ⟨hst.defers, hst.size, fun t s hs => hst.slots t s (h2 t s hs), hst.mem, hst.own, hst.fresh, hst.kp, hst.hid, hst.glob, hst.pin, hst.held⟩
/-- The mode is left. -/
theorem Sat.narrow {P : Program} {W0 : World} {S T : Nat → Prop} {Γ : Glob} {N : Nat} {c : Cfg} (hT : ∀ b, T b → b < W0.heap.size) (hS : ∀ b, ¬ S b) (h : Sat ⟨P, W0, S, T, Γ, N, [], [], false⟩ Q0 c) :
    Sat ⟨P, W0, S, fun b => T b ∨ W0.heap.size ≤ b, Γ, N, [], [], true⟩ Q0 c := by
  have key : ∀ {F M U E a w}, St ⟨P, W0, S, fun b => T b ∨ W0.heap.size ≤ b, Γ, N, [], [], true⟩ F M U E a w → St ⟨P, W0, S, T, Γ, N, [], [], false⟩ F M U E a w := fun {F M U E a w} hst => by
    have ht : ∀ b, b < w.heap.size → trk T M E b → trk (fun b => T b ∨ W0.heap.size ≤ b) M E b := by
      rintro b _ (h | h)
      · exact .inl h
      · exact .inr (.inl h)
    refine ⟨hst.defers, hst.size, fun t s hs => (hst.slots t s hs).mono (fun _ _ h => h) ht (Chg.refl _ w), ⟨fun id B hf => ?_, hst.mem.inj⟩, hst.own, hst.fresh, hst.kp, fun b hb => .inl ⟨hT b hb, hS b⟩, hst.glob.mono ht (Chg.refl _ w), fun p hp => (by cases hp), fun p hp => (by cases hp)⟩
    rcases hst.mem.blk id B hf with ⟨b, h1, h2, h3⟩ | h1
    · exact .inl ⟨b, h1, h2, h3.mono (fun _ _ h => h) ht (Chg.refl _ w) rfl⟩
    · exact .inr h1
  cases c with
  | reg full rest F M ids k => exact fun U E a w hsup hst => h U E a w hsup (key hst)
  | qreg full rest F M ids k => exact fun U E a w hsup hst => h U E a w hsup (key hst)
  | code c F M ids k => exact fun U E a w hsup hst => h U E a w hsup (key hst)
  | ext e F M ids k => exact fun U E a w hsup hst => h U E a w hsup (key hst)
/-- **A contract, by a walk in which everything new is hidden from what is read.** -/
theorem Fun.mkW {P : Program} {Γ : Glob} {f : FuncId} {fn : Func} {c : Code} {N : Nat} {args : List SV} {res : SV} {F : Tr} (dep : Nat) (hf : P.funcs[f]? = some fn) (hb : fn.body = some c) (hN : fn.ntmps = N) (hle : Nat.ble args.length N = true) (hF : argT 0 args (Tr.mk dep) = some F)
    (h : ∀ (T : Nat → Prop) (w : World), (∀ b, T b → b < w.heap.size) → Sat ⟨P, w, fun _ => False, fun b => T b ∨ w.heap.size ≤ b, Γ, N, [], [], true⟩ (bodyPost P fn (Post T w res)) (.code c F [] ids0 [])) : Fun P Γ f args res := by
  intro T w vs hT hG ht
  have hle' := Nat.le_of_ble_eq_true hle
  have hlen := ht.len
  have hT1 : ∀ b, b < w.heap.size → trk (fun b => T b ∨ w.heap.size ≤ b) [] E0 b → T b := fun b hlt hb => by
    rcases hb with ⟨id, B, hf, _⟩ | h0 | h0
    · simp [find] at hf
    · exact h0
    · omega
  refine calls_of_wp hf hb (h T w hT (fun _ => True) E0 _ w ?_ ⟨rfl, ?_, fun t s hs => ?_, ⟨fun id B hf => by simp [find] at hf, fun id id' b hf => by simp [find] at hf⟩, fun id b hf => by simp [find] at hf, fun _ _ => rfl, ⟨rfl, rfl, rfl, Chg.refl _ w⟩, fun b hb => .inr rfl, hG.mono hT1 (Chg.refl _ w), fun p hp => (by cases hp), fun p hp => (by cases hp)⟩)
  · have : ∀ (l : List Nat) (n : Nat) (U : Nat → Prop), (∀ i, i < l.length → l[i]? = some (n + i)) → (∀ k, n ≤ k → U k) → Sup l U := by
      intro l
      induction l with
      | nil => intro n _ _ _; trivial
      | cons i r ih =>
        intro n U hl hU
        have hi : i = n := by simpa using hl 0 (by simp)
        refine ⟨hU i (by omega), ih (n + 1) _ (fun j hj => ?_) fun k hk => ⟨hU k (by omega), by omega⟩⟩
        have := hl (j + 1) (by simpa using hj)
        simpa [Nat.add_assoc, Nat.add_comm 1 j] using this
    exact this ids0 0 _ (by decide) fun _ _ => trivial
  · simp only [Array.size_append, List.size_toArray, Array.size_replicate, hlen, hN]; omega
  · rcases argT_get hF ht t s hs with ⟨q1, _⟩ | ⟨_, v, q2, q3⟩ | ⟨_, q2⟩
    · omega
    · have hlt : t < vs.length := by simpa using (List.getElem?_eq_some_iff.1 q2).1
      have : (vs.toArray ++ Array.replicate (fn.ntmps - vs.toArray.size) undef).getD t undef = v := by
        rw [Array.getD_eq_getD_getElem?, Array.getElem?_append_left (by simpa using hlt)]
        simp only [Nat.sub_zero] at q2
        simp [q2]
      rw [this]
      exact q3.mono (fun _ _ h => h) hT1 (Chg.refl _ w)
    · rw [mk_get] at q2; cases q2

theorem buf_find {M1 : Mem} {i nx : Nat} {j : Option Nat} {B B' : Blk} (hM : upd (delO M j) i B = some M1) (id : Nat) : find ((nx, B') :: M1) id = (look ((nx, some B') :: (i, some B) :: odCh j) id).getD (find M id) := by
  rw [find_cons]
  simp only [look]
  by_cases h1 : id = nx
  · subst h1
    simp
  · have : Nat.beq nx id = false := by
      cases h : Nat.beq nx id with
      | false => rfl
      | true => exact absurd (Nat.eq_of_beq_eq_true h).symm h1
    rw [if_neg h1, this, find_upd hM]
    by_cases h2 : id = i
    · subst h2
      simp
    · have : Nat.beq i id = false := by
        cases h : Nat.beq i id with
        | false => rfl
        | true => exact absurd (Nat.eq_of_beq_eq_true h).symm h2
      rw [if_neg h2, this]
      cases j with
      | none => rfl
      | some j =>
        simp only [delO, find_del, odCh, look]
        by_cases h3 : id = j
        · subst h3
          simp
        · have : Nat.beq j id = false := by
            cases h : Nat.beq j id with
            | false => rfl
            | true => exact absurd (Nat.eq_of_beq_eq_true h).symm h3
          rw [if_neg h3, this]
          rfl
/-- The same in a region that draws its order: all the others have come up. -/
theorem DSat.buf {full rest : List Oper} {F0 : Tr} {M0 : Mem} {ids0 : List Nat} {n : Nat} {hist : List Ent} {d : Option Tmp} {x : Operand} {f : FuncId} {xs : List Operand} {ats : Array TypeId} {type : TypeId} {pos : String} {after : Array Edge} {svs args : List SV} {res : SV} {i : Nat} {e : TypeId} {m : List UInt8} {r : BufR}
    (hspec : BufOk C.P e f args res m) (hx : argsF C.Γ F x xs = some (f, .ptr i 0 :: svs)) (hc : callable C.P f = true) (hconv : Convs M svs args) (hr : bufAt e M i = some r) (hb : bufM C.pins e F M i nx m = some ⟨F, M', φ⟩) (hφ : AllP φ) (hp : putD C.N F d (some res) some = some F')
    (hS : ∀ b, ¬ C.S b) (hW : ∀ b, C.W0.heap.size ≤ b → C.T0 b)
    (h : DSat C Q0 k full F0 M0 ids0 (n + 1) (⟨n, d, some res, some nx, (nx, some (.row e (.u8 (r.l ++ m)))) :: (i, some (.cells r.t [.bsl nx (r.l ++ m).length, .int .i64 0, .anyi .i8])) :: odCh r.j, [], true⟩ :: hist) rest F' M' ids') :
    DSat C Q0 k full F0 M0 ids0 n hist (⟨d, .call ⟨.value x, ⟨xs⟩, ats⟩, type, pos, after, none⟩ :: rest) F M (nx :: ids') := by
  intro D
  obtain ⟨F1, h1, h2⟩ := putD_inv hp
  cases h1
  obtain ⟨p1, p2⟩ := putD_get h2
  obtain ⟨r', φ1, φ2, M1, q1, q2, q3, q4, q5, q6, q7, q8, q9, rfl⟩ := bufM_inv hb hφ
  rw [hr] at q1
  cases q1
  refine h (D.step (fun ho Q K Fa Ma U E a w u1 u2 u4 u3 hst hK => ?_) rfl rfl p2 (fun id => buf_find q9 id) rfl)
  obtain ⟨v1, v2⟩ := u4 rfl
  have hst' : St C F M U E a w := hst.ext (fun t => (v1 t).symm) (fun id => (v2 id).symm) fun _ h => h
  refine wpOp_plain ho rfl ?_
  unfold Oper.wp
  obtain ⟨vs, ht, hex⟩ := argsF_ok hst'.vw hx
  rw [hex, run_callFunc_go hc]
  cases ht with
  | cons _ v0 _ vs hr0 ht =>
  cases hr0 with
  | ptr _ _ b hE =>
  have ht' := Convs.tups (T' := fun _ => False) hst'.mem (fun _ _ h => h.elim) (fun _ _ _ _ h => h) hconv ht
  refine (hspec r.t C.W0.heap.size b r.l w vs (buf_in hst' hS hr q2 hE) hst'.kp.chg.size q3 ht').mono ?_
  rintro en w' ⟨⟨v, rfl, hv⟩, hB, hbel, hok⟩
  obtain ⟨E', hst2⟩ := buf_out hst' (u3 nx rfl) hS hW hr q2 hE q4 q5 q6 q7 q8 q9 hB hbel hok
  refine hK F' _ (V.rest U nx) E' _ w' (fun t => ?_) (fun id => ?_) (fun k => ⟨fun h => ⟨h.1, fun e => h.2 (by cases e; rfl)⟩, fun h => ⟨h.1, fun e => h.2 (by rw [e])⟩⟩) (hst2.putG p1 p2 fun s' hs' => by cases hs'; exact hv _ _ _)
  · rw [p2 t, v1 t]
  · rw [buf_find q9 id, v2 id]
theorem Fun.mkWF {P : Program} {Γ : Glob} {f : FuncId} {fn : Func} {c : Code} {N : Nat} {args : List SV} {res : SV} {F : Tr} (dep : Nat) (hf : P.funcs[f]? = some fn) (hb : fn.body = some c) (hN : fn.ntmps = N) (hle : Nat.ble args.length N = true) (hF : argT 0 args (Tr.mk dep) = some F)
    (h : factsL args → ∀ (T : Nat → Prop) (w : World), (∀ b, T b → b < w.heap.size) → Sat ⟨P, w, fun _ => False, fun b => T b ∨ w.heap.size ≤ b, Γ, N, [], [], true⟩ (bodyPost P fn (Post T w res)) (.code c F [] ids0 [])) : Fun P Γ f args res :=
  fun T w vs hT hG ht => Fun.mkW dep hf hb hN hle hF (h ht.facts) T w vs hT hG ht
end
end Go.Proofs.YtcnpgmohnclojaaDoor.V
end
section
namespace Go.Proofs.YtcnpgmohnclojaaDoor.V
open Go.RowKit

/-- A function that is given a pointer to a block of cells: what it returns, and what the block holds then; nothing else is written. -/
def MFun (P : Program) (Γ : Glob) (f : FuncId) (args : List SV) (t : TypeId) (c c' : List SV) (res : SV) : Prop :=
  ∀ (T : Nat → Prop) (w : World) (vs : List Value) (b : Nat) (cs : List Value), (∀ k, T k → k < w.heap.size) → T b → GOk Γ T w → w.heap[b]? = some (.cells cs.toArray t (0, 0)) → Items E0 T w c cs → Tup E0 T w args vs →
    Calls P f (Value.pointer (some ⟨b, 0, none⟩) :: vs).toArray w fun e w' => ∃ v cs', e = .returned v ∧ Rep E0 T w' res v ∧ w'.heap[b]? = some (.cells cs'.toArray t (0, 0)) ∧ cs'.length = cs.length ∧ Items E0 T w' c' cs' ∧
      w'.os = w.os ∧ w'.tape = w.tape ∧ w'.output = w.output ∧ w.heap.size ≤ w'.heap.size ∧ ∀ k, k < w.heap.size → k ≠ b → w'.heap[k]? = w.heap[k]?
def MPost (T : Nat → Prop) (w : World) (t : TypeId) (b n : Nat) (c' : List SV) (res : SV) (e : Ending) (w' : World) : Prop := ∃ v cs', e = .returned v ∧ Rep E0 T w' res v ∧ w'.heap[b]? = some (.cells cs'.toArray t (0, 0)) ∧ cs'.length = n ∧ Items E0 T w' c' cs' ∧
      w'.os = w.os ∧ w'.tape = w.tape ∧ w'.output = w.output ∧ w.heap.size ≤ w'.heap.size ∧ ∀ k, k < w.heap.size → k ≠ b → w'.heap[k]? = w.heap[k]?
def pe0 (b : Nat) : Env := fun i => if i = 0 then some (some b) else none
def ids1 : List Nat := 1 :: 2 :: 3 :: 4 :: 5 :: 6 :: 7 :: 8 :: 9 :: 10 :: 11 :: 12 :: 13 :: 14 :: 15 :: 16 :: 17 :: 18 :: 19 :: 20 :: 21 :: 22 :: 23 :: 24 :: 25 :: 26 :: 27 :: 28 :: 29 :: 30 :: 31 :: 32 :: 33 :: 34 :: 35 :: 36 :: 37 :: 38 :: 39 :: 40 :: []
/-- What such a function's walk is under. -/
@[reducible] def mctx (P : Program) (Γ : Glob) (N : Nat) (T : Nat → Prop) (w : World) (b : Nat) : Ctx := ⟨P, w, fun k => k = b, fun k => T k ∧ k ≠ b, Γ, N, [0], [⟨pe0 b, .e, fun _ => undef⟩], false⟩
theorem sup_ids {l : List Nat} {n : Nat} {U : Nat → Prop} (hl : ∀ i, i < l.length → l[i]? = some (n + i)) (hU : ∀ k, n ≤ k → U k) : Sup l U := by
  induction l generalizing n U with
  | nil => trivial
  | cons i r ih =>
    have hi : i = n := by simpa using hl 0 (by simp)
    refine ⟨hU i (by omega), ih (n := n + 1) (fun j hj => ?_) fun k hk => ⟨hU k (by omega), by omega⟩⟩
    have := hl (j + 1) (by simpa using hj)
    simpa [Nat.add_assoc, Nat.add_comm 1 j] using this
section
variable {P : Program} {Γ : Glob} {f : FuncId} {fn : Func} {c : Code} {N : Nat} {args : List SV} {res : SV} {F : Tr} {t : TypeId} {cl cl' : List SV}
/-- **The contract of a function that writes a block, by a walk.** -/
theorem MFun.mk (dep : Nat) (hf : P.funcs[f]? = some fn) (hb : fn.body = some c) (hN : fn.ntmps = N) (hle : Nat.ble (args.length + 1) N = true) (hF : argT 0 (.ptr 0 0 :: args) (Tr.mk dep) = some F)
    (h : factsL args → factsL cl → ∀ (T : Nat → Prop) (w : World) (b : Nat), (∀ k, T k → k < w.heap.size) → T b → Sat (mctx P Γ N T w b) (bodyPost P fn (MPost T w t b (wI cl) cl' res)) (.code c F [(0, .cells t cl)] ids1 [])) : MFun P Γ f args t cl cl' res := by
  intro T w vs b cs hT hTb hG hbk hI ht
  have hle' := Nat.le_of_ble_eq_true hle
  have hlen := ht.len
  have hE : pe0 b 0 = some (some b) := rfl
  have hne : ∀ i x, pe0 b i = some x → i = 0 ∧ x = some b := fun i x hx => by
    unfold pe0 at hx
    split at hx
    · rename_i e; cases hx; exact ⟨e, rfl⟩
    · cases hx
  have htr : ∀ k, trk (fun k => T k ∧ k ≠ b) [(0, .cells t cl)] (pe0 b) k → T k := fun k hk => by
    rcases hk with ⟨id, B, hf, hEk⟩ | h0
    · have := (hne _ _ hEk).2
      cases this
      exact hTb
    · exact h0.1
  have hup : ∀ i x, E0 i = some x → pe0 b i = some x := fun i x hx => by cases hx
  have hwl := (wI_len hI).symm
  rw [hwl]
  refine calls_of_wp hf hb (h ht.facts hI.facts T w b hT hTb (fun k => k ≠ 0) (pe0 b) _ w (sup_ids (n := 1) (by decide) (fun k hk => by omega)) ⟨rfl, ?_, fun t' s hs => ?_, ⟨fun id B hf => ?_, fun id id' b' h1 h2 h3 h4 => ?_⟩, fun id b' hf hEk => .inr ?_, fun k hk => by simp [pe0, hk], ⟨rfl, rfl, rfl, Chg.refl _ w⟩, fun k hk => .inl ⟨hT k hk.1, hk.2⟩, hG.mono (fun k _ hk => htr k hk) (Chg.refl _ w), fun p hp id x hx => ?_, fun p hp t' s hs => ?_⟩)
  · simp only [Array.size_append, List.size_toArray, Array.size_replicate, List.length_cons, hlen, hN]; omega
  · have ht2 : Tup (pe0 b) (trk (fun k => T k ∧ k ≠ b) [(0, .cells t cl)] (pe0 b)) w (.ptr 0 0 :: args) (Value.pointer (some ⟨b, 0, none⟩) :: vs) :=
      .cons _ _ _ _ (.ptr 0 0 b hE) (ht.mono hup (fun k _ hk => htr k hk) (Chg.refl _ w))
    rcases argT_get hF ht2 t' s hs with ⟨q1, _⟩ | ⟨_, v, q2, q3⟩ | ⟨_, q2⟩
    · omega
    · have hlt : t' < (Value.pointer (some ⟨b, 0, none⟩) :: vs).length := by simpa using (List.getElem?_eq_some_iff.1 q2).1
      have : ((Value.pointer (some ⟨b, 0, none⟩) :: vs).toArray ++ Array.replicate (fn.ntmps - (Value.pointer (some ⟨b, 0, none⟩) :: vs).toArray.size) undef).getD t' undef = v := by
        rw [Array.getD_eq_getD_getElem?, Array.getElem?_append_left (by simpa using hlt)]
        simp only [Nat.sub_zero] at q2
        simpa using congrArg (fun o => Option.getD o undef) q2
      rw [this]
      exact q3
    · rw [mk_get] at q2; cases q2
  · rw [find_cons] at hf
    split at hf
    · rename_i e
      cases hf
      subst e
      exact .inl ⟨b, hE, hT b hTb, cs, hbk, hI.mono hup (fun k _ hk => htr k hk) (Chg.refl _ w)⟩
    · simp [find] at hf
  · rw [(hne _ _ h3).1, (hne _ _ h4).1]
  · have := (hne _ _ hEk).2
    cases this
    rfl
  · simp only [List.mem_singleton] at hp
    subst hp
    have := hne _ _ hx
    rw [this.1]
    exact ⟨rfl, by rw [this.2]; rfl⟩
  · simp only [List.mem_singleton] at hp
    subst hp
    cases t' <;> simp [Tr.get] at hs
variable {e : Ex} {M : Mem} {ids : List Nat} {w : World} {b n : Nat} {T : Nat → Prop}
theorem mend_core {c2 : List SV} (hT : ∀ k, T k → k < w.heap.size) (hfM : find M 0 = some (.cells t c2)) (hc : Convs (del M 0) c2 cl') (he : e = .ret ∨ e = .normal) (hn : wI c2 = n)
    (hv : ∀ U E a w', Sup ids U → St (mctx P Γ N T w b) F M U E a w' → ∃ v s, (results fn a.tmps).run P w' = .ok v w' ∧ Rep E (trk (fun k => T k ∧ k ≠ b) M E) w' s v ∧ Conv (del M 0) s res) :
    Sat (mctx P Γ N T w b) (bodyPost P fn (MPost T w t b n cl' res)) (.ext e F M ids []) := by
  intro U E a w' hsup hst
  obtain ⟨v, s, h1, h2, h3⟩ := hv U E a w' hsup hst
  have hE : E 0 = some (some b) := (hst.pin _ (List.mem_singleton.2 rfl) 0 (some b) rfl).2
  obtain ⟨hlt, cs, hh, hI⟩ := hst.mem.at hfM hE
  have hle : MLe (del M 0) M := fun id B hf => by
    rw [find_del] at hf
    split at hf
    · cases hf
    · exact hf
  have hM := hst.mem.le hle
  have hTT : ∀ k, k < w'.heap.size → T k → trk (fun k => T k ∧ k ≠ b) M E k := fun k _ hk => by
    by_cases hkb : k = b
    · subst hkb; exact .inl ⟨0, _, hfM, hE⟩
    · exact .inr ⟨hk, hkb⟩
  have ho : ∀ id k, (find (del M 0) id).isSome = true → E id = some (some k) → ¬ T k := fun id k hf hEk hTk => by
    obtain ⟨B, hB⟩ := Option.isSome_iff_exists.1 hf
    have hid : id ≠ 0 := fun e => by rw [find_del, if_pos e] at hB; cases hB
    have hfi := hle id B hB
    rcases hst.own id k (by rw [hfi]; rfl) hEk with h | h
    · have := hT k hTk
      dsimp only at h
      omega
    · dsimp only at h
      subst h
      exact hid (hst.mem.inj id 0 k (by rw [hfi]; rfl) (by rw [hfM]; rfl) hEk hE)
  have hpost : MPost T w t b n cl' res (.returned v) w' :=
    ⟨v, cs, rfl, Conv.ok hM hTT ho h3 h2, hh, (wI_len hI).symm.trans hn, Convs.items hM hTT ho hc hI, hst.kp.os, hst.kp.tape, hst.kp.output, hst.kp.chg.size, fun k hk hkb => hst.kp.chg.keep k hk hkb⟩
  rcases he with rfl | rfl <;> exact ⟨hst.defers, v, h1, hpost⟩
theorem Sat.mend1 {c2 : List SV} {r : ResultVar} {φ : List Prop} {s : SV} (hT : ∀ k, T k → k < w.heap.size) (hr : fn.results = #[r]) (h1 : resV P F M r = some (φ, s)) (hφ : AllP φ) (hfM : find M 0 = some (.cells t c2)) (hc : Convs (del M 0) c2 cl') (hs : Conv (del M 0) s res) (he : e = .ret ∨ e = .normal) (hn : wI c2 = n) :
    Sat (mctx P Γ N T w b) (bodyPost P fn (MPost T w t b n cl' res)) (.ext e F M ids []) :=
  mend_core hT hfM hc he hn fun U E a w' _ hst => by
    obtain ⟨v, q1, q2⟩ := resV_ok hst h1 hφ
    refine ⟨v, s, ?_, q1, hs⟩
    unfold results
    rw [hr]
    exact mapM_run1 q2
theorem Sat.mfin {x : Cfg} {Q : Ctx} {res' : SV} {cl2 : List SV} (h : Sat Q (bodyPost P fn (MPost T w t b n cl2 res')) x) (h1 : res = res') (h2 : cl' = cl2) : Sat Q (bodyPost P fn (MPost T w t b n cl' res)) x := by
  subst h1 h2
  exact h
end
section
variable {C : Ctx} {Q0 : Exit → Act → World → Prop} {F F' : Tr} {M M' : Mem} {ids : List Nat} {k : List Kont} {f : FuncId} {t : TypeId} {c c' : List SV} {args svs : List SV} {res : SV} {i : Nat}
/-- What such a call does, where the block is one of one's own. -/
theorem mcall_core {U : Nat → Prop} {E : Env} {a : Act} {w : World} (hst : St C F M U E a w) (hn : C.wide = false) (hspec : MFun C.P C.Γ f args t c c' res) (hf : find M i = some (.cells t c)) (hpc : pureL c) (hM : upd M i (.cells t c') = some M') {vs : List Value} {b : Nat} (hE : E i = some (some b)) (ht : Tup E0 (trk C.T0 M E) w args vs) :
    Calls C.P f (Value.pointer (some ⟨b, 0, none⟩) :: vs).toArray w fun e w' => ∃ v, e = .returned v ∧ Rep E0 (trk C.T0 M' E) w' res v ∧ St C F M' U E a w' := by
  obtain ⟨hlt, cs, hh, hI⟩ := hst.mem.at hf hE
  have hmine : mine M E b := ⟨i, _, hf, hE⟩
  refine (hspec (trk C.T0 M E) w vs b cs (hst.lt hn) (.inl hmine) hst.glob hh (hI.free_ hpc) ht).mono ?_
  rintro e w' ⟨v, cs', rfl, h1, h2, h3, h4, h5, h6, h7, h8, h9⟩
  have hfind := find_upd hM
  have htr : ∀ k, trk C.T0 M' E k ↔ trk C.T0 M E k := fun k => by
    constructor
    · rintro (⟨id, B, q1, q2⟩ | h0)
      · rw [hfind] at q1
        split at q1
        · rename_i e; subst e; exact .inl ⟨id, _, hf, q2⟩
        · exact .inl ⟨id, B, q1, q2⟩
      · exact .inr h0
    · rintro (⟨id, B, q1, q2⟩ | h0)
      · by_cases e : id = i
        · subst e; exact .inl ⟨id, .cells t c', by rw [hfind, if_pos rfl], q2⟩
        · exact .inl ⟨id, B, by rw [hfind, if_neg e]; exact q1, q2⟩
      · exact .inr h0
  have hteq : trk C.T0 M' E = trk C.T0 M E := funext fun k => propext (htr k)
  have hchg : Chg (mine M E) w w' := ⟨h8, fun k hk hnm => h9 k hk fun e => hnm (e ▸ hmine), fun k hk => by
    by_cases e : k = b
    · subst e; simp [World.shape?, hh, h2, h3]
    · simp [World.shape?, h9 k hk e]⟩
  have hchg2 := hchg.weak (T' := trk C.T0 M E) fun _ => .inl
  refine ⟨v, rfl, by rw [hteq]; exact h1, hst.go (fun _ _ h => h) (fun k _ hk => (htr k).1 hk) hchg h5 h6 h7 ⟨fun id B hB => ?_, fun id id' b' q1 q2 q3 q4 => ?_⟩ (fun id b' q1 q2 => ?_) hst.fresh⟩
  · rw [hfind] at hB
    split at hB
    · rename_i e
      subst e
      cases hB
      refine .inl ⟨b, hE, Nat.lt_of_lt_of_le hlt h8, cs', h2, ?_⟩
      rw [hteq]
      exact h4.mono (fun _ _ h => by cases h) (fun _ _ h => h) (Chg.refl _ w')
    · rename_i e
      rcases hst.mem.blk id B hB with ⟨b', q1, q2, q3⟩ | q1
      · refine .inl ⟨b', q1, Nat.lt_of_lt_of_le q2 h8, ?_⟩
        have hne : b' ≠ b := fun e2 => by
          subst e2
          exact e (hst.mem.inj id i b' (by rw [hB]; rfl) (by rw [hf]; rfl) q1 hE)
        rw [hteq]
        exact q3.mono (fun _ _ h => h) (fun _ _ h => h) hchg2 (h9 b' q2 hne)
      · exact .inr q1
  · have hs : ∀ j, (find M' j).isSome = true → (find M j).isSome = true := fun j hj => by
      rw [hfind] at hj
      split at hj
      · rename_i e; subst e; rw [hf]; rfl
      · exact hj
    exact hst.mem.inj id id' b' (hs id q1) (hs id' q2) q3 q4
  · refine hst.own id b' ?_ q2
    rw [hfind] at q1
    split at q1
    · rename_i e; subst e; rw [hf]; rfl
    · exact q1
theorem Sat.mcall {full rest : List Oper} {d : Option Tmp} {x : Operand} {xs : List Operand} {ats : Array TypeId} {type : TypeId} {pos : String} {after : Array Edge}
    (hspec : MFun C.P C.Γ f args t c c' res) (hn : C.wide = false) (hx : argsF C.Γ F x xs = some (f, .ptr i 0 :: svs)) (hc : callable C.P f = true) (hconv : Convs [] svs args) (hf : find M i = some (.cells t c)) (hpc : pureL c) (hM : upd M i (.cells t c') = some M') (hp : putD C.N F d (some res) some = some F') (h : Sat C Q0 (.reg full rest F' M' ids k)) :
    Sat C Q0 (.reg full (⟨d, .call ⟨.value x, ⟨xs⟩, ats⟩, type, pos, after, none⟩ :: rest) F M ids k) := by
  intro U E a w hsup hst
  obtain ⟨F1, h1, h2⟩ := putD_inv hp
  cases h1
  refine wpList_plain rfl fun K hK => ?_
  unfold Oper.wp
  obtain ⟨vs, ht, hex⟩ := argsF_ok hst.vw hx
  rw [hex, run_callFunc_go hc]
  cases ht with
  | cons _ v0 _ vs hr ht =>
  cases hr with
  | ptr _ _ b hE =>
  have hH : MOk E (trk C.T0 M E) [] w := ⟨fun id B hf => by simp [find] at hf, fun id id' b hf => by simp [find] at hf⟩
  have ht' := Convs.tups (T' := trk C.T0 M E) hH (fun _ _ h => h) (fun id b hf => by simp [find] at hf) hconv ht
  refine (mcall_core hst hn hspec hf hpc hM hE ht').mono ?_
  rintro e w' ⟨v, rfl, hr, hst'⟩
  exact hK _ _ (h U E _ w' hsup (hst'.putD h2 fun s' hs' => by cases hs'; exact hr.up))
/-- The same in a region that draws its order. -/
theorem DSat.mcall {full rest : List Oper} {F0 : Tr} {M0 : Mem} {ids0 : List Nat} {n : Nat} {hist : List Ent} {d : Option Tmp} {x : Operand} {xs : List Operand} {ats : Array TypeId} {type : TypeId} {pos : String} {after : Array Edge}
    (hspec : MFun C.P C.Γ f args t c c' res) (hn : C.wide = false) (hx : argsF C.Γ F x xs = some (f, .ptr i 0 :: svs)) (hc : callable C.P f = true) (hconv : Convs [] svs args) (hf : find M i = some (.cells t c)) (hpc : pureL c) (hM : upd M i (.cells t c') = some M') (hp : putD C.N F d (some res) some = some F')
    (h : DSat C Q0 k full F0 M0 ids0 (n + 1) (⟨n, d, some res, none, [(i, some (.cells t c'))], [i], false⟩ :: hist) rest F' M' ids) :
    DSat C Q0 k full F0 M0 ids0 n hist (⟨d, .call ⟨.value x, ⟨xs⟩, ats⟩, type, pos, after, none⟩ :: rest) F M ids := by
  intro D
  obtain ⟨F1, h1, h2⟩ := putD_inv hp
  cases h1
  obtain ⟨p1, p2⟩ := putD_get h2
  have hlook : ∀ (M : Mem) (M' : Mem), upd M i (.cells t c') = some M' → ∀ id, find M' id = (look [(i, some (Blk.cells t c'))] id).getD (find M id) := fun M M' hM id => by
    rw [find_upd hM]
    simp only [look]
    by_cases e : id = i
    · subst e; simp
    · have : Nat.beq i id = false := by
        cases h : Nat.beq i id with
        | false => rfl
        | true => exact absurd (Nat.eq_of_beq_eq_true h).symm e
      rw [if_neg e, this]
      rfl
  refine h (D.step (fun ho Q K Fa Ma U E a w q1 q2 _ q3 hst hK => ?_) rfl rfl p2 (hlook _ _ hM) rfl)
  have hfa : find Ma i = some (.cells t c) := (q2 i (List.mem_singleton.2 rfl)).trans hf
  obtain ⟨Ma', hMa⟩ := upd_some (B' := .cells t c') hfa
  refine wpOp_plain ho rfl ?_
  unfold Oper.wp
  obtain ⟨vs, ht, hex⟩ := argsF_ok hst.vw (argsF_le (looks_le (F := F) q1 fun _ => rfl) hx)
  rw [hex, run_callFunc_go hc]
  cases ht with
  | cons _ v0 _ vs hr ht =>
  cases hr with
  | ptr _ _ b hE =>
  have hH : MOk E (trk C.T0 Ma E) [] w := ⟨fun id B hf => by simp [find] at hf, fun id id' b hf => by simp [find] at hf⟩
  have ht' := Convs.tups (T' := trk C.T0 Ma E) hH (fun _ _ h => h) (fun id b hf => by simp [find] at hf) hconv ht
  refine (mcall_core hst hn hspec hfa hpc hMa hE ht').mono ?_
  rintro e w' ⟨v, rfl, hr, hst'⟩
  obtain ⟨F2, hF2⟩ := tr_put Fa d (some res)
  exact hK F2 Ma' U E _ w' hF2 (hlook _ _ hMa) (fun k => by simp) (hst'.putG p1 hF2 fun s' hs' => by cases hs'; exact hr.up)
end
end Go.Proofs.YtcnpgmohnclojaaDoor.V
end
section
namespace Go.Proofs.YtcnpgmohnclojaaDoor.V
open Go.RowKit

theorem exec_copy {P : Program} {a : Act} {o : Oper} {s x : Operand} {t t' : TypeId} (ho : o.op = .call ⟨.builtin .copy, ⟨[s, x]⟩, ⟨[t, t']⟩⟩) {v : Value} {w w' : World} (h : (Builtin.copy_ #[t, t'] o.type #[a.eval s, a.eval x]).run P w = .ok v w') : (execOp a.eval o).run P w = .ok (.value v) w' := by
  obtain ⟨cs, hc⟩ := exec_call_builtin (a := a) ho
  rw [hc]
  simp only [builtin, Sem.run_bind]
  have : ([s, x].map a.eval).toArray = #[a.eval s, a.eval x] := rfl
  rw [this]
  simp [h]
/-- An array of bytes, by its cells. -/
theorem arr_rep {E : Env} {T : Nat → Prop} {w : World} {n : Nat} {m : List UInt8} (h : m.length = n) : Rep E T w (.arr n (.u8 m)) (.agg (bytesC m).toArray) := by
  refine .arr n (.u8 m) (bytesC m) (fun i => [.int .u8 ((m.getD i 0).toNat : Int)]) (fun i _ => rfl) (by rw [bytesC_len]; exact h) (by simp [EV.len, EV.sz, h]) (bytesC_one m) (fun i j v hi hv => ?_) (fun i hi => .one _ _ _ _ rfl (.int _ _ (inR_byte _)) .nil)
  match j, hv with
  | 0, hv =>
    simp at hv
    subst hv
    have := bytesC_at m i hi
    simpa [EV.sz] using this
  | j + 1, hv => simp at hv
theorem sizeF_size {P : Program} {t : TypeId} {n : Nat} (h : sizeF P t = some n) : (P.info? t).map (·.size) = some n := by
  unfold sizeF at h
  split at h
  · rename_i i hi
    simp only [Option.some.injEq] at h
    rw [hi]
    simp [h]
  · cases h
section
variable {C : Ctx} {Q0 : Exit → Act → World → Prop} {F F' : Tr} {M M' : Mem} {ids : List Nat} {k : List Kont} {i n : Nat} {t ta tb elem : TypeId} {old m : List UInt8}
theorem copy_core {U : Nat → Prop} {E : Env} {a : Act} {w : World} (hst : St C F M U E a w) {o : Oper} {x y : Operand} (ho : o.op = .call ⟨.builtin .copy, ⟨[x, y]⟩, ⟨[ta, tb]⟩⟩) (hu : C.P.underlying ta = some (.slice elem)) (hsz : sizeF C.P elem = some 1)
    (hx : opd C.Γ F x = some (.row i 0 1 0 n)) (hy : opd C.Γ F y = some (.ro (.u8 m))) (hn : 0 < n) (hf : find M i = some (.cells t [.arr n (.u8 old)])) (hm : m.length = n ∨ m.length = 0) (hM : upd M i (.cells t [.arr n (.u8 (if m.length = n then m else old))]) = some M') :
    ∃ w', (execOp a.eval o).run C.P w = .ok (.value (.int .i64 (m.length : Int))) w' ∧ St C F M' U E a w' := by
  have hrx := opd_rep hst.vw hx
  have hry := opd_rep hst.vw hy
  have hs1 := sizeF_size hsz
  generalize hvx : a.eval x = vx at hrx
  cases hrx with
  | row0 _ _ _ _ _ hE h0 => omega
  | row _ _ _ _ _ b o' c n' t' hE hs hoff hl ok =>
  have hc0 : c ≠ 0 := by omega
  obtain ⟨ho1, _⟩ := hoff hc0
  simp only [Nat.zero_mul, Nat.add_zero] at ho1
  subst ho1
  obtain ⟨hlt, cs, hh, hI⟩ := hst.mem.at hf hE
  cases hI with
  | one _ _ _ _ h1 => simp [SV.one] at h1
  | arr _ _ _ c1 cs' hra hl' =>
  cases hl'
  rw [List.append_nil] at hh
  have hlen1 := hra.arr_len
  obtain ⟨hol, hat⟩ := arr_u8_cells hra
  -- the cells of the source
  have key : ∀ (ad : Addr) (k' : Nat) (csrc : List Value), csrc.length = m.length → csrc = bytesC m → m.length ≤ n → a.eval y = .slice (some ad) m.length k' → (∀ j v, csrc[j]? = some v → w.cell? (ad.add j) = some v) →
      (execOp a.eval o).run C.P w = .ok (.value (.int .i64 (m.length : Int))) (w.setRow b (csrc ++ c1.drop m.length).toArray) := fun ad k' csrc q1 q2 q3 q4 q5 => by
    refine exec_copy ho ?_
    rw [hvx, q4]
    have := run_copy_row (P := C.P) w ta tb o.type elem b 0 n c ad m.length k' c1.toArray t csrc hu hs1 hh (by rw [q1]; exact (Nat.min_eq_left q3).symm) q5 (by simp [q1, hlen1]; omega) (by rw [q2]; exact bytesC_one m)
    rw [this]
    simp [goInt, q1]
  have fin : ∀ w1, (execOp a.eval o).run C.P w = .ok (.value (.int .i64 (m.length : Int))) w1 → (∃ cs2 : List Value, w1 = w.setRow b cs2.toArray ∧ cs2.length = c1.length ∧ ∀ E T w, Rep E T w (.arr n (.u8 (if m.length = n then m else old))) (.agg cs2.toArray)) →
      ∃ w', (execOp a.eval o).run C.P w = .ok (.value (.int .i64 (m.length : Int))) w' ∧ St C F M' U E a w' := fun w1 q1 ⟨cs2, q2, q3, q4⟩ => by
    subst q2
    refine ⟨_, q1, hst.upd_ hM hf hE hh q3 ⟨cs2, ?_, ?_⟩⟩
    · exact setRow_heap w b c1.toArray _ t (0, 0) hh
    · have := Items.arr (E := E) (T := trk C.T0 M' E) (w := w.setRow b cs2.toArray) n (.u8 (if m.length = n then m else old)) [] cs2 [] (q4 _ _ _) .nil
      rwa [List.append_nil] at this
  have hold : Rep E0 (fun _ => False) w (.arr n (.u8 old)) (.agg c1.toArray) := by
    have := Rep.free_ (E' := E0) hra (by simp [pureS, pureE])
    exact this.mono (fun _ _ h => h) (fun _ _ h => h.elim) (Chg.refl _ w)
  have holdc : ∀ (E : Env) (T : Nat → Prop) (w : World), Rep E T w (.arr n (.u8 old)) (.agg c1.toArray) := fun E T w => by
    have e : c1 = bytesC old := by
      refine List.ext_getElem? fun j => ?_
      by_cases hj : j < n
      · rw [hat j hj, bytesC_at old j (by omega)]
      · rw [List.getElem?_eq_none (by omega), List.getElem?_eq_none (by rw [bytesC_len]; omega)]
    rw [e]
    exact arr_rep hol
  by_cases hmn : m.length = n
  · generalize hvy : a.eval y = vy at hry
    cases hry with
    | ro0 _ h0 => simp only [EV.len] at h0; omega
    | ro1 _ _ h0 => simp only [EV.len] at h0; omega
    | ro _ bb oo n2 k2 c2 hT2 hn2 hc2 hr2 he2 hl2 ok2 hb2 =>
      simp only [EV.len, EV.sz, Nat.mul_one] at he2 hn2 hc2 hr2
      subst he2
      have hsrc : ∀ j v, (bytesC m)[j]? = some v → w.cell? ((⟨bb, oo, none⟩ : Addr).add j) = some v := fun j v hv => by
        rcases Nat.lt_or_ge j m.length with hj | hj
        · rw [bytesC_at m j hj] at hv
          cases hv
          have hI2 := hr2 j hj
          have hcj := hc2 j 0
          simp only [EV.items] at hI2
          generalize c2 j = cj at hI2 hcj
          cases hI2 with
          | one _ cv _ _ p0 pr pI =>
            cases pr
            rw [Lib.addr_add]
            exact hcj _ hj rfl
        · rw [List.getElem?_eq_none (by rw [bytesC_len]; exact hj)] at hv
          cases hv
      refine fin _ (key ⟨bb, oo, none⟩ k2 (bytesC m) (bytesC_len m) rfl (by omega) hvy hsrc) ⟨_, rfl, ?_, fun E T w => ?_⟩
      · simp [bytesC_len, hlen1, hmn]
      · rw [if_pos hmn, List.drop_of_length_le (by omega), List.append_nil]
        exact arr_rep hmn
  · have hm0 : m.length = 0 := hm.resolve_left hmn
    have hmnil : m = [] := List.eq_nil_of_length_eq_zero hm0
    subst hmnil
    have hself : ∀ w2, w2 = w → ∃ cs2 : List Value, w2 = w.setRow b cs2.toArray ∧ cs2.length = c1.length ∧ ∀ E T w, Rep E T w (.arr n (.u8 (if ([] : List UInt8).length = n then [] else old))) (.agg cs2.toArray) := fun w2 e => by
      refine ⟨c1, ?_, rfl, fun E T w => by rw [if_neg hmn]; exact holdc E T w⟩
      rw [e]
      exact (setRow_self w b c1.toArray t (0, 0) hh).symm
    have hsome : ∀ (ad : Addr) (k' : Nat), a.eval y = .slice (some ad) 0 k' → ∃ w', (execOp a.eval o).run C.P w = .ok (.value (.int .i64 ((([] : List UInt8)).length : Int))) w' ∧ St C F M' U E a w' := fun ad k' he => by
      have := key ad k' [] rfl rfl (Nat.zero_le _) he (fun j v hj => by simp at hj)
      refine fin _ this (hself _ ?_)
      simp only [List.nil_append, List.length_nil, List.drop_zero]
      exact setRow_self w b c1.toArray t (0, 0) hh
    generalize hvy : a.eval y = vy at hry
    cases hry with
    | ro0 _ h0 =>
      refine fin w ?_ (hself w rfl)
      refine exec_copy ho ?_
      rw [hvx, hvy]
      exact run_copy_nil (P := C.P) w ta tb o.type elem ⟨b, 0, none⟩ n c hu (by rw [hs1]; rfl)
    | ro1 _ ad h0 => exact hsome ad 0 hvy
    | ro _ bb oo n2 k2 c2 hT2 hn2 hc2 hr2 he2 hl2 ok2 hb2 =>
      simp only [EV.len, List.length_nil] at he2
      subst he2
      exact hsome ⟨bb, oo, none⟩ k2 hvy
theorem Sat.copy {full rest : List Oper} {d : Option Tmp} {x y : Operand} {type : TypeId} {pos : String} {after : Array Edge}
    (hu : C.P.underlying ta = some (.slice elem)) (hsz : sizeF C.P elem = some 1) (hx : opd C.Γ F x = some (.row i 0 1 0 n)) (hy : opd C.Γ F y = some (.ro (.u8 m))) (hn : Nat.blt 0 n = true) (hf : find M i = some (.cells t [.arr n (.u8 old)])) (hM : upd M i (.cells t [.arr n (.u8 (if m.length = n then m else old))]) = some M') (hm : m.length = n ∨ m.length = 0)
    (hp : putD C.N F d (some (.int .i64 (m.length : Int))) some = some F') (h : Sat C Q0 (.reg full rest F' M' ids k)) :
    Sat C Q0 (.reg full (⟨d, .call ⟨.builtin .copy, ⟨[x, y]⟩, ⟨[ta, tb]⟩⟩, type, pos, after, none⟩ :: rest) F M ids k) := by
  intro U E a w hsup hst
  obtain ⟨F1, h1, h2⟩ := putD_inv hp
  cases h1
  refine wpList_plain rfl fun K hK => ?_
  unfold Oper.wp
  obtain ⟨w', q1, q2⟩ := copy_core hst (o := ⟨d, .call ⟨.builtin .copy, ⟨[x, y]⟩, ⟨[ta, tb]⟩⟩, type, pos, after, none⟩) rfl hu hsz hx hy (by simpa using hn) hf hm hM
  rw [q1]
  have hlen : okLen m.length := by
    have hr := opd_rep hst.vw hy
    generalize a.eval y = vy at hr
    cases hr with
    | ro0 _ h0 => simp only [EV.len] at h0; rw [h0]; unfold okLen; omega
    | ro1 _ _ h0 => simp only [EV.len] at h0; rw [h0]; unfold okLen; omega
    | ro _ _ _ _ _ _ _ _ _ _ he hl ok _ => simp only [EV.len] at he; rw [← he]; unfold okLen at ok ⊢; omega
  unfold okLen at hlen
  exact hK _ _ (h U E _ w' hsup (q2.putD h2 fun s' hs' => by cases hs'; exact .int _ _ (inR_i64 (by omega) (by omega))))
theorem DSat.copy {full rest : List Oper} {F0 : Tr} {M0 : Mem} {ids0 : List Nat} {j : Nat} {hist : List Ent} {d : Option Tmp} {x y : Operand} {type : TypeId} {pos : String} {after : Array Edge}
    (hu : C.P.underlying ta = some (.slice elem)) (hsz : sizeF C.P elem = some 1) (hx : opd C.Γ F x = some (.row i 0 1 0 n)) (hy : opd C.Γ F y = some (.ro (.u8 m))) (hn : Nat.blt 0 n = true) (hf : find M i = some (.cells t [.arr n (.u8 old)])) (hM : upd M i (.cells t [.arr n (.u8 (if m.length = n then m else old))]) = some M') (hm : m.length = n ∨ m.length = 0)
    (hp : putD C.N F d (some (.int .i64 (m.length : Int))) some = some F')
    (h : DSat C Q0 k full F0 M0 ids0 (j + 1) (⟨j, d, some (.int .i64 (m.length : Int)), none, [(i, some (.cells t [.arr n (.u8 (if m.length = n then m else old))]))], [i], false⟩ :: hist) rest F' M' ids) :
    DSat C Q0 k full F0 M0 ids0 j hist (⟨d, .call ⟨.builtin .copy, ⟨[x, y]⟩, ⟨[ta, tb]⟩⟩, type, pos, after, none⟩ :: rest) F M ids := by
  intro D
  obtain ⟨F1, h1, h2⟩ := putD_inv hp
  cases h1
  obtain ⟨p1, p2⟩ := putD_get h2
  have hlook : ∀ (B : Blk) (M : Mem) (M' : Mem), upd M i B = some M' → ∀ id, find M' id = (look [(i, some B)] id).getD (find M id) := fun B M M' hM id => by
    rw [find_upd hM]
    simp only [look]
    by_cases e : id = i
    · subst e; simp
    · have : Nat.beq i id = false := by
        cases h : Nat.beq i id with
        | false => rfl
        | true => exact absurd (Nat.eq_of_beq_eq_true h).symm e
      rw [if_neg e, this]
      rfl
  refine h (D.step (fun ho Q K Fa Ma U E a w q1 q2 _ q3 hst hK => ?_) rfl rfl p2 (hlook _ _ _ hM) rfl)
  have hfa : find Ma i = some (.cells t [.arr n (.u8 old)]) := (q2 i (List.mem_singleton.2 rfl)).trans hf
  obtain ⟨Ma', hMa⟩ := upd_some (B' := .cells t [.arr n (.u8 (if m.length = n then m else old))]) hfa
  have hxa : opd C.Γ Fa x = some (.row i 0 1 0 n) := looks_le (F := F) q1 (fun _ => rfl) x (by simp [Op.operands, Call.operands]) _ hx
  have hya : opd C.Γ Fa y = some (.ro (.u8 m)) := looks_le (F := F) q1 (fun _ => rfl) y (by simp [Op.operands, Call.operands]) _ hy
  refine wpOp_plain ho rfl ?_
  unfold Oper.wp
  obtain ⟨w', r1, r2⟩ := copy_core hst (o := ⟨d, .call ⟨.builtin .copy, ⟨[x, y]⟩, ⟨[ta, tb]⟩⟩, type, pos, after, none⟩) rfl hu hsz hxa hya (by simpa using hn) hfa hm hMa
  rw [r1]
  have hlen : okLen m.length := by
    have hr := opd_rep hst.vw hya
    generalize a.eval y = vy at hr
    cases hr with
    | ro0 _ h0 => simp only [EV.len] at h0; rw [h0]; unfold okLen; omega
    | ro1 _ _ h0 => simp only [EV.len] at h0; rw [h0]; unfold okLen; omega
    | ro _ _ _ _ _ _ _ _ _ _ he hl ok _ => simp only [EV.len] at he; rw [← he]; unfold okLen at ok ⊢; omega
  unfold okLen at hlen
  obtain ⟨F2, hF2⟩ := tr_put Fa d (some (.int .i64 (m.length : Int)))
  exact hK F2 Ma' U E _ w' hF2 (hlook _ _ _ hMa) (fun k => by simp) (r2.putG p1 hF2 fun s' hs' => by cases hs'; exact .int _ _ (inR_i64 (by omega) (by omega)))
/-- A row is given up, in the midst of a region. -/
theorem Sat.freezeR {full rest : List Oper} {φ : List Prop} (wh : Bool) (id : Nat) (hz : frz C.wide C.pins ids wh id F M = some ⟨F', M', φ⟩) (hφ : AllP φ) (hn : Sat C Q0 (.reg full rest F' M' ids k)) : Sat C Q0 (.reg full rest F M ids k) := by
  intro U E a w _ hst
  obtain ⟨U', E', h1, h2⟩ := frz_ok hz hφ hst
  exact hn U' E' a w h1 h2
/-- An operation whose guard is known not to hold: whatever its slot is said to hold, were the guard to hold. -/
theorem Sat.goffM {full rest : List Oper} {d : Option Tmp} {op : Op} {type : TypeId} {pos : String} {after : Array Edge} {j : Nat} {want : Bool} {H : Prop} (v : SV) (hH : guardH F full j want = some H) (hh : ¬ H) (hp : putD C.N F d (some (.may H v)) some = some F') (h : Sat C Q0 (.reg full rest F' M ids k)) :
    Sat C Q0 (.reg full (⟨d, op, type, pos, after, some (j, want)⟩ :: rest) F M ids k) := by
  intro U E a w hsup hst
  have hy : ¬ (yielded full.toArray a.tmps j == some want) = true := fun hy => hh ((guardH_ok (full := full) hst hH).1 hy)
  obtain ⟨F1, h1, h2⟩ := putD_inv hp
  cases h1
  refine wpList_step fun K hK => ?_
  simp only [Region.wanted, hy]
  exact hK _ _ (h U E _ w hsup (hst.putD h2 fun s' hs' => by cases hs'; exact .may0 _ _ hh))
end
end Go.Proofs.YtcnpgmohnclojaaDoor.V
end
section
namespace Go.Proofs.YtcnpgmohnclojaaDoor.V
open Go.RowKit
section
variable {C : Ctx} {Q0 : Exit → Act → World → Prop} {F F' : Tr} {M M' : Mem} {ids : List Nat} {k : List Kont}
theorem Sat.one {X : IntKind → Bool} {full rest : List Oper} {o : Oper} {φ : List Prop} {ids' : List Nat} (h : step1 X C.P C.Γ C.N full o F M ids = some ⟨F', M', ids', φ⟩) (hφ : AllP φ) (hn : Sat C Q0 (.reg full rest F' M' ids' k)) : Sat C Q0 (.reg full (o :: rest) F M ids k) := by
  intro U E a w hsup hst
  exact step1_ok hst hsup h hφ.all fun U E a w h1 h2 => hn U E a w h1 h2
/-- The run, no further than n steps of code. -/
theorem Sat.runN {X : IntKind → Bool} {c c' : Cfg} {φ : List Prop} (n : Nat) (h : runC X C.P C.Γ C.N n c [] = some (c', φ)) (hφ : AllP φ) (hn : Sat C Q0 c') : Sat C Q0 c := (runC_ok n h hφ.all hn).2
/-- A region is entered. -/
theorem Sat.enter {id : Nat} {ops : List Oper} (h : Sat C Q0 (.reg ops ops F M ids k)) : Sat C Q0 (.code (.region id ⟨ops⟩ false) F M ids k) :=
  fun U E a w hsup hst => wp_region_lit (h U E a w hsup hst)
end
end Go.Proofs.YtcnpgmohnclojaaDoor.V
end
section
namespace Go.Proofs.YtcnpgmohnclojaaDoor.V
open Go.RowKit
section
variable {C : Ctx} {Q0 : Exit → Act → World → Prop} {F F' F0 : Tr} {M M' M0 : Mem} {ids ids' ids0 : List Nat} {k : List Kont} {full rest : List Oper} {hist : List Ent} {i : Nat}
theorem Sat.call0 {d : Option Tmp} {x : Operand} {f : FuncId} {ats : Array TypeId} {type : TypeId} {pos : String} {after : Array Edge} {res : SV}
    (hspec : Fun C.P C.Γ f [] res) (hn : C.wide = false) (hx : argsF C.Γ F x [] = some (f, [])) (hc : callable C.P f = true) (hp : putD C.N F d (some res) some = some F') (h : Sat C Q0 (.reg full rest F' M ids k)) :
    Sat C Q0 (.reg full (⟨d, .call ⟨.value x, #[], ats⟩, type, pos, after, none⟩ :: rest) F M ids k) := Sat.call hspec hn hx hc .nil hp h
theorem DSat.call0 {d : Option Tmp} {x : Operand} {f : FuncId} {ats : Array TypeId} {type : TypeId} {pos : String} {after : Array Edge} {res : SV}
    (hspec : Fun C.P C.Γ f [] res) (hn : C.wide = false) (hx : argsF C.Γ F x [] = some (f, [])) (hc : callable C.P f = true) (hp : putD C.N F d (some res) some = some F')
    (h : DSat C Q0 k full F0 M0 ids0 (i + 1) (⟨i, d, some res, none, [], [], false⟩ :: hist) rest F' M ids) :
    DSat C Q0 k full F0 M0 ids0 i hist (⟨d, .call ⟨.value x, #[], ats⟩, type, pos, after, none⟩ :: rest) F M ids := DSat.call hspec hn hx hc .nil hp h
theorem DSat.callM {d : Option Tmp} {x : Operand} {f : FuncId} {xs : List Operand} {ats : Array TypeId} {type : TypeId} {pos : String} {after : Array Edge} {svs args : List SV} {res : SV} {j : Nat} {want : Bool} {H : Prop}
    (hspec : Fun C.P C.Γ f args res) (hn : C.wide = false) (hH : guardH F full j want = some H) (hh : H) (hx : argsF C.Γ F x xs = some (f, svs)) (hc : callable C.P f = true) (hconv : Convs [] svs args) (hp : putD C.N F d (some res) some = some F')
    (h : DSat C Q0 k full F0 M0 ids0 (i + 1) (⟨i, d, some res, none, [], [], false⟩ :: hist) rest F' M ids) :
    DSat C Q0 k full F0 M0 ids0 i hist (⟨d, .call ⟨.value x, ⟨xs⟩, ats⟩, type, pos, after, some (j, want)⟩ :: rest) F M ids := by
  intro D
  obtain ⟨F1, h1, h2⟩ := putD_inv hp
  cases h1
  obtain ⟨p1, p2⟩ := putD_get h2
  refine h (D.step (fun ho Q K Fa Ma U E a w q1 q2 _ q3 hst hK => ?_) rfl rfl p2 (fun id => rfl) rfl)
  have hiff := guardH_ok (full := full) hst (guardH_le rfl q1 hH)
  obtain ⟨F2, hF2⟩ := tr_put Fa d (some res)
  unfold wpOp
  simp only [List.getElem?_toArray, ho]
  have hy := hiff.2 hh
  simp only [Region.wanted, hy, if_true]
  left
  unfold Oper.wp
  obtain ⟨vs, ht, hex⟩ := argsF_ok hst.vw (argsF_le (looks_le (F := F) q1 fun _ => rfl) hx)
  rw [hex, run_callFunc_go hc]
  have hH : MOk E (trk C.T0 Ma E) [] w := ⟨fun id B hf => by simp [find] at hf, fun id id' b hf => by simp [find] at hf⟩
  have ht' := Convs.tups (T' := trk C.T0 Ma E) hH (fun _ _ h => h) (fun id b hf => by simp [find] at hf) hconv ht
  refine (hspec (trk C.T0 Ma E) w _ (hst.lt hn) hst.glob ht').mono ?_
  rintro e w' ⟨v, rfl, hr, hb⟩
  exact hK F2 Ma U E _ w' hF2 (fun id => rfl) (fun k => by simp) ((hst.below hb).putG p1 hF2 fun s' hs' => by cases hs'; exact hr.up)
theorem DSat.callM0 {d : Option Tmp} {x : Operand} {f : FuncId} {ats : Array TypeId} {type : TypeId} {pos : String} {after : Array Edge} {res : SV} {j : Nat} {want : Bool} {H : Prop}
    (hspec : Fun C.P C.Γ f [] res) (hn : C.wide = false) (hH : guardH F full j want = some H) (hh : H) (hx : argsF C.Γ F x [] = some (f, [])) (hc : callable C.P f = true) (hp : putD C.N F d (some res) some = some F')
    (h : DSat C Q0 k full F0 M0 ids0 (i + 1) (⟨i, d, some res, none, [], [], false⟩ :: hist) rest F' M ids) :
    DSat C Q0 k full F0 M0 ids0 i hist (⟨d, .call ⟨.value x, #[], ats⟩, type, pos, after, some (j, want)⟩ :: rest) F M ids := DSat.callM hspec hn hH hh hx hc .nil hp h
/-! ### Slots that speak of blocks that are gone -/
def hasAll (M : Mem) : List Nat → Bool
  | [] => true
  | i :: r => hasB M i && hasAll M r
def tidyK {α : Type} (M : Mem) : Tr → (Tr → Option α) → Option α
  | .e, K => K .e
  | .n l x r, K => tidyK M l fun l' => tidyK M r fun r' => match x with
    | none => K (.n l' none r')
    | some s => match hasAll M (idsOf s) with
      | true => K (.n l' (some s) r')
      | false => K (.n l' none r')
def tidyT (M : Mem) : Tr → Tr
  | .e => .e
  | .n l x r => match x with
    | none => .n (tidyT M l) none (tidyT M r)
    | some s => match hasAll M (idsOf s) with
      | true => .n (tidyT M l) (some s) (tidyT M r)
      | false => .n (tidyT M l) none (tidyT M r)
theorem tidyK_eq {α : Type} : ∀ {F : Tr} {K : Tr → Option α}, tidyK M F K = K (tidyT M F)
  | .e, K => rfl
  | .n l x r, K => by
    simp only [tidyK, tidyT]
    rw [tidyK_eq, tidyK_eq]
    cases x with
    | none => rfl
    | some s =>
      dsimp only
      cases hasAll M (idsOf s) <;> rfl
theorem tidyT_get : ∀ (F : Tr) (t : Nat) (s : SV), (tidyT M F).get t = some s → F.get t = some s
  | .e, t, s => fun h => by cases t <;> exact h
  | .n l x r, t, s => by
    have h1 := tidyT_get l
    have h2 := tidyT_get r
    intro h
    have key : ∀ y, (x = none → y = none) → (∀ z, y = some z → x = some z) → (Tr.n (tidyT M l) y (tidyT M r)).get t = some s → (Tr.n l x r).get t = some s := by
      intro y _ hy h
      cases t with
      | zero => exact hy _ h
      | succ t =>
        simp only [Tr.get] at h ⊢
        cases hb : Nat.beq (Nat.mod t 2) 0 with
        | true => rw [hb] at h; exact h1 _ _ h
        | false => rw [hb] at h; exact h2 _ _ h
    unfold tidyT at h
    cases x with
    | none => exact key none (fun h => h) (fun z hz => hz) h
    | some x =>
      dsimp only at h
      split at h
      · exact key (some x) (fun h => h) (fun z hz => hz) h
      · exact key none (fun _ => rfl) (fun z hz => by cases hz) h
theorem Sat.tidy (hz : tidyK M F some = some F') (hn : Sat C Q0 (.reg full rest F' M ids k)) : Sat C Q0 (.reg full rest F M ids k) := by
  rw [tidyK_eq] at hz
  cases hz
  intro U E a w hsup h
  exact hn U E a w hsup ⟨h.defers, h.size, fun t s hs => h.slots t s (tidyT_get _ _ _ hs), h.mem, h.own, h.fresh, h.kp, h.hid, h.glob, h.pin, h.held⟩
end
end Go.Proofs.YtcnpgmohnclojaaDoor.V
end
section
namespace Go.Proofs.YtcnpgmohnclojaaDoor.V
open Go.RowKit
section
variable {C : Ctx} {Q0 : Exit → Act → World → Prop} {F F' F0 : Tr} {M M' M0 : Mem} {ids ids' ids0 : List Nat} {k : List Kont} {full rest : List Oper} {hist : List Ent} {i : Nat}
theorem DSat.goffM {d : Option Tmp} {op : Op} {type : TypeId} {pos : String} {after : Array Edge} {j : Nat} {want : Bool} {H : Prop} (v : SV) (hH : guardH F full j want = some H) (hh : ¬ H) (hp : putD C.N F d (some (.may H v)) some = some F')
    (h : DSat C Q0 k full F0 M0 ids0 (i + 1) (⟨i, d, some (.may H v), none, [], [], false⟩ :: hist) rest F' M ids) : DSat C Q0 k full F0 M0 ids0 i hist (⟨d, op, type, pos, after, some (j, want)⟩ :: rest) F M ids := by
  intro D
  obtain ⟨F1, h1, h2⟩ := putD_inv hp
  cases h1
  obtain ⟨p1, p2⟩ := putD_get h2
  refine h (D.step (fun ho Q K Fa Ma U E a w q1 q2 _ q3 hst hK => ?_) rfl rfl p2 (fun id => rfl) rfl)
  have hiff := guardH_ok (full := full) hst (guardH_le rfl q1 hH)
  have hy : ¬ (yielded full.toArray a.tmps j == some want) = true := fun hy => hh (hiff.1 hy)
  obtain ⟨F2, hF2⟩ := tr_put Fa d (some (.may H v))
  unfold wpOp
  simp only [List.getElem?_toArray, ho]
  simp only [Region.wanted, hy]
  exact hK F2 Ma U E _ w hF2 (fun id => rfl) (fun k => by simp) (hst.putG p1 hF2 fun s' hs' => by cases hs'; exact .may0 _ _ hh)
/-! ### A row that stands in the elements of another -/
def setGK {α : Type} (Y : Nat) (g : Nat → List SV) : Mem → (Mem → Option α) → Option α
  | [], K => K []
  | (i, B) :: r, K => match Nat.beq i Y with
    | true => match B with
      | .row t (.g n sz _) => K ((i, .row t (.g n sz g)) :: r)
      | _ => none
    | false => setGK Y g r fun r' => K ((i, B) :: r')
theorem setGK_inv {α : Type} {Y : Nat} {g : Nat → List SV} {x : α} : ∀ {L : Mem} {K : Mem → Option α}, setGK Y g L K = some x → ∃ L', K L' = some x
  | [], K, h => ⟨_, h⟩
  | (i, B) :: r, K, h => by
    simp only [setGK] at h
    split at h
    · split at h
      · exact ⟨_, h⟩
      · cases h
    · obtain ⟨L', h'⟩ := setGK_inv h
      exact ⟨_, h'⟩
def nst (wide : Bool) (pins : List Nat) (ids : List Nat) (X Y : Nat) (g : Nat → List SV) (F : Tr) (M : Mem) : Option Frz :=
  frzTK M true X F fun F' => frzMK M true X M fun M1 => setGK Y g M1 fun M' => match intoF wide pins [(1000 + Y, none)] F M F' M' ids with
    | some φ => some ⟨F', M', φ⟩
    | none => none
theorem nst_ok {X Y : Nat} {g : Nat → List SV} {φ : List Prop} {U : Nat → Prop} {E : Env} {a : Act} {w : World} (h : nst C.wide C.pins ids X Y g F M = some ⟨F', M', φ⟩) (hφ : AllP φ) (hst : St C F M U E a w) : ∃ U' E', Sup ids U' ∧ St C F' M' U' E' a w := by
  unfold nst at h
  rw [frzTK_eq, frzMK_eq] at h
  obtain ⟨L', h⟩ := setGK_inv h
  split at h
  · rename_i ψ hi
    simp only [Option.some.injEq, Frz.mk.injEq] at h
    obtain ⟨rfl, rfl, rfl⟩ := h
    exact into_ok hst hi hφ
  · cases h
/-- Row X, which stands in elements of row Y, is given up; Y's elements are said anew. -/
theorem Sat.nest {φ : List Prop} (X Y : Nat) (g : Nat → List SV) (hz : nst C.wide C.pins ids X Y g F M = some ⟨F', M', φ⟩) (hφ : AllP φ) (hn : Sat C Q0 (.reg full rest F' M' ids k)) : Sat C Q0 (.reg full rest F M ids k) := by
  intro U E a w _ hst
  obtain ⟨U', E', h1, h2⟩ := nst_ok hz hφ hst
  exact hn U' E' a w h1 h2
end
end Go.Proofs.YtcnpgmohnclojaaDoor.V
end
section
namespace Go.Proofs.YtcnpgmohnclojaaDoor.V
open Go.RowKit
section
variable {C : Ctx} {Q0 : Exit → Act → World → Prop} {F F' : Tr} {M M' : Mem} {ids : List Nat} {k : List Kont} {full rest : List Oper}
theorem Sat.rangeS {d : Option Tmp} {x : Operand} {t : TypeId} {type : TypeId} {pos : String} {after : Array Edge} {l : List UInt8} {i : Nat}
    (hu : C.P.underlying t = some .string) (hx : opd C.Γ F x = some (.str l)) (hp : putD C.N F d (some (.ptr i 0)) some = some F')
    (h : Sat C Q0 (.reg full rest F' ((i, .obj (.stringIter ⟨l.toArray⟩ 0)) :: M) ids k)) :
    Sat C Q0 (.reg full (⟨d, .range t x, type, pos, after, none⟩ :: rest) F M (i :: ids) k) := by
  intro U E a w hsup hst
  obtain ⟨hi, hs'⟩ := hsup
  obtain ⟨F1, h1, h2⟩ := putD_inv hp
  cases h1
  refine wpList_plain rfl fun K hK => ?_
  unfold Oper.wp
  have hr := opd_rep hst.vw hx
  generalize hv : a.eval x = v at hr
  cases hr with
  | str _ hl =>
    have hrun : (execOp a.eval ⟨d, .range t x, type, pos, after, none⟩).run C.P w = .ok (.value (.pointer (some ⟨w.heap.size, 0, none⟩))) (w.alloc (.stringIter ⟨l.toArray⟩ 0)) := by
      unfold execOp
      simp only [Instr.range, hv, Sem.run_bind, run_underlying hu, Result.andThen_ok, Sem.run_pure, run_newObj_alloc]
    rw [hrun]
    exact hK _ _ (h _ _ _ _ hs' ((hst.new hi (B := .obj (.stringIter ⟨l.toArray⟩ 0)) (show (w.heap.push _)[w.heap.size]? = _ by simp)).putD h2 fun s' hs' => by cases hs'; exact .ptr _ 0 _ (by simp [envWith])))
theorem St.iter {U : Nat → Prop} {E : Env} {a : Act} {w : World} (h : St C F M U E a w) {id b : Nat} {s : ByteArray} {p p' : Nat} (hM : upd M id (.obj (.stringIter s p')) = some M') (hf : find M id = some (.obj (.stringIter s p))) (hE : E id = some (some b)) : St C F M' U E a (w.iterAt b s p') := by
  have hk : w.heap[b]? = some (.stringIter s p) := (h.mem.at hf hE).2
  have hfind := find_upd hM
  have hsome : ∀ k, (find M' k).isSome = true → (find M k).isSome = true := fun k hk => by
    rw [hfind] at hk
    split at hk
    · rename_i e; subst e; rw [hf]; rfl
    · exact hk
  have hT : ∀ x, x < w.heap.size → trk C.T0 M' E x → trk C.T0 M E x := by
    rintro x _ (⟨k, B1, h1, h2⟩ | h0)
    · have := hsome k (by rw [h1]; rfl)
      obtain ⟨B2, hB2⟩ := Option.isSome_iff_exists.1 this
      exact .inl ⟨k, B2, hB2, h2⟩
    · exact .inr h0
  have hTb : mine M E b := ⟨id, _, hf, hE⟩
  have hw : Chg (mine M E) w (w.iterAt b s p') := by
    refine ⟨by rw [Lib.iterAt_size]; exact Nat.le_refl _, fun x _ hn => Lib.iterAt_other w b x s p' (fun e => hn (by rw [e]; exact hTb)), fun x _ => ?_⟩
    by_cases e : x = b
    · subst e
      simp only [World.shape?, Lib.iterAt_heap w x s p p' hk, hk]
    · simp only [World.shape?, Lib.iterAt_other w b x s p' e]
  refine h.go (fun _ _ h => h) hT hw rfl rfl rfl ⟨fun k B1 h1 => ?_, fun k k' x h1 h2 h3 h4 => h.mem.inj k k' x (hsome k h1) (hsome k' h2) h3 h4⟩ (fun k x h1 h2 => h.own k x (hsome k h1) h2) h.fresh
  rw [hfind] at h1
  split at h1
  · rename_i e
    subst e
    simp at h1
    subst h1
    left
    exact ⟨b, hE, by rw [Lib.iterAt_size]; exact (h.mem.at hf hE).1, Lib.iterAt_heap w b s p p' hk⟩
  · rename_i e
    rcases h.mem.blk k B1 h1 with ⟨x, h2, h3, h4⟩ | h2
    · left
      have hxb : x ≠ b := fun e' => by
        subst e'
        exact e (h.mem.inj k id x (by rw [h1]; rfl) (by rw [hf]; rfl) h2 hE)
      exact ⟨x, h2, by rw [Lib.iterAt_size]; exact h3, h4.mono (fun _ _ h => h) hT (hw.weak fun _ => .inl) (Lib.iterAt_other w b x s p' hxb)⟩
    · right; exact h2
section
variable {d : Option Tmp} {x : Operand} {type : TypeId} {pos : String} {after : Array Edge} {l : List UInt8} {p i : Nat}
theorem iter_at {U : Nat → Prop} {E : Env} {a : Act} {w : World} (hst : St C F M U E a w) (hx : opd C.Γ F x = some (.ptr i 0)) : ∃ b, a.eval x = .pointer (some ⟨b, 0, none⟩) ∧ E i = some (some b) := by
  have hr := opd_rep hst.vw hx
  generalize a.eval x = v at hr
  cases hr with
  | ptr _ _ b h => exact ⟨b, rfl, h⟩
/-- At the end. -/
theorem Sat.nextE (hx : opd C.Γ F x = some (.ptr i 0)) (hf : find M i = some (.obj (.stringIter ⟨l.toArray⟩ p))) (hl : ¬ p < l.length) (hp : putD C.N F d (some (.tup [.bool false])) some = some F') (h : Sat C Q0 (.reg full rest F' M ids k)) :
    Sat C Q0 (.reg full (⟨d, .next x true, type, pos, after, none⟩ :: rest) F M ids k) := by
  intro U E a w hsup hst
  obtain ⟨F1, h1, h2⟩ := putD_inv hp
  cases h1
  refine wpList_plain rfl fun K hK => ?_
  unfold Oper.wp
  obtain ⟨b, hv, hE⟩ := iter_at hst hx
  have hk : w.heap[b]? = some (.stringIter ⟨l.toArray⟩ p) := (hst.mem.at hf hE).2
  have hrun : (execOp a.eval ⟨d, .next x true, type, pos, after, none⟩).run C.P w = .ok (.value (.tuple #[.bool false])) w := by
    unfold execOp
    simp only [hv, Sem.run_bind, Lib.run_next_end_at w b _ p type hk (by simpa [ByteArray.size] using hl), Result.andThen_ok, Sem.run_pure]
  rw [hrun]
  exact hK _ _ (h U E _ _ hsup (hst.putD h2 fun s' hs' => by cases hs'; exact .tup _ [_] (.cons _ _ _ _ (.bool _) .nil)))
theorem Sat.next (hx : opd C.Γ F x = some (.ptr i 0)) (hf : find M i = some (.obj (.stringIter ⟨l.toArray⟩ p))) (hok : okLen l.length) (hl : p < l.length)
    (hp : putD C.N F d (some (.tup [.bool true, .int .i64 (p : Int), .int .i32 ((Utf8.decode ⟨l.toArray⟩ p).1 : Int)])) some = some F')
    (hM : upd M i (.obj (.stringIter ⟨l.toArray⟩ (p + (Utf8.decode ⟨l.toArray⟩ p).2))) = some M') (hn : Sat C Q0 (.reg full rest F' M' ids k)) :
    Sat C Q0 (.reg full (⟨d, .next x true, type, pos, after, none⟩ :: rest) F M ids k) := by
  intro U E a w hsup hst
  obtain ⟨F1, h1, h2⟩ := putD_inv hp
  cases h1
  refine wpList_plain rfl fun K hK => ?_
  unfold Oper.wp
  obtain ⟨b, hv, hE⟩ := iter_at hst hx
  have hk : w.heap[b]? = some (.stringIter ⟨l.toArray⟩ p) := (hst.mem.at hf hE).2
  have hrun : (execOp a.eval ⟨d, .next x true, type, pos, after, none⟩).run C.P w = .ok (.value (.tuple #[.bool true, .int .i64 p, .int .i32 (Utf8.decode ⟨l.toArray⟩ p).1])) (w.iterAt b ⟨l.toArray⟩ (p + (Utf8.decode ⟨l.toArray⟩ p).2)) := by
    unfold execOp
    simp only [hv, Sem.run_bind, Lib.run_next_any_at w b _ p type hk (by simpa [ByteArray.size] using hl), Result.andThen_ok, Sem.run_pure]
  rw [hrun]
  have hc := Lib.rune_le ⟨l.toArray⟩ p
  unfold okLen at hok
  exact hK _ _ (hn U E _ _ hsup ((hst.iter hM hf hE).putD h2 fun s' hs' => by
    cases hs'
    exact .tup _ [_, _, _] (.cons _ _ _ _ (.bool _) (.cons _ _ _ _ (.int _ _ (inR_i64 (by omega) (by omega))) (.cons _ _ _ _ (.int _ _ (by simp [inR, IntKind.min, IntKind.max, IntKind.signed, IntKind.bits]; omega)) .nil)))))
theorem dec_lo (s : ByteArray) (i : Nat) (h : (s.get! i).toNat < 128) : Utf8.decode s i = ((s.get! i).toNat, 1) := by
  unfold Utf8.decode
  simp only [Nat.add_zero]
  rw [if_pos h]
theorem dec_hi (s : ByteArray) (i : Nat) (h : ¬ (s.get! i).toNat < 128) : 128 ≤ (Utf8.decode s i).1 := by
  unfold Utf8.decode
  simp only [Nat.add_zero]
  rw [if_neg h]
  split
  · split
    · rename_i h2; exact h2
    · simp [Utf8.runeError]
  · split
    · split
      · rename_i h2; simp only [Bool.and_eq_true, decide_eq_true_eq, ge_iff_le] at h2; omega
      · simp [Utf8.runeError]
    · split
      · split
        · rename_i h2; simp only [Bool.and_eq_true, decide_eq_true_eq, ge_iff_le] at h2; omega
        · simp [Utf8.runeError]
      · simp [Utf8.runeError]
theorem get_l (hl : p < l.length) : (ByteArray.get! ⟨l.toArray⟩ p) = l.getD p 0 := by
  show l.toArray[p]! = _
  simp [hl, List.getD]
/-- A byte below 128. -/
theorem Sat.nextA (hx : opd C.Γ F x = some (.ptr i 0)) (hf : find M i = some (.obj (.stringIter ⟨l.toArray⟩ p))) (hok : okLen l.length) (hl : p < l.length) (ha : (l.getD p 0).toNat < 128)
    (hp : putD C.N F d (some (.tup [.bool true, .int .i64 (p : Int), .int .i32 ((l.getD p 0).toNat : Int)])) some = some F')
    (hM : upd M i (.obj (.stringIter ⟨l.toArray⟩ (p + 1))) = some M') (hn : Sat C Q0 (.reg full rest F' M' ids k)) :
    Sat C Q0 (.reg full (⟨d, .next x true, type, pos, after, none⟩ :: rest) F M ids k) := by
  have e := dec_lo ⟨l.toArray⟩ p (by rw [get_l hl]; exact ha)
  rw [get_l hl] at e
  exact Sat.next hx hf hok hl (by rw [e]; exact hp) (by rw [e]; exact hM) hn
/-- Another rune. -/
theorem Sat.nextN {Ff : Nat → Tr} {Mf : Nat → Mem} (hx : opd C.Γ F x = some (.ptr i 0)) (hf : find M i = some (.obj (.stringIter ⟨l.toArray⟩ p))) (hok : okLen l.length) (hl : p < l.length) (ha : ¬ (l.getD p 0).toNat < 128)
    (hp : ∀ c : Nat, putD C.N F d (some (.tup [.bool true, .int .i64 (p : Int), .int .i32 (c : Int)])) some = some (Ff c))
    (hM : ∀ q : Nat, upd M i (.obj (.stringIter ⟨l.toArray⟩ q)) = some (Mf q)) (hn : ∀ c q : Nat, 128 ≤ c → c ≤ 1114111 → Sat C Q0 (.reg full rest (Ff c) (Mf q) ids k)) :
    Sat C Q0 (.reg full (⟨d, .next x true, type, pos, after, none⟩ :: rest) F M ids k) :=
  Sat.next hx hf hok hl (hp _) (hM _) (hn _ _ (dec_hi ⟨l.toArray⟩ p (by rw [get_l hl]; exact ha)) (Lib.rune_le _ _))
end
end
end Go.Proofs.YtcnpgmohnclojaaDoor.V
end
section
namespace Go.Proofs.YtcnpgmohnclojaaDoor.V
open Go.RowKit
theorem splice_get {α : Type} (A B : List α) (s i : Nat) (hs : s + B.length ≤ A.length) : (A.take s ++ B ++ A.drop (s + B.length))[i]? = if i < s then A[i]? else if i < s + B.length then B[i - s]? else A[i]? := by
  by_cases h1 : i < s
  · rw [if_pos h1, List.append_assoc, List.getElem?_append_left (by rw [List.length_take]; omega), List.getElem?_take_of_lt h1]
  · rw [if_neg h1]
    by_cases h2 : i < s + B.length
    · rw [if_pos h2, List.getElem?_append_left (by rw [List.length_append, List.length_take]; omega), List.getElem?_append_right (by rw [List.length_take]; omega), List.length_take, Nat.min_eq_left (by omega)]
    · rw [if_neg h2, List.getElem?_append_right (by rw [List.length_append, List.length_take]; omega), List.getElem?_drop, List.length_append, List.length_take, Nat.min_eq_left (by omega)]
      congr 1
      omega
theorem run_equalIn_sl {P : Program} {t el : TypeId} (hu : P.underlying t = some (.slice el)) (d : Nat) (w : World) (q : Option Addr) (n c : Nat) : (Op.equalIn (d + 1) t (.slice q n c) (.slice none 0 0)).run P w = .ok q.isNone w := by
  unfold Op.equalIn
  simp only [Sem.run_bind, run_underlying hu, Result.andThen_ok]
  rcases q with _ | q <;> rfl
section
variable {C : Ctx} {Q0 : Exit → Act → World → Prop} {F F' F1 F2 : Tr} {M M' : Mem} {ids : List Nat} {k : List Kont} {full rest : List Oper}
theorem Sat.nilR {d : Option Tmp} {x : Operand} {t t' : TypeId} {type : TypeId} {pos : String} {after : Array Edge} {e : EV} {el : TypeId}
    (hu : C.P.underlying t = some (.slice el)) (hx : opd C.Γ F x = some (.ro e)) (hp1 : putD C.N F d (some (.bool true)) some = some F1) (hp2 : putD C.N F d (some (.bool false)) some = some F2)
    (h1 : e.len = 0 → Sat C Q0 (.reg full rest F1 M ids k)) (h2 : Sat C Q0 (.reg full rest F2 M ids k)) :
    Sat C Q0 (.reg full (⟨d, .binOp .eql t x (.const (.slice none 0 0)) t', type, pos, after, none⟩ :: rest) F M ids k) := by
  intro U E a w hsup hst
  obtain ⟨G1, e1, e2⟩ := putD_inv hp1
  cases e1
  obtain ⟨G2, e3, e4⟩ := putD_inv hp2
  cases e3
  refine wpList_plain rfl fun K hK => ?_
  unfold Oper.wp
  have hr := opd_rep hst.vw hx
  generalize hv : a.eval x = v at hr
  have run : ∀ b : Bool, ((∀ w' : World, (Op.equal t v (.slice none 0 0)).run C.P w' = .ok b w') ∧ (∀ w' : World, (eqGuard .eql t x (.const (.slice none 0 0)) v (.slice none 0 0)).run C.P w' = .ok () w') ∧ ∀ w' : World, (binOp .eql t v (.slice none 0 0)).run C.P w' = ((do pure (.bool (← Op.equal t v (.slice none 0 0))) : Sem Value)).run C.P w') → (execOp a.eval ⟨d, .binOp .eql t x (.const (.slice none 0 0)) t', type, pos, after, none⟩).run C.P w = .ok (.value (.bool b)) w := fun b ⟨q1, q2, q3⟩ => by
    have hc : a.eval (.const (.slice none 0 0)) = .slice none 0 0 := rfl
    unfold execOp
    simp only [hv, hc, Sem.run_bind, q2, Result.andThen_ok, q3, q1, Sem.run_pure]
  have eqn : ∀ (p : Option Addr) (n c : Nat), v = .slice p n c → ((∀ w' : World, (Op.equal t v (.slice none 0 0)).run C.P w' = .ok p.isNone w') ∧ (∀ w' : World, (eqGuard .eql t x (.const (.slice none 0 0)) v (.slice none 0 0)).run C.P w' = .ok () w') ∧ ∀ w' : World, (binOp .eql t v (.slice none 0 0)).run C.P w' = ((do pure (.bool (← Op.equal t v (.slice none 0 0))) : Sem Value)).run C.P w') := fun p n c hvv => by
    rw [hvv]
    refine ⟨fun w' => ?_, fun w' => ?_, fun w' => rfl⟩
    · exact run_equalIn_sl hu _ _ _ _ _
    · unfold eqGuard
      split <;> rfl
  cases hr with
  | ro0 _ h0 =>
    rw [run true (eqn none 0 0 rfl)]
    exact hK _ _ (h1 h0 U E _ _ hsup (hst.putD e2 fun s' hs' => by cases hs'; exact .bool _))
  | ro1 _ ad h0 =>
    rw [run false (eqn (some ad) 0 0 rfl)]
    exact hK _ _ (h2 U E _ _ hsup (hst.putD e4 fun s' hs' => by cases hs'; exact .bool _))
  | ro _ b o n c cc hT hn hc hr he hl ok hb =>
    rw [run false (eqn (some ⟨b, o, none⟩) n c rfl)]
    exact hK _ _ (h2 U E _ _ hsup (hst.putD e4 fun s' hs' => by cases hs'; exact .bool _))
theorem splice_u8 (old m : List UInt8) (s n : Nat) (h : s + n ≤ old.length) (hm : n ≤ m.length) : (old.take s ++ m.take n ++ old.drop (s + n)).length = old.length := by
  simp only [List.length_append, List.length_take, List.length_drop]
  omega
variable {i s n : Nat} {ta tb elem t : TypeId} {old m : List UInt8}
theorem copyP_core {U : Nat → Prop} {E : Env} {a : Act} {w : World} (hst : St C F M U E a w) {o : Oper} {x y : Operand} (ho : o.op = .call ⟨.builtin .copy, ⟨[x, y]⟩, ⟨[ta, tb]⟩⟩) (hu : C.P.underlying ta = some (.slice elem)) (hsz : sizeF C.P elem = some 1)
    (hx : opd C.Γ F x = some (.row i 0 1 s n)) (hy : opd C.Γ F y = some (.ro (.u8 m))) (hn : 0 < n) (hf : find M i = some (.row t (.u8 old))) (ho2 : s + n ≤ old.length) (hm : n ≤ m.length) (hM : upd M i (.row t (.u8 (old.take s ++ m.take n ++ old.drop (s + n)))) = some M') :
    ∃ w', (execOp a.eval o).run C.P w = .ok (.value (.int .i64 (n : Int))) w' ∧ St C F M' U E a w' := by
  have hrx := opd_rep hst.vw hx
  have hry := opd_rep hst.vw hy
  have hs1 := sizeF_size hsz
  generalize hvx : a.eval x = vx at hrx
  cases hrx with
  | row0 _ _ _ _ _ hE h0 => omega
  | row _ _ _ _ _ b o' c n' t' hE hs hoff hl ok =>
  have hc0 : c ≠ 0 := by omega
  obtain ⟨ho1, _⟩ := hoff hc0
  simp only [Nat.zero_add, Nat.mul_one] at ho1
  have ho1 := ho1.symm
  subst ho1
  obtain ⟨hlt, cs, cc, hh, hlen, hcl, hcc, hci⟩ := hst.mem.at hf hE
  simp only [EV.len, EV.sz, Nat.mul_one] at hlen hcl hcc hci
  have hat : ∀ j, j < old.length → cs[j]? = some (.int .u8 ((old.getD j 0).toNat : Int)) := fun j hj => by
    have hI := hci j hj
    have hq := hcc j 0
    simp only [EV.items] at hI
    generalize cc j = cj at hI hq
    cases hI with
    | one _ cv _ _ p0 pr pI =>
      cases pr
      exact hq _ hj rfl
  have hmt : (m.take n).length = n := by rw [List.length_take]; omega
  generalize hvy : a.eval y = vy at hry
  cases hry with
  | ro0 _ h0 => simp only [EV.len] at h0; omega
  | ro1 _ _ h0 => simp only [EV.len] at h0; omega
  | ro _ bb oo n2 k2 c2 hT2 hn2 hc2 hr2 he2 hl2 ok2 hb2 =>
  simp only [EV.len, EV.sz, Nat.mul_one] at he2 hn2 hc2 hr2
  subst he2
  have hsrc : ∀ j v, (bytesC (m.take n))[j]? = some v → w.cell? ((⟨bb, oo, none⟩ : Addr).add j) = some v := fun j v hv => by
    rcases Nat.lt_or_ge j n with hj | hj
    · rw [bytesC_at (m.take n) j (by omega)] at hv
      cases hv
      have hg : (m.take n).getD j 0 = m.getD j 0 := by
        rw [List.getD_eq_getElem?_getD, List.getD_eq_getElem?_getD, List.getElem?_take_of_lt hj]
      rw [hg]
      have hI2 := hr2 j (by omega)
      have hcj := hc2 j 0
      simp only [EV.items] at hI2
      generalize c2 j = cj at hI2 hcj
      cases hI2 with
      | one _ cv _ _ p0 pr pI =>
        cases pr
        rw [Lib.addr_add]
        exact hcj _ (by omega) rfl
    · rw [List.getElem?_eq_none (by rw [bytesC_len, hmt]; exact hj)] at hv
      cases hv
  have hrun : (execOp a.eval o).run C.P w = .ok (.value (.int .i64 (n : Int))) (w.setRow b (cs.take s ++ bytesC (m.take n) ++ cs.drop (s + (bytesC (m.take n)).length)).toArray) := by
    refine exec_copy ho ?_
    rw [hvx, hvy]
    have := run_copy_row (P := C.P) w ta tb o.type elem b s n c ⟨bb, oo, none⟩ m.length k2 cs.toArray t (bytesC (m.take n)) hu hs1 hh (by rw [bytesC_len, hmt]; exact (Nat.min_eq_right hm).symm) hsrc (by rw [bytesC_len, hmt]; simp; omega) (bytesC_one _)
    rw [this]
    simp [goInt, bytesC_len, hmt]
  refine ⟨_, hrun, hst.upd_ hM hf hE hh ?_ ⟨_, fun j => [.int .u8 (((old.take s ++ m.take n ++ old.drop (s + n)).getD j 0).toNat : Int)], setRow_heap w b cs.toArray _ t (0, 0) hh, ?_, fun j _ => rfl, fun j jj v hj hv => ?_, fun j hj => .one _ _ _ _ rfl (.int _ _ (inR_byte _)) .nil⟩⟩
  · simp only [List.length_append, List.length_take, List.length_drop, bytesC_len]
    omega
  · simp only [EV.len, EV.sz, Nat.mul_one, List.length_append, List.length_take, List.length_drop, bytesC_len]
    omega
  · match jj, hv with
    | 0, hv =>
      simp only [List.getElem?_cons_zero, Option.some.injEq] at hv
      subst hv
      simp only [EV.len] at hj
      rw [splice_u8 old m s n ho2 hm] at hj
      have hnew := splice_get old (m.take n) s j (by rw [hmt]; exact ho2)
      rw [hmt] at hnew
      simp only [EV.sz, Nat.mul_one, Nat.add_zero]
      rw [splice_get cs (bytesC (m.take n)) s j (by rw [bytesC_len, hmt]; omega), bytesC_len, hmt, List.getD_eq_getElem?_getD, hnew]
      by_cases h1 : j < s
      · rw [if_pos h1, if_pos h1, hat j hj, List.getD_eq_getElem?_getD]
      · rw [if_neg h1, if_neg h1]
        by_cases h2 : j < s + n
        · rw [if_pos h2, if_pos h2, bytesC_at _ _ (by omega), List.getD_eq_getElem?_getD]
        · rw [if_neg h2, if_neg h2, hat j hj, List.getD_eq_getElem?_getD]
    | jj + 1, hv => simp at hv
theorem Sat.copyP {d : Option Tmp} {x y : Operand} {type : TypeId} {pos : String} {after : Array Edge}
    (hu : C.P.underlying ta = some (.slice elem)) (hsz : sizeF C.P elem = some 1) (hx : opd C.Γ F x = some (.row i 0 1 s n)) (hy : opd C.Γ F y = some (.ro (.u8 m))) (hf : find M i = some (.row t (.u8 old)))
    (hM : upd M i (.row t (.u8 (old.take s ++ m.take n ++ old.drop (s + n)))) = some M') (hp : putD C.N F d (some (.int .i64 (n : Int))) some = some F')
    (hn : 0 < n) (ho2 : s + n ≤ old.length) (hm : n ≤ m.length) (h : Sat C Q0 (.reg full rest F' M' ids k)) :
    Sat C Q0 (.reg full (⟨d, .call ⟨.builtin .copy, ⟨[x, y]⟩, ⟨[ta, tb]⟩⟩, type, pos, after, none⟩ :: rest) F M ids k) := by
  intro U E a w hsup hst
  obtain ⟨F1, h1, h2⟩ := putD_inv hp
  cases h1
  refine wpList_plain rfl fun K hK => ?_
  unfold Oper.wp
  obtain ⟨w', q1, q2⟩ := copyP_core hst (o := ⟨d, .call ⟨.builtin .copy, ⟨[x, y]⟩, ⟨[ta, tb]⟩⟩, type, pos, after, none⟩) rfl hu hsz hx hy hn hf ho2 hm hM
  rw [q1]
  have hlen : okLen m.length := by
    have hr := opd_rep hst.vw hy
    generalize a.eval y = vy at hr
    cases hr with
    | ro0 _ h0 => simp only [EV.len] at h0; rw [h0]; unfold okLen; omega
    | ro1 _ _ h0 => simp only [EV.len] at h0; rw [h0]; unfold okLen; omega
    | ro _ _ _ _ _ _ _ _ _ _ he hl ok _ => simp only [EV.len] at he; rw [← he]; unfold okLen at ok ⊢; omega
  unfold okLen at hlen
  exact hK _ _ (h U E _ w' hsup (q2.putD h2 fun s' hs' => by cases hs'; exact .int _ _ (inR_i64 (by omega) (by omega))))
end
end Go.Proofs.YtcnpgmohnclojaaDoor.V
end
section
namespace Go.Proofs.YtcnpgmohnclojaaDoor.V
open Go.RowKit
/-- What the check of a builder of type t (two parts) does. -/
structure CheckOk (P : Program) (f : FuncId) (t : TypeId) : Prop where
  used : ∀ (b : Nat) (w : World), w.cell? ⟨b, 0, none⟩ = some (.pointer (some ⟨b, 0, none⟩)) → Calls P f #[.pointer (some ⟨b, 0, none⟩)] w fun e w' => e = .returned (.tuple #[]) ∧ w' = w
  fresh : ∀ (b : Nat) (w : World), w.cell? ⟨b, 0, none⟩ = some (.pointer none) → w.shape? b = some (t, 2) → w.frozen? ⟨b, 0, none⟩ = false →
    Calls P f #[.pointer (some ⟨b, 0, none⟩)] w fun e w' => e = .returned (.tuple #[]) ∧ w' = w.setCell ⟨b, 0, none⟩ (.pointer (some ⟨b, 0, none⟩))
section
variable {C : Ctx} {Q0 : Exit → Act → World → Prop} {F F' : Tr} {M M' : Mem} {ids : List Nat} {k : List Kont} {full rest : List Oper} {i : Nat} {t : TypeId} {s0 : SV}
theorem Sat.checkF {d : Option Tmp} {x : Operand} {f : FuncId} {xs : List Operand} {ats : Array TypeId} {type : TypeId} {pos : String} {after : Array Edge}
    (hspec : CheckOk C.P f t) (hx : argsF C.Γ F x xs = some (f, [.ptr i 0])) (hc : callable C.P f = true) (hf : find M i = some (.cells t [.nilp, s0])) (h1 : s0.one = true) (hM : upd M i (.cells t [.ptr i 0, s0]) = some M')
    (hp : putD C.N F d (some (.tup [])) some = some F') (h : Sat C Q0 (.reg full rest F' M' ids k)) :
    Sat C Q0 (.reg full (⟨d, .call ⟨.value x, ⟨xs⟩, ats⟩, type, pos, after, none⟩ :: rest) F M ids k) := by
  intro U E a w hsup hst
  obtain ⟨F1, e1, e2⟩ := putD_inv hp
  cases e1
  refine wpList_plain rfl fun K hK => ?_
  unfold Oper.wp
  obtain ⟨vs, ht, hex⟩ := argsF_ok hst.vw hx
  rw [hex, run_callFunc_go hc]
  cases ht with
  | cons _ v0 _ vs hr ht =>
  cases ht
  cases hr with
  | ptr _ _ b hE =>
  obtain ⟨hlt, cs, hh, hI⟩ := hst.mem.at hf hE
  cases hI with
  | one _ c0 _ cs1 p0 pr pI =>
  cases pr
  cases pI with
  | arr _ _ _ _ _ _ _ => simp [SV.one] at h1
  | one _ c1 _ cs2 q0 qr qI =>
  cases qI
  refine (hspec.fresh b w (by simp [World.cell?, hh]) (by simp [World.shape?, hh]) (by simp [World.frozen?, hh])).mono ?_
  rintro en w' ⟨rfl, rfl⟩
  have hw : w.setCell ⟨b, 0, none⟩ (.pointer (some ⟨b, 0, none⟩)) = w.setRow b ([Value.pointer (some ⟨b, 0, none⟩), c1]).toArray := by
    rw [setCell_eq_setRow w b 0 _ t (0, 0) _ hh]
    rfl
  rw [hw]
  have hst' : St C F M' U E a (w.setRow b ([Value.pointer (some ⟨b, 0, none⟩), c1]).toArray) := hst.upd_ hM hf hE hh rfl ⟨_, setRow_heap w b _ _ t (0, 0) hh, .one _ _ _ _ rfl (.ptr i 0 b hE) (upd_items hst hM hf hE hh rfl (.one _ _ _ _ h1 qr .nil))⟩
  exact hK _ _ (h U E _ _ hsup (hst'.putD e2 fun s' hs' => by cases hs'; exact .tup [] [] .nil))
theorem Sat.checkU {d : Option Tmp} {x : Operand} {f : FuncId} {xs : List Operand} {ats : Array TypeId} {type : TypeId} {pos : String} {after : Array Edge} {l : List SV}
    (hspec : CheckOk C.P f t) (hx : argsF C.Γ F x xs = some (f, [.ptr i 0])) (hc : callable C.P f = true) (hf : find M i = some (.cells t (.ptr i 0 :: l)))
    (hp : putD C.N F d (some (.tup [])) some = some F') (h : Sat C Q0 (.reg full rest F' M ids k)) :
    Sat C Q0 (.reg full (⟨d, .call ⟨.value x, ⟨xs⟩, ats⟩, type, pos, after, none⟩ :: rest) F M ids k) := by
  intro U E a w hsup hst
  obtain ⟨F1, e1, e2⟩ := putD_inv hp
  cases e1
  refine wpList_plain rfl fun K hK => ?_
  unfold Oper.wp
  obtain ⟨vs, ht, hex⟩ := argsF_ok hst.vw hx
  rw [hex, run_callFunc_go hc]
  cases ht with
  | cons _ v0 _ vs hr ht =>
  cases ht
  cases hr with
  | ptr _ _ b hE =>
  obtain ⟨hlt, cs, hh, hI⟩ := hst.mem.at hf hE
  cases hI with
  | one _ c0 _ cs1 p0 pr pI =>
  cases pr with
  | ptr _ _ b2 hE2 =>
  have hbb : b2 = b := by rw [hE] at hE2; cases hE2; rfl
  subst hbb
  refine (hspec.used b2 w (by simp [World.cell?, hh])).mono ?_
  rintro en w' ⟨rfl, rfl⟩
  exact hK _ _ (h U E _ _ hsup (hst.putD e2 fun s' hs' => by cases hs'; exact .tup [] [] .nil))
end
end Go.Proofs.YtcnpgmohnclojaaDoor.V
end
section
namespace Go.Proofs.YtcnpgmohnclojaaDoor.V
open Go.RowKit
/-- What String of a builder of type t (bytes: e) returns. -/
structure BStrOk (P : Program) (f : FuncId) (t e : TypeId) : Prop where
  row : ∀ (B b g cap : Nat) (p : Value) (cur : Array Value) (l : List UInt8) (w : World), w.heap[b]? = some (.cells #[p, .slice (some ⟨g, 0, none⟩) l.length cap] t (0, 0)) → w.heap[g]? = some (.cells cur e (0, 0)) → B ≤ g →
    l.length ≤ cap → cap ≤ maxLen → l.length ≤ cur.size → (∀ j x, l[j]? = some x → w.cell? ⟨g, j, none⟩ = some (.int .u8 x.toNat)) → l ≠ [] →
    Calls P f #[.pointer (some ⟨b, 0, none⟩)] w fun en w' => en = .returned (.string ⟨l.toArray⟩) ∧ Below B w w'
  nil : ∀ (B b : Nat) (p : Value) (w : World), (p = .pointer none ∨ p = .pointer (some ⟨b, 0, none⟩)) → w.heap[b]? = some (.cells #[p, .slice none 0 0] t (0, 0)) → B ≤ b → B ≤ w.heap.size →
    Calls P f #[.pointer (some ⟨b, 0, none⟩)] w fun en w' => en = .returned (.string ⟨#[]⟩) ∧ Below B w w'
section
variable {C : Ctx} {Q0 : Exit → Act → World → Prop} {F F' : Tr} {M : Mem} {ids : List Nat} {k : List Kont} {full rest : List Oper} {i : Nat} {t e : TypeId} {s0 : SV} {U : Nat → Prop} {E : Env} {a : Act} {w w' : World}
theorem St.forgetAll (hst : St C F M U E a w) (hh : C.hold = []) (hG : ∀ w', Below C.W0.heap.size C.W0 w' → GOk C.Γ C.T0 w') (hS : ∀ b, ¬ C.S b) (hb : Below C.W0.heap.size w w') (D : Nat) : St C (Tr.mk D) [] U E a w' where
  defers := hst.defers
  size := hst.size
  slots := fun t s h => by rw [mk_get] at h; cases h
  mem := ⟨fun id B hf => by simp [find] at hf, fun id id' b hf => by simp [find] at hf⟩
  own := fun id b hf => by simp [find] at hf
  fresh := hst.fresh
  kp := ⟨hb.os.trans hst.kp.os, hb.tape.trans hst.kp.tape, hb.output.trans hst.kp.output, ⟨Nat.le_trans hst.kp.chg.size hb.size, fun x hx hn => (hb.block x hx).trans (hst.kp.chg.keep x hx hn), fun x hx => by
    have := hst.kp.chg.shape x hx
    rw [← this]
    simp only [World.shape?, hb.block x hx]⟩⟩
  hid := hst.hid
  glob := (hG w' ⟨hb.os.trans hst.kp.os, hb.tape.trans hst.kp.tape, hb.output.trans hst.kp.output, Nat.le_trans hst.kp.chg.size hb.size, fun x hx => (hb.block x hx).trans (hst.kp.chg.keep x hx (hS x))⟩).mono (fun b _ h => by
    rcases h with ⟨id, B, hf, _⟩ | h
    · simp [find] at hf
    · exact h) (Chg.refl _ w')
  pin := fun p hp => by rw [hh] at hp; cases hp
  held := fun p hp => by rw [hh] at hp; cases hp
theorem Sat.bstr {d : Option Tmp} {x : Operand} {f : FuncId} {xs : List Operand} {ats : Array TypeId} {type : TypeId} {pos : String} {after : Array Edge} {j n : Nat} {l : List UInt8} (D : Nat)
    (hspec : BStrOk C.P f t e) (hx : argsF C.Γ F x xs = some (f, [.ptr i 0])) (hc : callable C.P f = true) (hf : find M i = some (.cells t [s0, .row j 0 1 0 n])) (h1 : s0.one = true) (hj : find M j = some (.row e (.u8 l)))
    (hh : C.hold = []) (hG : ∀ w', Below C.W0.heap.size C.W0 w' → GOk C.Γ C.T0 w') (hS : ∀ b, ¬ C.S b) (hp : putD C.N (Tr.mk D) d (some (.str l)) some = some F') (hn : n = l.length) (h0 : l ≠ []) (h : Sat C Q0 (.reg full rest F' [] ids k)) :
    Sat C Q0 (.reg full (⟨d, .call ⟨.value x, ⟨xs⟩, ats⟩, type, pos, after, none⟩ :: rest) F M ids k) := by
  intro U E a w hsup hst
  obtain ⟨F1, e1, e2⟩ := putD_inv hp
  cases e1
  refine wpList_plain rfl fun K hK => ?_
  unfold Oper.wp
  obtain ⟨vs, ht, hex⟩ := argsF_ok hst.vw hx
  rw [hex, run_callFunc_go hc]
  cases ht with
  | cons _ v0 _ vs hr ht =>
  cases ht
  cases hr with
  | ptr _ _ b hE =>
  obtain ⟨hlt, cs, hh1, hI⟩ := hst.mem.at hf hE
  have hpos : 0 < l.length := List.length_pos_iff.2 h0
  cases hI with
  | arr _ _ _ _ _ _ _ => simp [SV.one] at h1
  | one _ c0 _ cs1 p0 pr pI =>
  cases pI with
  | one _ c1 _ cs2 q0 qr qI =>
  cases qI
  cases qr with
  | row0 _ _ _ _ _ hEj hz => omega
  | row _ _ _ _ _ g o c n' t' hEj hs hoff hl ok =>
  have hc0 : c ≠ 0 := by omega
  obtain ⟨ho1, ho2⟩ := hoff hc0
  simp only [Nat.zero_mul, Nat.add_zero] at ho1
  subst ho1
  obtain ⟨hg, cur, cc, hc0', hc1, hc2, hc3, hc4⟩ := hst.mem.at hj hEj
  simp only [EV.len, EV.sz, Nat.mul_one] at hc1 hc2 hc3 hc4
  have hgo : C.W0.heap.size ≤ g := (hst.own j g (by rw [hj]; rfl) hEj).resolve_right (hS g)
  have hh2 : w.heap[b]? = some (.cells #[c0, .slice (some ⟨g, 0, none⟩) l.length c] t (0, 0)) := by rw [← hn]; exact hh1
  refine (hspec.row C.W0.heap.size b g c c0 cur.toArray l w hh2 hc0' hgo (by omega) ok (by simpa using hc1) (fun y x hx => ?_) h0).mono ?_
  · have hy : y < l.length := (List.getElem?_eq_some_iff.1 hx).1
    have hI4 := hc4 y hy
    simp only [EV.items] at hI4
    have hc5 := hc3 y 0
    generalize cc y = cx at hI4 hc5
    cases hI4 with
    | one _ cv _ _ p0 pr pI =>
      have h4 := hc5 cv hy rfl
      cases pr
      rw [List.getD_eq_getElem?_getD, hx] at h4
      simp only [World.cell?, hc0']
      simpa using h4
  · rintro en w' ⟨rfl, hb⟩
    have hokl : okLen l.length := by unfold okLen at ok ⊢; omega
    exact hK _ _ (h U E _ _ hsup ((hst.forgetAll hh hG hS hb D).putD e2 fun s' hs' => by cases hs'; exact .str l hokl))
theorem Sat.bstr0 {d : Option Tmp} {x : Operand} {f : FuncId} {xs : List Operand} {ats : Array TypeId} {type : TypeId} {pos : String} {after : Array Edge} (D : Nat)
    (hspec : BStrOk C.P f t e) (hx : argsF C.Γ F x xs = some (f, [.ptr i 0])) (hc : callable C.P f = true) (hf : find M i = some (.cells t [.nilp, .nils]))
    (hh : C.hold = []) (hG : ∀ w', Below C.W0.heap.size C.W0 w' → GOk C.Γ C.T0 w') (hS : ∀ b, ¬ C.S b) (hp : putD C.N (Tr.mk D) d (some (.str [])) some = some F') (h : Sat C Q0 (.reg full rest F' [] ids k)) :
    Sat C Q0 (.reg full (⟨d, .call ⟨.value x, ⟨xs⟩, ats⟩, type, pos, after, none⟩ :: rest) F M ids k) := by
  intro U E a w hsup hst
  obtain ⟨F1, e1, e2⟩ := putD_inv hp
  cases e1
  refine wpList_plain rfl fun K hK => ?_
  unfold Oper.wp
  obtain ⟨vs, ht, hex⟩ := argsF_ok hst.vw hx
  rw [hex, run_callFunc_go hc]
  cases ht with
  | cons _ v0 _ vs hr ht =>
  cases ht
  cases hr with
  | ptr _ _ b hE =>
  obtain ⟨hlt, cs, hh1, hI⟩ := hst.mem.at hf hE
  cases hI with
  | one _ c0 _ cs1 p0 pr pI =>
  cases pr
  cases pI with
  | one _ c1 _ cs2 q0 qr qI =>
  cases qr
  cases qI
  have hbo : C.W0.heap.size ≤ b := (hst.own i b (by rw [hf]; rfl) hE).resolve_right (hS b)
  refine (hspec.nil C.W0.heap.size b _ w (.inl rfl) hh1 hbo hst.kp.chg.size).mono ?_
  rintro en w' ⟨rfl, hb⟩
  exact hK _ _ (h U E _ _ hsup ((hst.forgetAll hh hG hS hb D).putD e2 fun s' hs' => by cases hs'; exact .str [] (by unfold okLen; simp)))
/-- A contract, by a walk; the tables stay what they are. -/
theorem Fun.mkG {P : Program} {Γ : Glob} {f : FuncId} {fn : Func} {c : Code} {N : Nat} {args : List SV} {res : SV} {F : Tr} (dep : Nat) (hf : P.funcs[f]? = some fn) (hb : fn.body = some c) (hN : fn.ntmps = N) (hle : Nat.ble args.length N = true) (hF : argT 0 args (Tr.mk dep) = some F)
    (h : factsL args → ∀ (T : Nat → Prop) (w : World), (∀ w', Below w.heap.size w w' → GOk Γ T w') → Sat ⟨P, w, fun _ => False, T, Γ, N, [], [], false⟩ (bodyPost P fn (Post T w res)) (.code c F [] ids0 [])) : Fun P Γ f args res := by
  intro T w vs hT hG ht
  have hle' := Nat.le_of_ble_eq_true hle
  have hlen := ht.len
  refine calls_of_wp hf hb (h ht.facts T w (fun w' hb => hG.mono (fun _ _ h => h) (Chg.of_below hb)) (fun _ => True) E0 _ w ?_ ⟨rfl, ?_, fun t s hs => ?_, ⟨fun id B hf => by simp [find] at hf, fun id id' b hf => by simp [find] at hf⟩, fun id b hf => by simp [find] at hf, fun _ _ => rfl, ⟨rfl, rfl, rfl, Chg.refl _ w⟩, fun b hb => .inl ⟨hT b hb, fun h => h⟩, hG.mono (fun b _ hb => by rcases hb with ⟨id, B, hf, _⟩ | h0 <;> first | (simp [find] at hf; done) | exact h0) (Chg.refl _ w), fun p hp => (by cases hp), fun p hp => (by cases hp)⟩)
  · have : ∀ (l : List Nat) (n : Nat) (U : Nat → Prop), (∀ i, i < l.length → l[i]? = some (n + i)) → (∀ k, n ≤ k → U k) → Sup l U := by
      intro l
      induction l with
      | nil => intro n _ _ _; trivial
      | cons i r ih =>
        intro n U hl hU
        have hi : i = n := by simpa using hl 0 (by simp)
        refine ⟨hU i (by omega), ih (n + 1) _ (fun j hj => ?_) fun k hk => ⟨hU k (by omega), by omega⟩⟩
        have := hl (j + 1) (by simpa using hj)
        simpa [Nat.add_assoc, Nat.add_comm 1 j] using this
    exact this ids0 0 _ (by decide) fun _ _ => trivial
  · simp only [Array.size_append, List.size_toArray, Array.size_replicate, hlen, hN]; omega
  · rcases argT_get hF ht t s hs with ⟨q1, _⟩ | ⟨_, v, q2, q3⟩ | ⟨_, q2⟩
    · omega
    · have hlt : t < vs.length := by simpa using (List.getElem?_eq_some_iff.1 q2).1
      have : (vs.toArray ++ Array.replicate (fn.ntmps - vs.toArray.size) undef).getD t undef = v := by
        rw [Array.getD_eq_getD_getElem?, Array.getElem?_append_left (by simpa using hlt)]
        simp only [Nat.sub_zero] at q2
        simp [q2]
      rw [this]
      exact q3.mono (fun _ _ h => h) (fun b _ hb => by rcases hb with ⟨id, B, hf, _⟩ | h0 <;> first | (simp [find] at hf; done) | exact h0) (Chg.refl _ w)
    · rw [mk_get] at q2; cases q2
end
end Go.Proofs.YtcnpgmohnclojaaDoor.V
end
section
namespace Go.Proofs.YtcnpgmohnclojaaDoor.V
open Go.RowKit
def splitL : List Oper → Option (List Oper × Oper)
  | [] => none
  | [o] => some ([], o)
  | o :: r => match splitL r with
    | some (p, l) => some (o :: p, l)
    | none => none
theorem splitL_eq : ∀ {l p : List Oper} {o : Oper}, splitL l = some (p, o) → l = p ++ [o]
  | [], _, _, h => by cases h
  | [x], _, _, h => by cases h; rfl
  | x :: y :: r, p, o, h => by
    simp only [splitL] at h
    split at h
    · rename_i p' l' hs
      cases h
      rw [splitL_eq hs]
      rfl
    · cases h
/-- The last one, at place n, waits for all the others; no guard looks at it. -/
def endB (full : List Oper) (n : Nat) : Bool :=
  waitB full (pmsOf full []) full.length && subB (List.range n) ((pmsOf full []).getD n []) && full.all fun o => match o.guard with
    | some (g, _) => Nat.blt g n
    | none => true
/-- What is to hold where all but the last one have come up. -/
def QL (P : Program) (Q : Exit → Act → World → Prop) (full : List Oper) (last : Oper) : Exit → Act → World → Prop
  | .normal, a, w => wpList P full.toArray Q [last] a w
  | e, a, w => Q e a w
theorem Oper.wp_QL {P : Program} {Q : Exit → Act → World → Prop} {full : List Oper} {last o : Oper} {a : Act} {w : World} {K : Act → World → Prop} (h : o.wp P a w K (QL P Q full last)) : o.wp P a w K Q := by
  have hl : LetsOut (QL P Q full last) → LetsOut Q := fun ⟨a, w, h⟩ => ⟨a, w, h⟩
  unfold Oper.wp at *
  generalize (execOp a.eval o).run P w = r at *
  cases r with
  | ok n w' =>
    cases n <;> simp only [Oper.upon] at h ⊢ <;>
      first
        | exact h
        | exact Calls.mono h (fun e w'' he => by cases e <;> first | exact he | exact hl he)
  | halt x w' => cases x <;> simp only [Oper.upon] at h ⊢ <;> exact h
section
variable {P : Program} {Q : Exit → Act → World → Prop} {pre : List Oper} {last : Oper}
theorem pre_at {i : Nat} (hi : i < pre.length) : (pre ++ [last]).toArray[i]? = pre.toArray[i]? := by
  simp [List.getElem?_append_left hi]
theorem wpOp_pre {i : Nat} (hi : i < pre.length) (hg : ∀ o, pre[i]? = some o → ∀ g b, o.guard = some (g, b) → g < pre.length) {K : Act → World → Prop} {a : Act} {w : World}
    (h : wpOp P pre.toArray (QL P Q (pre ++ [last]) last) i K a w) : wpOp P (pre ++ [last]).toArray Q i K a w := by
  have hl : LetsOut (QL P Q (pre ++ [last]) last) → LetsOut Q := fun ⟨a, w, h⟩ => ⟨a, w, h⟩
  unfold wpOp at *
  rw [pre_at hi]
  cases ho : pre.toArray[i]? with
  | none => rw [ho] at h; exact h
  | some o =>
    rw [ho] at h
    have ho' : pre[i]? = some o := by simpa using ho
    have hw : Region.wanted o (yielded (pre ++ [last]).toArray a.tmps) = Region.wanted o (yielded pre.toArray a.tmps) := by
      unfold Region.wanted
      cases hgd : o.guard with
      | none => rfl
      | some p =>
        obtain ⟨g, b⟩ := p
        simp only [yielded, pre_at (last := last) (hg o ho' g b hgd)]
    have h : if Region.wanted o (yielded pre.toArray a.tmps) then o.wp P a w K (QL P Q (pre ++ [last]) last) ∨ (o.asks P a w ∧ LetsOut (QL P Q (pre ++ [last]) last)) else K (a.put o.dst undef) w := h
    show if Region.wanted o (yielded (pre ++ [last]).toArray a.tmps) then o.wp P a w K Q ∨ (o.asks P a w ∧ LetsOut Q) else K (a.put o.dst undef) w
    rw [hw]
    split
    · rename_i hq
      rw [if_pos hq] at h
      exact h.imp Oper.wp_QL fun ⟨x, y⟩ => ⟨x, hl y⟩
    · rename_i hq
      rw [if_neg hq] at h
      exact h
theorem wpOp_last {a : Act} {w : World} (h : wpList P (pre ++ [last]).toArray Q [last] a w) : wpOp P (pre ++ [last]).toArray Q pre.length (Q .normal) a w := by
  unfold wpOp
  simp only [List.getElem?_toArray, List.getElem?_concat_length]
  exact h
theorem wpAny_pre (hB : endB (pre ++ [last]) pre.length = true) : ∀ (fuel : Nat) (listed listed' : Array Bool) (a : Act) (w : World), listed.size = pre.length → listed'.size = pre.length + 1 → (∀ i, i < pre.length → listed'[i]? = listed[i]?) → listed'[pre.length]? = some false →
    (∀ i o, pre[i]? = some o → listed.getD i false = true → ∀ e ∈ o.after, Region.binds .any e = true → listed.getD e.on false = true) →
    wpAny P .any pre.toArray (QL P Q (pre ++ [last]) last) fuel listed a w → wpAny P .any (pre ++ [last]).toArray Q (fuel + 1) listed' a w := by
  simp only [endB, Bool.and_eq_true] at hB
  obtain ⟨⟨hW, hS⟩, hG⟩ := hB
  have hlen : (pre ++ [last]).length = pre.length + 1 := by simp
  have hgd : ∀ (i : Nat) (o : Oper), (pre ++ [last])[i]? = some o → ∀ (g : Nat) (b : Bool), o.guard = some (g, b) → g < pre.length := fun i o ho g b hgb => by
    have := List.all_eq_true.1 hG o (List.mem_of_getElem? ho)
    simp only [hgb] at this
    simpa using this
  have hat : ∀ i o, i < pre.length → pre[i]? = some o → (pre ++ [last])[i]? = some o := fun i o hi h => by rw [List.getElem?_append_left hi]; exact h
  -- where none of the others is ready, all have come up
  have hstop : ∀ (listed : Array Bool), listed.size = pre.length → Region.ready .any pre.toArray listed = [] → ∀ i, i < pre.length → listed.getD i false = true := by
    intro listed hsz hr i
    induction i using Nat.strongRecOn with
    | _ i ih =>
      intro hi
      cases hl : listed.getD i false with
      | true => rfl
      | false =>
        exfalso
        obtain ⟨o, m, ho, hm, h1, _⟩ := waitB_at hW i (by omega)
        rw [List.getElem?_append_left hi] at ho
        have : i ∈ Region.ready .any pre.toArray listed := mem_ready.2 ⟨by
          rw [Array.getD_eq_getD_getElem?] at hl ⊢
          rw [Array.getElem?_eq_getElem (by omega)] at hl ⊢
          simpa using hl, o, by simpa using ho, fun e he hb => ih e.on (h1 e he hb) (by have := h1 e he hb; omega)⟩
        rw [hr] at this
        cases this
  have hget : ∀ (listed listed' : Array Bool), (∀ i, i < pre.length → listed'[i]? = listed[i]?) → ∀ i b, i < pre.length → listed'.getD i b = listed.getD i b := fun listed listed' h i b hi => by
    rw [Array.getD_eq_getD_getElem?, Array.getD_eq_getD_getElem?, h i hi]
  -- the last one comes up
  have hlast : ∀ (f : Nat) (listed listed' : Array Bool) (a : Act) (w : World), listed.size = pre.length → listed'.size = pre.length + 1 → (∀ i, i < pre.length → listed'[i]? = listed[i]?) → (∀ i, i < pre.length → listed.getD i false = true) → QL P Q (pre ++ [last]) last .normal a w →
      wpOp P (pre ++ [last]).toArray Q pre.length (wpAny P .any (pre ++ [last]).toArray Q f (listed'.setIfInBounds pre.length true)) a w := by
    intro f listed listed' a w hsz hsz' hsm hall hq
    have hr : Region.ready .any (pre ++ [last]).toArray (listed'.setIfInBounds pre.length true) = [] := by
      rw [List.eq_nil_iff_forall_not_mem]
      intro i hi
      obtain ⟨h1, o, ho, _⟩ := mem_ready.1 hi
      have hilt : i < pre.length + 1 := by have := (Array.getElem?_eq_some_iff.1 ho).1; simpa using this
      rw [Array.getD_eq_getD_getElem?, Array.getElem?_setIfInBounds] at h1
      split at h1
      · rw [hsz'] at h1
        simp at h1
      · have h2 := hall i (by omega)
        rw [← hget listed listed' hsm i false (by omega), Array.getD_eq_getD_getElem?] at h2
        rw [Array.getElem?_eq_getElem (by omega)] at h1 h2
        simp at h1 h2
        rw [h1] at h2
        cases h2
    refine wpOp_mono (fun a w h => ?_) (wpOp_last hq)
    cases f with
    | zero => exact ⟨hr, h⟩
    | succ f => exact ⟨fun _ => h, fun i hi => by rw [hr] at hi; cases hi⟩
  have hnr : ∀ (listed listed' : Array Bool), listed.size = pre.length → listed'.size = pre.length + 1 → (∀ i, i < pre.length → listed'[i]? = listed[i]?) → listed'[pre.length]? = some false → (∀ i, i < pre.length → listed.getD i false = true) → pre.length ∈ Region.ready .any (pre ++ [last]).toArray listed' := by
    intro listed listed' hsz hsz' hsm hno hall
    obtain ⟨o, m, ho, hm, h1, _⟩ := waitB_at hW pre.length (by omega)
    refine mem_ready.2 ⟨by rw [Array.getD_eq_getD_getElem?, hno]; rfl, o, by simpa using ho, fun e he hb => ?_⟩
    rw [hget listed listed' hsm e.on false (h1 e he hb)]
    exact hall e.on (h1 e he hb)
  have hin : ∀ (listed listed' : Array Bool), (∀ i, i < pre.length → listed'[i]? = listed[i]?) → ∀ i, i < pre.length → (i ∈ Region.ready .any (pre ++ [last]).toArray listed' ↔ i ∈ Region.ready .any pre.toArray listed) := by
    intro listed listed' hsm i hi
    simp only [mem_ready, hget listed listed' hsm i true hi, pre_at hi]
    obtain ⟨o, m, ho, hm, h1, _⟩ := waitB_at hW i (by omega)
    have ho2 : pre.toArray[i]? = some o := by rw [← pre_at (last := last) hi]; simpa using ho
    rw [ho2]
    constructor
    · rintro ⟨q1, o', q2, q3⟩
      cases q2
      exact ⟨q1, o, rfl, fun e he hb => by rw [← hget listed listed' hsm e.on false (by have := h1 e he hb; omega)]; exact q3 e he hb⟩
    · rintro ⟨q1, o', q2, q3⟩
      cases q2
      exact ⟨q1, o, rfl, fun e he hb => by rw [hget listed listed' hsm e.on false (by have := h1 e he hb; omega)]; exact q3 e he hb⟩
  -- where the last one is ready, all have come up
  have hready : ∀ (listed listed' : Array Bool), (∀ i, i < pre.length → listed'[i]? = listed[i]?) → (∀ i o, pre[i]? = some o → listed.getD i false = true → ∀ e ∈ o.after, Region.binds .any e = true → listed.getD e.on false = true) →
      pre.length ∈ Region.ready .any (pre ++ [last]).toArray listed' → ∀ i, i < pre.length → listed.getD i false = true := by
    intro listed listed' hsm hcl hr i hi
    have hdown : ∀ j, j < pre.length + 1 → (∀ oj, (pre ++ [last])[j]? = some oj → ∀ e ∈ oj.after, Region.binds .any e = true → listed.getD e.on false = true) → ∀ t ∈ (pmsOf (pre ++ [last]) []).getD j [], listed.getD t false = true := by
      intro j
      induction j using Nat.strongRecOn with
      | _ j ihj =>
        intro hj hd t ht
        obtain ⟨oj, m, hoj, hm, h1, h2⟩ := waitB_at hW j (by omega)
        rw [getD_of hm] at ht
        obtain ⟨e, he, hb, hq⟩ := h2 t ht
        have h3 := hd oj hoj e he hb
        rcases hq with rfl | hq
        · exact h3
        · have h4 := h1 e he hb
          refine ihj e.on h4 (by omega) (fun o2 ho2 => ?_) t hq
          rw [List.getElem?_append_left (by omega)] at ho2
          exact hcl e.on o2 ho2 h3
    obtain ⟨_, o, ho, hd⟩ := mem_ready.1 hr
    refine hdown pre.length (by omega) (fun oj hoj e he hb => ?_) i (subB_mem hS i (List.mem_range.2 hi))
    obtain ⟨o2, m, ho2, hm, h1, _⟩ := waitB_at hW pre.length (by omega)
    have : o = oj := by
      have : (pre ++ [last])[pre.length]? = some o := by simpa using ho
      rw [hoj] at this
      cases this
      rfl
    subst this
    rw [hoj] at ho2
    cases ho2
    rw [← hget listed listed' hsm e.on false (h1 e he hb)]
    exact hd e he hb
  intro fuel
  induction fuel with
  | zero =>
    intro listed listed' a w hsz hsz' hsm hno hcl h
    have hall := hstop listed hsz h.1
    refine ⟨fun hr => ?_, fun i hi => ?_⟩
    · have := hnr listed listed' hsz hsz' hsm hno hall
      rw [hr] at this
      cases this
    · have hilt : i < pre.length + 1 := by obtain ⟨_, o, ho, _⟩ := mem_ready.1 hi; have := (Array.getElem?_eq_some_iff.1 ho).1; simpa using this
      by_cases hin' : i = pre.length
      · subst hin'
        exact hlast 0 listed listed' a w hsz hsz' hsm hall h.2
      · have := (hin listed listed' hsm i (by omega)).1 hi
        rw [h.1] at this
        cases this
  | succ fuel ih =>
    intro listed listed' a w hsz hsz' hsm hno hcl h
    obtain ⟨h1, h2⟩ := h
    refine ⟨fun hr => ?_, fun i hi => ?_⟩
    · have hr' : Region.ready .any pre.toArray listed = [] := by
        rw [List.eq_nil_iff_forall_not_mem]
        intro i hi
        have hilt : i < pre.length := by obtain ⟨_, o, ho, _⟩ := mem_ready.1 hi; have := (Array.getElem?_eq_some_iff.1 ho).1; simpa using this
        have := (hin listed listed' hsm i hilt).2 hi
        rw [hr] at this
        cases this
      have := hnr listed listed' hsz hsz' hsm hno (hstop listed hsz hr')
      rw [hr] at this
      cases this
    · have hilt : i < pre.length + 1 := by obtain ⟨_, o, ho, _⟩ := mem_ready.1 hi; have := (Array.getElem?_eq_some_iff.1 ho).1; simpa using this
      by_cases hin' : i = pre.length
      · subst hin'
        have hall := hready listed listed' hsm hcl hi
        refine hlast _ listed listed' a w hsz hsz' hsm hall (h1 ?_)
        rw [List.eq_nil_iff_forall_not_mem]
        intro j hj
        obtain ⟨q1, o, ho, _⟩ := mem_ready.1 hj
        have hjlt : j < pre.length := by have := (Array.getElem?_eq_some_iff.1 ho).1; simpa using this
        have q2 := hall j hjlt
        rw [Array.getD_eq_getD_getElem?, Array.getElem?_eq_getElem (by omega)] at q1 q2
        simp at q1 q2
        rw [q1] at q2
        cases q2
      · have hi' : i < pre.length := by omega
        have hir := (hin listed listed' hsm i hi').1 hi
        obtain ⟨_, o, ho, hdep⟩ := mem_ready.1 hir
        have ho' : pre[i]? = some o := by simpa using ho
        refine wpOp_pre hi' (fun o ho g b hgb => hgd i o (hat i o hi' ho) g b hgb) (wpOp_mono (fun a w h => ?_) (h2 i hir))
        refine ih _ _ a w (by simp [hsz]) (by simp [hsz']) (fun j hj => ?_) ?_ (fun j oj hoj hl e he hb => ?_) h
        · rw [Array.getElem?_setIfInBounds, Array.getElem?_setIfInBounds, hsm j hj, hsz, hsz']
          by_cases hij : i = j
          · subst hij
            simp [hi', hilt]
          · simp [hij]
        · rw [Array.getElem?_setIfInBounds, if_neg hin']
          exact hno
        · have hmono : ∀ t, listed.getD t false = true → (listed.setIfInBounds i true).getD t false = true := fun t ht => by
            rw [Array.getD_eq_getD_getElem?] at ht ⊢
            rw [Array.getElem?_setIfInBounds]
            split
            · rw [if_pos (by omega)]; rfl
            · exact ht
          by_cases hij : i = j
          · subst hij
            rw [ho'] at hoj
            cases hoj
            exact hmono _ (hdep e he hb)
          · refine hmono _ (hcl j oj hoj ?_ e he hb)
            rw [Array.getD_eq_getD_getElem?, Array.getElem?_setIfInBounds, if_neg hij] at hl
            rw [Array.getD_eq_getD_getElem?]
            exact hl
end
section
variable {C : Ctx} {Q0 : Exit → Act → World → Prop} {F : Tr} {M : Mem} {ids : List Nat} {k : List Kont}
/-- A region that draws its order: all but the last operation. -/
theorem Sat.drawnL {id : Nat} {ops pre : List Oper} {last : Oper} (hm : C.P.follows .mixedOrders = true) (hs : splitL ops = some (pre, last)) (hB : endB ops pre.length = true)
    (h : DSat C (QL C.P (Kq C.P Q0 k) ops last) [] pre F M ids 0 [] pre F M ids) : Sat C Q0 (.code (.region id ⟨ops⟩ true) F M ids k) := by
  intro U E a w hsup hst
  have hops := splitL_eq hs
  subst hops
  have := h ⟨.nil, rfl, fun j => by simp, fun t => rfl, fun id => rfl, rfl⟩ U E a w.drew hsup hst.drew
  refine wp_region_any hm ?_
  have h2 := wpAny_pre hB pre.length (Array.replicate pre.length false) (Array.replicate (pre.length + 1) false) a w.drew (by simp) (by simp) (fun i hi => by rw [Array.getElem?_replicate, Array.getElem?_replicate, if_pos hi, if_pos (by omega)]) (by simp) (fun i o _ hl => by rw [getD_replicate_false'] at hl; cases hl) this
  simpa using h2
/-- The last operation, alone. -/
theorem Sat.lastD {ops : List Oper} {last : Oper} (h : Sat C Q0 (.reg ops [last] F M ids k)) : Sat C (QL C.P (Kq C.P Q0 k) ops last) (.ext .normal F M ids []) :=
  fun U E a w hsup hst => h U E a w hsup hst
/-- A loop whose first round is walked by itself, from where the walk stands. -/
theorem Sat.loop1 {α : Type} {body : Code} {ids' : List Nat} {Fh : α → Tr} {Mh : α → Mem} (Cx : α → Prop) (m : α → Nat) (x0 : α) (fr : α → List (Nat × SV)) (mr : α → List (Nat × Blk)) (dm : List Nat) (n : Nat)
    (_hF : ∀ x, headT F body (fr x) = some (Fh x)) (_hM : ∀ x, headM M dm (mr x) = some (Mh x)) (_hi : dropN ids n = some ids')
    (first : Sat C Q0 (.code body F M ids (.lp (BackI C ids' Fh Mh Cx m x0) :: k)))
    (step : ∀ x, Cx x → Sat C Q0 (.code body (Fh x) (Mh x) ids' (.lp (BackI C ids' Fh Mh Cx m x) :: k))) : Sat C Q0 (.code (.loop body) F M ids k) := by
  intro U E a w hsup hst
  refine wp_loop_ghost (fun n a w => (m x0 = n ∧ ∃ U E, Sup ids U ∧ St C F M U E a w) ∨ ∃ x, Cx x ∧ m x = n ∧ ∃ U E, Sup ids' U ∧ St C (Fh x) (Mh x) U E a w) (m x0) (.inl ⟨rfl, U, E, hsup, hst⟩) ?_
  rintro n a w (⟨rfl, U, E, hs, hst⟩ | ⟨x, hx, rfl, U, E, hs, hst⟩)
  · refine wp_mono (first U E a w hs hst) ?_
    intro e a' w' hq
    cases e with
    | normal =>
      obtain ⟨x', q1, q2, U2, E2, q3, q4⟩ := hq
      exact ⟨m x', q2, .inr ⟨x', q1, rfl, U2, E2, q3, q4⟩⟩
    | exit id => exact hq
    | goto l => exact hq
    | ret => exact hq
    | panic v => exact hq
    | outgrown => exact hq
  · refine wp_mono (step x hx U E a w hs hst) ?_
    intro e a' w' hq
    cases e with
    | normal =>
      obtain ⟨x', q1, q2, U2, E2, q3, q4⟩ := hq
      exact ⟨m x', q2, .inr ⟨x', q1, rfl, U2, E2, q3, q4⟩⟩
    | exit id => exact hq
    | goto l => exact hq
    | ret => exact hq
    | panic v => exact hq
    | outgrown => exact hq
end
end Go.Proofs.YtcnpgmohnclojaaDoor.V
end
section
namespace Go.Proofs.YtcnpgmohnclojaaDoor.V
open Go.RowKit
section
variable {C : Ctx} {Q0 : Exit → Act → World → Prop} {F F1 : Tr} {M : Mem} {ids : List Nat} {k : List Kont} {full rest : List Oper}
theorem Sat.eqNN {d : Option Tmp} {x : Operand} {t t' : TypeId} {type : TypeId} {pos : String} {after : Array Edge}
    (hu : C.P.underlying t = some (.interface (C.P.methodsAt t))) (hx : opd C.Γ F x = some .nili) (hp : putD C.N F d (some (.bool true)) some = some F1) (h : Sat C Q0 (.reg full rest F1 M ids k)) :
    Sat C Q0 (.reg full (⟨d, .binOp .eql t x (.const .nilIface) t', type, pos, after, none⟩ :: rest) F M ids k) := by
  intro U E a w hsup hst
  obtain ⟨G1, e1, e2⟩ := putD_inv hp
  cases e1
  refine wpList_plain rfl fun K hK => ?_
  unfold Oper.wp
  have hr := opd_rep hst.vw hx
  generalize hv : a.eval x = v at hr
  cases hr
  have hc : a.eval (.const .nilIface) = .nilIface := rfl
  have q2 : ∀ w' : World, (eqGuard .eql t x (.const .nilIface) .nilIface .nilIface).run C.P w' = .ok () w' := fun w' => by unfold eqGuard; cases x <;> rfl
  have hrun : (execOp a.eval ⟨d, .binOp .eql t x (.const .nilIface) t', type, pos, after, none⟩).run C.P w = .ok (.value (.bool true)) w := by
    unfold execOp
    simp only [hv, hc, Sem.run_bind, q2, Result.andThen_ok, run_eql_nil_nil _ t hu, Sem.run_pure]
  rw [hrun]
  exact hK _ _ (h U E _ _ hsup (hst.putD e2 fun s' hs' => by cases hs'; exact .bool _))
end
/-- What one cell of a table holds. -/
theorem GOk.one {Γ : Glob} {T : Nat → Prop} {w : World} (h : GOk Γ T w) {g : Nat} {s : SV} (hg : gl Γ g = some (.g 1 1 fun _ => [s])) (h1 : s.one = true) : ∃ v, w.cell? ⟨g, 0, none⟩ = some v ∧ Rep E0 T w s v := by
  have hr := h.rep g _ hg
  generalize hv : Value.pointer (some ⟨g, 0, none⟩) = v at hr
  cases hr with
  | rop e i j b o c hT hn hc hr hi hj hb =>
    simp at hv
    obtain ⟨rfl, rfl⟩ := hv
    have hI := hr 0 (Nat.lt_succ_self 0)
    simp only [EV.items] at hI
    obtain ⟨cc, r, e1, hr1, _⟩ := hI.head h1
    have := hc 0 0 cc (Nat.lt_succ_self 0) (by simp [e1])
    exact ⟨cc, by simpa [EV.sz] using this, hr1⟩
end Go.Proofs.YtcnpgmohnclojaaDoor.V
end
section
namespace Go.Proofs.YtcnpgmohnclojaaDoor.V
open Go.RowKit
theorem rowsIn_wide {n : Nat} {P : Program} {row : String} {args : Array Value} {w : World} {R : Value → World → Prop} (h : Rows P row args w R) : RowsIn Fence.wide n P row args w R :=
  fun c cs _ => let ⟨v, w', r, s⟩ := h c cs; ⟨v, w', r, stepsIn_wide.2 s⟩
/-- The fence that lets everything in; and that in a round. -/
def wideAt : Option Nat → Fence
  | none => Fence.wide
  | some l => Fence.wide.inRound l
def noDefer : Op → Bool
  | .defer _ => false
  | _ => true
theorem sem_at (r : Option Nat) (ρ : Operand → Value) (o : Oper) (h : noDefer o.op = true) : Oper.semAt (wideAt r).round ρ o = execOp ρ o := by
  cases r with
  | none => rfl
  | some l => exact Oper.semAt_some l ρ o fun c e => by rw [e] at h; cases h
theorem opIn_wide {r : Option Nat} {n : Nat} {P : Program} {Q : Exit → Act → World → Prop} {o : Oper} {a : Act} {w : World} {K : Act → World → Prop} (hd : noDefer o.op = true) (h : o.wp P a w K Q) : o.wpIn (wideAt r) n P a w K Q := by
  unfold Oper.wp at h
  unfold Oper.wpIn
  rw [sem_at r _ _ hd]
  have hfn : ∀ f, (wideAt r).fn f := fun f => by cases r <;> trivial
  refine ⟨fun f _ => hfn f, ?_⟩
  have hdep : ¬ (wideAt r).depth.isSome = true := by cases r <;> (intro h; cases h)
  have hc : ∀ f args w R, Calls P f args w R → CallsIn (wideAt r) (n - 1) P f args w R := fun f args w R h => by
    cases r with
    | none => exact callsIn_wide.2 h
    | some l => exact CallsIn.inRound l (callsIn_wide.2 h)
  have hrw : ∀ row args w R, Rows P row args w R → RowsIn (wideAt r) (n - 1) P row args w R := fun f args w R h => by
    cases r with
    | none => exact rowsIn_wide h
    | some l => exact rowsIn_wide h
  generalize (execOp a.eval o).run P w = x at h
  cases x with
  | ok x w' =>
    cases x <;> simp only [Oper.upon] at h <;> simp only [Oper.uponIn] <;>
      first
        | exact h
        | exact ⟨fun h => (hdep h).elim, hc _ _ _ _ h⟩
        | exact ⟨fun h => (hdep h).elim, hrw _ _ _ _ h⟩
        | exact h.elim
  | halt x w' => cases x <;> simp only [Oper.upon] at h <;> simp only [Oper.uponIn] <;> first | exact h | exact h.elim
def noDefers : List Oper → Bool
  | [] => true
  | o :: r => noDefer o.op && noDefers r
/-- The operations ahead, then the others. -/
theorem listIn_app {r : Option Nat} {n : Nat} {P : Program} {Q Qm : Exit → Act → World → Prop} {ops : Array Oper} {rest : List Oper} (hno : ¬ LetsOut Qm) (hq : ∀ e a w, e ≠ .normal → Qm e a w → Q e a w) (hm : ∀ a w, Qm .normal a w → wpListIn (wideAt r) n P ops Q rest a w) :
    ∀ (pre : List Oper) (a : Act) (w : World), noDefers pre = true → wpList P ops Qm pre a w → wpListIn (wideAt r) n P ops Q (pre ++ rest) a w
  | [], a, w, _, h => hm a w h
  | o :: pre, a, w, hd, h => by
    simp only [noDefers, Bool.and_eq_true] at hd
    have hfn : ∀ f, (wideAt r).fn f := fun f => by cases r <;> trivial
    show if Region.wanted o (yielded ops a.tmps) then o.wpIn (wideAt r) n P a w (wpListIn (wideAt r) n P ops Q (pre ++ rest)) Q else (∀ f, o.about P w a.eval = some f → (wideAt r).fn f) ∧ wpListIn (wideAt r) n P ops Q (pre ++ rest) (a.put o.dst undef) w
    have h : if Region.wanted o (yielded ops a.tmps) then o.wp P a w (wpList P ops Qm pre) Qm ∨ (o.asks P a w ∧ LetsOut Qm) else wpList P ops Qm pre (a.put o.dst undef) w := h
    split
    · rename_i hw
      rw [if_pos hw] at h
      rcases h with h | h
      · refine opIn_wide hd.1 ?_
        have h2 : o.wp P a w (wpListIn (wideAt r) n P ops Q (pre ++ rest)) Qm := Oper.wp_mono (fun a w h => listIn_app hno hq hm pre a w hd.2 h) h
        unfold Oper.wp at h2 ⊢
        generalize (execOp a.eval o).run P w = x at h2
        have hl : LetsOut Qm → LetsOut Q := fun h => (hno h).elim
        cases x with
        | ok x w' =>
          cases x <;> simp only [Oper.upon] at h2 ⊢ <;>
            first
              | exact h2
              | exact Calls.mono h2 (fun e w'' he => by cases e <;> first | exact he | exact hl he | exact hq _ _ _ (by simp) he)
              | exact h2.elim
        | halt x w' => cases x <;> simp only [Oper.upon] at h2 ⊢ <;> first | exact hq _ _ _ (by simp) h2 | exact h2
      · exact (hno h.2).elim
    · rename_i hw
      rw [if_neg hw] at h
      exact ⟨fun f _ => hfn f, listIn_app hno hq hm pre _ w hd.2 h⟩
theorem listIn_of {r : Option Nat} {n : Nat} {P : Program} {Q : Exit → Act → World → Prop} {ops : Array Oper} (hno : ¬ LetsOut Q) {l : List Oper} {a : Act} {w : World} (hd : noDefers l = true) (h : wpList P ops Q l a w) : wpListIn (wideAt r) n P ops Q l a w := by
  have := listIn_app (r := r) (n := n) (rest := []) hno (fun _ _ _ _ h => h) (fun _ _ h => h) l a w hd h
  rwa [List.append_nil] at this
/-- What is to hold where the operations ahead have come. -/
def RQ (P : Program) (Q : Exit → Act → World → Prop) (full rest : List Oper) : Exit → Act → World → Prop
  | .normal, a, w => wpListIn Fence.wide 0 P full.toArray Q rest a w
  | e, a, w => Q e a w
theorem letsOut_k {P : Program} {Q0 : Exit → Act → World → Prop} (h : ¬ LetsOut Q0) : ∀ k : List Kont, ¬ LetsOut (Kq P Q0 k)
  | [] => h
  | .seq _ :: k => fun ⟨a, w, q⟩ => letsOut_k h k ⟨a, w, q⟩
  | .blk _ :: k => fun ⟨a, w, q⟩ => letsOut_k h k ⟨a, w, q⟩
  | .lp _ :: k => fun ⟨a, w, q⟩ => letsOut_k h k ⟨a, w, q⟩
section
variable {C : Ctx} {Q0 : Exit → Act → World → Prop} {F : Tr} {M : Mem} {ids : List Nat} {k : List Kont}
theorem Sat.roundR {id : Nat} {full pre rest : List Oper} (hno : ¬ LetsOut Q0) (hs : full = pre ++ rest) (hd : noDefers pre = true) (h : Sat C (RQ C.P (Kq C.P Q0 k) full rest) (.reg full pre F M ids [])) : Sat C Q0 (.code (.region id ⟨full⟩ false) F M ids k) := by
  intro U E a w hsup hst
  have h1 := h U E a w hsup hst
  refine wpIn_wide.1 (wpIn_region_lit (n := 0) ?_)
  have hq : ¬ LetsOut (RQ C.P (Kq C.P Q0 k) full rest) := fun ⟨a, w, q⟩ => letsOut_k hno k ⟨a, w, q⟩
  have := listIn_app (r := none) (n := 0) (ops := full.toArray) (Q := Kq C.P Q0 k) (rest := rest) hq (fun e a w he h => by cases e <;> first | exact absurd rfl he | exact h) (fun a w h => h) pre a w hd h1
  rw [← hs] at this
  exact this
theorem Sat.ofCode {c : Code} (h : ∀ U E a w, Sup ids U → St C F M U E a w → c.wp C.P (Kq C.P Q0 k) a w) : Sat C Q0 (.code c F M ids k) := h
theorem Sat.toCode {c : Code} {U : Nat → Prop} {E : Env} {a : Act} {w : World} (hsup : Sup ids U) (hst : St C F M U E a w) (h : Sat C Q0 (.code c F M ids k)) : c.wp C.P (Kq C.P Q0 k) a w := h U E a w hsup hst
theorem Sat.ofExt {e : Ex} (h : ∀ U E a w, Sup ids U → St C F M U E a w → Kq C.P Q0 k e.out a w) : Sat C Q0 (.ext e F M ids k) := h
theorem Sat.toReg {full rest : List Oper} {U : Nat → Prop} {E : Env} {a : Act} {w : World} (hsup : Sup ids U) (hst : St C F M U E a w) (h : Sat C Q0 (.reg full rest F M ids k)) : wpList C.P full.toArray (Kq C.P Q0 k) rest a w := h U E a w hsup hst
end
theorem execOp_call_yield {a : Act} {dst : Option Tmp} {s : Operand} {l : Nat} {xs : Array Operand} {first cap : Array Value} {ats : Array TypeId} {ty : TypeId} {pos : String} {after : Array Edge} {guard : Option (Nat × Bool)} (hs : a.eval s = .func (.yield l) first cap) :
    execOp a.eval ⟨dst, .call ⟨.value s, xs, ats⟩, ty, pos, after, guard⟩ = Instr.yield l (first ++ xs.map a.eval) := by
  unfold execOp resolve
  simp only [hs, Deferred.ofValue]
  rfl
/-- A call of yield: the round, by what is promised of it. -/
theorem yieldOp {P : Program} {Q : Exit → Act → World → Prop} {full post : List Oper} {j : Nat} {d : Option Tmp} {s x : Operand} {ats : Array TypeId} {ty : TypeId} {pos : String} {after : Array Edge} {a : Act} {w : World} {l : Nat} {v : Value} {R : Ending → World → Prop}
    (hg : yielded full.toArray a.tmps j = some true) (hs : a.eval s = .func (.yield l) #[] #[]) (hx : a.eval x = v) (hY : YieldAt Fence.wide 0 P l #[v] w R) (hR : ∀ e w', R e w' → ∃ u, e = .returned u ∧ wpListIn Fence.wide 0 P full.toArray Q post (a.put d u) w') :
    wpListIn Fence.wide 0 P full.toArray Q (⟨d, .call ⟨.value s, #[x], ats⟩, ty, pos, after, some (j, true)⟩ :: post) a w := by
  obtain ⟨fn, tmps, assign, body, hy, hr⟩ := hY
  have hw : Region.wanted ⟨d, .call ⟨.value s, #[x], ats⟩, ty, pos, after, some (j, true)⟩ (yielded full.toArray a.tmps) = true := by simp [Region.wanted, hg]
  show if Region.wanted _ (yielded full.toArray a.tmps) then _ else _
  rw [if_pos hw]
  refine ⟨fun f _ => trivial, ?_⟩
  have he : (execOp a.eval ⟨d, .call ⟨.value s, #[x], ats⟩, ty, pos, after, some (j, true)⟩).run P w = .ok (.round l fn tmps assign body) w := by
    rw [execOp_call_yield hs]
    simpa [hx] using hy
  have he' : (Oper.semAt Fence.wide.round a.eval ⟨d, .call ⟨.value s, #[x], ats⟩, ty, pos, after, some (j, true)⟩).run P w = .ok (.round l fn tmps assign body) w := he
  rw [he', Oper.uponIn_round]
  refine ⟨fun h => (by cases h), hr.mono fun e w' h => ?_⟩
  obtain ⟨u, rfl, h2⟩ := hR e w' h
  exact h2
theorem sup0 : Sup ids0 fun _ => True := by
  have : ∀ (l : List Nat) (n : Nat) (U : Nat → Prop), (∀ i, i < l.length → l[i]? = some (n + i)) → (∀ k, n ≤ k → U k) → Sup l U := by
    intro l
    induction l with
    | nil => intro n _ _ _; trivial
    | cons i r ih =>
      intro n U hl hU
      have hi : i = n := by simpa using hl 0 (by simp)
      refine ⟨hU i (by omega), ih (n + 1) _ (fun j hj => ?_) fun k hk => ⟨hU k (by omega), by omega⟩⟩
      have := hl (j + 1) (by simpa using hj)
      simpa [Nat.add_assoc, Nat.add_comm 1 j] using this
  exact this ids0 0 _ (by decide) fun _ _ => trivial
theorem putL_get : ∀ {l : List (Nat × SV)} {F G : Tr}, putL l F = some G → ∀ t s, G.get t = some s → (t, s) ∈ l ∨ F.get t = some s
  | [], F, G, h, t, s, hs => by
    simp only [putL, Option.some.injEq] at h
    subst h
    exact .inr hs
  | (d, x) :: r, F, G, h, t, s, hs => by
    simp only [putL] at h
    obtain ⟨F1, h1, h2⟩ := Tr.putK_eq F d (some x) _ G h
    rcases putL_get h2 t s hs with h3 | h3
    · exact .inl (List.mem_cons_of_mem _ h3)
    · rw [Tr.get_put F F1 d (some x) h1] at h3
      split at h3
      · rename_i e
        cases h3
        subst e
        exact .inl (List.mem_cons_self ..)
      · exact .inr h3
/-! ### A function that reads alone, beside others that write: V: the blocks that stand -/
def KeepV (V : Nat → Prop) (W W' : World) : Prop := W.heap.size ≤ W'.heap.size ∧ ∀ x, V x → W'.heap[x]? = W.heap[x]?
theorem KeepV.trans {V : Nat → Prop} {A B C : World} (h : KeepV V A B) (h2 : KeepV V B C) : KeepV V A C := ⟨Nat.le_trans h.1 h2.1, fun x hx => (h2.2 x hx).trans (h.2 x hx)⟩
theorem rep_keep {V : Nat → Prop} {W W' : World} {s : SV} {v : Value} (h : KeepV V W W') (hr : Rep E0 (fun x => ¬ V x) W s v) : Rep E0 (fun x => ¬ V x) W' s v :=
  hr.monoW (fun _ _ h => h) (fun _ _ h => h) h.1 (fun b _ hb => h.2 b (Classical.not_not.1 hb)) (fun i b x hE _ => by cases hE)
@[reducible] def ctxR (P : Program) (N : Nat) (V : Nat → Prop) (w : World) : Ctx := ⟨P, w, fun _ => False, fun x => ¬ V x, [], N, [], [], true⟩
theorem st_of {P : Program} {N d : Nat} {V : Nat → Prop} {act : Act} {w : World} (L : List (Nat × SV)) {F : Tr} (hF : putL L (Tr.mk d) = some F) (hd : act.defers = []) (hs : act.tmps.size = N) (hL : ∀ t s, (t, s) ∈ L → Rep E0 (fun x => ¬ V x) w s (act.tmps.getD t undef)) :
    St (ctxR P N V w) F [] (fun _ => True) E0 act w where
  defers := hd
  size := hs
  slots := fun t s hs => by
    have ht : ∀ x, trk (ctxR P N V w).T0 [] E0 x → ¬ V x := fun x hx => by
      rcases hx with ⟨id, B, hf, _⟩ | h0
      · simp [find] at hf
      · exact h0
    rcases putL_get hF t s hs with hm | hm
    · exact (hL t s hm).mono (fun _ _ h => h) (fun b _ hb => ht b hb) (Chg.refl _ w)
    · rw [mk_get] at hm; cases hm
  mem := ⟨fun id B hf => by simp [find] at hf, fun id id' b hf => by simp [find] at hf⟩
  own := fun id b hf => by simp [find] at hf
  fresh := fun _ _ => rfl
  kp := ⟨rfl, rfl, rfl, Chg.refl _ w⟩
  hid := fun _ _ => .inr rfl
  glob := ⟨fun g e h => by simp [gl] at h, fun g e h => by simp [gl] at h⟩
  pin := fun p hp => by cases hp
  held := fun p hp => by cases hp
/-- What is read through no number of one's own is read so everywhere. -/
theorem rep_free {P : Program} {N : Nat} {V : Nat → Prop} {E : Env} {w w' : World} {s : SV} {v : Value} (hs : keepS (fun _ => false) s) (h : Rep E (trk (ctxR P N V w).T0 [] E) w' s v) : Rep E0 (fun x => ¬ V x) w' s v := by
  have h1 := Rep.keep (p := fun _ => false) h hs
  have e : pinE (fun _ => false) E = E0 := by funext i; simp [pinE, E0]
  rw [e] at h1
  exact h1.mono (fun _ _ h => h) (fun b _ hb => .inr hb) (Chg.refl _ w')
theorem keep_kp {V : Nat → Prop} {W w : World} (h : Kp W (fun _ => False) w) (hV : ∀ x, V x → x < W.heap.size) : KeepV V W w := ⟨h.chg.size, fun x hx => h.chg.keep x (hV x hx) id⟩
theorem abide_kp {β : Type} {B : Nat} {J : β → World → Prop} (hJ : AbidesFrom B J) {s : β} {W w : World} (h : Kp W (fun _ => False) w) (hj : J s W) : J s w :=
  hJ s W w none hj ⟨h.os, h.tape, h.output, h.chg.size, fun k hk _ => h.chg.keep k hk id⟩ (fun r e => by cases e)
end Go.Proofs.YtcnpgmohnclojaaDoor.V
end
section
namespace Go.Proofs.YtcnpgmohnclojaaDoor.V
open Go.RowKit
section
variable {E : Env} {T : Nat → Prop} {w w' : World}
mutual
/-- How a reading lasts, where all cells read as they did. -/
theorem Rep.cells (hk : ∀ a, w'.cell? a = w.cell? a) (hs : ∀ b, w'.shape? b = w.shape? b) (hz : w'.heap.size = w.heap.size) :
    ∀ {s : SV} {v : Value}, Rep E T w s v → Rep E T w' s v
  | _, _, .bool b => .bool b
  | _, _, .int k n h => .int k n h
  | _, _, .str l h => .str l h
  | _, _, .nilp => .nilp
  | _, _, .ptr id off b h => .ptr id off b h
  | _, _, .pel id base sz i j b h => .pel id base sz i j b h
  | _, _, .rop e i j b o c hT hn hc hr hi hj hb =>
    .rop e i j b o c hT hn (fun i j v hi hj => (hk _).trans (hc i j v hi hj)) (fun i hi => Items.cells hk hs hz (hr i hi)) hi hj (by rw [hz]; exact hb)
  | _, _, .nils => .nils
  | _, _, .row id base sz sub len b o c n t h hs' ho hl ok => .row id base sz sub len b o c n t h ((hs b).trans hs') ho hl ok
  | _, _, .row0 id base sz sub len h hl => .row0 id base sz sub len h hl
  | _, _, .ro0 e h => .ro0 e h
  | _, _, .ro1 e a h => .ro1 e a h
  | _, _, .ro e b o n k c hT hn hc hr he hl ok hb =>
    .ro e b o n k c hT hn (fun i j v hi hj => (hk _).trans (hc i j v hi hj)) (fun i hi => Items.cells hk hs hz (hr i hi)) he hl ok (by rw [hz]; exact hb)
  | _, _, .agg l cs h => .agg l cs (Items.cells hk hs hz h)
  | _, _, .arr n e cs c hn hl he h1 hc hr => .arr n e cs c hn hl he h1 hc (fun i hi => Items.cells hk hs hz (hr i hi))
  | _, _, .tup l vs h => .tup l vs (Tup.cells hk hs hz h)
  | _, _, .fn f l vs h => .fn f l vs (Tup.cells hk hs hz h)
  | _, _, .mv f l vs h => .mv f l vs (Tup.cells hk hs hz h)
  | _, _, .ifc t s v h => .ifc t s v (Rep.cells hk hs hz h)
  | _, _, .nili => .nili
  | _, _, .nilf => .nilf
  | _, _, .may1 g s v h hr => .may1 g s v h (Rep.cells hk hs hz hr)
  | _, _, .may0 g s h => .may0 g s h
  | _, _, .bsl id len b n t h hs' hl ok => .bsl id len b n t h ((hs b).trans hs') hl ok
  | _, _, .bsl0 id len h hl => .bsl0 id len h hl
  | _, _, .anyi k n => .anyi k n
  | _, _, .val x => .val x
theorem Items.cells (hk : ∀ a, w'.cell? a = w.cell? a) (hs : ∀ b, w'.shape? b = w.shape? b) (hz : w'.heap.size = w.heap.size) :
    ∀ {l : List SV} {cs : List Value}, Items E T w l cs → Items E T w' l cs
  | _, _, .nil => .nil
  | _, _, .one s c l cs h hr hl => .one s c l cs h (Rep.cells hk hs hz hr) (Items.cells hk hs hz hl)
  | _, _, .arr n e l c1 cs hr hl => .arr n e l c1 cs (Rep.cells hk hs hz hr) (Items.cells hk hs hz hl)
theorem Tup.cells (hk : ∀ a, w'.cell? a = w.cell? a) (hs : ∀ b, w'.shape? b = w.shape? b) (hz : w'.heap.size = w.heap.size) :
    ∀ {l : List SV} {vs : List Value}, Tup E T w l vs → Tup E T w' l vs
  | _, _, .nil => .nil
  | _, _, .cons s v l vs hr hl => .cons s v l vs (Rep.cells hk hs hz hr) (Tup.cells hk hs hz hl)
end
end
section
variable (w : World) (b n : Nat)
theorem freeze_heap (x : Nat) : (w.freeze ⟨b, n, none⟩ 1).heap[x]? = if b = x then (w.heap[x]?).map (fun
      | .cells c elem (lo, hi) => .cells c elem (if lo == hi then (n, n + 1) else (min lo n, max hi (n + 1)))
      | o => o) else w.heap[x]? := by
  unfold World.freeze
  rw [if_neg (by decide)]
  show (w.heap.modify b _)[x]? = _
  rw [Array.getElem?_modify]
  split <;> rfl
theorem freeze_size : (w.freeze ⟨b, n, none⟩ 1).heap.size = w.heap.size := by
  unfold World.freeze
  rw [if_neg (by decide)]
  show (w.heap.modify b _).size = _
  rw [Array.size_modify]
theorem freeze_other (x : Nat) (h : x ≠ b) : (w.freeze ⟨b, n, none⟩ 1).heap[x]? = w.heap[x]? := by
  rw [freeze_heap, if_neg (Ne.symm h)]
theorem freeze_cell (a : Addr) : (w.freeze ⟨b, n, none⟩ 1).cell? a = w.cell? a := by
  unfold World.cell?
  rw [freeze_heap]
  by_cases hb : b = a.block
  · rw [if_pos hb]
    cases h : w.heap[a.block]? with
    | none => rfl
    | some o => cases o <;> rfl
  · rw [if_neg hb]
theorem freeze_shape (x : Nat) : (w.freeze ⟨b, n, none⟩ 1).shape? x = w.shape? x := by
  unfold World.shape?
  rw [freeze_heap]
  by_cases hb : b = x
  · rw [if_pos hb]
    cases h : w.heap[x]? with
    | none => rfl
    | some o => cases o <;> rfl
  · rw [if_neg hb]
end
section
variable {C : Ctx} {Q0 : Exit → Act → World → Prop} {F F1 F' : Tr} {M M1 : Mem} {ids : List Nat} {k : List Kont} {full rest : List Oper}
theorem St.marked {U : Nat → Prop} {E : Env} {a : Act} {w : World} {b n : Nat} (hst : St C F M U E a w) (hb : C.W0.heap.size ≤ b) (hm : ¬ mine M E b) : St C F M U E a (w.freeze ⟨b, n, none⟩ 1) := by
  have hk := freeze_cell w b n
  have hs := freeze_shape w b n
  have hz := freeze_size w b n
  refine ⟨hst.defers, hst.size, fun t s h => (hst.slots t s h).cells hk hs hz, ⟨fun id B hf => ?_, hst.mem.inj⟩, hst.own, hst.fresh, ⟨hst.kp.os, hst.kp.tape, hst.kp.output, ⟨by rw [hz]; exact hst.kp.chg.size, fun x hx hn => (freeze_other w b n x (by omega)).trans (hst.kp.chg.keep x hx hn), fun x hx => (hs x).trans (hst.kp.chg.shape x hx)⟩⟩, hst.hid, ⟨fun g e h => (hst.glob.rep g e h).cells hk hs hz, fun g e h => ?_⟩, hst.pin, fun p hp t s h => (hst.held p hp t s h).cells hk hs hz⟩
  · rcases hst.mem.blk id B hf with ⟨c, h1, h2, h3⟩ | h1
    · have hne : c ≠ b := fun e => hm ⟨id, B, hf, by rw [h1, e]⟩
      have ho := freeze_other w b n c hne
      refine .inl ⟨c, h1, by rw [hz]; exact h2, ?_⟩
      cases B with
      | cells t l =>
        obtain ⟨cs, q1, q2⟩ := h3
        exact ⟨cs, ho.trans q1, q2.cells hk hs hz⟩
      | row t e =>
        obtain ⟨cs, cc, q1, q2, q3, q4, q5⟩ := h3
        exact ⟨cs, cc, ho.trans q1, q2, q3, q4, fun i hi => (q5 i hi).cells hk hs hz⟩
      | obj o => exact ho.trans h3
    · exact .inr h1
  · obtain ⟨t, ht⟩ := hst.glob.shp g e h
    exact ⟨t, (hs g).trans ht⟩
theorem Sat.convB {d : Option Tmp} {x : Operand} {t e : TypeId} {type : TypeId} {pos : String} {after : Array Edge} {id n : Nat} {l : List UInt8} {φ : List Prop}
    (hx : opd C.Γ F x = some (.row id 0 1 0 n)) (hn0 : n ≠ 0) (hM : (find M id).isSome = true) (hz : frz C.wide C.pins ids true id F M = some ⟨F1, M1, φ⟩) (hφ : AllP φ) (hx2 : opd C.Γ F1 x = some (.ro (.u8 l)))
    (hu : C.P.underlying t = some (.slice e)) (he : C.P.underlying e = some (.int .u8)) (hS : ∀ b, ¬ C.S b) (hp : putD C.N F1 d (some (.ro (.u8 l))) some = some F') (h : Sat C Q0 (.reg full rest F' M1 ids k)) :
    Sat C Q0 (.reg full (⟨d, .convert t t x, type, pos, after, none⟩ :: rest) F M ids k) := by
  intro U E a w hsup hst
  obtain ⟨G1, e1, e2⟩ := putD_inv hp
  cases e1
  refine wpList_plain rfl fun K hK => ?_
  unfold Oper.wp
  have hr := opd_rep hst.vw hx
  obtain ⟨U', E', hsup', hst2⟩ := frz_ok hz hφ hst
  have hr2 := opd_rep hst2.vw hx2
  generalize hv : a.eval x = v at hr hr2
  cases hr with
  | row0 _ _ _ _ _ _ h0 => exact absurd h0 hn0
  | row _ _ _ _ _ b o c m ty hE hs' ho hl ok =>
    have hbo : C.W0.heap.size ≤ b := (hst.own id b hM hE).resolve_right (hS b)
    have hT : ¬ trk C.T0 M1 E' b := by
      cases hr2 with
      | ro _ _ _ _ _ _ hT _ _ _ _ _ _ _ => exact hT
      | ro1 => exact absurd rfl hn0
    have hst3 := hst2.marked (n := m) hbo fun hm => hT (.inl hm)
    have hrun : (execOp a.eval ⟨d, .convert t t x, type, pos, after, none⟩).run C.P w = .ok (.value (.slice (some ⟨b, o, none⟩) n c)) (w.freeze ⟨b, m, none⟩ 1) := by
      have hcv : (convert t t (.slice (some ⟨b, o, none⟩) n c)).run C.P w = .ok (.slice (some ⟨b, o, none⟩) n c) (w.freeze ⟨b, m, none⟩ 1) := by
        simp [convert, run_underlying hu, run_underlying he, markStringish, hs']
      unfold execOp
      simp only [hv, Sem.run_bind, hcv, Result.andThen_ok, Sem.run_pure]
    rw [hrun]
    refine hK _ _ (h U' E' _ _ hsup' (hst3.putD e2 fun s' hs'' => by cases hs''; exact hr2.cells (freeze_cell w b m) (freeze_shape w b m) (freeze_size w b m)))
end
end Go.Proofs.YtcnpgmohnclojaaDoor.V
end
section
namespace Go.Proofs.YtcnpgmohnclojaaDoor.V
open Go.RowKit
/-- A contract of any ending, by a walk. -/
theorem Fun.mkR {P : Program} {Γ : Glob} {f : FuncId} {fn : Func} {c : Code} {N : Nat} {args : List SV} {F : Tr} (R : (Nat → Prop) → World → Ending → World → Prop) (dep : Nat) (hf : P.funcs[f]? = some fn) (hb : fn.body = some c) (hN : fn.ntmps = N) (hle : Nat.ble args.length N = true) (hF : argT 0 args (Tr.mk dep) = some F)
    (h : ∀ (T : Nat → Prop) (w : World), Sat ⟨P, w, fun _ => False, T, Γ, N, [], [], false⟩ (bodyPost P fn (R T w)) (.code c F [] ids0 [])) : ∀ (T : Nat → Prop) (w : World) (vs : List Value), (∀ b, T b → b < w.heap.size) → GOk Γ T w → Tup E0 T w args vs → Calls P f vs.toArray w (R T w) := by
  intro T w vs hT hG ht
  have hle' := Nat.le_of_ble_eq_true hle
  have hlen := ht.len
  refine calls_of_wp hf hb (h T w (fun _ => True) E0 _ w ?_ ⟨rfl, ?_, fun t s hs => ?_, ⟨fun id B hf => by simp [find] at hf, fun id id' b hf => by simp [find] at hf⟩, fun id b hf => by simp [find] at hf, fun _ _ => rfl, ⟨rfl, rfl, rfl, Chg.refl _ w⟩, fun b hb => .inl ⟨hT b hb, fun h => h⟩, hG.mono (fun b _ hb => by rcases hb with ⟨id, B, hf, _⟩ | h0 <;> first | (simp [find] at hf; done) | exact h0) (Chg.refl _ w), fun p hp => (by cases hp), fun p hp => (by cases hp)⟩)
  · have : ∀ (l : List Nat) (n : Nat) (U : Nat → Prop), (∀ i, i < l.length → l[i]? = some (n + i)) → (∀ k, n ≤ k → U k) → Sup l U := by
      intro l
      induction l with
      | nil => intro n _ _ _; trivial
      | cons i r ih =>
        intro n U hl hU
        have hi : i = n := by simpa using hl 0 (by simp)
        refine ⟨hU i (by omega), ih (n + 1) _ (fun j hj => ?_) fun k hk => ⟨hU k (by omega), by omega⟩⟩
        have := hl (j + 1) (by simpa using hj)
        simpa [Nat.add_assoc, Nat.add_comm 1 j] using this
    exact this ids0 0 _ (by decide) fun _ _ => trivial
  · simp only [Array.size_append, List.size_toArray, Array.size_replicate, hlen, hN]; omega
  · rcases argT_get hF ht t s hs with ⟨q1, _⟩ | ⟨_, v, q2, q3⟩ | ⟨_, q2⟩
    · omega
    · have hlt : t < vs.length := by simpa using (List.getElem?_eq_some_iff.1 q2).1
      have : (vs.toArray ++ Array.replicate (fn.ntmps - vs.toArray.size) undef).getD t undef = v := by
        rw [Array.getD_eq_getD_getElem?, Array.getElem?_append_left (by simpa using hlt)]
        simp only [Nat.sub_zero] at q2
        simp [q2]
      rw [this]
      exact q3.mono (fun _ _ h => h) (fun b _ hb => by rcases hb with ⟨id, B, hf, _⟩ | h0 <;> first | (simp [find] at hf; done) | exact h0) (Chg.refl _ w)
    · rw [mk_get] at q2; cases q2

/-- A pure function whose result lies in new blocks alone. -/
def FunN (P : Program) (Γ : Glob) (f : FuncId) (args : List SV) (res : SV) : Prop :=
  ∀ (T : Nat → Prop) (w : World) (vs : List Value), (∀ b, T b → b < w.heap.size) → GOk Γ T w → Tup E0 T w args vs →
    Calls P f vs.toArray w fun e w' => ∃ v, e = .returned v ∧ Rep E0 (fun b => b < w.heap.size) w' res v ∧ Below w.heap.size w w'
theorem FunN.mkF {P : Program} {Γ : Glob} {f : FuncId} {fn : Func} {c : Code} {N : Nat} {args : List SV} {res : SV} {F : Tr} (dep : Nat) (hf : P.funcs[f]? = some fn) (hb : fn.body = some c) (hN : fn.ntmps = N) (hle : Nat.ble args.length N = true) (hF : argT 0 args (Tr.mk dep) = some F)
    (h : factsL args → ∀ (T : Nat → Prop) (w : World), Sat ⟨P, w, fun _ => False, T, Γ, N, [], [], false⟩ (bodyPost P fn (Post (fun b => b < w.heap.size) w res)) (.code c F [] ids0 [])) : FunN P Γ f args res :=
  fun T w vs hT hG ht => Fun.mkR (fun _ w => Post (fun b => b < w.heap.size) w res) dep hf hb hN hle hF (h ht.facts) T w vs hT hG ht
theorem FunN.weak {P : Program} {Γ : Glob} {f : FuncId} {args : List SV} {res : SV} (h : FunN P [] f args res) : FunN P Γ f args res :=
  fun T w vs hT _ ht => h T w vs hT ⟨fun g e h => by simp [gl] at h, fun g e h => by simp [gl] at h⟩ ht
/-- One's own row of bytes, as it is read from outside. -/
theorem row_fresh {E : Env} {T T' : Nat → Prop} {M : Mem} {w : World} (H : MOk E T M w) {id n : Nat} {t : TypeId} {l : List UInt8} (hf : find M id = some (.row t (.u8 l))) (hn : n = l.length) (ha : ∀ b, E id = some (some b) → ¬ T' b) {v : Value} (hr : Rep E T w (.row id 0 1 0 n) v) : Rep E0 T' w (.ro (.u8 l)) v := by
  subst hn
  cases hr with
  | row0 _ _ _ _ _ _ h0 => exact .ro0 _ h0
  | row _ _ _ _ _ b o c m ty hE hs ho hl ok =>
    obtain ⟨hlt, cs, cc, q1, q2, q3, q4, q5⟩ := H.at hf hE
    rcases Nat.eq_zero_or_pos c with hc | hc
    · have h0 : (EV.u8 l).len = 0 := by show l.length = 0; omega
      subst hc
      rw [show l.length = 0 from h0]
      exact .ro1 _ _ h0
    obtain ⟨h1, h2⟩ := ho (by omega)
    have h1 : o = 0 := by omega
    subst h1
    refine .ro (.u8 l) b 0 l.length c cc (ha b hE) q3 (fun i j u hi hj => ?_) (fun i hi => ?_) rfl hl ok hlt
    · rw [Nat.zero_add, cell_blk q1]; exact q4 i j u hi hj
    · have q := q5 i hi
      simp only [EV.items] at q ⊢
      generalize cc i = ci at q ⊢
      cases q with
      | one s c l cs h hr hl =>
        cases hr with
        | int _ _ hin =>
          cases hl
          exact .one _ _ _ _ rfl (.int _ _ hin) .nil
section
variable {C : Ctx} {Q0 : Exit → Act → World → Prop} {F F1 F' : Tr} {M M1 : Mem} {ids : List Nat} {k : List Kont} {full rest : List Oper}
theorem Sat.end2n {fn : Func} {ev : EV} {kk : IntKind} {n : Int} {e : Ex} {r r' : ResultVar} {φ φ' : List Prop} (hr : fn.results = #[r, r']) (h1 : resV C.P F M r = some (φ, .nils)) (h2 : resV C.P F M r' = some (φ', .int kk n)) (hφ : AllP φ) (hφ' : AllP φ') (h0 : ev.len = 0) (he : e = .ret ∨ e = .normal) (hS : ∀ b, ¬ C.S b) :
    Sat C (bodyPost C.P fn (Post (fun b => b < C.W0.heap.size) C.W0 (.tup [.ro ev, .int kk n]))) (.ext e F M ids []) := end_core he fun U E a w _ hst => by
  obtain ⟨v, q1, q2⟩ := resV_ok hst h1 hφ
  obtain ⟨v', q1', q2'⟩ := resV_ok hst h2 hφ'
  cases q1
  cases q1' with
  | int _ _ hin =>
  refine ⟨.tuple #[_, _], ?_, _, rfl, .tup _ [_, _] (.cons _ _ _ _ (.ro0 _ h0) (.cons _ _ _ _ (.int _ _ hin) .nil)), hst.post hS⟩
  unfold results
  rw [hr]
  exact mapM_run2 q2 q2'
theorem Sat.end2r {fn : Func} {id m : Nat} {t : TypeId} {l : List UInt8} {kk : IntKind} {n : Int} {e : Ex} {r r' : ResultVar} {φ φ' : List Prop} (hr : fn.results = #[r, r']) (h1 : resV C.P F M r = some (φ, .row id 0 1 0 m)) (h2 : resV C.P F M r' = some (φ', .int kk n)) (hφ : AllP φ) (hφ' : AllP φ') (hf : find M id = some (.row t (.u8 l))) (hm : m = l.length) (he : e = .ret ∨ e = .normal) (hS : ∀ b, ¬ C.S b) :
    Sat C (bodyPost C.P fn (Post (fun b => b < C.W0.heap.size) C.W0 (.tup [.ro (.u8 l), .int kk n]))) (.ext e F M ids []) := end_core he fun U E a w _ hst => by
  obtain ⟨v, q1, q2⟩ := resV_ok hst h1 hφ
  obtain ⟨v', q1', q2'⟩ := resV_ok hst h2 hφ'
  have q3 := row_fresh (T' := fun b => b < C.W0.heap.size) hst.mem hf hm (fun b hE hb => by
    rcases hst.own id b (by rw [hf]; rfl) hE with h | h
    · have hb : b < C.W0.heap.size := hb
      omega
    · exact hS b h) q1
  cases q1' with
  | int _ _ hin =>
  refine ⟨.tuple #[_, _], ?_, _, rfl, .tup _ [_, _] (.cons _ _ _ _ q3 (.cons _ _ _ _ (.int _ _ hin) .nil)), hst.post hS⟩
  unfold results
  rw [hr]
  exact mapM_run2 q2 q2'
/-- A call whose result is new: one's own rows may be given. -/
theorem Sat.callN {d : Option Tmp} {x : Operand} {f : FuncId} {xs : List Operand} {ats : Array TypeId} {type : TypeId} {pos : String} {after : Array Edge} {svs args : List SV} {res : SV}
    (hspec : FunN C.P C.Γ f args res) (hn : C.wide = false) (hx : argsF C.Γ F x xs = some (f, svs)) (hc : callable C.P f = true) (hconv : Convs M svs args) (hp : putD C.N F d (some res) some = some F') (h : Sat C Q0 (.reg full rest F' M ids k)) :
    Sat C Q0 (.reg full (⟨d, .call ⟨.value x, ⟨xs⟩, ats⟩, type, pos, after, none⟩ :: rest) F M ids k) := by
  intro U E a w hsup hst
  obtain ⟨F1, h1, h2⟩ := putD_inv hp
  cases h1
  refine wpList_plain rfl fun K hK => ?_
  unfold Oper.wp
  obtain ⟨vs, ht, hex⟩ := argsF_ok hst.vw hx
  rw [hex, run_callFunc_go hc]
  have ht' := Convs.tups (T' := C.T0) hst.mem (fun _ _ h => .inr h) (hst.apart hn) hconv ht
  refine (hspec C.T0 w _ (fun b hb => hst.lt hn b (.inr hb)) (hst.glob.mono (fun _ _ h => .inr h) (Chg.refl _ w)) ht').mono ?_
  rintro e w' ⟨v, rfl, hr, hb⟩
  exact hK _ _ (h U E _ w' hsup ((hst.below hb).putD h2 fun s' hs' => by cases hs'; exact hr.mono (fun _ _ h => by cases h) (fun b _ hb => hst.lt hn b hb) (Chg.refl _ w')))
end
end Go.Proofs.YtcnpgmohnclojaaDoor.V
end
section
namespace Go.Proofs.YtcnpgmohnclojaaDoor.V
open Go.RowKit
theorem items_u8 {E : Env} {T : Nat → Prop} {w w' : World} {T' : Nat → Prop} {l : List UInt8} {i : Nat} {cs : List Value} (h : Items E T w ((EV.u8 l).items i) cs) : Items E0 T' w' ((EV.u8 l).items i) cs := by
  simp only [EV.items] at h ⊢
  cases h with
  | one s c l cs h hr hl =>
    cases hr with
    | int _ _ hin =>
      cases hl
      exact .one _ _ _ _ rfl (.int _ _ hin) .nil
theorem ro_new {E : Env} {T T' : Nat → Prop} {w w0 : World} (hT : ∀ b, T' b → b < w.heap.size) {cs : List Value} {elem : TypeId} {l : List UInt8} {c : Nat → List Value} {n cap : Nat}
    (q1 : ∀ i, i < (EV.u8 l).len → (c i).length = (EV.u8 l).sz) (q2 : ∀ i j v, i < (EV.u8 l).len → (c i)[j]? = some v → cs[i * (EV.u8 l).sz + j]? = some v) (q3 : ∀ i, i < (EV.u8 l).len → Items E T w0 ((EV.u8 l).items i) (c i)) (hn : n = l.length) (hl : n ≤ cap) (ok : okLen cap) :
    Rep E0 T' (w.drew.alloc (.cells cs.toArray elem)) (.ro (.u8 l)) (.slice (some ⟨w.heap.size, 0, none⟩) n cap) := by
  have hh : (w.drew.alloc (.cells cs.toArray elem)).heap[w.heap.size]? = some (.cells cs.toArray elem) := by
    rw [show w.heap.size = w.drew.heap.size from rfl, heap_alloc_new]
  refine .ro (.u8 l) w.heap.size 0 n cap c (fun h => absurd (hT _ h) (Nat.lt_irrefl _)) q1 (fun i j v hi hj => ?_) (fun i hi => items_u8 (q3 i hi)) hn hl ok (by rw [alloc_size]; exact Nat.lt_succ_self _)
  rw [Nat.zero_add, cell_blk hh]
  exact q2 i j v hi hj
theorem below_grown (w : World) (o : Obj) : Below w.heap.size w (w.drew.alloc o) :=
  ⟨rfl, rfl, rfl, by rw [alloc_size]; exact Nat.le_succ _, fun b hb => Below.heap_alloc w.drew o b hb⟩
section
variable {C : Ctx} {Q0 : Exit → Act → World → Prop} {F F1 F' : Tr} {M M1 : Mem} {ids : List Nat} {k : List Kont} {full rest : List Oper}
theorem St.appK {U : Nat → Prop} {E : Env} {a : Act} {w : World} (h : St C F M U E a w) (hn : C.wide = false) {elem t t' id : Nat} {s x : Operand} {zv : Value} {i : TypeInfo} {l m : List UInt8} {e0 : EV} {sx : SV} {φ : List Prop} {o : Oper}
    (hu : C.P.underlying t = some (.slice elem)) (hu' : ∃ e', C.P.underlying t' = some (.slice e')) (hi : C.P.info? elem = some i) (his : i.size = 1) (hby : i.bytes = 1) (hz : i.zero = some zv) (hzl : zv.cells.toList.length = 1) (h0 : e0.len = 0)
    (hs : Rep E (trk C.T0 M E) w (.row id 0 1 0 l.length) (a.eval s)) (hx : Rep E (trk C.T0 M E) w sx (a.eval x)) (hsrc : srcZ C.P M elem zv (0 + 1) e0 sx = some (φ, .u8 m)) (hφ : All φ) (hk : ∀ k m, sx ≠ .int k m) (hstr : ∀ l, sx ≠ .str l)
    (hm : 0 < m.length) (hf : find M id = some (.row elem (.u8 l))) (hfit : l.length + m.length ≤ 140737488355328) (ho : o.op = .call ⟨.builtin .append, ⟨[s, x]⟩, ⟨[t, t']⟩⟩) :
    ∃ v w', (execOp a.eval o).run C.P w = .ok (.value v) w' ∧ Rep E0 C.T0 w' (.ro (.u8 (l ++ m))) v ∧ St C F M U E a w' := by
  obtain ⟨c2, g0, g1, g3⟩ := srcZ_ok (sz := 1) h.mem hsrc hφ hx rfl Nat.one_pos h0 hzl (.inl ⟨hk, .inl hu'⟩) (fun ⟨kk, hk'⟩ => by
    obtain ⟨e', he⟩ := hu'
    rw [he] at hk'
    cases hk') (fun l hl => absurd hl (hstr l))
  have happ : (EV.u8 l).app (.u8 m) = some (.u8 (l ++ m)) := rfl
  have hnl : ((cellsN c2 (EV.u8 m).len).flatten).length = m.length * 1 := by rw [flat_len (cellsN_all g1), cellsN_len]; rfl
  have hlt0 : ∀ b, C.T0 b → b < w.heap.size := fun b hb => h.lt hn b (.inr hb)
  have hok : okLen (l.length + m.length) := by unfold okLen; omega
  have hsz0 : 0 < i.size := by omega
  generalize hsv : a.eval s = sv at hs
  cases hs with
  | row0 _ _ _ _ _ hE hl =>
    have hr := run_append_grow_a (P := C.P) w t t' o.type elem i zv hu hi hz hsz0 none 0 0 [] (by rw [run_firstCells_none]) (a.eval x) m.length _ (by rw [his, hby]; exact g0) (by omega) (by unfold okLen at hok; omega) (by rw [hby]; exact growslice_fits (by omega) (by omega))
    rw [← hsv] at hr
    simp only [Nat.zero_add, List.nil_append] at hr
    obtain ⟨c', q1, q2, q3⟩ := app_seg (c := fun _ => []) (cs := []) (rest := (Builtin.zeroCells zv.cells (grownCap w m.length 0 elem - m.length)).toList) happ rfl (fun i hi => by have hi : i < l.length := hi; omega) (fun i j v hi => by have hi : i < l.length := hi; omega) (fun i hi => by have hi : i < l.length := hi; omega) g1 g3 (by show l.length * 1 ≤ 0; omega)
    have hce : ((cellsN c2 (EV.u8 m).len).flatten.toArray ++ Builtin.zeroCells zv.cells (grownCap w m.length 0 elem - m.length) : Array Value) = (([] : List Value).take ((EV.u8 l).len * 1) ++ (cellsN c2 (EV.u8 m).len).flatten ++ (Builtin.zeroCells zv.cells (grownCap w m.length 0 elem - m.length)).toList).toArray := by
      apply Array.ext'; simp
    rw [hce] at hr
    exact ⟨_, _, exec_append ho hr, ro_new hlt0 q1 q2 q3 (by rw [List.length_append]; omega) (by have := grownCap_ge w m.length 0 elem; omega) (grownCap_ok _ _ _ _ (by unfold okLen; omega)), h.below (below_grown w _)⟩
  | row _ _ _ _ _ bb o0 k0 n t2 hE hsh hoo hl0 hok0 =>
    obtain ⟨hlt, cs, c, hh, hle, hc1, hc2, hc3⟩ := h.mem.at hf hE
    have hle : l.length * 1 ≤ cs.length := hle
    have hk0 : k0 ≠ 0 → o0 = 0 ∧ k0 ≤ cs.length := fun hk => by
      obtain ⟨p1, p2⟩ := hoo hk
      simp [World.shape?, hh] at hsh
      omega
    by_cases hroom : l.length + m.length ≤ k0
    · have hk1 : k0 ≠ 0 := by omega
      obtain ⟨p1, p2⟩ := hk0 hk1
      subst p1
      have hr := run_append_room_a (P := C.P) w t t' o.type elem i zv hu hi hz hsz0 bb 0 l.length k0 (a.eval x) m.length _ (by rw [his, hby]; exact g0) hroom
        (fun j hj => by
          have hj : j < ((cellsN c2 (EV.u8 m).len).flatten).length := hj
          rw [hnl] at hj
          rw [his, cell_blk hh, Nat.zero_add, List.getElem?_eq_getElem (by omega)]; rfl)
        (fun j hj => by simp [World.frozen?, hh])
      rw [← hsv] at hr
      have hw1 : w.setCells bb (0 + l.length * i.size) (cellsN c2 (EV.u8 m).len).flatten = w.setRow bb (cs.take (l.length * 1) ++ (cellsN c2 (EV.u8 m).len).flatten ++ cs.drop (l.length * 1 + m.length * 1)).toArray := by
        rw [his, Nat.zero_add, setCells_setRow bb elem _ _ cs.toArray w hh (by rw [hnl]; simp; omega), hnl]
      rw [hw1] at hr
      have hlen' : (cs.take (l.length * 1) ++ (cellsN c2 (EV.u8 m).len).flatten ++ cs.drop (l.length * 1 + m.length * 1)).length = cs.length := by
        rw [List.length_append, List.length_append, List.length_take, List.length_drop, hnl]; omega
      have hchg := Chg.setRow hh (show mine M E bb from ⟨id, _, hf, hE⟩) hlen'
      have hh' := setRow_heap w bb cs.toArray (cs.take (l.length * 1) ++ (cellsN c2 (EV.u8 m).len).flatten ++ cs.drop (l.length * 1 + m.length * 1)).toArray elem (0, 0) hh
      obtain ⟨c', q1, q2, q3⟩ := app_seg (rest := cs.drop (l.length * 1 + m.length * 1)) happ rfl hc1 hc2 hc3 g1 g3 hle
      refine ⟨_, _, exec_append ho hr, ?_, ?_⟩
      · refine .ro (.u8 (l ++ m)) bb 0 (l.length + m.length) k0 c' (h.apart hn id bb (by rw [hf]; rfl) hE) q1 (fun i j v hi hj => ?_) (fun i hi => items_u8 (q3 i hi)) (by show _ = (l ++ m).length; rw [List.length_append]) hroom hok0 (by simpa using hlt)
        rw [Nat.zero_add, cell_blk hh']
        exact q2 i j v hi hj
      · refine h.go (fun _ _ h => h) (fun _ _ h => h) hchg rfl rfl rfl ⟨fun k B hfk => ?_, h.mem.inj⟩ h.own h.fresh
        have hchg2 := hchg.weak (T' := trk C.T0 M E) fun _ => .inl
        rcases h.mem.blk k B hfk with ⟨b, h1, h2, h3⟩ | h1
        · refine .inl ⟨b, h1, by simpa using h2, ?_⟩
          by_cases hkid : k = id
          · subst hkid
            rw [hf] at hfk
            cases hfk
            rw [hE] at h1
            cases h1
            refine ⟨_, c, hh', by rw [hlen']; exact hle, hc1, fun i j v hi hj => ?_, fun i hi => (hc3 i hi).mono (fun _ _ h => h) (fun _ _ h => h) hchg2⟩
            have q := hc2 i j v hi hj
            have hj1 : j < 1 := by
              have := (List.getElem?_eq_some_iff.1 hj).1
              rw [hc1 i hi] at this
              exact this
            have hi : i < l.length := hi
            have hlt1 : i * 1 + j < l.length * 1 := by omega
            show (_ : List Value)[i * 1 + j]? = some v
            rw [List.append_assoc, List.getElem?_append_left (by rw [List.length_take]; omega), List.getElem?_take_of_lt hlt1]
            exact q
          · have hbb : b ≠ bb := fun e => hkid (h.mem.inj k id b (by rw [hfk]; rfl) (by rw [hf]; rfl) h1 (by rw [e]; exact hE))
            exact h3.mono (fun _ _ h => h) (fun _ _ h => h) hchg2 (setRow_other w bb b _ hbb)
        · exact .inr h1
    · have hold : (Builtin.firstCells i.size l.length (.slice (some ⟨bb, o0, none⟩) l.length k0)).run C.P w.drew = .ok (cs.take (l.length * 1)).toArray w.drew := by
        by_cases hn0 : l.length = 0
        · rw [hn0]
          simp [Builtin.firstCells, loadCells, loadCellsFrom]
        · obtain ⟨p1, p2⟩ := hk0 (by omega)
          refine run_firstCells_some w.drew i.size l.length _ _ _ _ (by rw [his, List.length_take]; omega) (fun j u hj => ?_)
          rw [Addr.add_mk, p1, Nat.zero_add]
          have : w.cell? ⟨bb, j, none⟩ = some u := by
            rw [cell_blk hh]
            rw [List.getElem?_take] at hj
            split at hj
            · exact hj
            · cases hj
          exact this
      have hr := run_append_grow_a (P := C.P) w t t' o.type elem i zv hu hi hz hsz0 (some ⟨bb, o0, none⟩) l.length k0 _ hold (a.eval x) m.length _ (by rw [his, hby]; exact g0) (by omega) (by unfold okLen at hok; omega) (by rw [hby]; exact growslice_fits (by omega) (by omega))
      rw [← hsv] at hr
      obtain ⟨c', q1, q2, q3⟩ := app_seg (rest := (Builtin.zeroCells zv.cells (grownCap w (l.length + m.length) k0 elem - (l.length + m.length))).toList) happ rfl hc1 hc2 hc3 g1 g3 hle
      have hce : (((cs.take (l.length * 1) ++ (cellsN c2 (EV.u8 m).len).flatten).toArray ++ Builtin.zeroCells zv.cells (grownCap w (l.length + m.length) k0 elem - (l.length + m.length))) : Array Value) = (cs.take ((EV.u8 l).len * 1) ++ (cellsN c2 (EV.u8 m).len).flatten ++ (Builtin.zeroCells zv.cells (grownCap w (l.length + m.length) k0 elem - (l.length + m.length))).toList).toArray := by
        apply Array.ext'; simp [EV.len]
      rw [hce] at hr
      exact ⟨_, _, exec_append ho hr, ro_new hlt0 q1 q2 q3 (by rw [List.length_append]) (grownCap_ge ..) (grownCap_ok _ _ _ _ hok), h.below (below_grown w _)⟩
/-- Bytes are appended, and the new slice is given to a call alone, as its third argument; the call returns a pair of which the second part is a number. What was known of the old slice is known behind it. -/
theorem Sat.appCall {dA : Tmp} {d : Option Tmp} {s x y : Operand} {t t' ty : TypeId} {posA : String} {afterA : Array Edge} {f : FuncId} {xs : List Operand} {ats : Array TypeId} {type : TypeId} {pos : String} {after : Array Edge} {elem id n : Nat} {zv : Value} {i : TypeInfo} {l m : List UInt8} {e0 : EV} {sx s1 s2 a1 a2 r0 : SV} {φ : List Prop} {kk : IntKind} {r : Int} {F1 : Value → Tr} {F2 : Value → Value → Tr}
    (hspec : Fun C.P C.Γ f [a1, a2, .ro (.u8 (l ++ m))] (.tup [r0, .int kk r])) (hn : C.wide = false)
    (hs : opd C.Γ F s = some (.row id 0 1 0 n)) (hx : opd C.Γ F x = some sx) (hf : find M id = some (.row elem (.u8 l))) (hl : n = l.length)
    (hu : C.P.underlying t = some (.slice elem)) (hu' : ∃ e', C.P.underlying t' = some (.slice e')) (hi : C.P.info? elem = some i) (his : i.size = 1) (hby : i.bytes = 1) (hz : i.zero = some zv) (hzl : zv.cells.toList.length = 1) (h0 : e0.len = 0)
    (hsrc : srcZ C.P M elem zv (0 + 1) e0 sx = some (φ, .u8 m)) (hφ : AllP φ) (hk : ∀ k m, sx ≠ .int k m) (hstr : ∀ l, sx ≠ .str l) (hm : 0 < m.length) (hfit : l.length + m.length ≤ 140737488355328)
    (hp1 : ∀ v, putD C.N F (some dA) (some (.val v)) some = some (F1 v)) (hargs : ∀ v, argsF C.Γ (F1 v) y xs = some (f, [s1, s2, .val v])) (hc : callable C.P f = true) (hconv : Convs M [s1, s2] [a1, a2])
    (hp2 : ∀ v u, putD C.N (F1 v) d (some (.tup [.val u, .int kk r])) some = some (F2 v u))
    (h : ∀ v u, Sat C Q0 (.reg full rest (F2 v u) M ids k)) :
    Sat C Q0 (.reg full (⟨some dA, .call ⟨.builtin .append, ⟨[s, x]⟩, ⟨[t, t']⟩⟩, ty, posA, afterA, none⟩ :: ⟨d, .call ⟨.value y, ⟨xs⟩, ats⟩, type, pos, after, none⟩ :: rest) F M ids k) := by
  subst hl
  intro U E a w hsup hst
  refine wpList_plain rfl fun K hK => ?_
  unfold Oper.wp
  obtain ⟨v, w1, hr, hv, hst1⟩ := hst.appK (o := ⟨some dA, .call ⟨.builtin .append, ⟨[s, x]⟩, ⟨[t, t']⟩⟩, ty, posA, afterA, none⟩) hn hu hu' hi his hby hz hzl h0 (opd_rep hst.vw hs) (opd_rep hst.vw hx) hsrc hφ.all hk hstr hm hf hfit rfl
  rw [hr]
  refine hK _ _ ?_
  obtain ⟨G1, e1, e2⟩ := putD_inv (hp1 v)
  cases e1
  have hst2 : St C (F1 v) M U E (a.put (some dA) v) w1 := hst1.putD e2 fun s' hs' => by cases hs'; exact .val v
  refine wpList_plain rfl fun K hK => ?_
  unfold Oper.wp
  obtain ⟨vs, ht, hex⟩ := argsF_ok hst2.vw (hargs v)
  rw [hex, run_callFunc_go hc]
  have ht' : Tup E0 C.T0 w1 [a1, a2, .ro (.u8 (l ++ m))] vs := by
    cases ht with
    | cons _ v1 _ vs1 r1 t1 =>
      cases t1 with
      | cons _ v2 _ vs2 r2 t2 =>
        cases t2 with
        | cons _ v3 _ vs3 r3 t3 =>
          cases t3
          cases r3
          have q := Convs.tups (T' := C.T0) hst2.mem (fun _ _ h => .inr h) (hst2.apart hn) hconv (.cons _ _ _ _ r1 (.cons _ _ _ _ r2 .nil))
          cases q with
          | cons _ _ _ _ p1 q =>
            cases q with
            | cons _ _ _ _ p2 q => exact .cons _ _ _ _ p1 (.cons _ _ _ _ p2 (.cons _ _ _ _ hv .nil))
  refine (hspec C.T0 w1 _ (fun b hb => hst2.lt hn b (.inr hb)) (hst2.glob.mono (fun _ _ h => .inr h) (Chg.refl _ w1)) ht').mono ?_
  rintro e w' ⟨z, rfl, hrz, hb⟩
  cases hrz with
  | tup _ zs hz2 =>
  cases hz2 with
  | cons _ u _ us _ h2 =>
  cases h2 with
  | cons _ u2 _ us2 hr2 h3 =>
  cases h3
  cases hr2 with
  | int _ _ hin =>
  obtain ⟨G2, e3, e4⟩ := putD_inv (hp2 v u)
  cases e3
  exact hK _ _ (h v u U E _ w' hsup ((hst2.below hb).putD e4 fun s' hs' => by cases hs'; exact .tup _ [_, _] (.cons _ _ _ _ (.val u) (.cons _ _ _ _ (.int _ _ hin) .nil))))
end
end Go.Proofs.YtcnpgmohnclojaaDoor.V
end
section
namespace Go.Proofs.YtcnpgmohnclojaaDoor
open Go.RowKit V
set_option maxRecDepth 100000
set_option maxHeartbeats 800000
set_option linter.unusedSimpArgs false
@[reducible] def XU : IntKind → Bool
  | .i64 => true
  | .u64 => true
  | .u32 => true
  | _ => false
def castL (l : List Nat) : List Int := l.map fun (n : Nat) => (n : Int)
theorem castL_len (l : List Nat) : (castL l).length = l.length := by simp [castL]
theorem castL_get (l : List Nat) (i : Nat) (h : i < l.length) : (castL l).getD i 0 = (l.getD i 0 : Nat) := by
  unfold castL
  simp only [List.getD_eq_getElem?_getD, List.getElem?_map, List.getElem?_eq_getElem h, Option.map_some, Option.getD_some]
theorem castL_set (l : List Nat) (i v : Nat) : (castL l).set i (v : Int) = castL (l.set i v) := by
  unfold castL
  rw [List.map_set]
theorem castL_sum (l : List Nat) : sumL (castL l) = (Rc.sumN l : Int) := by
  induction l with
  | nil => rfl
  | cons x r ih =>
    show (x : Int) + sumL (castL r) = ((x + Rc.sumN r : Nat) : Int)
    rw [ih]
    omega
theorem castL_take (l : List Nat) (i : Nat) : (castL l).take i = castL (l.take i) := by
  unfold castL
  rw [List.map_take]
@[reducible] def tabC (l : List Nat) : List SV := [.arr 256 (.ints .u32 (castL l))]
@[reducible] def tabB (l : List Nat) (t : Nat) : List SV := [.arr 256 (.ints .u32 (castL l)), .int .u64 (t : Int)]
structure Hd (p : Prop) : Prop where
  h : p
def half (n : Nat) : Nat := (n + 1) / 2
def halfL (q : List Nat) (x : Nat) : List Nat := (q.take x).map half ++ q.drop x
theorem halfL_len (q : List Nat) (x : Nat) : (halfL q x).length = q.length := by simp [halfL]; omega
theorem halfL_step (q : List Nat) (x : Nat) (h : x < q.length) : (halfL q x).set x (half (q.getD x 0)) = halfL q (x + 1) := by
  unfold halfL
  have hl : ((q.take x).map half).length = x := by rw [List.length_map, List.length_take]; omega
  rw [List.set_append_right _ _ (by omega), hl, Nat.sub_self, List.take_succ_eq_append_getElem h, List.map_append, List.append_assoc, List.drop_eq_getElem_cons h, List.set_cons_zero, List.getD_eq_getElem?_getD, List.getElem?_eq_getElem h]
  rfl
theorem halfL_sum (q : List Nat) (x : Nat) (h : x < q.length) : Rc.sumN ((q.take (x + 1)).map half) = Rc.sumN ((q.take x).map half) + half (q.getD x 0) := by
  rw [List.take_succ_eq_append_getElem h, List.map_append, Rc.sumN_app, List.getD_eq_getElem?_getD, List.getElem?_eq_getElem h]
  simp [Rc.sumN]
theorem V.Sat.mend0 {P : Program} {Γ : Glob} {N : Nat} {T : Nat → Prop} {w : World} {b n : Nat} {t : TypeId} {cl' c2 : List SV} {fn : Func} {F : Tr} {M : Mem} {ids : List Nat} {e : Ex} (hT : ∀ k, T k → k < w.heap.size) (hr : fn.results = #[]) (hfM : find M 0 = some (.cells t c2)) (hc : Convs (del M 0) c2 cl') (he : e = .ret ∨ e = .normal) (hn : wI c2 = n) :
    Sat (mctx P Γ N T w b) (bodyPost P fn (MPost T w t b n cl' (.tup []))) (.ext e F M ids []) :=
  mend_core hT hfM hc he hn fun _ _ _ _ _ _ => ⟨_, .tup [], results_none hr _ _ _, .tup _ [] .nil, .tup _ _ .nil⟩
theorem sum_half_le (Q : List Nat) (hQ : Q.length = 256) (hv : ∀ i, i < 256 → Q.getD i 0 ≤ 65568) : ∀ x, x ≤ 256 → Rc.sumN ((Q.take x).map half) ≤ 65536 * x
  | 0, _ => by simp [Rc.sumN]
  | x + 1, h => by
    have ih := sum_half_le Q hQ hv x (by omega)
    have := hv x (by omega)
    rw [halfL_sum Q x (by omega)]
    unfold half at ih ⊢
    omega
attribute [local irreducible] V.Sat V.DSat
theorem tab_le {l : List Nat} {t : Nat} (h : Rc.Tab l t) (i : Nat) (hi : i < 256) : l.getD i 0 ≤ 65536 := by
  have := h.part i hi
  have := h.big
  omega
theorem saw_spec (q : List Nat) (t : Nat) (hp : Rc.Tab q t) (c : UInt8) : MFun Tryd.prog [] 62 [.int .u8 (c.toNat : Int)] 83 (tabB q t) (tabB (Rc.sawT (q, t) c).1 (Rc.sawT (q, t) c).2) (.tup []) := by
  refine MFun.mk 6 Tryd.func62 rfl Tryd.ntmps62 rfl rfl fun hf hg T w b hT hTb => ?_
  clear hf hg
  have hc : c.toNat < 256 := c.toNat_lt
  have hlen : (castL q).length = 256 := by rw [castL_len, hp.len]
  have hv : (castL q).getD ((c.toNat : Int)).toNat 0 = (q.getD c.toNat 0 : Nat) := castL_get q c.toNat (by rw [hp.len]; exact hc)
  have hle := tab_le hp c.toNat hc
  have hb := hp.big
  have hset : (castL q).set ((c.toNat : Int)).toNat ((castL q).getD ((c.toNat : Int)).toNat 0 + 32) = castL (q.set c.toNat (q.getD c.toNat 0 + 32)) := by
    rw [hv, Int.toNat_natCast]
    exact castL_set q c.toNat (q.getD c.toNat 0 + 32)
  by_cases hk : (t : Int) + 32 ≤ 65536
  · have e : Rc.sawT (q, t) c = (q.set c.toNat (q.getD c.toNat 0 + 32), t + 32) := by
      unfold Rc.sawT
      rw [if_pos (by show t + 32 ≤ 65536; omega)]
    rw [e]
    have hk2 : Hd ((t : Int) + 32 ≤ 65536) := ⟨hk⟩
    clear hk e
    repeat' (first
        | ((with_reducible apply Sat.cond_pf); exact rfl; exact hk2.h)
        | ((with_reducible apply Sat.cond_pt); exact rfl; exact hk2.h)
        | ((with_reducible apply Sat.run (X := XU)); exact rfl; (first | exact True.intro | (exact phi) | skip))
        | ((with_reducible apply Sat.drawn); kernel_rfl)
        | ((with_reducible apply DSat.run (X := XU)); exact rfl; (first | exact True.intro | (exact phi) | skip))
        | ((with_reducible apply DSat.fin); kernel_rfl) | fail)
    refine Sat.mfin (Sat.mend0 hT rfl rfl (.cons _ _ _ _ (.refl _ (by first | trivial | exact purX)) (.cons _ _ _ _ (.refl _ trivial) .nil)) (.inl rfl) rfl) rfl ?_
    show tabB (q.set c.toNat (q.getD c.toNat 0 + 32)) (t + 32) = _
    rw [hset]
    rfl
  · have e : Rc.sawT (q, t) c = ((q.set c.toNat (q.getD c.toNat 0 + 32)).map half, Rc.sumN ((q.set c.toNat (q.getD c.toNat 0 + 32)).map half)) := by
      unfold Rc.sawT
      rw [if_neg (by show ¬ t + 32 ≤ 65536; omega)]
      rfl
    rw [e]
    have hk2 : Hd (¬ (t : Int) + 32 ≤ 65536) := ⟨hk⟩
    clear hk e
    repeat' (first
        | ((with_reducible apply Sat.cond_pf); exact rfl; exact hk2.h)
        | ((with_reducible apply Sat.cond_pt); exact rfl; exact hk2.h)
        | ((with_reducible apply Sat.run (X := XU)); exact rfl; (first | exact True.intro | (exact phi) | skip))
        | ((with_reducible apply Sat.drawn); kernel_rfl)
        | ((with_reducible apply DSat.run (X := XU)); exact rfl; (first | exact True.intro | (exact phi) | skip))
        | ((with_reducible apply DSat.fin); kernel_rfl) | fail)
    have hQ : (q.set c.toNat (q.getD c.toNat 0 + 32)).length = 256 := by rw [List.length_set, hp.len]
    have hQv : ∀ i, i < 256 → (q.set c.toNat (q.getD c.toNat 0 + 32)).getD i 0 ≤ 65568 := fun i hi => by
      rw [Rc.getD_set _ _ _ _ (by rw [hp.len]; exact hc)]
      have := tab_le hp i hi
      split <;> omega
    rw [hset]
    clear hv hle hset
    generalize q.set c.toNat (q.getD c.toNat 0 + 32) = Q at *
    apply Sat.loop (α := Nat) (fun x => x ≤ 256) (fun x => 256 - x) 0 (fun x => [(35, .int .i64 (x : Int))]) (fun x => [(0, .cells 83 [.arr 256 (.ints .u32 (castL (halfL Q x))), .int .u64 (Rc.sumN ((Q.take x).map half) : Int)])]) [] [] 0
    · intro x; exact rfl
    · intro x; exact rfl
    · exact rfl
    · exact rfl
    · (repeat' (first | exact AllP.nil | with_reducible refine AllP.cons ?_ ?_)) <;> first | exact rfl | exact trivial | exact ⟨rfl, rfl⟩ | exact ⟨rfl, rfl, rfl⟩ | exact ⟨rfl, rfl, rfl, rfl⟩ | exact ⟨rfl, .inl rfl⟩ | exact ⟨rfl, .inr rfl⟩ | exact purX
    · exact Nat.zero_le _
    rintro x x1
    by_cases hx : x < 256
    · have hcc : (x : Int) < 256 := by omega
      have hl1 : (castL Q).length = 256 := by rw [castL_len, hQ]
      have hl2 : (castL (halfL Q x)).length = 256 := by rw [castL_len, halfL_len, hQ]
      have hgx : (castL Q).getD ((x : Int)).toNat 0 = (Q.getD x 0 : Nat) := castL_get Q x (by omega)
      have hQx := hQv x hx
      have hdiv : ((castL Q).getD ((x : Int)).toNat 0 + 1) / 2 = ((half (Q.getD x 0) : Nat) : Int) := by
        rw [hgx]
        unfold half
        omega
      have hset2 : (castL (halfL Q x)).set ((x : Int)).toNat (((castL Q).getD ((x : Int)).toNat 0 + 1) / 2) = castL (halfL Q (x + 1)) := by
        rw [hdiv, Int.toNat_natCast, castL_set, halfL_step Q x (by omega)]
      have hget2 : ((castL (halfL Q x)).set ((x : Int)).toNat (((castL Q).getD ((x : Int)).toNat 0 + 1) / 2)).getD ((x : Int)).toNat 0 = ((half (Q.getD x 0) : Nat) : Int) := by
        rw [hdiv, Int.toNat_natCast]
        simp only [List.getD_eq_getElem?_getD, List.getElem?_set_self (show x < (castL (halfL Q x)).length by omega), Option.getD_some]
      have hsum : Rc.sumN ((Q.take (x + 1)).map half) = Rc.sumN ((Q.take x).map half) + half (Q.getD x 0) := halfL_sum Q x (by omega)
      have hsm : Hd (Rc.sumN ((Q.take x).map half) ≤ 65536 * 256) := ⟨by
        have h1 := sum_half_le Q hQ hQv x x1
        omega⟩
      have hset2 : Hd ((castL (halfL Q x)).set ((x : Int)).toNat (((castL Q).getD ((x : Int)).toNat 0 + 1) / 2) = castL (halfL Q (x + 1))) := ⟨hset2⟩
      have hget2 : Hd (((castL (halfL Q x)).set ((x : Int)).toNat (((castL Q).getD ((x : Int)).toNat 0 + 1) / 2)).getD ((x : Int)).toNat 0 = ((half (Q.getD x 0) : Nat) : Int)) := ⟨hget2⟩
      have hsum : Hd (Rc.sumN ((Q.take (x + 1)).map half) = Rc.sumN ((Q.take x).map half) + half (Q.getD x 0)) := ⟨hsum⟩
      have hgx : Hd ((castL Q).getD ((x : Int)).toNat 0 = (Q.getD x 0 : Nat)) := ⟨hgx⟩
      clear hdiv
      repeat' (first
          | ((with_reducible apply Sat.cond_pt); exact rfl; exact hcc)
          | ((with_reducible apply Sat.run (X := XU)); exact rfl; (first | exact True.intro | (exact phi) | skip))
          | ((with_reducible apply Sat.drawn); kernel_rfl)
          | ((with_reducible apply DSat.run (X := XU)); exact rfl; (first | exact True.intro | (exact phi) | skip))
          | ((with_reducible apply DSat.fin); kernel_rfl) | fail)
      · have hget2 := hget2.h
        have hsm := hsm.h
        refine .cons (inR_u64 ?_ ?_) (.cons ?_ (.cons ⟨by omega, by omega⟩ .nil))
        · rw [hget2]; omega
        · have : half (Q.getD x 0) ≤ 65536 := by unfold half; omega
          rw [hget2]; omega
        · show x < ((castL (halfL Q x)).set _ _).length
          rw [List.length_set]
          omega
      · rw [hget2.h, hset2.h]
        refine Sat.back (x + 1) [] rfl ?_ ?_ ?_
        · (repeat' (first | exact AllP.nil | with_reducible refine AllP.cons ?_ ?_)) <;> first | exact rfl | exact trivial | exact Int.natCast_add_one _ | exact ⟨rfl, rfl⟩ | exact ⟨rfl, rfl, rfl⟩ | exact ⟨rfl, rfl, rfl, rfl⟩ | exact ⟨rfl, .inl rfl⟩ | exact ⟨rfl, .inr rfl⟩ | (rw [hsum.h]; exact rfl) | exact purX
        · exact hx
        · omega
    · obtain rfl : x = 256 := by omega
      repeat' (first
          | ((with_reducible apply Sat.run (X := XU)); exact rfl; (first | exact True.intro | (exact phi) | skip))
          | ((with_reducible apply Sat.drawn); kernel_rfl)
          | ((with_reducible apply DSat.run (X := XU)); exact rfl; (first | exact True.intro | (exact phi) | skip))
          | ((with_reducible apply DSat.fin); kernel_rfl)
          | ((with_reducible apply Sat.cond_t); exact rfl)
          | ((with_reducible apply Sat.cond_f); exact rfl)
          | ((with_reducible apply Sat.cond_pt); exact rfl; (try dsimp only [V.EV.sub, V.EV.len]); first | assumption | omega)
          | ((with_reducible apply Sat.cond_pf); exact rfl; (try dsimp only [V.EV.sub, V.EV.len]); first | assumption | omega)
          | ((with_reducible apply Sat.cond_p); exact rfl; all_goals intro h)
          | ((with_reducible apply Sat.cond); exact rfl; all_goals intro h) | fail)
      have hh : halfL Q 256 = Q.map half := by unfold halfL; rw [List.take_of_length_le (by omega), List.drop_eq_nil_of_le (by omega), List.append_nil]
      have ht : Q.take 256 = Q := List.take_of_length_le (by omega)
      refine Sat.mfin (Sat.mend0 hT rfl rfl (.cons _ _ _ _ (.refl _ (by first | trivial | exact purX)) (.cons _ _ _ _ (.refl _ trivial) .nil)) (.inr rfl) rfl) rfl ?_
      show tabB (Q.map half) (Rc.sumN (Q.map half)) = tabB (halfL Q 256) (Rc.sumN ((Q.take 256).map half))
      rw [hh, ht]
end Go.Proofs.YtcnpgmohnclojaaDoor
end
section
namespace Go.Proofs.YtcnpgmohnclojaaDoor.V
open Go.RowKit
/-- The context of a piece: it begins at w, may write the blocks of S, what T hides is not read; l: numbers whose blocks are known. -/
def Ctx.at (C : Ctx) (w : World) (S T : Nat → Prop) (l : List (Nat × Nat)) : Ctx :=
  ⟨C.P, w, S, T, C.Γ, C.N, l.map (·.1), l.map fun p => ⟨fun i => if i = p.1 then some (some p.2) else none, .e, fun _ => undef⟩, C.wide⟩
structure Over (C : Ctx) (w : World) (S T : Nat → Prop) : Prop where
  kp : Kp C.W0 C.S w
  s : ∀ b, S b → C.W0.heap.size ≤ b ∨ C.S b
  t : ∀ b, C.T0 b → T b
/-- A context without callers. -/
structure Top (C : Ctx) : Prop where
  pins : C.pins = []
  hold : C.hold = []
  wide : C.wide = false
  hid : ∀ b, C.T0 b → b < C.W0.heap.size ∧ ¬ C.S b
theorem Kp.trans {W0 W1 w : World} {S S1 : Nat → Prop} (h : Kp W0 S W1) (h2 : Kp W1 S1 w) (hs : ∀ b, S1 b → W0.heap.size ≤ b ∨ S b) : Kp W0 S w := by
  refine ⟨h2.os.trans h.os, h2.tape.trans h.tape, h2.output.trans h.output, Nat.le_trans h.chg.size h2.chg.size, fun b hb hn => ?_, fun b hb => ?_⟩
  · refine (h2.chg.keep b (Nat.lt_of_lt_of_le hb h.chg.size) fun q => ?_).trans (h.chg.keep b hb hn)
    rcases hs b q with q | q
    · omega
    · exact hn q
  · exact (h2.chg.shape b (Nat.lt_of_lt_of_le hb h.chg.size)).trans (h.chg.shape b hb)
section
variable {C : Ctx} {Q0 : Exit → Act → World → Prop} {F F' : Tr} {M M' : Mem} {ids ids' : List Nat} {k : List Kont}
theorem St.up {w0 w : World} {S T : Nat → Prop} {l : List (Nat × Nat)} {U : Nat → Prop} {E : Env} {a : Act} (c : Top C) (o : Over C w0 S T) (h : St (C.at w0 S T l) F M U E a w) : St C F M U E a w := by
  have hT : ∀ b, b < w.heap.size → trk C.T0 M E b → trk T M E b := fun b _ hb => hb.elim .inl fun h0 => .inr (o.t b h0)
  refine ⟨h.defers, h.size, fun t s hs => (h.slots t s hs).mono (fun _ _ h => h) hT (Chg.refl _ w), ⟨fun id B hf => ?_, h.mem.inj⟩, fun id b hf hE => ?_, h.fresh, o.kp.trans h.kp o.s, fun b hb => .inl (c.hid b hb), h.glob.mono hT (Chg.refl _ w), ?_, ?_⟩
  · rcases h.mem.blk id B hf with ⟨b, h1, h2, h3⟩ | h1
    · exact .inl ⟨b, h1, h2, h3.mono (fun _ _ h => h) hT (Chg.refl _ w) rfl⟩
    · exact .inr h1
  · rcases h.own id b hf hE with h1 | h1
    · exact .inl (Nat.le_trans o.kp.chg.size h1)
    · exact o.s b h1
  · intro p hp; rw [c.hold] at hp; cases hp
  · intro p hp; rw [c.hold] at hp; cases hp
theorem Sat.up {w0 : World} {S T : Nat → Prop} {l : List (Nat × Nat)} {c' : Cfg} (c : Top C) (o : Over C w0 S T) (h : Sat C Q0 c') : Sat (C.at w0 S T l) Q0 c' := by
  cases c' with
  | reg full rest F M ids k => exact fun U E a w h1 h2 => h U E a w h1 (h2.up c o)
  | qreg full rest F M ids k => exact fun U E a w h1 h2 => h U E a w h1 (h2.up c o)
  | code cc F M ids k => exact fun U E a w h1 h2 => h U E a w h1 (h2.up c o)
  | ext e F M ids k => exact fun U E a w h1 h2 => h U E a w h1 (h2.up c o)
/-- The context is begun anew, where the walk stands. -/
theorem St.rebase {w : World} {U : Nat → Prop} {E : Env} {a : Act} {l : List (Nat × Nat)} (T : Nat → Prop) (hT : ∀ b, T b → b < w.heap.size ∧ ¬ mine M E b) (hr : ∀ t s, F.get t = some s → Rep E (trk T M E) w s (a.tmps.getD t undef)) (hm : MOk E (trk T M E) M w) (hg : GOk C.Γ (trk T M E) w) (hl : ∀ p ∈ l, E p.1 = some (some p.2)) (h : St C F M U E a w) : St (C.at w (mine M E) T l) F M U E a w := by
  refine ⟨h.defers, h.size, hr, hm, fun id b hf hE => ?_, h.fresh, ⟨rfl, rfl, rfl, Chg.refl _ w⟩, fun b hb => .inl (hT b hb), hg, ?_, ?_⟩
  · right
    cases hq : find M id with
    | none => rw [hq] at hf; cases hf
    | some B => exact ⟨id, B, hq, hE⟩
  · intro p hp id b hpe
    obtain ⟨q, hq, rfl⟩ := List.mem_map.1 hp
    dsimp only at hpe
    split at hpe
    · rename_i he
      subst he
      cases hpe
      exact ⟨List.elem_eq_true_of_mem (List.mem_map.2 ⟨q, hq, rfl⟩), hl q hq⟩
    · cases hpe
  · intro p hp t s hs
    obtain ⟨q, hq, rfl⟩ := List.mem_map.1 hp
    cases hs
def BackC (C : Ctx) {α : Type} (Wx : α → World) (Sx Tx : α → Nat → Prop) (lx : α → List (Nat × Nat)) (ids : List Nat) (Fh : α → Tr) (Mh : α → Mem) (inv : α → Prop) (m : α → Nat) (x : α) (a : Act) (w : World) : Prop :=
  ∃ x', inv x' ∧ m x' < m x ∧ ∃ U E, Sup ids U ∧ St (C.at (Wx x') (Sx x') (Tx x') (lx x')) (Fh x') (Mh x') U E a w
/-- A loop whose context goes on from round to round. -/
theorem Sat.loopC {α : Type} {body : Code} {Fh : α → Tr} {Mh : α → Mem} {C0 : Ctx} (hP : C0.P = C.P) (Wx : α → World) (Sx Tx : α → Nat → Prop) (lx : α → List (Nat × Nat)) (inv : α → Prop) (m : α → Nat)
    (h0 : ∀ U E a w, Sup ids U → St C0 F M U E a w → ∃ x, inv x ∧ ∃ U' E', Sup ids' U' ∧ St (C.at (Wx x) (Sx x) (Tx x) (lx x)) (Fh x) (Mh x) U' E' a w)
    (step : ∀ x, inv x → Sat (C.at (Wx x) (Sx x) (Tx x) (lx x)) Q0 (.code body (Fh x) (Mh x) ids' (.lp (BackC C Wx Sx Tx lx ids' Fh Mh inv m x) :: k))) : Sat C0 Q0 (.code (.loop body) F M ids k) := by
  intro U E a w hsup hst
  rw [hP]
  obtain ⟨x, q1, q2⟩ := h0 U E a w hsup hst
  refine wp_loop_ghost (fun n a w => ∃ x, inv x ∧ m x = n ∧ ∃ U E, Sup ids' U ∧ St (C.at (Wx x) (Sx x) (Tx x) (lx x)) (Fh x) (Mh x) U E a w) (m x) ⟨x, q1, rfl, q2⟩ ?_
  rintro n a w ⟨x, hx, rfl, U, E, hs, hst⟩
  refine wp_mono (step x hx U E a w hs hst) ?_
  intro e a' w' hq
  cases e with
  | normal =>
    obtain ⟨x', q1, q2, U2, E2, q3, q4⟩ := hq
    exact ⟨m x', q2, x', q1, rfl, U2, E2, q3, q4⟩
  | exit id => exact hq
  | goto l => exact hq
  | ret => exact hq
  | panic v => exact hq
  | outgrown => exact hq
theorem Sat.backC {α : Type} {Fh : α → Tr} {Mh : α → Mem} {C0 : Ctx} {Wx : α → World} {Sx Tx : α → Nat → Prop} {lx : α → List (Nat × Nat)} {inv : α → Prop} {m : α → Nat} {x : α} {ids0 : List Nat}
    (h : ∀ U E a w, Sup ids U → St C0 F M U E a w → ∃ x', inv x' ∧ m x' < m x ∧ ∃ U' E', Sup ids0 U' ∧ St (C.at (Wx x') (Sx x') (Tx x') (lx x')) (Fh x') (Mh x') U' E' a w) :
    Sat C0 Q0 (.ext .normal F M ids (.lp (BackC C Wx Sx Tx lx ids0 Fh Mh inv m x) :: k)) := fun U E a w hsup hst => h U E a w hsup hst
end
end Go.Proofs.YtcnpgmohnclojaaDoor.V
end
