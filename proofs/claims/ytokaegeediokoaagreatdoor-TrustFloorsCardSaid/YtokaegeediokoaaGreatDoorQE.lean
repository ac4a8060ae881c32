/-
  Joined texts: Bw: Maps from ints to true: sets, hidden in memory.
  TuA: Trust: the role with a name.
  TuB: Trust: how many keys of a role sign.
  Bx: Slices of ints: grown from nil, sorted, compacted.
  TuC: Trust: slices of ints grown, sorted, compacted: this program's functions.
  TuD: Trust: enough; the conditions of Accept.
  TuE: Trust: Accept.
  TA: Trust: Rotate.
  TB: Trust: the law's accept and plain; the reference's roots and releases.
  TC: Trust: the reference's releases and roots.
  TD: Trust: the reference's Has, Role, Signs, Count, Enough, Allows, Members.
  TqC: Meta: equal releases, equal roots.
  TE: Trust: the reference's Union (of lists of at most one number), Ints, Same, SameAccepted, Accept.
  TP: Trust, plain: what was withdrawn is a strictly increasing list of the numbers of both.
  TF: Trust: the reference's Ints, Same, SameAccepted, Accept.
  NA: Meta: the reader of the reference.
  NB: Meta: Parse of the reference.
  TqB: Meta: what is written is read by the reference: releases.
  TG: Trust: the reference's Accept.
  TH: Trust, plain: signatures of one's own are accepted; how many keys sign; the releases and roots of the laws.
  TI: Trust: sanity.
  TL: Meta: how long the bytes of releases and roots are (plain).
  TJ: Trust: Threshold.
-/
import Derived.Test.YtokaegeediokoaaGreatDoorQC
import Derived.Maps.OwnSet
import Derived.Maps.Views
import Derived.Test.YtokaegeediokoaaGreatDoorQD
import Derived.Sort.OwnSortedInts
import Derived.Shelf.Spec.SlicesGrow
import Derived.Shelf.Slices.In.SortNone
import Derived.Lib.RowBridge
section
namespace Go.Proofs.YtokaegeediokoaaGreatDoor.V
open Go.RowKit Go.Maps Go.ChangeMaps Go.MapKept
structure SetTy (P : Program) (mt kt et : TypeId) : Prop where
  key : Keyed P kt
  um : P.underlying mt = some (.map kt et)
  uk : P.underlying kt = some (.int .i64)
  ue : P.underlying et = some .bool
  zero : ∀ w, (zeroValue et).run P w = .ok (.bool false) w
def setIs (P : Program) (kt et : TypeId) (w : World) (bm : Nat) (S : List Int) : Prop :=
  ∃ D : DataW Unit, w.ownsMap P kt (plainElem P et) bm S.length D ∧ size D = S.length ∧ ∀ c : Int, has D (.int .i64 c) = S.contains c ∧ D.atKey (.int .i64 c) (.lit (.bool false)) = .lit (.bool (S.contains c))
section
variable {P : Program} {mt kt et : TypeId} {w w' : World} {bm : Nat} {S : List Int}
theorem setIs.kept (h : setIs P kt et w bm S) (hb : w'.heap[bm]? = w.heap[bm]?) : setIs P kt et w' bm S := by
  obtain ⟨D, ⟨es, clock, h1, h2⟩, h3⟩ := h
  exact ⟨D, ⟨es, clock, hb.trans h1, h2⟩, h3⟩
theorem setIs.lt (h : setIs P kt et w bm S) : bm < w.heap.size := by
  obtain ⟨D, h1, _⟩ := h
  exact h1.lt
theorem setIs.shape (h : setIs P kt et w bm S) : w.shape? bm = none := by
  obtain ⟨D, ⟨es, clock, h1, h2⟩, h3⟩ := h
  unfold World.shape?
  rw [h1]
theorem setIs_made (w : World) : setIs P kt et (w.alloc (.map #[] 0)) w.heap.size [] :=
  ⟨.map [], World.ownsMap_made w _ _ _, rfl, fun _ => ⟨rfl, rfl⟩⟩
theorem lit_wf {c : Int} (h : inR .i64 c) : (Lit.int .i64 c).wf = true := by
  have := i64_iff h
  unfold Lit.wf
  simp [IntKind.min, IntKind.max, IntKind.signed, IntKind.bits]
  omega
theorem setIs.look (t : SetTy P mt kt et) (h : setIs P kt et w bm S) {c : Int} (hc : inR .i64 c) : (Instr.lookup mt (.map (some bm)) (.int .i64 c) false).run P w = .ok (.bool (S.contains c)) w := by
  obtain ⟨D, h1, h2, h3⟩ := h
  obtain ⟨v, ps, hrun, hv⟩ := h1.lookup t.key t.um (t.zero w) (plainElem_bool t.ue false) (keyOf_int_mk t.uk (lit_wf hc))
  rw [(h3 c).2] at hv
  rw [hrun]
  unfold plainElem at hv
  rw [t.ue] at hv
  cases v with
  | bool b =>
    simp only [Option.some.injEq, Prod.mk.injEq, DataW.lit.injEq, Lit.bool.injEq] at hv
    rw [hv.1]
  | _ => cases hv
theorem setIs.put (t : SetTy P mt kt et) (h : setIs P kt et w bm S) {c : Int} (hc : inR .i64 c) (hn : S.contains c = false) (hl : S.length < maxLen) :
    ∃ w', (Instr.mapUpdate mt (.map (some bm)) (.int .i64 c) (.bool true)).run P w = .ok () w' ∧ setIs P kt et w' bm (c :: S) ∧ w.grownBy w' (some bm) := by
  obtain ⟨D, h1, h2, h3⟩ := h
  obtain ⟨w', q1, q2, q3⟩ := h1.update t.key t.um hl (keyOf_int_mk t.uk (lit_wf hc)) (plainElem_bool t.ue true)
  have hM := h1.isMap
  have hk : ∀ c : Int, WideAt.IsKeyLit (.int .i64 c) := fun c => by simp [WideAt.IsKeyLit]
  refine ⟨w', q1, ⟨_, q2, ?_, fun d => ?_⟩, q3⟩
  · rw [size_put (h1.tidy t.key), (h3 c).1, hn, h2]
    rfl
  · by_cases hd : d = c
    · subst hd
      rw [atKey_put_same hM (hk d), has_put_same hM (hk d)]
      simp
    · have hne : (Lit.int .i64 d) ≠ (Lit.int .i64 c) := fun e => hd (by simpa using e)
      rw [atKey_put_other hne, has_put_other hne]
      have : (c :: S).contains d = S.contains d := by simp [hd]
      rw [this]
      exact h3 d
theorem setIs.len (t : SetTy P mt kt et) (h : setIs P kt et w bm S) (ty : TypeId) : (Builtin.len_ #[mt] ty #[.map (some bm)]).run P w = .ok (.int .i64 (S.length : Int)) w := by
  obtain ⟨D, h1, h2, h3⟩ := h
  rw [h1.len t.um ty, h2]
theorem setIs.clear (t : SetTy P mt kt et) (h : setIs P kt et w bm S) (ty : TypeId) : ∃ w', (Builtin.clear_ #[mt] ty #[.map (some bm)]).run P w = .ok (.tuple #[]) w' ∧ w.grownBy w' (some bm) ∧ w'.shape? bm = none := by
  obtain ⟨D, ⟨es, clock, hb, h2⟩, h3⟩ := h
  have hb2 : ∀ (b : Nat), b < w.heap.size → some b ≠ some bm → (setBlock w bm (.map #[] clock)).heap[b]? = w.heap[b]? := fun b _ hne => heap_setBlock_other hb _ fun e => hne (by rw [e])
  refine ⟨setBlock w bm (.map #[] clock), ?_, ⟨rfl, rfl, rfl, by simp [setBlock], hb2⟩, by unfold World.shape?; rw [heap_setBlock_same hb]⟩
  simp [Builtin.clear_, run_underlying t.um, MapKept.run_getObj_map hb, MapKept.run_setObj_map _ hb, Result.andThen, setBlock]
end
def setT (P : Program) (kt et : TypeId) (bm : Nat) (S : List Int) : Thing where
  own w Sm := (∀ b, Sm b ↔ b = bm) ∧ setIs P kt et w bm S
  lt h b hb := by
    rw [(h.1 b).1 hb]
    exact h.2.lt
  kept h k := ⟨h.1, h.2.kept (k bm ((h.1 bm).2 rfl))⟩
def junkT (bm : Nat) : Thing where
  own w Sm := (∀ b, Sm b ↔ b = bm) ∧ ∃ o, w.heap[bm]? = some o
  lt {w _} h b hb := by
    obtain ⟨h1, o, h2⟩ := h
    rw [(h1 b).1 hb]
    rcases Nat.lt_or_ge bm w.heap.size with q | q
    · exact q
    · rw [Array.getElem?_eq_none q] at h2; cases h2
  kept h k := ⟨h.1, h.2.imp fun o ho => (k bm ((h.1 bm).2 rfl)).trans ho⟩
section
variable {C : Ctx} {Q0 : Exit → Act → World → Prop} {F F' : Tr} {M M' : Mem} {ids ids' : List Nat} {k : List Kont} {l : List (Nat × Nat)} {U : Nat → Prop} {E : Env} {a : Act} {w w' : World} {W : World} {S Sm : Nat → Prop} {full rest : List Oper} {mt kt et : TypeId} {bm : Nat} {L : List Int}
theorem St.touch {O : Thing} (O' : Thing) (c : Top C) (hat : AtX C O W S Sm) (h : St (C.at W S (hidX C Sm) l) F M U E a w) (hb : Sm bm) (hg : w.grownBy w' (some bm)) (hsh : w'.shape? bm = w.shape? bm) (hown : O'.own w' Sm) :
    AtX C O' w' (V.mine M E) Sm ∧ St (C.at w' (V.mine M E) (hidX C Sm) l) F M U E a w' := by
  have hap := h.apart c.wide
  have hlt := h.lt c.wide
  have hnew := hat.new bm hb
  have hchg : Chg (trk (hidX C Sm) M E) w w' := ⟨hg.size, fun b hbs hT => hg.block b hbs fun e => hT (.inr (.inr (Option.some.inj e ▸ hb))), fun b hbs => by
    by_cases e : b = bm
    · subst e; exact hsh
    · unfold World.shape?; rw [hg.block b hbs fun q => e (Option.some.inj q)]⟩
  refine ⟨⟨⟨hg.os.trans (h.kp.os.trans hat.kp.os), hg.tape.trans (h.kp.tape.trans hat.kp.tape), hg.output.trans (h.kp.output.trans hat.kp.output), ?_⟩, hat.mine h, hown, hat.new⟩, ?_⟩
  · have h1 := (Kp.trans hat.kp h.kp hat.sp).chg
    refine ⟨Nat.le_trans h1.size hg.size, fun b hbs hS => (hg.block b (Nat.lt_of_lt_of_le hbs h1.size) fun e => ?_).trans (h1.keep b hbs hS), fun b hbs => (hchg.shape b (Nat.lt_of_lt_of_le hbs h1.size)).trans (h1.shape b hbs)⟩
    have := Option.some.inj e
    omega
  · refine h.anew (E' := E) (M' := M) (U' := U) (fun _ _ h => h) hchg (hidX C Sm) (fun b hb => ⟨Nat.lt_of_lt_of_le (hlt b (.inr hb)) hg.size, fun ⟨j, B, q1, q2⟩ => hap j b (by rw [q1]; rfl) q2 hb⟩) (fun _ _ h => h) ⟨fun j B hf => ?_, h.mem.inj⟩ h.fresh (fun q hq => h.pinned hq)
    rcases h.mem.blk j B hf with ⟨b, q1, q2, q3⟩ | q
    · exact .inl ⟨b, q1, Nat.lt_of_lt_of_le q2 hg.size, q3.mono (fun _ _ h => h) (fun _ _ h => h) hchg (hg.block b q2 fun e => hap j b (by rw [hf]; rfl) q1 (.inr (Option.some.inj e ▸ hb)))⟩
    · exact .inr q
theorem Sat.makeSet {d : Tmp} {type : TypeId} {pos : String} {after : Array Edge} {Fn : Nat → Tr} (c : Top C) (kt et : TypeId) (hp : ∀ bm, putD C.N F (some d) (some (.val (.map (some bm)))) some = some (Fn bm))
    (h : ∀ bm W S, AtX C (setT C.P kt et bm []) W S (fun b => b = bm) → Sat (C.at W S (hidX C fun b => b = bm) []) Q0 (.reg full rest (Fn bm) M ids k)) :
    Sat C Q0 (.reg full (⟨some d, .makeMap mt none, type, pos, after, none⟩ :: rest) F M ids k) := by
  intro U E a w hsup hst
  refine wpList_plain rfl fun K hK => ?_
  have hrun : (execOp a.eval ⟨some d, .makeMap mt none, type, pos, after, none⟩).run C.P w = .ok (.value (.map (some w.heap.size))) (w.alloc (.map #[] 0)) := rfl
  unfold Oper.wp
  rw [hrun]
  have hb : Below w.heap.size w (w.alloc (.map #[] 0)) := (Below.refl _ w).alloc (Nat.le_refl _) _
  obtain ⟨F1, h1, h2⟩ := putD_inv (hp w.heap.size)
  cases h1
  have hst2 := hst.below hb
  have hlt : w.heap.size < (w.alloc (.map #[] 0)).heap.size := (setIs_made (P := C.P) (kt := kt) (et := et) w).lt
  have hat : AtX C (setT C.P kt et w.heap.size []) (w.alloc (.map #[] 0)) (V.mine M E) (fun b => b = w.heap.size) :=
    ⟨hst2.kp, fun b ⟨id, B, q1, q2⟩ => hst.own id b (by rw [q1]; rfl) q2, ⟨fun b => Iff.rfl, setIs_made w⟩, fun b hb' => by rw [hb']; exact hst.kp.chg.size⟩
  have hap : ∀ b, hidX C (fun b => b = w.heap.size) b → b < (w.alloc (.map #[] 0)).heap.size ∧ ¬ V.mine M E b := by
    rintro b (q | q)
    · exact ⟨hst2.lt c.wide b (.inr q), fun ⟨id, B, q1, q2⟩ => hst2.apart c.wide id b (by rw [q1]; rfl) q2 q⟩
    · refine ⟨q ▸ hlt, fun ⟨id, B, q1, q2⟩ => ?_⟩
      have := (hst.mem.at q1 q2).1
      have q : b = w.heap.size := q
      omega
  have hTT : ∀ b, b < w.heap.size → trk (hidX C fun b => b = w.heap.size) M E b → trk C.T0 M E b := by
    rintro b hb' (q | q | q)
    · exact .inl q
    · exact .inr q
    · have q : b = w.heap.size := q; omega
  have hmem : MOk E (trk (hidX C fun b => b = w.heap.size) M E) M (w.alloc (.map #[] 0)) := ⟨fun id B hf => by
    rcases hst.mem.blk id B hf with ⟨b, q1, q2, q3⟩ | q
    · exact .inl ⟨b, q1, Nat.lt_of_lt_of_le q2 hb.size, q3.mono (fun _ _ h => h) hTT (Chg.of_below hb) (hb.block b q2)⟩
    · exact .inr q, hst.mem.inj⟩
  have h3 := hst.anew (E' := E) (M' := M) (U' := U) (l := []) (fun _ _ h => h) (Chg.of_below hb) (hidX C fun b => b = w.heap.size) hap hTT hmem hst.fresh (fun _ h => by cases h)
  exact hK _ _ (h _ _ _ hat U E _ _ hsup (St.putD h3 h2 fun s' hs' => by cases hs'; exact .val _))
theorem Sat.putSet {m x : Operand} {type : TypeId} {pos : String} {after : Array Edge} {z : Int} (c : Top C) (t : SetTy C.P mt kt et) (hat : AtX C (setT C.P kt et bm L) W S (fun b => b = bm)) (hm : opd C.Γ F m = some (.val (.map (some bm)))) (hx : opd C.Γ F x = some (.int .i64 z)) (hn : L.contains z = false) (hl : L.length < maxLen)
    (h : ∀ W S, AtX C (setT C.P kt et bm (z :: L)) W S (fun b => b = bm) → Sat (C.at W S (hidX C fun b => b = bm) l) Q0 (.reg full rest F M ids k)) :
    Sat (C.at W S (hidX C fun b => b = bm) l) Q0 (.reg full (⟨none, .mapUpdate mt m x (.const (.bool true)), type, pos, after, none⟩ :: rest) F M ids k) := by
  intro U E a w hsup hst
  refine wpList_plain rfl fun K hK => ?_
  have hown := (hat.here c hst).2
  have hsh := hown.shape
  have e1 : a.eval m = .map (some bm) := by
    have := opd_rep hst.vw hm
    generalize a.eval m = q at this
    cases this
    rfl
  obtain ⟨e2, hz⟩ : a.eval x = .int .i64 z ∧ inR .i64 z := by
    have := opd_rep hst.vw hx
    generalize a.eval x = q at this
    cases this with
    | int _ _ hz => exact ⟨rfl, hz⟩
  obtain ⟨w', q1, q2, q3⟩ := hown.put t hz hn hl
  have hrun : (execOp a.eval ⟨none, .mapUpdate mt m x (.const (.bool true)), type, pos, after, none⟩).run C.P w = .ok .skip w' := by
    have e3 : a.eval (.const (.bool true)) = .bool true := rfl
    simp only [execOp, e1, e2, e3, Sem.run_bind, q1, Result.andThen_ok, Sem.run_pure]
  unfold Oper.wp
  rw [show (C.at W S (hidX C fun b => b = bm) l).P = C.P from rfl, hrun]
  obtain ⟨g1, g2⟩ := hst.touch (setT C.P kt et bm (z :: L)) c hat rfl q3 (q2.shape.trans hsh.symm) ⟨fun b => Iff.rfl, q2⟩
  exact hK _ _ (h _ _ g1 U E _ _ hsup g2)
theorem Sat.lenSet {d : Option Tmp} {m : Operand} {type : TypeId} {pos : String} {after : Array Edge} (c : Top C) (t : SetTy C.P mt kt et) (hat : AtX C (setT C.P kt et bm L) W S (fun b => b = bm)) (hm : opd C.Γ F m = some (.val (.map (some bm)))) (hi : inR .i64 (L.length : Int)) (hp : putD C.N F d (some (.int .i64 (L.length : Int))) some = some F')
    (h : Sat (C.at W S (hidX C fun b => b = bm) l) Q0 (.reg full rest F' M ids k)) :
    Sat (C.at W S (hidX C fun b => b = bm) l) Q0 (.reg full (⟨d, .call ⟨.builtin .len, ⟨[m]⟩, ⟨[mt]⟩⟩, type, pos, after, none⟩ :: rest) F M ids k) := by
  intro U E a w hsup hst
  obtain ⟨F1, h1, h2⟩ := putD_inv hp
  cases h1
  refine wpList_plain rfl fun K hK => ?_
  have hown := (hat.here c hst).2
  have e1 : a.eval m = .map (some bm) := by
    have := opd_rep hst.vw hm
    generalize a.eval m = q at this
    cases this
    rfl
  have hrun : (execOp a.eval ⟨d, .call ⟨.builtin .len, ⟨[m]⟩, ⟨[mt]⟩⟩, type, pos, after, none⟩).run C.P w = .ok (.value (.int .i64 (L.length : Int))) w := by
    simp [execOp, resolve, invoke, builtin, e1, hown.len t type, Result.andThen]
  unfold Oper.wp
  rw [show (C.at W S (hidX C fun b => b = bm) l).P = C.P from rfl, hrun]
  exact hK _ _ (h U E _ w hsup (hst.putD h2 fun s' hs' => by cases hs'; exact .int _ _ hi))
theorem Sat.clearSet {m : Operand} {type : TypeId} {pos : String} {after : Array Edge} (c : Top C) (t : SetTy C.P mt kt et) (hat : AtX C (setT C.P kt et bm L) W S (fun b => b = bm)) (hm : opd C.Γ F m = some (.val (.map (some bm))))
    (h : Sat C Q0 (.reg full rest F M ids k)) :
    Sat (C.at W S (hidX C fun b => b = bm) l) Q0 (.reg full (⟨none, .call ⟨.builtin .clear, ⟨[m]⟩, ⟨[mt]⟩⟩, type, pos, after, none⟩ :: rest) F M ids k) := by
  intro U E a w hsup hst
  refine wpList_plain rfl fun K hK => ?_
  have hown := (hat.here c hst).2
  have hsh := hown.shape
  have e1 : a.eval m = .map (some bm) := by
    have := opd_rep hst.vw hm
    generalize a.eval m = q at this
    cases this
    rfl
  obtain ⟨w', q1, q2, q3⟩ := hown.clear t type
  have hrun : (execOp a.eval ⟨none, .call ⟨.builtin .clear, ⟨[m]⟩, ⟨[mt]⟩⟩, type, pos, after, none⟩).run C.P w = .ok (.value (.tuple #[])) w' := by
    simp [execOp, resolve, invoke, builtin, e1, q1, Result.andThen]
  unfold Oper.wp
  rw [show (C.at W S (hidX C fun b => b = bm) l).P = C.P from rfl, hrun]
  have hlt := hown.lt
  obtain ⟨g1, g2⟩ := hst.touch (junkT bm) c hat rfl q2 (q3.trans hsh.symm) ⟨fun b => Iff.rfl, ⟨_, Array.getElem?_eq_getElem (Nat.lt_of_lt_of_le hlt q2.size)⟩⟩
  exact hK _ _ (Sat.up c g1.over h U E _ _ hsup g2)
theorem DSat.lookSet {F0 : Tr} {M0 : Mem} {ids0 : List Nat} {i : Nat} {hist : List Ent} {d : Option Tmp} {m x : Operand} {type : TypeId} {pos : String} {after : Array Edge} {j : Nat} {want : Bool} {H : Prop} {z : Int} {v : Bool} (c : Top C) (t : SetTy C.P mt kt et) (hat : AtX C (setT C.P kt et bm L) W S (fun b => b = bm))
    (hH : guardH F full j want = some H) (hh : H) (hm : opd C.Γ F m = some (.may H (.val (.map (some bm))))) (hx : opd C.Γ F x = some (.may H (.int .i64 z))) (hv : L.contains z = v) (hp : putD C.N F d (some (.bool v)) some = some F')
    (h : DSat (C.at W S (hidX C fun b => b = bm) l) Q0 k full F0 M0 ids0 (i + 1) (⟨i, d, some (.bool v), none, [], [], false⟩ :: hist) rest F' M ids) :
    DSat (C.at W S (hidX C fun b => b = bm) l) Q0 k full F0 M0 ids0 i hist (⟨d, .lookup mt m x false, type, pos, after, some (j, want)⟩ :: rest) F M ids := by
  subst hv
  intro D
  obtain ⟨F1, h1, h2⟩ := putD_inv hp
  cases h1
  obtain ⟨p1, p2⟩ := putD_get h2
  refine h (D.step (fun ho Q K Fa Ma U E a w q1 q2 _ q3 hst hK => ?_) rfl rfl p2 (fun id => rfl) rfl)
  have hiff := guardH_ok (full := full) hst (guardH_le rfl q1 hH)
  obtain ⟨F2, hF2⟩ := tr_put Fa d (some (.bool (L.contains z)))
  have hown := (hat.here c hst).2
  have hle : OLe C.Γ F Fa (Op.lookup mt m x false).operands.toList := looks_le (F := F) q1 fun _ => rfl
  have e1 : a.eval m = .map (some bm) := by
    have := opd_rep hst.vw (hle m (by simp [Op.operands]) _ hm)
    generalize a.eval m = q at this
    cases this with
    | may1 _ _ _ _ hr => cases hr; rfl
    | may0 _ _ hn => exact absurd hh hn
  obtain ⟨e2, hz⟩ : a.eval x = .int .i64 z ∧ inR .i64 z := by
    have := opd_rep hst.vw (hle x (by simp [Op.operands]) _ hx)
    generalize a.eval x = q at this
    cases this with
    | may1 _ _ _ _ hr => cases hr with | int _ _ hz => exact ⟨rfl, hz⟩
    | may0 _ _ hn => exact absurd hh hn
  have hrun : (execOp a.eval ⟨d, .lookup mt m x false, type, pos, after, some (j, want)⟩).run C.P w = .ok (.value (.bool (L.contains z))) w := by
    have q := hown.look t hz
    simp only [execOp, e1, e2, Sem.run_bind, q, Result.andThen_ok, Sem.run_pure]
  unfold wpOp
  simp only [List.getElem?_toArray, ho]
  have hy := hiff.2 hh
  simp only [Region.wanted, hy, if_true]
  left
  unfold Oper.wp
  rw [show (C.at W S (hidX C fun b => b = bm) l).P = C.P from rfl, hrun]
  exact hK F2 Ma U E _ w hF2 (fun id => rfl) (fun k => by simp) (hst.putG p1 hF2 fun s' hs' => by cases hs'; exact .bool _)
end
end Go.Proofs.YtokaegeediokoaaGreatDoor.V
end
section
namespace Go.Proofs.YtokaegeediokoaaGreatDoor
open Go.RowKit V
set_option maxRecDepth 100000
set_option maxHeartbeats 8000000
set_option linter.unusedSimpArgs false
attribute [local irreducible] V.Sat V.DSat
@[reducible] def named (name : List UInt8) (x : RoleL) : Bool := decide (x.name = name)
@[reducible] def strP (s : List UInt8) : SV := .rop (.g 1 1 fun _ => [.str s]) 0 0
theorem findc_spec {Γ : Glob} (x : RoleL) (name : List UInt8) : Fun Tryz.prog Γ 97 [x.v, strP name] (.bool (named name x)) := by
  obtain ⟨n, ks, nd⟩ := x
  refine Fun.mk 6 Tryz.func97 rfl Tryz.ntmps97 rfl rfl fun T w0 => ?_
  repeat' (first
    | ((with_reducible apply Sat.run (X := X64)); exact rfl; (first | exact True.intro | (exact phi) | skip)) | fail)
  (refine Sat.fin (Sat.end1 rfl rfl rfl True.intro (.refl _ purX) (by first | exact .inl rfl | exact .inr rfl) (fun _ h => h)) ?_; rfl)
theorem idxf_role {Γ : Glob} (p : RoleL → Bool) (f : FuncId) (s : List UInt8) (hcl : callable Tryz.prog f = true) (hp : ∀ x : RoleL, Fun Tryz.prog Γ f [x.v, strP s] (.bool (p x))) (l : List RoleL) : Fun Tryz.prog Γ 96 [.ro (rolesE l), .fn f [strP s]] (.int .i64 (idxL p l 0)) := by
  refine Fun.mkF 6 Tryz.func96 rfl Tryz.ntmps96 rfl rfl fun hf T w0 => ?_
  obtain ⟨⟨hl, _⟩, _⟩ := hf
  dsimp only [EV.len] at hl
  unfold okLen at hl
  repeat' (first
    | ((with_reducible apply Sat.run (X := X64)); exact rfl; (first | exact True.intro | (exact phi) | skip)) | fail)
  apply Sat.loop (α := Nat) (fun x => x ≤ l.length ∧ ∀ i, i < x → p (l.getD i role0) = false) (fun x => l.length - x) 0 (fun x => [(8, .int .i64 (x : Int))]) (fun _ => []) [] [] 0
  · intro x; exact rfl
  · intro x; exact rfl
  · exact rfl
  · exact rfl
  · ((repeat' (first | exact AllP.nil | with_reducible refine AllP.cons ?_ ?_)) <;> first | exact rfl | exact trivial | exact Int.natCast_add_one _ | (intro j _; simp [pureL, pureS, pureE]; done) | exact ⟨rfl, rfl, rfl, rfl⟩)
  · exact ⟨Nat.zero_le _, fun i hi => by omega⟩
  · rintro x ⟨x1, x2⟩
    have hc := hp (l.getD (x : Int).toNat role0)
    repeat' (first
      | ((with_reducible apply Sat.run (X := X64)); exact rfl; (first | exact True.intro | (exact phi) | skip))
      | ((with_reducible apply Sat.cond_p); exact rfl; all_goals (intro h; (try simp only [V.EV.sub, V.EV.len] at h)))
      | ((with_reducible apply Sat.cond); exact rfl; all_goals (intro h; (try simp only [V.EV.sub, V.EV.len, Bool.cond_true_left, Bool.cond_false_right, Bool.or_eq_true, Bool.and_eq_true, Bool.or_eq_false_iff, Bool.and_eq_false_iff, Bool.not_eq_true', Bool.not_eq_false', decide_eq_true_eq, decide_eq_false_iff_not, ne_eq] at h)))
      | ((with_reducible apply Sat.callR (hc)); exact rfl; exact rfl; exact rfl; exact hcl; (exact cnvX); exact rfl) | fail)
    · (refine Sat.fin (Sat.end1 rfl rfl rfl True.intro (.refl _ purX) (by first | exact .inl rfl | exact .inr rfl) (fun _ h => h)) ?_; (exact congrArg (SV.int .i64) ((idxL_at p role0 l 0 x x2 (by omega) h).trans (by simp))))
    · refine Sat.back (x + 1) [] rfl ?_ ?_ ?_
      · ((repeat' (first | exact AllP.nil | with_reducible refine AllP.cons ?_ ?_)) <;> first | exact rfl | exact trivial | exact Int.natCast_add_one _ | (intro j _; simp [pureL, pureS, pureE]; done) | exact ⟨rfl, rfl, rfl, rfl⟩)
      · refine ⟨by omega, fun i hi => ?_⟩
        rcases Nat.lt_succ_iff_lt_or_eq.1 hi with h1 | rfl
        · exact x2 i h1
        · exact h
      · omega
    · (refine Sat.fin (Sat.end1 rfl rfl rfl True.intro (.refl _ purX) (by first | exact .inl rfl | exact .inr rfl) (fun _ h => h)) ?_; (exact congrArg (SV.int .i64) (idxL_none p role0 l 0 fun i hi => x2 i (by omega))))
def fndI (r : RootL) (name : List UInt8) : Int := idxL (named name) r.roles 0
theorem find_none {Γ : Glob} (r : RootL) (name : List UInt8) (h : fndI r name = -1) : Fun Tryz.prog Γ 43 [r.v, .str name] (.tup [role0.v, .bool false]) := by
  have h1 := idxf_role (Γ := Γ) (named name) 97 name (by kernel_rfl) (fun x => findc_spec x name) r.roles
  rw [show idxL (named name) r.roles 0 = -1 from h] at h1
  obtain ⟨g, ex, ks, rs⟩ := r
  refine Fun.mk 6 Tryz.func43 rfl Tryz.ntmps43 rfl rfl fun T w0 => ?_
  repeat' (first
    | ((with_reducible apply Sat.run (X := X64)); exact rfl; (first | exact True.intro | (exact phi) | skip))
    | ((with_reducible apply Sat.cond_t); exact rfl)
    | ((with_reducible apply Sat.callR (h1)); exact rfl; exact rfl; exact rfl; kernel_rfl; (exact cnvX); exact rfl) | fail)
  refine Sat.fin (Sat.end2 rfl rfl rfl rfl True.intro True.intro (.agg _ _ (.cons _ _ _ _ (.refl _ trivial) (.cons _ _ _ _ (.nils (.ints .i64 []) rfl) (.cons _ _ _ _ (.refl _ trivial) .nil)))) (.refl _ trivial) (by first | exact .inl rfl | exact .inr rfl) (fun _ h => h)) rfl
theorem find_some {Γ : Glob} (r : RootL) (name : List UInt8) (i : Nat) (hi : i < r.roles.length) (hm : i ≤ 1000) (h : fndI r name = i) : Fun Tryz.prog Γ 43 [r.v, .str name] (.tup [(r.roles.getD i role0).v, .bool true]) := by
  have h1 := idxf_role (Γ := Γ) (named name) 97 name (by kernel_rfl) (fun x => findc_spec x name) r.roles
  rw [show idxL (named name) r.roles 0 = (i : Int) from h] at h1
  obtain ⟨g, ex, ks, rs⟩ := r
  dsimp only at hi
  refine Fun.mk 6 Tryz.func43 rfl Tryz.ntmps43 rfl rfl fun T w0 => ?_
  repeat' (first
    | ((with_reducible apply Sat.run (X := X64)); exact rfl; (first | exact True.intro | (exact phi) | skip))
    | ((with_reducible apply Sat.cond_f); exact rfl)
    | ((with_reducible apply Sat.callR (h1)); exact rfl; exact rfl; exact rfl; kernel_rfl; (exact cnvX); exact rfl) | fail)
  refine Sat.fin (Sat.end2 rfl rfl rfl rfl True.intro True.intro (.refl _ ⟨trivial, trivial, trivial, trivial⟩) (.refl _ trivial) (by first | exact .inl rfl | exact .inr rfl) (fun _ h => h)) rfl
end Go.Proofs.YtokaegeediokoaaGreatDoor
end
section
namespace Go.Proofs.YtokaegeediokoaaGreatDoor
open Go.RowKit V Go.Maps
set_option maxRecDepth 100000
set_option maxHeartbeats 8000000
set_option linter.unusedSimpArgs false
theorem V.Sat.top {C : Ctx} {Q0 : Exit → Act → World → Prop} {c : Cfg} (h1 : C.pins = []) (h2 : C.hold = []) (h3 : C.wide = false) (h : Top C → Sat C Q0 c) : Sat C Q0 c := by
  have key : ∀ F M U E a w, St C F M U E a w → Top C := fun F M U E a w hst => ⟨h1, h2, h3, hst.hid_ h3⟩
  cases c with
  | reg full rest F M ids k => exact fun U E a w hs hst => h (key _ _ _ _ _ _ hst) U E a w hs hst
  | qreg full rest F M ids k => exact fun U E a w hs hst => h (key _ _ _ _ _ _ hst) U E a w hs hst
  | code cc F M ids k => exact fun U E a w hs hst => h (key _ _ _ _ _ _ hst) U E a w hs hst
  | ext e F M ids k => exact fun U E a w hs hst => h (key _ _ _ _ _ _ hst) U E a w hs hst
@[reducible] def cxg (P : Program) (Γ : Glob) (N : Nat) (T : Nat → Prop) (w0 : World) : Ctx := ⟨P, w0, fun _ => False, T, Γ, N, [], [], false⟩
theorem zero_bool (w : World) : (zeroValue 4).run Tryz.prog w = .ok (.bool false) w := by kernel_rfl
theorem setTy : SetTy Tryz.prog 105 3 4 := ⟨int_keyed Tryz.underlying3, Tryz.underlying105, Tryz.underlying3, Tryz.underlying4, zero_bool⟩
theorem setT_eq {P : Program} {kt et : TypeId} {C : Ctx} {bm : Nat} {L : List Int} {W : World} {S Sm : Nat → Prop} (h : AtX C (setT P kt et bm L) W S Sm) : Sm = fun b => b = bm := funext fun b => propext (h.own.1 b)
def cntF (ks : List (List UInt8)) (K : List Int) (body : List UInt8) (S : List Int) (s : SigL) : List Int :=
  if (K.any fun y => decide (s.key = y)) = true then
    if S.contains s.key = true then S else if ver (ks.getD s.key.toNat []) body s.ch = true then s.key :: S else S
  else S
def cntS (ks : List (List UInt8)) (K : List Int) (body : List UInt8) (l : List SigL) (x : Nat) : List Int := (l.take x).foldl (cntF ks K body) []
theorem cntS_succ (ks : List (List UInt8)) (K : List Int) (body : List UInt8) (l : List SigL) (x : Nat) (h : x < l.length) : cntS ks K body l (x + 1) = cntF ks K body (cntS ks K body l x) (l.getD x sig0) := by
  unfold cntS
  rw [List.take_add_one, List.foldl_append]
  simp [List.getD_eq_getElem?_getD, h]
theorem cntF_len (ks : List (List UInt8)) (K : List Int) (body : List UInt8) (S : List Int) (s : SigL) : (cntF ks K body S s).length ≤ S.length + 1 := by
  unfold cntF
  repeat' split
  all_goals simp
theorem cntS_len (ks : List (List UInt8)) (K : List Int) (body : List UInt8) (l : List SigL) : ∀ x, x ≤ l.length → (cntS ks K body l x).length ≤ x
  | 0, _ => Nat.le_refl _
  | x + 1, h => by
    have h1 := cntS_len ks K body l x (by omega)
    have h2 := cntF_len ks K body (cntS ks K body l x) (l.getD x sig0)
    rw [cntS_succ ks K body l x (by omega)]
    omega
structure CntOk (ks : List (List UInt8)) (K : List Int) (body : List UInt8) (l : List SigL) : Prop where
  body : body.length ≤ 1000000
  keys : ∀ k : Int, (K.any fun y => decide (k = y)) = true → 0 ≤ k ∧ k < ks.length
  sigs : ∀ i, i < l.length → ChOk (l.getD i sig0).ch
  many : l.length ≤ 1000000
attribute [local irreducible] V.Sat V.DSat
theorem count_none (r : RootL) (name body : List UInt8) (l : List SigL) (h : fndI r name = -1) : Fun Tryz.prog Γh 15 [r.v, .str name, .ro (.u8 body), .ro (sigsE l)] (.tup [.int .i64 0, .int .i64 161]) := by
  have h1 := find_none (Γ := Γh) r name h
  obtain ⟨g, ex, ks, rs⟩ := r
  refine Fun.mk 6 Tryz.func15 rfl Tryz.ntmps15 rfl rfl fun T w0 => ?_
  repeat' (first
    | ((with_reducible apply Sat.run (X := X64)); exact rfl; (first | exact True.intro | (exact phi) | skip))
    | ((with_reducible apply Sat.cond_t); exact rfl)
    | ((with_reducible apply Sat.call (h1)); exact rfl; exact rfl; kernel_rfl; (exact cnvX); exact rfl) | fail)
  (refine Sat.fin (Sat.end2 rfl rfl rfl rfl True.intro True.intro (.refl _ purX) (.refl _ purX) (by first | exact .inl rfl | exact .inr rfl) (fun _ h => h)) ?_; rfl)
theorem count_some (r : RootL) (name body : List UInt8) (l : List SigL) (i : Nat) (hi : i < r.roles.length) (hm : i ≤ 1000) (h : fndI r name = i) (hok : CntOk r.keys (r.roles.getD i role0).keys body l) :
    Fun Tryz.prog Γh 15 [r.v, .str name, .ro (.u8 body), .ro (sigsE l)] (.tup [.int .i64 ((cntS r.keys (r.roles.getD i role0).keys body l l.length).length : Int), .int .i64 0]) := by
  have h1 := find_some (Γ := Γh) r name i hi hm h
  obtain ⟨g, ex, ks, rs⟩ := r
  dsimp only at hok h1 ⊢
  generalize rs.getD i role0 = ro at hok h1 ⊢
  obtain ⟨rn, K, nd⟩ := ro
  dsimp only at hok h1 ⊢
  clear hi h hm
  refine Fun.mk 6 Tryz.func15 rfl Tryz.ntmps15 rfl rfl fun T w0 => ?_
  refine Sat.top rfl rfl rfl fun top => ?_
  repeat' (first
    | ((with_reducible apply Sat.run (X := X64)); exact rfl; (first | exact True.intro | (exact phi) | skip))
    | ((with_reducible apply Sat.cond_f); exact rfl)
    | ((with_reducible apply Sat.call (h1)); exact rfl; exact rfl; kernel_rfl; (exact cnvX); exact rfl) | fail)
  refine Sat.makeSet (C := cxg Tryz.prog Γh 63 T w0) top 3 4 (fun bm => rfl) fun bm W S hat => ?_
  repeat' (first
    | ((with_reducible apply Sat.run (X := X64)); exact rfl; (first | exact True.intro | (exact phi) | skip)) | fail)
  refine Sat.loopX (C := cxg Tryz.prog Γh 63 T w0) (α := Nat) (fun x => setT Tryz.prog 3 4 bm (cntS ks K body l x)) (fun x => x ≤ l.length) (fun x => l.length - x) 0 (fun x => [(27, .int .i64 (x : Int))]) (fun _ => []) [] [] 0 (fun x => rfl) (fun x => rfl) rfl rfl ?_ (Nat.zero_le _) hat ?_
  · ((repeat' (first | exact AllP.nil | with_reducible refine AllP.cons ?_ ?_)) <;> first | exact rfl | exact trivial | exact Int.natCast_add_one _ | (intro j _; simp [pureL, pureS, pureE]; done) | exact ⟨rfl, rfl, rfl, rfl⟩)
  intro x W S Sm hx hat
  obtain rfl := setT_eq hat
  have hcl := cntS_len ks K body l x hx
  have hmany := hok.many
  by_cases hx2 : x < l.length
  · have hc : (x : Int) < (l.length : Int) := by omega
    have hch := hok.sigs x hx2
    have es := cntS_succ ks K body l x hx2
    have hkey := hok.keys (l.getD x sig0).key
    have hcon : Fun Tryz.prog Γh 44 [.ro (.ints .i64 K), .int .i64 (l.getD x sig0).key] (.bool (K.any fun y => decide ((l.getD x sig0).key = y))) := (contains_int (l.getD x sig0).key K).weak
    have hver := pverify_spec (ks.getD (l.getD x sig0).key.toNat []) body hok.body (l.getD x sig0).ch hch
    unfold cntF at es
    generalize hLL : cntS ks K body l x = LL at es hat hcl
    cases hB : K.any fun y => decide ((l.getD x sig0).key = y) with
    | false =>
      rw [hB] at es hcon
      simp only [Bool.false_eq_true, if_false] at es
      repeat' (first
        | ((with_reducible apply Sat.run (X := X64)); exact rfl; (first | exact True.intro | (exact phi) | skip))
        | ((with_reducible apply Sat.drawn); kernel_rfl)
        | ((with_reducible apply DSat.run (X := X64)); exact rfl; (first | exact True.intro | (exact phi) | skip))
        | ((with_reducible apply DSat.fin); kernel_rfl)
        | ((with_reducible apply Sat.cond_f); exact rfl)
        | ((with_reducible apply Sat.cond_pt); exact rfl; (try dsimp only [V.EV.sub, V.EV.len]); first | assumption | omega)
        | ((with_reducible apply DSat.callR (hcon)); exact rfl; exact rfl; exact rfl; kernel_rfl; (exact cnvX); exact rfl)
        | ((with_reducible apply DSat.goffM ((.bool false))); exact rfl; (first | (decide +kernel) | assumption); exact rfl) | fail)
      refine Sat.backX (C := cxg Tryz.prog Γh 63 T w0) (Ow := fun x => setT Tryz.prog 3 4 bm (cntS ks K body l x)) (x + 1) [] rfl ?_ (by rw [es]; exact hat) (by omega) (by omega)
      ((repeat' (first | exact AllP.nil | with_reducible refine AllP.cons ?_ ?_)) <;> first | exact rfl | exact trivial | exact Int.natCast_add_one _ | (intro j _; simp [pureL, pureS, pureE]; done) | exact ⟨rfl, rfl, rfl, rfl⟩)
    | true =>
      rw [hB] at es hcon
      simp only [if_true] at es
      cases hS : LL.contains (l.getD x sig0).key with
      | true =>
        rw [hS] at es
        simp only [if_true] at es
        repeat' (first
          | ((with_reducible apply Sat.run (X := X64)); exact rfl; (first | exact True.intro | (exact phi) | skip))
          | ((with_reducible apply Sat.drawn); kernel_rfl)
          | ((with_reducible apply DSat.run (X := X64)); exact rfl; (first | exact True.intro | (exact phi) | skip))
          | ((with_reducible apply DSat.fin); kernel_rfl)
          | ((with_reducible apply Sat.cond_f); exact rfl)
          | ((with_reducible apply Sat.cond_pt); exact rfl; (try dsimp only [V.EV.sub, V.EV.len]); first | assumption | omega)
          | ((with_reducible apply DSat.callR (hcon)); exact rfl; exact rfl; exact rfl; kernel_rfl; (exact cnvX); exact rfl)
          | ((with_reducible apply DSat.lookSet top setTy hat); exact rfl; exact rfl; exact rfl; exact rfl; exact hS; exact rfl)
          | ((with_reducible apply DSat.goffM ((.bool false))); exact rfl; (first | (decide +kernel) | assumption); exact rfl) | fail)
        refine Sat.backX (C := cxg Tryz.prog Γh 63 T w0) (Ow := fun x => setT Tryz.prog 3 4 bm (cntS ks K body l x)) (x + 1) [] rfl ?_ (by rw [es]; exact hat) (by omega) (by omega)
        ((repeat' (first | exact AllP.nil | with_reducible refine AllP.cons ?_ ?_)) <;> first | exact rfl | exact trivial | exact Int.natCast_add_one _ | (intro j _; simp [pureL, pureS, pureE]; done) | exact ⟨rfl, rfl, rfl, rfl⟩)
      | false =>
        rw [hS] at es
        simp only [Bool.false_eq_true, if_false] at es
        have hkl := hkey hB
        cases hV : ver (ks.getD (l.getD x sig0).key.toNat []) body (l.getD x sig0).ch with
        | true =>
          rw [hV] at es hver
          simp only [if_true] at es
          repeat' (first
            | ((with_reducible apply Sat.run (X := X64)); exact rfl; (first | exact True.intro | (exact phi) | skip))
            | ((with_reducible apply Sat.drawn); kernel_rfl)
            | ((with_reducible apply DSat.run (X := X64)); exact rfl; (first | exact True.intro | (exact phi) | skip))
            | ((with_reducible apply DSat.fin); kernel_rfl)
            | ((with_reducible apply Sat.cond_t); exact rfl)
            | ((with_reducible apply Sat.cond_pt); exact rfl; (try dsimp only [V.EV.sub, V.EV.len]); first | assumption | omega)
            | ((with_reducible apply DSat.callR (hcon)); exact rfl; exact rfl; exact rfl; kernel_rfl; (exact cnvX); exact rfl)
            | ((with_reducible apply DSat.lookSet top setTy hat); exact rfl; exact rfl; exact rfl; exact rfl; exact hS; exact rfl)
            | ((with_reducible apply DSat.callG1 (hver)); exact rfl; exact rfl; exact rfl; exact rfl; kernel_rfl; (intro hG; (exact cnvX)); exact rfl) | fail)
          refine Sat.putSet (C := cxg Tryz.prog Γh 63 T w0) top setTy hat rfl rfl hS (Nat.lt_of_le_of_lt (Nat.le_trans hcl (Nat.le_trans hx hmany)) (by decide)) fun W S hat => ?_
          repeat' (first
            | ((with_reducible apply Sat.run (X := X64)); exact rfl; (first | exact True.intro | (exact phi) | skip)) | fail)
          refine Sat.backX (C := cxg Tryz.prog Γh 63 T w0) (Ow := fun x => setT Tryz.prog 3 4 bm (cntS ks K body l x)) (x + 1) [] rfl ?_ (by rw [es]; exact hat) (by omega) (by omega)
          ((repeat' (first | exact AllP.nil | with_reducible refine AllP.cons ?_ ?_)) <;> first | exact rfl | exact trivial | exact Int.natCast_add_one _ | (intro j _; simp [pureL, pureS, pureE]; done) | exact ⟨rfl, rfl, rfl, rfl⟩)
        | false =>
          rw [hV] at es hver
          simp only [Bool.false_eq_true, if_false] at es
          repeat' (first
            | ((with_reducible apply Sat.run (X := X64)); exact rfl; (first | exact True.intro | (exact phi) | skip))
            | ((with_reducible apply Sat.drawn); kernel_rfl)
            | ((with_reducible apply DSat.run (X := X64)); exact rfl; (first | exact True.intro | (exact phi) | skip))
            | ((with_reducible apply DSat.fin); kernel_rfl)
            | ((with_reducible apply Sat.cond_f); exact rfl)
            | ((with_reducible apply Sat.cond_pt); exact rfl; (try dsimp only [V.EV.sub, V.EV.len]); first | assumption | omega)
            | ((with_reducible apply DSat.callR (hcon)); exact rfl; exact rfl; exact rfl; kernel_rfl; (exact cnvX); exact rfl)
            | ((with_reducible apply DSat.lookSet top setTy hat); exact rfl; exact rfl; exact rfl; exact rfl; exact hS; exact rfl)
            | ((with_reducible apply DSat.callG1 (hver)); exact rfl; exact rfl; exact rfl; exact rfl; kernel_rfl; (intro hG; (exact cnvX)); exact rfl) | fail)
          refine Sat.backX (C := cxg Tryz.prog Γh 63 T w0) (Ow := fun x => setT Tryz.prog 3 4 bm (cntS ks K body l x)) (x + 1) [] rfl ?_ (by rw [es]; exact hat) (by omega) (by omega)
          ((repeat' (first | exact AllP.nil | with_reducible refine AllP.cons ?_ ?_)) <;> first | exact rfl | exact trivial | exact Int.natCast_add_one _ | (intro j _; simp [pureL, pureS, pureE]; done) | exact ⟨rfl, rfl, rfl, rfl⟩)
  · obtain rfl : x = l.length := by omega
    generalize cntS ks K body l l.length = LL at hat hcl ⊢
    repeat' (first
      | ((with_reducible apply Sat.run (X := X64)); exact rfl; (first | exact True.intro | (exact phi) | skip))
      | ((with_reducible apply Sat.cond_pf); exact rfl; (try dsimp only [V.EV.sub, V.EV.len]); first | assumption | omega) | fail)
    refine Sat.lenSet (C := cxg Tryz.prog Γh 63 T w0) top setTy hat rfl (inR_i64 (by omega) (by omega)) rfl ?_
    repeat' (first
      | ((with_reducible apply Sat.run (X := X64)); exact rfl; (first | exact True.intro | (exact phi) | skip)) | fail)
    refine Sat.clearSet (C := cxg Tryz.prog Γh 63 T w0) top setTy hat rfl ?_
    repeat' (first
      | ((with_reducible apply Sat.run (X := X64)); exact rfl; (first | exact True.intro | (exact phi) | skip)) | fail)
    (refine Sat.fin (Sat.end2 rfl rfl rfl rfl True.intro True.intro (.refl _ purX) (.refl _ purX) (by first | exact .inl rfl | exact .inr rfl) (fun _ h => h)) ?_; rfl)
end Go.Proofs.YtokaegeediokoaaGreatDoor
end
section
namespace Go.Proofs.YtokaegeediokoaaGreatDoor.V
open Go.RowKit Go.Sort
def GrowF (P : Program) (f : FuncId) (T : TypeId) : Prop :=
  ∀ w n, n ≤ 1000000 → Calls P f #[.slice none 0 0, .int .i64 ((n : Nat) : Int)] w fun e w' => Below w.heap.size w w' ∧
    (e = .returned (.slice none 0 0) ∨ ∃ (b c : Nat) (cs : List Value), e = .returned (.slice (some ⟨b, 0, none⟩) 0 c) ∧ w.heap.size ≤ b ∧ w'.heap[b]? = some (.cells cs.toArray T (0, 0)) ∧ c ≤ cs.length ∧ okLen c)
def RowF (P : Program) (f : FuncId) (l l2 : List Int) (back : Bool) : Prop :=
  (l = [] → ∀ w (q : Option Addr) c, (∀ x, q = some x → x.spot = none ∧ x.block < w.heap.size) → Calls P f #[.slice q 0 c] w fun e w' => e = .returned (if back then .slice q 0 c else .tuple #[]) ∧ Below w.heap.size w w') ∧
  ∀ (w : World) (b c : Nat) (cs : List Value) (t : TypeId), w.heap[b]? = some (.cells cs.toArray t (0, 0)) → l.length ≤ c → c ≤ cs.length → okLen c → (∀ i (_ : i < l.length), cs[i]? = some (.int .i64 (l.getD i 0))) →
    Calls P f #[.slice (some ⟨b, 0, none⟩) l.length c] w fun e w' => e = .returned (if back then .slice (some ⟨b, 0, none⟩) l2.length c else .tuple #[]) ∧ w.grownBy w' (some b) ∧
      ∃ cs' : List Value, w'.heap[b]? = some (.cells cs'.toArray t (0, 0)) ∧ cs'.length = cs.length ∧ ∀ i (_ : i < l2.length), cs'[i]? = some (.int .i64 (l2.getD i 0))
section
variable {C : Ctx} {Q0 : Exit → Act → World → Prop} {F F' : Tr} {M M' : Mem} {ids : List Nat} {k : List Kont} {U : Nat → Prop} {E : Env} {a : Act} {w w' : World} {full rest : List Oper} {f : FuncId}
theorem Sat.growNil {nx : Nat} {d : Option Tmp} {x : Operand} {xs : List Operand} {ats : Array TypeId} {type T : TypeId} {pos : String} {after : Array Edge} {z : Int} (hg : GrowF C.P f T) (hx : argsF C.Γ F x xs = some (f, [.nils, .int .i64 z])) (hc : callable C.P f = true) (hz : 0 ≤ z ∧ z ≤ 1000000) (hp : putD C.N F d (some (.row nx 0 1 0 0)) some = some F')
    (h : Sat C Q0 (.reg full rest F' ((nx, .row T (.ints .i64 [])) :: M) ids k)) :
    Sat C Q0 (.reg full (⟨d, .call ⟨.value x, ⟨xs⟩, ats⟩, type, pos, after, none⟩ :: rest) F M (nx :: ids) k) := by
  intro U E a w hsup hst
  obtain ⟨hU, hsup'⟩ := hsup
  obtain ⟨F1, h1, h2⟩ := putD_inv hp
  cases h1
  refine wpList_plain rfl fun K hK => ?_
  unfold Oper.wp
  obtain ⟨vs, ht, hex⟩ := argsF_ok hst.vw hx
  rw [hex, run_callFunc_go hc]
  obtain ⟨n, rfl⟩ : ∃ n : Nat, z = (n : Int) := ⟨z.toNat, by omega⟩
  cases ht with
  | cons _ v0 _ vs hr ht =>
  cases hr
  cases ht with
  | cons _ v1 _ vs hr ht =>
  cases hr
  cases ht
  refine (hg w n (by omega)).mono ?_
  rintro e w' ⟨hb, he⟩
  have hmine : ∀ y, V.mine M E y → y < w.heap.size := fun y ⟨j, B, q1, q2⟩ => (hst.mem.at q1 q2).1
  have fin : ∀ (b : Option Nat) (v : Value), (∀ x, b = some x → x < w'.heap.size ∧ w.heap.size ≤ x) → (∀ x, b = some x → ∃ (c : Nat) (cs : List Value), v = .slice (some ⟨x, 0, none⟩) 0 c ∧ w'.heap[x]? = some (.cells cs.toArray T (0, 0)) ∧ c ≤ cs.length ∧ okLen c) → (b = none → v = .slice none 0 0) → St C F' ((nx, .row T (.ints .i64 [])) :: M) (V.rest U nx) (envWith E nx b) (a.put d v) w' := fun b v q1 q2 q3 => by
    have h3 := hst.mov (o := none) (b := b) (B := .row T (.ints .i64 [])) hU ((Chg.of_below hb).weak (T' := V.mine M E) fun _ h => h) hb.os hb.tape hb.output (fun x hx => ⟨(q1 x hx).1, .inl (q1 x hx).2⟩) (fun j B1 y hf hE => hb.block y (hmine y ⟨j, B1, hf, hE⟩)) (fun x hx => by
      obtain ⟨c, cs, r1, r2, r3, r4⟩ := q2 x hx
      exact ⟨cs, fun _ => [], r2, by show 0 * 1 ≤ cs.length; omega, fun i hi => absurd hi (Nat.not_lt_zero _), fun i j v hi => absurd hi (Nat.not_lt_zero _), fun i hi => absurd hi (Nat.not_lt_zero _)⟩) (fun _ => ⟨T, _, rfl, rfl⟩)
    refine St.putD h3 h2 fun s' hs' => ?_
    cases hs'
    cases b with
    | none => rw [q3 rfl]; exact .row0 _ 0 1 0 0 (by simp [envWith]) rfl
    | some x =>
      obtain ⟨c, cs, r1, r2, r3, r4⟩ := q2 x rfl
      rw [r1]
      exact .row _ 0 1 0 0 x 0 c cs.length T (by simp [envWith]) (by simp [World.shape?, r2]) (fun _ => ⟨rfl, by omega⟩) (Nat.zero_le _) r4
  rcases he with rfl | ⟨b, c, cs, rfl, r1, r2, r3, r4⟩
  · exact hK _ _ (h _ _ _ w' hsup' (fin none _ (fun x hx => by cases hx) (fun x hx => by cases hx) fun _ => rfl))
  · refine hK _ _ (h _ _ _ w' hsup' (fin (some b) _ (fun x hx => ?_) (fun x hx => ?_) fun hx => by cases hx))
    · cases hx
      refine ⟨?_, r1⟩
      rcases Nat.lt_or_ge b w'.heap.size with q | q
      · exact q
      · rw [Array.getElem?_eq_none q] at r2; cases r2
    · cases hx
      exact ⟨c, cs, rfl, r2, r3, r4⟩
theorem St.rowTo {i : Nat} {t : TypeId} {e e' : EV} (hst : St C F M U E a w) (hf : find M i = some (.row t e)) (hM : upd M i (.row t e') = some M') (hb : ∀ b, E i = some (some b) → w.grownBy w' (some b) ∧ w'.shape? b = w.shape? b ∧ BOk E (trk C.T0 M E) w' b (.row t e')) (hn : E i = some none → w' = w ∧ e'.len = 0) : St C F M' U E a w' := by
  have hfind := find_upd hM
  have htr : ∀ k, trk C.T0 M' E k ↔ trk C.T0 M E k := fun k => by
    constructor
    · rintro (⟨id, B, q1, q2⟩ | h0)
      · rw [hfind] at q1
        split at q1
        · rename_i e; subst e; exact .inl ⟨id, _, hf, q2⟩
        · exact .inl ⟨id, B, q1, q2⟩
      · exact .inr h0
    · rintro (⟨id, B, q1, q2⟩ | h0)
      · by_cases e : id = i
        · subst e; exact .inl ⟨id, .row t e', by rw [hfind, if_pos rfl], q2⟩
        · exact .inl ⟨id, B, by rw [hfind, if_neg e]; exact q1, q2⟩
      · exact .inr h0
  have hteq : trk C.T0 M' E = trk C.T0 M E := funext fun k => propext (htr k)
  have hs : ∀ j, (find M' j).isSome = true → (find M j).isSome = true := fun j hj => by
    rw [hfind] at hj
    split at hj
    · rename_i e; subst e; rw [hf]; rfl
    · exact hj
  rcases hst.mem.blk i _ hf with ⟨b, hE, hlt, hB⟩ | ⟨hE, _⟩
  · obtain ⟨hg, hsh, hB'⟩ := hb b hE
    have hmine : V.mine M E b := ⟨i, _, hf, hE⟩
    have hchg : Chg (V.mine M E) w w' := ⟨hg.size, fun k hk hnm => hg.block k hk fun q => hnm (Option.some.inj q ▸ hmine), fun k hk => by
      by_cases q : k = b
      · subst q; exact hsh
      · unfold World.shape?; rw [hg.block k hk fun q2 => q (Option.some.inj q2)]⟩
    have hchg2 := hchg.weak (T' := trk C.T0 M E) fun _ => .inl
    refine hst.go (fun _ _ h => h) (fun k _ hk => (htr k).1 hk) hchg hg.os hg.tape hg.output ⟨fun id B hBd => ?_, fun id id' b' q1 q2 q3 q4 => hst.mem.inj id id' b' (hs id q1) (hs id' q2) q3 q4⟩ (fun id b' q1 q2 => hst.own id b' (hs id q1) q2) hst.fresh
    rw [hfind] at hBd
    split at hBd
    · rename_i q
      subst q
      cases hBd
      exact .inl ⟨b, hE, Nat.lt_of_lt_of_le hlt hg.size, by rw [hteq]; exact hB'⟩
    · rename_i q
      rcases hst.mem.blk id B hBd with ⟨b', q1, q2, q3⟩ | q1
      · refine .inl ⟨b', q1, Nat.lt_of_lt_of_le q2 hg.size, ?_⟩
        have hne : b' ≠ b := fun e2 => by
          subst e2
          exact q (hst.mem.inj id i b' (by rw [hBd]; rfl) (by rw [hf]; rfl) q1 hE)
        rw [hteq]
        exact q3.mono (fun _ _ h => h) (fun _ _ h => h) hchg2 (hg.block b' q2 fun q2 => hne (Option.some.inj q2))
      · exact .inr q1
  · obtain ⟨rfl, h0⟩ := hn hE
    refine hst.go (fun _ _ h => h) (fun k _ hk => (htr k).1 hk) (Chg.refl _ _) rfl rfl rfl ⟨fun id B hBd => ?_, fun id id' b' q1 q2 q3 q4 => hst.mem.inj id id' b' (hs id q1) (hs id' q2) q3 q4⟩ (fun id b' q1 q2 => hst.own id b' (hs id q1) q2) hst.fresh
    rw [hfind] at hBd
    split at hBd
    · rename_i q
      subst q
      cases hBd
      exact .inr ⟨hE, t, e', rfl, h0⟩
    · rcases hst.mem.blk id B hBd with ⟨b', q1, q2, q3⟩ | q1
      · exact .inl ⟨b', q1, q2, by rw [hteq]; exact q3⟩
      · exact .inr q1
theorem bok_ints {T : Nat → Prop} {b : Nat} {t : TypeId} {l : List Int} (h : BOk E T w b (.row t (.ints .i64 l))) : ∃ cs : List Value, w.heap[b]? = some (.cells cs.toArray t (0, 0)) ∧ l.length ≤ cs.length ∧ ∀ i (_ : i < l.length), cs[i]? = some (.int .i64 (l.getD i 0)) ∧ inR .i64 (l.getD i 0) := by
  obtain ⟨cs, c, h1, h2, h3, h4, h5⟩ := h
  have h2 : l.length * 1 ≤ cs.length := h2
  refine ⟨cs, h1, by omega, fun i hi => ?_⟩
  have hI := h5 i hi
  have h4i := h4 i 0
  simp only [EV.items] at hI
  generalize c i = ci at hI h4i
  cases hI with
  | one _ v _ _ p0 pr pI =>
    cases pr with
    | int _ _ hin =>
      have := h4i _ hi rfl
      have e : i * (EV.ints IntKind.i64 l).sz + 0 = i := by show i * 1 + 0 = i; omega
      rw [e] at this
      exact ⟨this, hin⟩
theorem ints_bok {T : Nat → Prop} {b : Nat} {t : TypeId} {l : List Int} {cs : List Value} (h1 : w.heap[b]? = some (.cells cs.toArray t (0, 0))) (h2 : l.length ≤ cs.length) (h3 : ∀ i (_ : i < l.length), cs[i]? = some (.int .i64 (l.getD i 0))) (h4 : ∀ i (_ : i < l.length), inR .i64 (l.getD i 0)) : BOk E T w b (.row t (.ints .i64 l)) := by
  refine ⟨cs, fun i => [.int .i64 (l.getD i 0)], h1, by show l.length * 1 ≤ _; omega, fun i hi => rfl, fun i j v hi hj => ?_, fun i hi => .one _ _ _ _ rfl (.int _ _ (h4 i hi)) .nil⟩
  cases j with
  | succ j => simp at hj
  | zero =>
    cases hj
    have e : i * (EV.ints IntKind.i64 l).sz + 0 = i := by show i * 1 + 0 = i; omega
    rw [e]
    exact h3 i hi
theorem Sat.rowCall {i n0 : Nat} {t : TypeId} {l l2 : List Int} {back : Bool} {d : Option Tmp} {x : Operand} {xs : List Operand} {ats : Array TypeId} {type : TypeId} {pos : String} {after : Array Edge} (hspec : RowF C.P f l l2 back) (hx : argsF C.Γ F x xs = some (f, [.row i 0 1 0 n0])) (hn0 : n0 = l.length) (hc : callable C.P f = true) (hf : find M i = some (.row t (.ints .i64 l)))
    (hM : upd M i (.row t (.ints .i64 l2)) = some M') (hle : l2.length ≤ l.length) (hin : ∀ y ∈ l2, y ∈ l) (hp : putD C.N F d (if back then some (.row i 0 1 0 l2.length) else some (.tup [])) some = some F')
    (h : Sat C Q0 (.reg full rest F' M' ids k)) :
    Sat C Q0 (.reg full (⟨d, .call ⟨.value x, ⟨xs⟩, ats⟩, type, pos, after, none⟩ :: rest) F M ids k) := by
  subst hn0
  intro U E a w hsup hst
  obtain ⟨F1, h1, h2⟩ := putD_inv hp
  cases h1
  refine wpList_plain rfl fun K hK => ?_
  unfold Oper.wp
  obtain ⟨vs, ht, hex⟩ := argsF_ok hst.vw hx
  rw [hex, run_callFunc_go hc]
  cases ht with
  | cons _ v0 _ vs hr ht =>
  cases ht
  rcases Nat.eq_zero_or_pos l.length with hl0 | hlp
  · have hl1 : l = [] := List.eq_nil_of_length_eq_zero hl0
    have hl2 : l2 = [] := List.eq_nil_of_length_eq_zero (by omega)
    subst hl1 hl2
    have hMM : ∀ w', St C F M U E a w' → St C F M' U E a w' := fun w' h' => h'.rowTo hf hM (fun b hE => ⟨⟨rfl, rfl, rfl, Nat.le_refl _, fun _ _ _ => rfl⟩, rfl, (h'.mem.at hf hE).2⟩) fun _ => ⟨rfl, rfl⟩
    have hrep : ∃ q c, v0 = .slice q 0 c ∧ ∀ x, q = some x → x.spot = none ∧ x.block < w.heap.size := by
      cases hr with
      | row0 _ _ _ _ _ hE hl => exact ⟨none, 0, rfl, fun x hx => by cases hx⟩
      | row _ _ _ _ _ b o c n t' hE hs ho hl ok => exact ⟨some _, c, rfl, fun x hx => by cases hx; exact ⟨rfl, (hst.mem.at hf hE).1⟩⟩
    obtain ⟨q, c, rfl, hq⟩ := hrep
    refine (hspec.1 rfl w q c hq).mono ?_
    rintro e w' ⟨rfl, hb⟩
    refine hK _ _ (h U E _ w' hsup (St.putD (hMM w' (hst.below hb)) h2 fun s' hs' => ?_))
    have hr2 : Rep E (trk C.T0 M' E) w' (.row i 0 1 0 0) (.slice q 0 c) := by
      have := hr
      cases this with
      | row0 _ _ _ _ _ hE hl => exact .row0 _ 0 1 0 0 hE rfl
      | row _ _ _ _ _ b o c n t' hE hs ho hl ok => exact .row _ 0 1 0 0 b o c n t' hE (by unfold World.shape? at hs ⊢; rw [hb.block b (hst.mem.at hf hE).1]; exact hs) ho hl ok
    cases back with
    | true => cases hs'; exact hr2
    | false => cases hs'; exact .tup _ [] .nil
  · cases hr with
    | row0 _ _ _ _ _ hE hl => omega
    | row _ _ _ _ _ b o c n t' hE hs ho hl ok =>
      obtain ⟨hlt, hB⟩ := hst.mem.at hf hE
      obtain ⟨cs, g1, g2, g3⟩ := bok_ints hB
      have hn : n = cs.length ∧ t' = t := by
        simp only [World.shape?, g1] at hs
        cases hs
        exact ⟨by simp, rfl⟩
      obtain ⟨rfl, rfl⟩ := hn
      have ho' := ho (by omega)
      obtain rfl : o = 0 := by omega
      refine (hspec.2 w b c cs t' g1 hl (by omega) ok fun j hj => (g3 j hj).1).mono ?_
      rintro e w' ⟨rfl, k1, cs', k2, k3, k4⟩
      have hsh : w'.shape? b = w.shape? b := by simp [World.shape?, g1, k2, k3]
      have hst' := hst.rowTo (w' := w') hf hM (fun b' hb' => by
        rw [hE] at hb'
        cases hb'
        refine ⟨k1, hsh, ints_bok k2 (by omega) k4 fun j hj => ?_⟩
        have hm : l2.getD j 0 ∈ l := hin _ (by rw [List.getD_eq_getElem?_getD, List.getElem?_eq_getElem hj]; exact List.getElem_mem _)
        obtain ⟨j2, hj2, he2⟩ := List.getElem_of_mem hm
        have := (g3 j2 hj2).2
        rw [List.getD_eq_getElem?_getD, List.getElem?_eq_getElem hj2, Option.getD_some, he2] at this
        exact this) fun hb' => by rw [hE] at hb'; cases hb'
      refine hK _ _ (h U E _ w' hsup (St.putD hst' h2 fun s' hs' => ?_))
      cases back with
      | true => cases hs'; exact .row _ 0 1 0 _ b 0 c _ t' hE (hsh.trans hs) (fun _ => ⟨rfl, by omega⟩) (by omega) ok
      | false => cases hs'; exact .tup _ [] .nil
end
end Go.Proofs.YtokaegeediokoaaGreatDoor.V
end
section
namespace Go.Proofs.YtokaegeediokoaaGreatDoor
open Go.RowKit V Go.Sort
set_option maxRecDepth 100000
set_option maxHeartbeats 8000000
set_option linter.unusedSimpArgs false
def grow_ren : Go.Shelf.Ren := ⟨fun | 4 => 165 | n => n, fun | 22 => 30 | 25 => 3 | n => n, fun | n => n⟩
theorem grow_lays : Go.Proofs.Lays8.n4 Tryz.prog grow_ren := {
  mixed := by kernel_rfl
  f4 := ⟨"slices.Grow[[]int,int]", by decide, Tryz.func165.trans (congrArg some (by kernel_rfl))⟩
  t0 := Tryz.underlying0
  a0 := Tryz.isAgg0
  z0 := Tryz.sizeOf0
  v0 := Tryz.zeroValue0
  t3 := Tryz.underlying3
  a3 := Tryz.isAgg3
  z3 := Tryz.sizeOf3
  v3 := Tryz.zeroValue3
  t4 := Tryz.underlying4
  a4 := Tryz.isAgg4
  z4 := Tryz.sizeOf4
  v4 := Tryz.zeroValue4
  t9 := Tryz.underlying9
  a9 := Tryz.isAgg9
  z9 := Tryz.sizeOf9
  v9 := Tryz.zeroValue9
  t20 := Tryz.underlying20
  a20 := Tryz.isAgg20
  z20 := Tryz.sizeOf20
  v20 := Tryz.zeroValue20
  t22 := Tryz.underlying30
  a22 := Tryz.isAgg30
  z22 := Tryz.sizeOf30
  v22 := Tryz.zeroValue30 }
theorem int_info : ∃ i0 : TypeInfo, Tryz.prog.info? 3 = some i0 ∧ i0.zero = some (.int .i64 0) ∧ i0.size = 1 ∧ i0.bytes = 8 := ⟨_, rfl, by kernel_rfl, by kernel_rfl, by kernel_rfl⟩
theorem drew_alloc (w : World) (o : Obj) : (w.drew.alloc o).heap[w.heap.size]? = some o := Array.getElem?_push_size
theorem grow_spec : GrowF Tryz.prog 165 3 := by
  intro w n hn
  rcases Nat.eq_zero_or_pos n with rfl | hpos
  · refine (Any8.slices_Grow_room grow_lays none 0 0 0 w (Nat.le_refl _) (by decide) (by decide) (Nat.le_refl _)).mono ?_
    rintro e w' ⟨rfl, rfl⟩
    exact ⟨Below.refl _ _, .inl rfl⟩
  · obtain ⟨i0, h1, h2, h3, h4⟩ := int_info
    refine (Any8.slices_Grow_grow grow_lays i0 _ h1 h2 (by omega) none 0 0 n [] w (Nat.le_refl _) (by omega) (by rw [h4]; omega) (by omega) (by simp) (fun _ => rfl) (fun a ha => by cases ha)).mono ?_
    rintro e w' ⟨rfl, rfl⟩
    generalize hg : grownCap w (0 + n) 0 3 = g
    have hok : okLen g := by rw [← hg]; exact grownCap_ok w (0 + n) 0 3 (by unfold okLen; omega)
    refine ⟨((Below.refl _ w).drew).alloc (Nat.le_refl _) _, .inr ⟨w.heap.size, g, (#[] ++ Builtin.zeroCells (Value.int .i64 0).cells (0 + n - 0) ++ Builtin.zeroCells (Value.int .i64 0).cells (g - (0 + n))).toList, ?_, Nat.le_refl _, ?_, ?_, hok⟩⟩
    · rw [← hg]; rfl
    · rw [Array.toArray_toList, ← hg]
      exact drew_alloc w _
    · rw [Array.length_toList]
      simp [size_zeroCells, Value.cells]
      omega
theorem holds_ints {w : World} {b : Nat} {cs : List Value} {t : TypeId} {l : List Int} (hb : w.heap[b]? = some (.cells cs.toArray t (0, 0))) (hl2 : ∀ i (_ : i < l.length), cs[i]? = some (.int .i64 (l.getD i 0))) : Holds (Value.int .i64) w b 0 l.toArray := fun j hj => by
  have hj : j < l.length := by simpa using hj
  have h1 := hl2 j hj
  refine ⟨?_, ?_⟩
  · rw [Nat.zero_add, cell_blk hb, h1]
    simp [List.getD_eq_getElem?_getD, hj]
  · simp [World.frozen?, hb]
theorem putc_get (cs : List Value) (l : List Int) (hl : l.length ≤ cs.length) : (putCells (Value.int .i64) 0 l.toArray cs.toArray).size = cs.length ∧ ∀ i (_ : i < l.length), (putCells (Value.int .i64) 0 l.toArray cs.toArray)[i]? = some (.int .i64 (l.getD i 0)) := by
  refine ⟨by simp [putCells], fun i hi => ?_⟩
  simp [putCells, hi, show i < cs.length by omega, List.getD_eq_getElem?_getD]
theorem sort_spec (l : List Int) (hl : l.length ≤ 1000000) : RowF Tryz.prog 110 l (l.mergeSort fun x y => decide (x ≤ y)) false := by
  refine ⟨fun _ w q c _ => (Any.slices_Sort_int_none Tryz.lays189 q c w).mono fun e w' ⟨h1, h2⟩ => ⟨h1, h2 ▸ Below.refl _ _⟩, fun w b c cs t hb hc hcs hok hl2 => ?_⟩
  have hlen : (l.mergeSort fun x y => decide (x ≤ y)).length = l.length := List.length_mergeSort _
  have hlt : b < w.heap.size := (Array.getElem?_eq_some_iff.1 hb).1
  refine (Tryz.slices_Sort_int b 0 c l w (holds_ints hb hl2) hlt (by omega)).mono ?_
  rintro e w' ⟨rfl, n, os, rfl⟩
  obtain ⟨q1, q2⟩ := putc_get cs (l.mergeSort fun x y => decide (x ≤ y)) (by omega)
  refine ⟨rfl, grownBy_sortedI _, (putCells (Value.int .i64) 0 (l.mergeSort fun x y => decide (x ≤ y)).toArray cs.toArray).toList, ?_, ?_, fun i hi => ?_⟩
  · rw [Array.toArray_toList]; exact heap_sortedI _ hb
  · rw [Array.length_toList]; exact q1
  · rw [Array.getElem?_toList]; exact q2 i hi
theorem compact_spec (l : List Int) (hl : l.length ≤ 1000000) : RowF Tryz.prog 111 l (Lib.compact l) true := by
  have hle := Lib.compact_length_le l
  refine ⟨fun _ w q c _ => (Tryz.slices_Compact_int_empty q c w).mono fun e w' ⟨h1, h2⟩ => ⟨h1, h2 ▸ Below.refl _ _⟩, fun w b c cs t hb hc hcs hok hl2 => ?_⟩
  have hlt : b < w.heap.size := (Array.getElem?_eq_some_iff.1 hb).1
  refine (Tryz.slices_Compact_int b 0 c l w (holds_ints hb hl2) (by omega) hc).mono ?_
  rintro e w' ⟨rfl, n, rfl⟩
  obtain ⟨q1, q2⟩ := putc_get cs (Lib.compact l ++ List.replicate (l.length - (Lib.compact l).length) 0) (by simp; omega)
  refine ⟨rfl, ?_, (putCells (Value.int .i64) 0 (Lib.compact l ++ List.replicate (l.length - (Lib.compact l).length) 0).toArray cs.toArray).toList, ?_, ?_, fun i hi => ?_⟩
  · exact grownBy_sortedI (os := #[]) _
  · rw [Array.toArray_toList]; exact heap_sortedI (os := #[]) _ hb
  · rw [Array.length_toList]; exact q1
  · rw [Array.getElem?_toList, q2 i (by simp; omega), List.getD_eq_getElem?_getD, List.getD_eq_getElem?_getD, List.getElem?_append_left hi]
end Go.Proofs.YtokaegeediokoaaGreatDoor
end
section
namespace Go.Proofs.YtokaegeediokoaaGreatDoor
open Go.RowKit V
set_option maxRecDepth 100000
set_option maxHeartbeats 8000000
set_option linter.unusedSimpArgs false
def enB (r : RootL) (name body : List UInt8) (l : List SigL) : Bool :=
  if fndI r name = -1 then false else decide ((r.roles.getD (fndI r name).toNat role0).need ≤ ((cntS r.keys (r.roles.getD (fndI r name).toNat role0).keys body l l.length).length : Int))
def RoleOk (r : RootL) (name body : List UInt8) (l : List SigL) : Prop :=
  fndI r name = -1 ∨ ∃ i : Nat, fndI r name = i ∧ i < r.roles.length ∧ i ≤ 1000 ∧ CntOk r.keys (r.roles.getD i role0).keys body l
structure TrustL where
  root : RootL
  floor : Int
  gone : List Int
  now : Int
@[reducible] def TrustL.c (t : TrustL) : List SV := [.int .i64 t.root.gen, .int .i64 t.root.expiry, .ro (keysE t.root.keys), .ro (rolesE t.root.roles), .int .i64 t.floor, .ro (.ints .i64 t.gone), .int .i64 t.now]
@[reducible] def TrustL.v (t : TrustL) : SV := .agg t.c
@[reducible] def relC (r : Rel) : List SV := [.int .i64 r.version, .int .i64 r.floor, .int .i64 r.expiry, .int .i64 r.size, .arr 32 (.u8 r.image), .int .i64 r.chunks, .arr 32 (.u8 r.tree), .ro (.ints .i64 r.gone), .ro (partsE r.parts)]
@[reducible] def sgdC (body : List UInt8) (l : List SigL) : List SV := [.ro (.u8 body), .ro (sigsE l)]
@[reducible] def ropT (t : TrustL) : SV := .rop (.g 1 7 fun _ => t.c) 0 0
@[reducible] def ropR (r : Rel) : SV := .rop (.g 1 71 fun _ => relC r) 0 0
@[reducible] def ropS (body : List UInt8) (l : List SigL) : SV := .rop (.g 1 2 fun _ => sgdC body l) 0 0
attribute [local irreducible] V.Sat V.DSat
theorem enough_spec (r : RootL) (name body : List UInt8) (l : List SigL) (h : RoleOk r name body l) : Fun Tryz.prog Γh 73 [r.v, .str name, .ro (.u8 body), .ro (sigsE l)] (.bool (enB r name body l)) := by
  rcases h with h | ⟨i, h, hi, hm, hok⟩
  · have h1 := count_none r name body l h
    have h2 := find_none (Γ := Γh) r name h
    have e : enB r name body l = false := by unfold enB; rw [if_pos h]
    rw [e]
    obtain ⟨g, ex, ks, rs⟩ := r
    refine Fun.mk 6 Tryz.func73 rfl Tryz.ntmps73 rfl rfl fun T w0 => ?_
    repeat' (first
      | ((with_reducible apply Sat.run (X := X64)); exact rfl; (first | exact True.intro | (exact phi) | skip))
      | ((with_reducible apply Sat.callR (h1)); exact rfl; exact rfl; exact rfl; kernel_rfl; (exact cnvX); exact rfl)
      | ((with_reducible apply Sat.call (h2)); exact rfl; exact rfl; kernel_rfl; (exact cnvX); exact rfl) | fail)
    (refine Sat.fin (Sat.end1 rfl rfl rfl True.intro (.refl _ purX) (by first | exact .inl rfl | exact .inr rfl) (fun _ h => h)) ?_; rfl)
  · have h1 := count_some r name body l i hi hm h hok
    have h2 := find_some (Γ := Γh) r name i hi hm h
    have e : enB r name body l = decide ((r.roles.getD i role0).need ≤ ((cntS r.keys (r.roles.getD i role0).keys body l l.length).length : Int)) := by
      unfold enB
      rw [if_neg (by rw [h]; omega), h, Int.toNat_natCast]
    rw [e]
    clear e hok h
    obtain ⟨g, ex, ks, rs⟩ := r
    dsimp only at h1 h2 ⊢
    generalize cntS ks _ body l l.length = n at h1 ⊢
    generalize rs.getD i role0 = ro at h2 ⊢
    obtain ⟨rn, K, nd⟩ := ro
    refine Fun.mk 6 Tryz.func73 rfl Tryz.ntmps73 rfl rfl fun T w0 => ?_
    repeat' (first
      | ((with_reducible apply Sat.run (X := X64)); exact rfl; (first | exact True.intro | (exact phi) | skip))
      | ((with_reducible apply Sat.callR (h1)); exact rfl; exact rfl; exact rfl; kernel_rfl; (exact cnvX); exact rfl)
      | ((with_reducible apply Sat.call (h2)); exact rfl; exact rfl; kernel_rfl; (exact cnvX); exact rfl) | fail)
    (refine Sat.fin (Sat.end1 rfl rfl rfl True.intro (.refl _ purX) (by first | exact .inl rfl | exact .inr rfl) (fun _ h => h)) ?_; rfl)
theorem a1_spec (t : TrustL) (r : Rel) : Fun Tryz.prog Γh 105 [ropT t, ropR r] (.tup [.bool (decide (t.now ≤ minV t.root.expiry r.expiry)), .int .i64 271]) := by
  refine Fun.mk 6 Tryz.func105 rfl Tryz.ntmps105 rfl rfl fun T w0 => ?_
  repeat' (first
    | ((with_reducible apply Sat.run (X := X64)); exact rfl; (first | exact True.intro | (exact phi) | skip)) | fail)
  (refine Sat.fin (Sat.end2 rfl rfl rfl rfl True.intro True.intro (.refl _ purX) (.refl _ purX) (by first | exact .inl rfl | exact .inr rfl) (fun _ h => h)) ?_; rfl)
theorem a2_spec (t : TrustL) (body : List UInt8) (l : List SigL) (h : RoleOk t.root [114, 101, 108, 101, 97, 115, 101] body l) : Fun Tryz.prog Γh 106 [ropT t, ropS body l] (.tup [.bool (enB t.root [114, 101, 108, 101, 97, 115, 101] body l), .int .i64 270]) := by
  have h1 := enough_spec t.root [114, 101, 108, 101, 97, 115, 101] body l h
  obtain ⟨⟨g, ex, ks, rs⟩, fl, go, nw⟩ := t
  refine Fun.mk 6 Tryz.func106 rfl Tryz.ntmps106 rfl rfl fun T w0 => ?_
  repeat' (first
    | ((with_reducible apply Sat.run (X := X64)); exact rfl; (first | exact True.intro | (exact phi) | skip))
    | ((with_reducible apply Sat.callR (h1)); exact rfl; exact rfl; exact rfl; kernel_rfl; (exact cnvX); exact rfl) | fail)
  (refine Sat.fin (Sat.end2 rfl rfl rfl rfl True.intro True.intro (.refl _ purX) (.refl _ purX) (by first | exact .inl rfl | exact .inr rfl) (fun _ h => h)) ?_; rfl)
theorem a3_spec (t : TrustL) (r : Rel) : Fun Tryz.prog Γh 107 [ropR r, ropT t] (.tup [.bool (decide (t.floor ≤ r.version)), .int .i64 272]) := by
  refine Fun.mk 6 Tryz.func107 rfl Tryz.ntmps107 rfl rfl fun T w0 => ?_
  repeat' (first
    | ((with_reducible apply Sat.run (X := X64)); exact rfl; (first | exact True.intro | (exact phi) | skip)) | fail)
  (refine Sat.fin (Sat.end2 rfl rfl rfl rfl True.intro True.intro (.refl _ purX) (.refl _ purX) (by first | exact .inl rfl | exact .inr rfl) (fun _ h => h)) ?_; rfl)
theorem a4_spec (t : TrustL) (r : Rel) : Fun Tryz.prog Γh 108 [ropT t, ropR r] (.tup [.bool (!t.gone.any fun y => decide (r.version = y)), .int .i64 273]) := by
  have h1 : Fun Tryz.prog Γh 44 [.ro (.ints .i64 t.gone), .int .i64 r.version] (.bool (t.gone.any fun y => decide (r.version = y))) := (contains_int r.version t.gone).weak
  refine Fun.mk 6 Tryz.func108 rfl Tryz.ntmps108 rfl rfl fun T w0 => ?_
  repeat' (first
    | ((with_reducible apply Sat.run (X := X64)); exact rfl; (first | exact True.intro | (exact phi) | skip))
    | ((with_reducible apply Sat.callR (h1)); exact rfl; exact rfl; exact rfl; kernel_rfl; (exact cnvX); exact rfl) | fail)
  (refine Sat.fin (Sat.end2 rfl rfl rfl rfl True.intro True.intro (.refl _ purX) (.refl _ purX) (by first | exact .inl rfl | exact .inr rfl) (fun _ h => h)) ?_; rfl)
def allowB (t : TrustL) (v : Int) : Bool := decide (t.floor ≤ v) && (decide (v ≤ 60000) && !t.gone.any fun y => decide (v = y))
theorem allows_spec (t : TrustL) (v : Int) : Fun Tryz.prog Γh 20 [t.v, .int .i64 v] (.bool (allowB t v)) := by
  have h1 : Fun Tryz.prog Γh 44 [.ro (.ints .i64 t.gone), .int .i64 v] (.bool (t.gone.any fun y => decide (v = y))) := (contains_int v t.gone).weak
  refine Fun.mk 6 Tryz.func20 rfl Tryz.ntmps20 rfl rfl fun T w0 => ?_
  repeat' (first
    | ((with_reducible apply Sat.run (X := X64)); exact rfl; (first | exact True.intro | (exact phi) | skip))
    | ((with_reducible apply Sat.callG1 (h1)); exact rfl; exact rfl; exact rfl; exact rfl; kernel_rfl; (intro hG; (exact cnvX)); exact rfl) | fail)
  (refine Sat.fin (Sat.end1 rfl rfl rfl True.intro (.refl _ purX) (by first | exact .inl rfl | exact .inr rfl) (fun _ h => h)) ?_; (refine congrArg SV.bool ?_; unfold allowB; cases decide (t.floor ≤ v) <;> cases decide (v ≤ 60000) <;> rfl))
end Go.Proofs.YtokaegeediokoaaGreatDoor
end
section
namespace Go.Proofs.YtokaegeediokoaaGreatDoor
open Go.RowKit V
set_option maxRecDepth 100000
set_option maxHeartbeats 8000000
set_option linter.unusedSimpArgs false
theorem V.mapM_run3 {P : Program} {w : World} {f : ResultVar → Sem Value} {r r' r2 : ResultVar} {v v' v2 : Value} (h1 : (f r).run P w = .ok v w) (h2 : (f r').run P w = .ok v' w) (h3 : (f r2).run P w = .ok v2 w) :
    ((do let vs ← (#[r, r', r2] : Array ResultVar).mapM f; pure (if h : vs.size = 1 then vs[0] else .tuple vs)) : Sem Value).run P w = .ok (.tuple #[v, v', v2]) w := by simp [h1, h2, h3]
theorem V.Sat.end3 {C : Ctx} {F : Tr} {M : Mem} {ids : List Nat} {fn : Func} {res res' res2 : SV} {e : Ex} {r r' r2 : ResultVar} {φ φ' φ2 : List Prop} {s s' s2 : SV} (hn : C.wide = false) (hr : fn.results = #[r, r', r2]) (h1 : resV C.P F M r = some (φ, s)) (h2 : resV C.P F M r' = some (φ', s')) (h3 : resV C.P F M r2 = some (φ2, s2)) (hφ : AllP φ) (hφ' : AllP φ') (hφ2 : AllP φ2) (hc : Conv M s res) (hc' : Conv M s' res') (hc2 : Conv M s2 res2) (he : e = .ret ∨ e = .normal) (hS : ∀ b, ¬ C.S b) :
    Sat C (bodyPost C.P fn (Post C.T0 C.W0 (.tup [res, res', res2]))) (.ext e F M ids []) := end_core he fun U E a w _ hst => by
  obtain ⟨v, q1, q2⟩ := resV_ok hst h1 hφ
  obtain ⟨v', q1', q2'⟩ := resV_ok hst h2 hφ'
  obtain ⟨v2, q12, q22⟩ := resV_ok hst h3 hφ2
  have t1 := Conv.ok hst.mem (fun _ _ h => .inr h) (hst.apart hn) hc q1
  have t2 := Conv.ok hst.mem (fun _ _ h => .inr h) (hst.apart hn) hc' q1'
  have t3 := Conv.ok hst.mem (fun _ _ h => .inr h) (hst.apart hn) hc2 q12
  refine ⟨.tuple #[v, v', v2], ?_, _, rfl, .tup _ [v, v', v2] (.cons _ _ _ _ t1 (.cons _ _ _ _ t2 (.cons _ _ _ _ t3 .nil))), hst.post hS⟩
  unfold results
  rw [hr]
  exact mapM_run3 q2 q2' q22
@[reducible] def nmRel : List UInt8 := [114, 101, 108, 101, 97, 115, 101]
def goneU (a b : List Int) : List Int := Lib.compact ((a ++ b).mergeSort fun x y => decide (x ≤ y))
def accE (t : TrustL) (body : List UInt8) (l : List SigL) : Int :=
  if okP body = false then 260 else if ¬ t.now ≤ minV t.root.expiry (parseP body).expiry then 271 else if enB t.root nmRel body l = false then 270
  else if ¬ t.floor ≤ (parseP body).version then 272 else if (t.gone.any fun y => decide ((parseP body).version = y)) = true then 273 else 0
def accT (t : TrustL) (body : List UInt8) (l : List SigL) : TrustL :=
  if accE t body l = 0 then ⟨t.root, maxV t.floor (parseP body).floor, goneU t.gone (parseP body).gone, t.now⟩ else t
def accR (t : TrustL) (body : List UInt8) (l : List SigL) : Rel := if accE t body l = 0 then parseP body else zeroRel
theorem conv_zeroRel {M : Mem} : Conv M (.agg [.int .i64 0, .int .i64 0, .int .i64 0, .int .i64 0, .arr 32 (.u8 (List.replicate 32 0)), .int .i64 0, .arr 32 (.u8 (List.replicate 32 0)), .nils, .nils]) (.agg (relC zeroRel)) :=
  .agg _ _ (.cons _ _ _ _ (.refl _ trivial) (.cons _ _ _ _ (.refl _ trivial) (.cons _ _ _ _ (.refl _ trivial) (.cons _ _ _ _ (.refl _ trivial) (.cons _ _ _ _ (.refl _ trivial) (.cons _ _ _ _ (.refl _ trivial) (.cons _ _ _ _ (.refl _ trivial) (.cons _ _ _ _ (.nils (.ints .i64 []) rfl) (.cons _ _ _ _ (.nils (partsE []) rfl) .nil)))))))))
theorem pure_trust (t : TrustL) : pureS t.v := ⟨trivial, trivial, fun _ _ => ⟨trivial, trivial⟩, fun _ _ => ⟨trivial, trivial, trivial, trivial⟩, trivial, trivial, trivial, trivial⟩
theorem pure_rel (r : Rel) : pureL (relC r) := ⟨trivial, trivial, trivial, trivial, trivial, trivial, trivial, trivial, fun _ _ => ⟨trivial, trivial, trivial⟩, trivial⟩
theorem compact_mem {zs : List Int} {y : Int} (h : y ∈ Lib.compact zs) : y ∈ zs := by
  unfold Lib.compact Lib.compactUpTo at h
  obtain ⟨j, hj, rfl⟩ := List.mem_map.1 h
  have hj2 := List.mem_range.1 (List.mem_filter.1 hj).1
  have : zs.toArray[j]! = zs[j] := by rw [getElem!_pos _ j (by simpa using hj2)]; simp
  rw [this]
  exact List.getElem_mem _
attribute [local irreducible] V.Sat V.DSat
theorem accept_bad (t : TrustL) (body : List UInt8) (l : List SigL) (h : okP body = false) : Fun Tryz.prog Γh 48 [t.v, .agg (sgdC body l)] (.tup [t.v, .agg (relC zeroRel), .int .i64 260]) := by
  have h1 := (parse_walk body).weak (Γ := Γh)
  rw [h] at h1
  dsimp only [cond_false] at h1
  refine Fun.mk 6 Tryz.func48 rfl Tryz.ntmps48 rfl rfl fun T w0 => ?_
  repeat' (first
    | ((with_reducible apply Sat.run (X := X64)); exact rfl; (first | exact True.intro | (exact phi) | skip))
    | ((with_reducible apply Sat.cond_t); exact rfl)
    | ((with_reducible apply Sat.call (h1)); exact rfl; exact rfl; kernel_rfl; (exact cnvX); exact rfl) | fail)
  exact Sat.fin (Sat.end3 rfl rfl rfl rfl rfl True.intro True.intro True.intro (.refl _ (pure_trust t)) conv_zeroRel (.refl _ trivial) (by first | exact .inl rfl | exact .inr rfl) (fun _ h => h)) rfl
theorem accept_c1 (t : TrustL) (body : List UInt8) (l : List SigL) (h : okP body = true) (hc1 : decide (t.now ≤ minV t.root.expiry (parseP body).expiry) = false) : Fun Tryz.prog Γh 48 [t.v, .agg (sgdC body l)] (.tup [t.v, .agg (relC zeroRel), .int .i64 271]) := by
  have h1 := (parse_walk body).weak (Γ := Γh)
  rw [h] at h1
  dsimp only [cond_true] at h1
  have k1 := a1_spec t (parseP body)
  rw [hc1] at k1
  generalize parseP body = r at h1 k1
  refine Fun.mk 6 Tryz.func48 rfl Tryz.ntmps48 rfl rfl fun T w0 => ?_
  repeat' (first
    | ((with_reducible apply Sat.run (X := X64)); exact rfl; (first | exact True.intro | (exact phi) | skip))
    | ((with_reducible apply Sat.cond_t); exact rfl)
    | ((with_reducible apply Sat.cond_f); exact rfl)
    | ((with_reducible apply Sat.call (h1)); exact rfl; exact rfl; kernel_rfl; (exact cnvX); exact rfl)
    | ((with_reducible apply Sat.inl 7 [] Tryz.func69 Tryz.ntmps69); exact rfl; exact rfl; kernel_rfl; exact rfl; exact rfl; exact rfl; exact rfl; ((repeat' (first | exact AllP.nil | with_reducible refine AllP.cons ?_ ?_)) <;> (first | exact True.intro | exact purX)); intro _ _)
    | ((with_reducible apply Sat.out1 (C := ⟨_, _, _, _, _, _, _, _, _⟩)); exact rfl; (first | exact .inl rfl | exact .inr rfl); exact rfl; (exact phi); exact rfl)
    | (with_reducible apply Sat.unroll 40)
    | ((with_reducible apply Sat.callR (k1)); exact rfl; exact rfl; exact rfl; kernel_rfl; (exact cnvX); exact rfl) | fail)
  exact Sat.fin (Sat.end3 rfl rfl rfl rfl rfl True.intro True.intro True.intro (.refl _ (pure_trust t)) conv_zeroRel (.refl _ trivial) (by first | exact .inl rfl | exact .inr rfl) (fun _ h => h)) rfl
theorem accept_c2 (t : TrustL) (body : List UInt8) (l : List SigL) (h : okP body = true) (hro : RoleOk t.root nmRel body l) (hc1 : decide (t.now ≤ minV t.root.expiry (parseP body).expiry) = true) (hc2 : enB t.root nmRel body l = false) : Fun Tryz.prog Γh 48 [t.v, .agg (sgdC body l)] (.tup [t.v, .agg (relC zeroRel), .int .i64 270]) := by
  have h1 := (parse_walk body).weak (Γ := Γh)
  rw [h] at h1
  dsimp only [cond_true] at h1
  have k1 := a1_spec t (parseP body)
  rw [hc1] at k1
  have k2 := a2_spec t body l hro
  rw [show enB t.root [114, 101, 108, 101, 97, 115, 101] body l = enB t.root nmRel body l from rfl, hc2] at k2
  generalize parseP body = r at h1 k1
  refine Fun.mk 6 Tryz.func48 rfl Tryz.ntmps48 rfl rfl fun T w0 => ?_
  repeat' (first
    | ((with_reducible apply Sat.run (X := X64)); exact rfl; (first | exact True.intro | (exact phi) | skip))
    | ((with_reducible apply Sat.cond_t); exact rfl)
    | ((with_reducible apply Sat.cond_f); exact rfl)
    | ((with_reducible apply Sat.call (h1)); exact rfl; exact rfl; kernel_rfl; (exact cnvX); exact rfl)
    | ((with_reducible apply Sat.inl 7 [] Tryz.func69 Tryz.ntmps69); exact rfl; exact rfl; kernel_rfl; exact rfl; exact rfl; exact rfl; exact rfl; ((repeat' (first | exact AllP.nil | with_reducible refine AllP.cons ?_ ?_)) <;> (first | exact True.intro | exact purX)); intro _ _)
    | ((with_reducible apply Sat.out1 (C := ⟨_, _, _, _, _, _, _, _, _⟩)); exact rfl; (first | exact .inl rfl | exact .inr rfl); exact rfl; (exact phi); exact rfl)
    | (with_reducible apply Sat.unroll 40)
    | (with_reducible apply Sat.again)
    | ((with_reducible apply Sat.callR (k1)); exact rfl; exact rfl; exact rfl; kernel_rfl; (exact cnvX); exact rfl)
    | ((with_reducible apply Sat.callR (k2)); exact rfl; exact rfl; exact rfl; kernel_rfl; (exact cnvX); exact rfl) | fail)
  exact Sat.fin (Sat.end3 rfl rfl rfl rfl rfl True.intro True.intro True.intro (.refl _ (pure_trust t)) conv_zeroRel (.refl _ trivial) (by first | exact .inl rfl | exact .inr rfl) (fun _ h => h)) rfl
theorem accept_c3 (t : TrustL) (body : List UInt8) (l : List SigL) (h : okP body = true) (hro : RoleOk t.root nmRel body l) (hc1 : decide (t.now ≤ minV t.root.expiry (parseP body).expiry) = true) (hc2 : enB t.root nmRel body l = true) (hc3 : decide (t.floor ≤ (parseP body).version) = false) : Fun Tryz.prog Γh 48 [t.v, .agg (sgdC body l)] (.tup [t.v, .agg (relC zeroRel), .int .i64 272]) := by
  have h1 := (parse_walk body).weak (Γ := Γh)
  rw [h] at h1
  dsimp only [cond_true] at h1
  have k1 := a1_spec t (parseP body)
  rw [hc1] at k1
  have k2 := a2_spec t body l hro
  rw [show enB t.root [114, 101, 108, 101, 97, 115, 101] body l = enB t.root nmRel body l from rfl, hc2] at k2
  have k3 := a3_spec t (parseP body)
  rw [hc3] at k3
  generalize parseP body = r at h1 k1 k3
  refine Fun.mk 6 Tryz.func48 rfl Tryz.ntmps48 rfl rfl fun T w0 => ?_
  repeat' (first
    | ((with_reducible apply Sat.run (X := X64)); exact rfl; (first | exact True.intro | (exact phi) | skip))
    | ((with_reducible apply Sat.cond_t); exact rfl)
    | ((with_reducible apply Sat.cond_f); exact rfl)
    | ((with_reducible apply Sat.call (h1)); exact rfl; exact rfl; kernel_rfl; (exact cnvX); exact rfl)
    | ((with_reducible apply Sat.inl 7 [] Tryz.func69 Tryz.ntmps69); exact rfl; exact rfl; kernel_rfl; exact rfl; exact rfl; exact rfl; exact rfl; ((repeat' (first | exact AllP.nil | with_reducible refine AllP.cons ?_ ?_)) <;> (first | exact True.intro | exact purX)); intro _ _)
    | ((with_reducible apply Sat.out1 (C := ⟨_, _, _, _, _, _, _, _, _⟩)); exact rfl; (first | exact .inl rfl | exact .inr rfl); exact rfl; (exact phi); exact rfl)
    | (with_reducible apply Sat.unroll 40)
    | (with_reducible apply Sat.again)
    | ((with_reducible apply Sat.callR (k1)); exact rfl; exact rfl; exact rfl; kernel_rfl; (exact cnvX); exact rfl)
    | ((with_reducible apply Sat.callR (k2)); exact rfl; exact rfl; exact rfl; kernel_rfl; (exact cnvX); exact rfl)
    | ((with_reducible apply Sat.callR (k3)); exact rfl; exact rfl; exact rfl; kernel_rfl; (exact cnvX); exact rfl) | fail)
  exact Sat.fin (Sat.end3 rfl rfl rfl rfl rfl True.intro True.intro True.intro (.refl _ (pure_trust t)) conv_zeroRel (.refl _ trivial) (by first | exact .inl rfl | exact .inr rfl) (fun _ h => h)) rfl
theorem accept_c4 (t : TrustL) (body : List UInt8) (l : List SigL) (h : okP body = true) (hro : RoleOk t.root nmRel body l) (hc1 : decide (t.now ≤ minV t.root.expiry (parseP body).expiry) = true) (hc2 : enB t.root nmRel body l = true) (hc3 : decide (t.floor ≤ (parseP body).version) = true) (hc4 : (t.gone.any fun y => decide ((parseP body).version = y)) = true) : Fun Tryz.prog Γh 48 [t.v, .agg (sgdC body l)] (.tup [t.v, .agg (relC zeroRel), .int .i64 273]) := by
  have h1 := (parse_walk body).weak (Γ := Γh)
  rw [h] at h1
  dsimp only [cond_true] at h1
  have k1 := a1_spec t (parseP body)
  rw [hc1] at k1
  have k2 := a2_spec t body l hro
  rw [show enB t.root [114, 101, 108, 101, 97, 115, 101] body l = enB t.root nmRel body l from rfl, hc2] at k2
  have k3 := a3_spec t (parseP body)
  rw [hc3] at k3
  have k4 := a4_spec t (parseP body)
  rw [hc4] at k4
  generalize parseP body = r at h1 k1 k3 k4
  refine Fun.mk 6 Tryz.func48 rfl Tryz.ntmps48 rfl rfl fun T w0 => ?_
  repeat' (first
    | ((with_reducible apply Sat.run (X := X64)); exact rfl; (first | exact True.intro | (exact phi) | skip))
    | ((with_reducible apply Sat.cond_t); exact rfl)
    | ((with_reducible apply Sat.cond_f); exact rfl)
    | ((with_reducible apply Sat.call (h1)); exact rfl; exact rfl; kernel_rfl; (exact cnvX); exact rfl)
    | ((with_reducible apply Sat.inl 7 [] Tryz.func69 Tryz.ntmps69); exact rfl; exact rfl; kernel_rfl; exact rfl; exact rfl; exact rfl; exact rfl; ((repeat' (first | exact AllP.nil | with_reducible refine AllP.cons ?_ ?_)) <;> (first | exact True.intro | exact purX)); intro _ _)
    | ((with_reducible apply Sat.out1 (C := ⟨_, _, _, _, _, _, _, _, _⟩)); exact rfl; (first | exact .inl rfl | exact .inr rfl); exact rfl; (exact phi); exact rfl)
    | (with_reducible apply Sat.unroll 40)
    | (with_reducible apply Sat.again)
    | ((with_reducible apply Sat.callR (k1)); exact rfl; exact rfl; exact rfl; kernel_rfl; (exact cnvX); exact rfl)
    | ((with_reducible apply Sat.callR (k2)); exact rfl; exact rfl; exact rfl; kernel_rfl; (exact cnvX); exact rfl)
    | ((with_reducible apply Sat.callR (k3)); exact rfl; exact rfl; exact rfl; kernel_rfl; (exact cnvX); exact rfl)
    | ((with_reducible apply Sat.callR (k4)); exact rfl; exact rfl; exact rfl; kernel_rfl; (exact cnvX); exact rfl) | fail)
  exact Sat.fin (Sat.end3 rfl rfl rfl rfl rfl True.intro True.intro True.intro (.refl _ (pure_trust t)) conv_zeroRel (.refl _ trivial) (by first | exact .inl rfl | exact .inr rfl) (fun _ h => h)) rfl
theorem accept_ok (t : TrustL) (body : List UInt8) (l : List SigL) (h : okP body = true) (hro : RoleOk t.root nmRel body l) (hc1 : decide (t.now ≤ minV t.root.expiry (parseP body).expiry) = true) (hc2 : enB t.root nmRel body l = true) (hc3 : decide (t.floor ≤ (parseP body).version) = true) (hc4 : (t.gone.any fun y => decide ((parseP body).version = y)) = false) (hg : t.gone.length ≤ 1000) (hg2 : (parseP body).gone.length ≤ 1000) : Fun Tryz.prog Γh 48 [t.v, .agg (sgdC body l)] (.tup [TrustL.v ⟨t.root, maxV t.floor (parseP body).floor, goneU t.gone (parseP body).gone, t.now⟩, .agg (relC (parseP body)), .int .i64 0]) := by
  have h1 := (parse_walk body).weak (Γ := Γh)
  rw [h] at h1
  dsimp only [cond_true] at h1
  have k1 := a1_spec t (parseP body)
  rw [hc1] at k1
  have k2 := a2_spec t body l hro
  rw [show enB t.root [114, 101, 108, 101, 97, 115, 101] body l = enB t.root nmRel body l from rfl, hc2] at k2
  have k3 := a3_spec t (parseP body)
  rw [hc3] at k3
  have k4 := a4_spec t (parseP body)
  rw [hc4] at k4
  generalize parseP body = r at h1 k1 k3 k4 hg2 ⊢
  obtain ⟨rt, fl, go, nw⟩ := t
  dsimp only at hg k1 k2 k3 k4 ⊢
  refine Fun.mk 7 Tryz.func48 rfl Tryz.ntmps48 rfl rfl fun T w0 => ?_
  repeat' (first
    | ((with_reducible apply Sat.run (X := X64)); exact rfl; (first | exact True.intro | (exact phi) | skip))
    | ((with_reducible apply Sat.cond_f); exact rfl)
    | ((with_reducible apply Sat.call (h1)); exact rfl; exact rfl; kernel_rfl; (exact cnvX); exact rfl)
    | ((with_reducible apply Sat.inl 7 [] Tryz.func69 Tryz.ntmps69); exact rfl; exact rfl; kernel_rfl; exact rfl; exact rfl; exact rfl; exact rfl; ((repeat' (first | exact AllP.nil | with_reducible refine AllP.cons ?_ ?_)) <;> (first | exact True.intro | exact purX)); intro _ _) | fail)
  with_reducible apply Sat.unroll 40
  repeat' (first
    | ((with_reducible apply Sat.run (X := X64)); exact rfl; (first | exact True.intro | (exact phi) | skip))
    | ((with_reducible apply Sat.cond_t); exact rfl)
    | ((with_reducible apply Sat.cond_f); exact rfl)
    | ((with_reducible apply Sat.out1 (C := ⟨_, _, _, _, _, _, _, _, _⟩)); exact rfl; (first | exact .inl rfl | exact .inr rfl); exact rfl; (exact phi); exact rfl)
    | (with_reducible apply Sat.again)
    | ((with_reducible apply Sat.callR (k1)); exact rfl; exact rfl; exact rfl; kernel_rfl; (exact cnvX); exact rfl)
    | ((with_reducible apply Sat.callR (k2)); exact rfl; exact rfl; exact rfl; kernel_rfl; (exact cnvX); exact rfl)
    | ((with_reducible apply Sat.callR (k3)); exact rfl; exact rfl; exact rfl; kernel_rfl; (exact cnvX); exact rfl)
    | ((with_reducible apply Sat.callR (k4)); exact rfl; exact rfl; exact rfl; kernel_rfl; (exact cnvX); exact rfl)
    | ((with_reducible apply Sat.inl 7 [] Tryz.func109 Tryz.ntmps109); exact rfl; exact rfl; kernel_rfl; exact rfl; exact rfl; exact rfl; exact rfl; ((repeat' (first | exact AllP.nil | with_reducible refine AllP.cons ?_ ?_)) <;> (first | exact True.intro | exact purX)); intro _ _) | fail)
  with_reducible apply Sat.unroll 40
  repeat' (first
    | ((with_reducible apply Sat.run (X := X64)); exact rfl; (first | exact True.intro | (exact phi) | skip))
    | ((with_reducible apply Sat.cond_t); exact rfl)
    | ((with_reducible apply Sat.cond_f); exact rfl)
    | (with_reducible apply Sat.again)
    | ((with_reducible apply Sat.growNil grow_spec); exact rfl; kernel_rfl; (constructor <;> (simp only [EV.len]; omega)); exact rfl) | fail)
  with_reducible apply Sat.unroll 40
  repeat' (first
    | ((with_reducible apply Sat.run (X := X64)); exact rfl; (first | exact True.intro | (exact phi) | skip))
    | ((with_reducible apply Sat.cond_t); exact rfl)
    | ((with_reducible apply Sat.cond_f); exact rfl)
    | (with_reducible apply Sat.again)
    | ((with_reducible apply Sat.out1 (C := ⟨_, _, _, _, _, _, _, _, _⟩)); exact rfl; (first | exact .inl rfl | exact .inr rfl); exact rfl; (exact phi); exact rfl) | fail)
  have hsort := sort_spec (go ++ r.gone) (by rw [List.length_append]; omega)
  have hlen : ((go ++ r.gone).mergeSort fun x y => decide (x ≤ y)).length = (go ++ r.gone).length := List.length_mergeSort _
  have hcomp := compact_spec ((go ++ r.gone).mergeSort fun x y => decide (x ≤ y)) (by rw [hlen, List.length_append]; omega)
  refine Sat.rowCall hsort rfl (by show 0 + go.length + r.gone.length = _; rw [List.length_append]; omega) (by kernel_rfl) rfl rfl (by omega) (fun y hy => List.mem_mergeSort.1 hy) rfl ?_
  repeat' (first
    | ((with_reducible apply Sat.run (X := X64)); exact rfl; (first | exact True.intro | (exact phi) | skip)) | fail)
  refine Sat.rowCall hcomp rfl (by show 0 + go.length + r.gone.length = _; rw [hlen, List.length_append]; omega) (by kernel_rfl) rfl rfl (Lib.compact_length_le _) (fun y hy => ?_) rfl ?_
  · exact compact_mem hy
  repeat' (first
    | ((with_reducible apply Sat.run (X := X64)); exact rfl; (first | exact True.intro | (exact phi) | skip))
    | ((with_reducible apply Sat.drawn); kernel_rfl)
    | ((with_reducible apply DSat.run (X := X64)); exact rfl; (first | exact True.intro | (exact phi) | skip))
    | ((with_reducible apply DSat.fin); kernel_rfl) | fail)
  exact Sat.fin (Sat.end3 rfl rfl rfl rfl rfl True.intro True.intro True.intro (.agg _ _ (.cons _ _ _ _ (.refl _ trivial) (.cons _ _ _ _ (.refl _ trivial) (.cons _ _ _ _ (.refl _ (fun _ _ => ⟨trivial, trivial⟩)) (.cons _ _ _ _ (.refl _ (fun _ _ => ⟨trivial, trivial, trivial, trivial⟩)) (.cons _ _ _ _ (.refl _ trivial) (.cons _ _ _ _ (.all _ _ _ _ _ rfl rfl rfl trivial) (.cons _ _ _ _ (.refl _ trivial) .nil)))))))) (.refl _ (pure_rel r)) (.refl _ trivial) (by first | exact .inl rfl | exact .inr rfl) (fun _ h => h)) rfl
theorem accept_spec (t : TrustL) (body : List UInt8) (l : List SigL) (hro : okP body = true → RoleOk t.root nmRel body l) (hg : t.gone.length ≤ 1000) (hg2 : (parseP body).gone.length ≤ 1000) : Fun Tryz.prog Γh 48 [t.v, .agg (sgdC body l)] (.tup [(accT t body l).v, .agg (relC (accR t body l)), .int .i64 (accE t body l)]) := by
  cases h : okP body with
  | false =>
    have e : accE t body l = 260 := by unfold accE; rw [if_pos h]
    have e1 : accT t body l = t := by unfold accT; rw [e, if_neg (by decide)]
    have e2 : accR t body l = zeroRel := by unfold accR; rw [e, if_neg (by decide)]
    rw [e, e1, e2]
    exact accept_bad t body l h
  | true =>
    have hro := hro h
    have e0 : ¬ okP body = false := by rw [h]; decide
    by_cases c1 : t.now ≤ minV t.root.expiry (parseP body).expiry
    · cases c2 : enB t.root nmRel body l with
      | false =>
        have e : accE t body l = 270 := by unfold accE; rw [if_neg e0, if_neg (not_not_intro c1), if_pos c2]
        have e1 : accT t body l = t := by unfold accT; rw [e, if_neg (by decide)]
        have e2 : accR t body l = zeroRel := by unfold accR; rw [e, if_neg (by decide)]
        rw [e, e1, e2]
        exact accept_c2 t body l h hro (decide_eq_true c1) c2
      | true =>
        have e3 : ¬ enB t.root nmRel body l = false := by rw [c2]; decide
        by_cases c3 : t.floor ≤ (parseP body).version
        · cases c4 : (t.gone.any fun y => decide ((parseP body).version = y)) with
          | true =>
            have e : accE t body l = 273 := by unfold accE; rw [if_neg e0, if_neg (not_not_intro c1), if_neg e3, if_neg (not_not_intro c3), if_pos c4]
            have e1 : accT t body l = t := by unfold accT; rw [e, if_neg (by decide)]
            have e2 : accR t body l = zeroRel := by unfold accR; rw [e, if_neg (by decide)]
            rw [e, e1, e2]
            exact accept_c4 t body l h hro (decide_eq_true c1) c2 (decide_eq_true c3) c4
          | false =>
            have e : accE t body l = 0 := by unfold accE; rw [if_neg e0, if_neg (not_not_intro c1), if_neg e3, if_neg (not_not_intro c3), if_neg (by rw [c4]; decide)]
            have e1 : accT t body l = ⟨t.root, maxV t.floor (parseP body).floor, goneU t.gone (parseP body).gone, t.now⟩ := by unfold accT; rw [e, if_pos rfl]
            have e2 : accR t body l = parseP body := by unfold accR; rw [e, if_pos rfl]
            rw [e, e1, e2]
            exact accept_ok t body l h hro (decide_eq_true c1) c2 (decide_eq_true c3) c4 hg hg2
        · have e : accE t body l = 272 := by unfold accE; rw [if_neg e0, if_neg (not_not_intro c1), if_neg e3, if_pos c3]
          have e1 : accT t body l = t := by unfold accT; rw [e, if_neg (by decide)]
          have e2 : accR t body l = zeroRel := by unfold accR; rw [e, if_neg (by decide)]
          rw [e, e1, e2]
          exact accept_c3 t body l h hro (decide_eq_true c1) c2 (decide_eq_false c3)
    · have e : accE t body l = 271 := by unfold accE; rw [if_neg e0, if_pos c1]
      have e1 : accT t body l = t := by unfold accT; rw [e, if_neg (by decide)]
      have e2 : accR t body l = zeroRel := by unfold accR; rw [e, if_neg (by decide)]
      rw [e, e1, e2]
      exact accept_c1 t body l h (decide_eq_false c1)
end Go.Proofs.YtokaegeediokoaaGreatDoor
end
section
namespace Go.Proofs.YtokaegeediokoaaGreatDoor
open Go.RowKit V
set_option maxRecDepth 100000
set_option maxHeartbeats 8000000
set_option linter.unusedSimpArgs false
@[reducible] def nmRoot : List UInt8 := [114, 111, 111, 116]
@[reducible] def RootL.c (r : RootL) : List SV := [.int .i64 r.gen, .int .i64 r.expiry, .ro (keysE r.keys), .ro (rolesE r.roles)]
@[reducible] def ropQ (r : RootL) : SV := .rop (.g 1 4 fun _ => r.c) 0 0
@[reducible] def ropL (l : List SigL) : SV := .rop (.g 1 1 fun _ => [.ro (sigsE l)]) 0 0
def latS (l : List SigL) : Nat → List SigL
  | 0 => []
  | x + 1 => latS l x ++ if decide (8 ≤ (l.getD x sig0).key) = true then [⟨(l.getD x sig0).key - 8, (l.getD x sig0).ch⟩] else []
theorem latS_len (l : List SigL) : ∀ x, (latS l x).length ≤ x
  | 0 => Nat.le_refl _
  | x + 1 => by
    have := latS_len l x
    rw [latS, List.length_append]
    split <;> simp <;> omega
def rotE (t : TrustL) (body : List UInt8) (l : List SigL) : Int :=
  if okQ body = false then 260 else if ¬ (parseQ body).gen = t.root.gen + 1 then 274 else if ¬ t.now ≤ (parseQ body).expiry then 271 else if enB t.root nmRoot body l = false then 270
  else if enB (parseQ body) nmRoot body (latS l l.length) = false then 270 else 0
def rotT (t : TrustL) (body : List UInt8) (l : List SigL) : TrustL := if rotE t body l = 0 then ⟨parseQ body, t.floor, t.gone, t.now⟩ else t
attribute [local irreducible] V.Sat V.DSat
theorem r1_spec (t : TrustL) (r : RootL) (h : t.root.gen ≤ 1000000) (h0 : 0 ≤ t.root.gen) : Fun Tryz.prog Γh 70 [ropQ r, ropT t] (.tup [.bool (decide (r.gen = t.root.gen + 1)), .int .i64 274]) := by
  refine Fun.mk 6 Tryz.func70 rfl Tryz.ntmps70 rfl rfl fun T w0 => ?_
  repeat' (first
    | ((with_reducible apply Sat.run (X := X64)); exact rfl; (first | exact True.intro | (exact phi) | skip)) | fail)
  (refine Sat.fin (Sat.end2 rfl rfl rfl rfl True.intro True.intro (.refl _ purX) (.refl _ purX) (by first | exact .inl rfl | exact .inr rfl) (fun _ h => h)) ?_; rfl)
theorem r2_spec (t : TrustL) (r : RootL) : Fun Tryz.prog Γh 71 [ropQ r, ropT t] (.tup [.bool (decide (t.now ≤ r.expiry)), .int .i64 271]) := by
  refine Fun.mk 6 Tryz.func71 rfl Tryz.ntmps71 rfl rfl fun T w0 => ?_
  repeat' (first
    | ((with_reducible apply Sat.run (X := X64)); exact rfl; (first | exact True.intro | (exact phi) | skip)) | fail)
  (refine Sat.fin (Sat.end2 rfl rfl rfl rfl True.intro True.intro (.refl _ purX) (.refl _ purX) (by first | exact .inl rfl | exact .inr rfl) (fun _ h => h)) ?_; rfl)
theorem r3_spec (t : TrustL) (body : List UInt8) (l : List SigL) (h : RoleOk t.root nmRoot body l) : Fun Tryz.prog Γh 72 [ropT t, ropS body l] (.tup [.bool (enB t.root nmRoot body l), .int .i64 270]) := by
  have h1 := enough_spec t.root [114, 111, 111, 116] body l h
  obtain ⟨⟨g, ex, ks, rs⟩, fl, go, nw⟩ := t
  refine Fun.mk 6 Tryz.func72 rfl Tryz.ntmps72 rfl rfl fun T w0 => ?_
  repeat' (first
    | ((with_reducible apply Sat.run (X := X64)); exact rfl; (first | exact True.intro | (exact phi) | skip))
    | ((with_reducible apply Sat.callR (h1)); exact rfl; exact rfl; exact rfl; kernel_rfl; (exact cnvX); exact rfl) | fail)
  (refine Sat.fin (Sat.end2 rfl rfl rfl rfl True.intro True.intro (.refl _ purX) (.refl _ purX) (by first | exact .inl rfl | exact .inr rfl) (fun _ h => h)) ?_; rfl)
theorem r4_spec (r : RootL) (body : List UInt8) (l l2 : List SigL) (h : RoleOk r nmRoot body l2) : Fun Tryz.prog Γh 74 [ropQ r, ropS body l, ropL l2] (.tup [.bool (enB r nmRoot body l2), .int .i64 270]) := by
  have h1 := enough_spec r [114, 111, 111, 116] body l2 h
  obtain ⟨g, ex, ks, rs⟩ := r
  refine Fun.mk 6 Tryz.func74 rfl Tryz.ntmps74 rfl rfl fun T w0 => ?_
  repeat' (first
    | ((with_reducible apply Sat.run (X := X64)); exact rfl; (first | exact True.intro | (exact phi) | skip))
    | ((with_reducible apply Sat.callR (h1)); exact rfl; exact rfl; exact rfl; kernel_rfl; (exact cnvX); exact rfl) | fail)
  (refine Sat.fin (Sat.end2 rfl rfl rfl rfl True.intro True.intro (.refl _ purX) (.refl _ purX) (by first | exact .inl rfl | exact .inr rfl) (fun _ h => h)) ?_; rfl)
theorem rotate_bad (t : TrustL) (body : List UInt8) (l : List SigL) (h : okQ body = false) : Fun Tryz.prog Γh 28 [t.v, .agg (sgdC body l)] (.tup [t.v, .int .i64 260]) := by
  have h1 := (parseRoot_walk body).weak (Γ := Γh)
  rw [h] at h1
  dsimp only [cond_false] at h1
  refine Fun.mk 6 Tryz.func28 rfl Tryz.ntmps28 rfl rfl fun T w0 => ?_
  repeat' (first
    | ((with_reducible apply Sat.run (X := X64)); exact rfl; (first | exact True.intro | (exact phi) | skip))
    | ((with_reducible apply Sat.cond_t); exact rfl)
    | ((with_reducible apply Sat.call (h1)); exact rfl; exact rfl; kernel_rfl; (exact cnvX); exact rfl) | fail)
  exact Sat.fin (Sat.end2 rfl rfl rfl rfl True.intro True.intro (.refl _ (pure_trust t)) (.refl _ trivial) (by first | exact .inl rfl | exact .inr rfl) (fun _ h => h)) rfl
theorem rotate_ok (t : TrustL) (body : List UInt8) (l : List SigL) (h : okQ body = true) (hg : t.root.gen ≤ 1000000) (hg0 : 0 ≤ t.root.gen) (hl : l.length ≤ 1000000) (hk : ∀ i, i < l.length → (l.getD i sig0).key ≤ 1000000) (hro : RoleOk t.root nmRoot body l) (hro2 : RoleOk (parseQ body) nmRoot body (latS l l.length)) : Fun Tryz.prog Γh 28 [t.v, .agg (sgdC body l)] (.tup [(rotT t body l).v, .int .i64 (rotE t body l)]) := by
  have h1 := (parseRoot_walk body).weak (Γ := Γh)
  rw [h] at h1
  dsimp only [cond_true] at h1
  have k1 := r1_spec t (parseQ body) hg hg0
  have k2 := r2_spec t (parseQ body)
  have k3 := r3_spec t body l hro
  have k4 := r4_spec (parseQ body) body l (latS l l.length) hro2
  have hres : (decide ((parseQ body).gen = t.root.gen + 1) = false ∧ rotE t body l = 274 ∧ rotT t body l = t) ∨ (decide ((parseQ body).gen = t.root.gen + 1) = true ∧ decide (t.now ≤ (parseQ body).expiry) = false ∧ rotE t body l = 271 ∧ rotT t body l = t) ∨
      (decide ((parseQ body).gen = t.root.gen + 1) = true ∧ decide (t.now ≤ (parseQ body).expiry) = true ∧ enB t.root nmRoot body l = false ∧ rotE t body l = 270 ∧ rotT t body l = t) ∨ (decide ((parseQ body).gen = t.root.gen + 1) = true ∧ decide (t.now ≤ (parseQ body).expiry) = true ∧ enB t.root nmRoot body l = true ∧ enB (parseQ body) nmRoot body (latS l l.length) = false ∧ rotE t body l = 270 ∧ rotT t body l = t) ∨
      (decide ((parseQ body).gen = t.root.gen + 1) = true ∧ decide (t.now ≤ (parseQ body).expiry) = true ∧ enB t.root nmRoot body l = true ∧ enB (parseQ body) nmRoot body (latS l l.length) = true ∧ rotE t body l = 0 ∧ rotT t body l = ⟨parseQ body, t.floor, t.gone, t.now⟩) := by
    unfold rotT rotE
    simp only [h, Bool.true_eq_false, if_false]
    generalize enB t.root nmRoot body l = B3
    generalize enB (parseQ body) nmRoot body (latS l l.length) = B4
    by_cases c1 : (parseQ body).gen = t.root.gen + 1
    · by_cases c2 : t.now ≤ (parseQ body).expiry
      · cases B3 with
        | false => exact .inr (.inr (.inl (by simp [c1, c2])))
        | true => cases B4 with
          | false => exact .inr (.inr (.inr (.inl (by simp [c1, c2]))))
          | true => exact .inr (.inr (.inr (.inr (by simp [c1, c2]))))
      · exact .inr (.inl (by simp [c1, c2]))
    · exact .inl (by simp [c1])
  generalize rotE t body l = e at hres ⊢
  generalize rotT t body l = T' at hres ⊢
  generalize enB t.root nmRoot body l = B3 at k3 hres
  generalize enB (parseQ body) nmRoot body (latS l l.length) = B4 at k4 hres
  generalize parseQ body = r at h1 k1 k2 k4 hres
  clear hro hro2 h
  refine Fun.mk 6 Tryz.func28 rfl Tryz.ntmps28 rfl rfl fun T w0 => ?_
  repeat' (first
    | ((with_reducible apply Sat.run (X := X64)); exact rfl; (first | exact True.intro | (exact phi) | skip))
    | ((with_reducible apply Sat.cond_f); exact rfl)
    | ((with_reducible apply Sat.call (h1)); exact rfl; exact rfl; kernel_rfl; (exact cnvX); exact rfl) | fail)
  apply Sat.loop (α := Nat) (fun x => x ≤ l.length) (fun x => l.length - x) 0 (fun x => [(23, .int .i64 (x : Int))]) (fun x => [(4, .cells 34 [.row 5 0 4 0 (latS l x).length]), (5, .row 66 (sigsE (latS l x)))]) [] [(5, none)] 1
  · intro x; exact rfl
  · intro x; exact rfl
  · exact rfl
  · exact rfl
  · ((repeat' (first | exact AllP.nil | with_reducible refine AllP.cons ?_ ?_)) <;> first | exact rfl | exact trivial | exact Int.natCast_add_one _ | (intro j _; simp [pureL, pureS, pureE]; done) | exact ⟨rfl, rfl, rfl, rfl⟩)
  · omega
  intro x hx
  have hle := latS_len l x
  by_cases hx2 : x < l.length
  · have hc : (x : Int) < (l.length : Int) := by omega
    have hkx := hk x hx2
    have es : latS l (x + 1) = latS l x ++ if decide (8 ≤ (l.getD x sig0).key) = true then [⟨(l.getD x sig0).key - 8, (l.getD x sig0).ch⟩] else [] := rfl
    cases hB : decide (8 ≤ (l.getD x sig0).key) with
    | true =>
      rw [hB, if_pos rfl] at es
      have hB2 : 8 ≤ (l.getD x sig0).key := of_decide_eq_true hB
      have hB3 : inR IntKind.i64 ((l.getD (x : Int).toNat sig0).key - 8) := by rw [Int.toNat_natCast]; exact inR_i64 (by omega) (by omega)
      generalize latS l x = L at hle es ⊢
      repeat' (first
        | ((with_reducible apply Sat.run (X := X64)); exact rfl; (first | exact True.intro | (exact phi) | skip))
        | ((with_reducible apply Sat.cond_pt); exact rfl; (try dsimp only [V.EV.sub, V.EV.len]); first | assumption | omega) | fail)
      refine Sat.back (x + 1) [(5, some 8)] rfl ?_ (by omega) (by omega)
      rw [es]
      ((repeat' (first | exact AllP.nil | with_reducible refine AllP.cons ?_ ?_)) <;> first | exact rfl | exact trivial | exact Int.natCast_add_one _ | (intro j _; simp [pureL, pureS, pureE]; done) | exact ⟨rfl, rfl, rfl, rfl⟩ | exact snocE (fun s : SigL => s.v) sig0 L ⟨(l.getD x sig0).key - 8, (l.getD x sig0).ch⟩ | exact snocP (fun s : SigL => s.v) sig_pure sig0 L ⟨(l.getD x sig0).key - 8, (l.getD x sig0).ch⟩ | (simp; done) | exact ⟨rfl, rfl, rfl, (by simp [EV.len, EV.sub])⟩)
    | false =>
      rw [hB] at es
      simp only [Bool.false_eq_true, if_false, List.append_nil] at es
      have hB2 : ¬ 8 ≤ (l.getD x sig0).key := of_decide_eq_false hB
      generalize latS l x = L at hle es ⊢
      repeat' (first
        | ((with_reducible apply Sat.run (X := X64)); exact rfl; (first | exact True.intro | (exact phi) | skip))
        | ((with_reducible apply Sat.cond_pt); exact rfl; (try dsimp only [V.EV.sub, V.EV.len]); first | assumption | omega)
        | ((with_reducible apply Sat.cond_pf); exact rfl; (try dsimp only [V.EV.sub, V.EV.len]); first | assumption | omega) | fail)
      refine Sat.back (x + 1) [(5, some 5)] rfl ?_ (by omega) (by omega)
      rw [es]
      ((repeat' (first | exact AllP.nil | with_reducible refine AllP.cons ?_ ?_)) <;> first | exact rfl | exact trivial | exact Int.natCast_add_one _ | (intro j _; simp [pureL, pureS, pureE]; done) | exact ⟨rfl, rfl, rfl, rfl⟩)
  · obtain rfl : x = l.length := by omega
    generalize latS l l.length = L at k4 hle ⊢
    ((with_reducible apply Sat.run (X := X64)); exact rfl; (first | exact True.intro | (exact phi)))
    ((with_reducible apply Sat.cond_pf); exact rfl; (dsimp only [V.EV.sub, V.EV.len]; omega))
    refine Sat.freezeC true 5 rfl ?_ ?_
    · (repeat' (first | exact AllP.nil | with_reducible refine AllP.cons ?_ ?_)) <;> first | exact rfl | exact trivial | exact .inl ⟨rfl, rfl, rfl⟩ | (intro _ _; exact sig_pure _) | (intro _ _; simp [pureL, pureS, pureE]; done) | (intro _ _; exact rfl) | (intro _; exact rfl) | (intro _; exact trivial) | (intro _; exact .inl ⟨rfl, rfl, rfl⟩) | (intro _ _ _; exact sig_pure _) | exact ⟨rfl, rfl, rfl, rfl⟩ | (intro _; exact ⟨rfl, rfl, rfl, rfl⟩)
    rcases hres with ⟨c1, rfl, rfl⟩ | ⟨c1, c2, rfl, rfl⟩ | ⟨c1, c2, rfl, rfl, rfl⟩ | ⟨c1, c2, rfl, rfl, rfl, rfl⟩ | ⟨c1, c2, rfl, rfl, rfl, rfl⟩
    · rw [c1] at k1
      repeat' (first
        | ((with_reducible apply Sat.run (X := X64)); exact rfl; (first | exact True.intro | (exact phi) | skip))
        | ((with_reducible apply Sat.cond_t); exact rfl)
        | ((with_reducible apply Sat.cond_f); exact rfl)
        | ((with_reducible apply Sat.inl 7 [] Tryz.func69 Tryz.ntmps69); exact rfl; exact rfl; kernel_rfl; exact rfl; exact rfl; exact rfl; exact rfl; ((repeat' (first | exact AllP.nil | with_reducible refine AllP.cons ?_ ?_)) <;> (first | exact True.intro | exact purX)); intro _ _)
        | ((with_reducible apply Sat.out1 (C := ⟨_, _, _, _, _, _, _, _, _⟩)); exact rfl; (first | exact .inl rfl | exact .inr rfl); exact rfl; (exact phi); exact rfl)
        | (with_reducible apply Sat.unroll 40)
        | ((with_reducible apply Sat.callR (k1)); exact rfl; exact rfl; exact rfl; kernel_rfl; (exact cnvX); exact rfl) | fail)
      exact Sat.fin (Sat.end2 rfl rfl rfl rfl True.intro True.intro (.refl _ (pure_trust T')) (.refl _ trivial) (by first | exact .inl rfl | exact .inr rfl) (fun _ h => h)) rfl
    · rw [c1] at k1
      rw [c2] at k2
      repeat' (first
        | ((with_reducible apply Sat.run (X := X64)); exact rfl; (first | exact True.intro | (exact phi) | skip))
        | ((with_reducible apply Sat.cond_t); exact rfl)
        | ((with_reducible apply Sat.cond_f); exact rfl)
        | ((with_reducible apply Sat.inl 7 [] Tryz.func69 Tryz.ntmps69); exact rfl; exact rfl; kernel_rfl; exact rfl; exact rfl; exact rfl; exact rfl; ((repeat' (first | exact AllP.nil | with_reducible refine AllP.cons ?_ ?_)) <;> (first | exact True.intro | exact purX)); intro _ _)
        | ((with_reducible apply Sat.out1 (C := ⟨_, _, _, _, _, _, _, _, _⟩)); exact rfl; (first | exact .inl rfl | exact .inr rfl); exact rfl; (exact phi); exact rfl)
        | (with_reducible apply Sat.unroll 40)
        | (with_reducible apply Sat.again)
        | ((with_reducible apply Sat.callR (k1)); exact rfl; exact rfl; exact rfl; kernel_rfl; (exact cnvX); exact rfl)
        | ((with_reducible apply Sat.callR (k2)); exact rfl; exact rfl; exact rfl; kernel_rfl; (exact cnvX); exact rfl) | fail)
      exact Sat.fin (Sat.end2 rfl rfl rfl rfl True.intro True.intro (.refl _ (pure_trust T')) (.refl _ trivial) (by first | exact .inl rfl | exact .inr rfl) (fun _ h => h)) rfl
    · rw [c1] at k1
      rw [c2] at k2
      repeat' (first
        | ((with_reducible apply Sat.run (X := X64)); exact rfl; (first | exact True.intro | (exact phi) | skip))
        | ((with_reducible apply Sat.cond_t); exact rfl)
        | ((with_reducible apply Sat.cond_f); exact rfl)
        | ((with_reducible apply Sat.inl 7 [] Tryz.func69 Tryz.ntmps69); exact rfl; exact rfl; kernel_rfl; exact rfl; exact rfl; exact rfl; exact rfl; ((repeat' (first | exact AllP.nil | with_reducible refine AllP.cons ?_ ?_)) <;> (first | exact True.intro | exact purX)); intro _ _)
        | ((with_reducible apply Sat.out1 (C := ⟨_, _, _, _, _, _, _, _, _⟩)); exact rfl; (first | exact .inl rfl | exact .inr rfl); exact rfl; (exact phi); exact rfl)
        | (with_reducible apply Sat.unroll 40)
        | (with_reducible apply Sat.again)
        | ((with_reducible apply Sat.callR (k1)); exact rfl; exact rfl; exact rfl; kernel_rfl; (exact cnvX); exact rfl)
        | ((with_reducible apply Sat.callR (k2)); exact rfl; exact rfl; exact rfl; kernel_rfl; (exact cnvX); exact rfl)
        | ((with_reducible apply Sat.callR (k3)); exact rfl; exact rfl; exact rfl; kernel_rfl; (exact cnvX); exact rfl) | fail)
      exact Sat.fin (Sat.end2 rfl rfl rfl rfl True.intro True.intro (.refl _ (pure_trust T')) (.refl _ trivial) (by first | exact .inl rfl | exact .inr rfl) (fun _ h => h)) rfl
    · rw [c1] at k1
      rw [c2] at k2
      repeat' (first
        | ((with_reducible apply Sat.run (X := X64)); exact rfl; (first | exact True.intro | (exact phi) | skip))
        | ((with_reducible apply Sat.cond_t); exact rfl)
        | ((with_reducible apply Sat.cond_f); exact rfl)
        | ((with_reducible apply Sat.inl 7 [] Tryz.func69 Tryz.ntmps69); exact rfl; exact rfl; kernel_rfl; exact rfl; exact rfl; exact rfl; exact rfl; ((repeat' (first | exact AllP.nil | with_reducible refine AllP.cons ?_ ?_)) <;> (first | exact True.intro | exact purX)); intro _ _)
        | ((with_reducible apply Sat.out1 (C := ⟨_, _, _, _, _, _, _, _, _⟩)); exact rfl; (first | exact .inl rfl | exact .inr rfl); exact rfl; (exact phi); exact rfl)
        | (with_reducible apply Sat.unroll 40)
        | (with_reducible apply Sat.again)
        | ((with_reducible apply Sat.callR (k1)); exact rfl; exact rfl; exact rfl; kernel_rfl; (exact cnvX); exact rfl)
        | ((with_reducible apply Sat.callR (k2)); exact rfl; exact rfl; exact rfl; kernel_rfl; (exact cnvX); exact rfl)
        | ((with_reducible apply Sat.callR (k3)); exact rfl; exact rfl; exact rfl; kernel_rfl; (exact cnvX); exact rfl)
        | ((with_reducible apply Sat.callR (k4)); exact rfl; exact rfl; exact rfl; kernel_rfl; (exact cnvX); exact rfl) | fail)
      exact Sat.fin (Sat.end2 rfl rfl rfl rfl True.intro True.intro (.refl _ (pure_trust T')) (.refl _ trivial) (by first | exact .inl rfl | exact .inr rfl) (fun _ h => h)) rfl
    · rw [c1] at k1
      rw [c2] at k2
      repeat' (first
        | ((with_reducible apply Sat.run (X := X64)); exact rfl; (first | exact True.intro | (exact phi) | skip))
        | ((with_reducible apply Sat.cond_t); exact rfl)
        | ((with_reducible apply Sat.cond_f); exact rfl)
        | ((with_reducible apply Sat.inl 7 [] Tryz.func69 Tryz.ntmps69); exact rfl; exact rfl; kernel_rfl; exact rfl; exact rfl; exact rfl; exact rfl; ((repeat' (first | exact AllP.nil | with_reducible refine AllP.cons ?_ ?_)) <;> (first | exact True.intro | exact purX)); intro _ _)
        | ((with_reducible apply Sat.out1 (C := ⟨_, _, _, _, _, _, _, _, _⟩)); exact rfl; (first | exact .inl rfl | exact .inr rfl); exact rfl; (exact phi); exact rfl)
        | (with_reducible apply Sat.unroll 40)
        | (with_reducible apply Sat.again)
        | ((with_reducible apply Sat.callR (k1)); exact rfl; exact rfl; exact rfl; kernel_rfl; (exact cnvX); exact rfl)
        | ((with_reducible apply Sat.callR (k2)); exact rfl; exact rfl; exact rfl; kernel_rfl; (exact cnvX); exact rfl)
        | ((with_reducible apply Sat.callR (k3)); exact rfl; exact rfl; exact rfl; kernel_rfl; (exact cnvX); exact rfl)
        | ((with_reducible apply Sat.callR (k4)); exact rfl; exact rfl; exact rfl; kernel_rfl; (exact cnvX); exact rfl) | fail)
      exact Sat.fin (Sat.end2 rfl rfl rfl rfl True.intro True.intro (.refl _ (pure_trust ⟨r, t.floor, t.gone, t.now⟩)) (.refl _ trivial) (by first | exact .inl rfl | exact .inr rfl) (fun _ h => h)) rfl
theorem rotate_spec (t : TrustL) (body : List UInt8) (l : List SigL) (hg : t.root.gen ≤ 1000000) (hg0 : 0 ≤ t.root.gen) (hl : l.length ≤ 1000000) (hk : ∀ i, i < l.length → (l.getD i sig0).key ≤ 1000000) (hro : okQ body = true → RoleOk t.root nmRoot body l) (hro2 : okQ body = true → RoleOk (parseQ body) nmRoot body (latS l l.length)) : Fun Tryz.prog Γh 28 [t.v, .agg (sgdC body l)] (.tup [(rotT t body l).v, .int .i64 (rotE t body l)]) := by
  cases h : okQ body with
  | false =>
    have e : rotE t body l = 260 := by unfold rotE; rw [if_pos h]
    have e1 : rotT t body l = t := by unfold rotT; rw [e, if_neg (by decide)]
    rw [e, e1]
    exact rotate_bad t body l h
  | true => exact rotate_ok t body l h hg hg0 hl hk (hro h) (hro2 h)
end Go.Proofs.YtokaegeediokoaaGreatDoor
end
section
namespace Go.Proofs.YtokaegeediokoaaGreatDoor
open Go.RowKit V
set_option maxRecDepth 100000
set_option maxHeartbeats 8000000
set_option linter.unusedSimpArgs false
section
variable {C : V.Ctx} {Q0 : Exit → Act → World → Prop} {F F' : V.Tr} {M M' : V.Mem} {ids : List Nat} {k : List V.Kont} {e : V.Ex}
theorem V.Sat.nestX {φ : List Prop} (X Y : Nat) (g : Nat → List SV) (hz : nst C.wide C.pins ids X Y g F M = some ⟨F', M', φ⟩) (hφ : AllP φ) (hn : Sat C Q0 (.ext e F' M' ids k)) : Sat C Q0 (.ext e F M ids k) := by
  intro U E a w _ hst
  obtain ⟨U', E', h1, h2⟩ := nst_ok hz hφ hst
  exact hn U' E' a w h1 h2
theorem V.Sat.rerow {pos : Pos} {id : Nat} {ty : TypeId} {ev ev' : EV} (hf : find M id = some (.row ty ev)) (hl : ev'.len = ev.len) (hz : ev'.sz = ev.sz) (hI : ∀ E T w i cs, i < ev.len → Items E T w (ev.items i) cs → Items E T w (ev'.items i) cs) (hu : upd M id (.row ty ev') = some M') (h : Sat C Q0 (pos.at F M' ids)) : Sat C Q0 (pos.at F M ids) := by
  have key : ∀ U E a w, St C F M U E a w → St C F M' U E a w := fun U E a w hst => by
    have hfu := find_upd hu
    have hsome : ∀ j, (find M' j).isSome = true → (find M j).isSome = true := fun j hj => by
      rw [hfu] at hj
      split at hj
      · rename_i e; rw [e, hf]; rfl
      · exact hj
    have hT : ∀ b, b < w.heap.size → trk C.T0 M' E b → trk C.T0 M E b := by
      rintro b _ (⟨j, B, q1, q2⟩ | q)
      · obtain ⟨B', hB'⟩ := Option.isSome_iff_exists.1 (hsome j (by rw [q1]; rfl))
        exact .inl ⟨j, B', hB', q2⟩
      · exact .inr q
    refine hst.go (fun _ _ h => h) hT (Chg.refl _ w) rfl rfl rfl ⟨fun j B hj => ?_, fun j j' b h1 h2 => hst.mem.inj j j' b (hsome j h1) (hsome j' h2)⟩ (fun j b h1 h2 => hst.own j b (hsome j h1) h2) hst.fresh
    rw [hfu] at hj
    split at hj
    · rename_i e
      subst e
      cases hj
      rcases hst.mem.blk _ _ hf with ⟨b, q1, q2, cs, c, q3, q4, q5, q6, q7⟩ | ⟨q0, t, e, q2, q3⟩
      · refine .inl ⟨b, q1, q2, cs, c, q3, ?_, ?_, ?_, ?_⟩
        · rw [hl, hz]; exact q4
        · rw [hl, hz]; exact q5
        · rw [hl, hz]; exact q6
        · rw [hl]; exact fun i hi => hI _ _ _ _ _ hi ((q7 i hi).mono (fun _ _ h => h) hT (Chg.refl _ w))
      · cases q2
        exact .inr ⟨q0, _, _, rfl, hl.trans q3⟩
    · rcases hst.mem.blk _ _ hj with ⟨b, q1, q2, q3⟩ | q
      · exact .inl ⟨b, q1, q2, q3.mono (fun _ _ h => h) hT (Chg.refl _ w) rfl⟩
      · exact .inr q
  cases pos with
  | code c k => exact fun U E a w hs hst => h U E a w hs (key U E a w hst)
  | reg full rest k => exact fun U E a w hs hst => h U E a w hs (key U E a w hst)
  | ext e k => exact fun U E a w hs hst => h U E a w hs (key U E a w hst)
end
@[reducible] def accC (t : TrustL) (r : Rel) (e : Int) : List SV := [.int .i64 t.root.gen, .int .i64 t.root.expiry, .ro (keysE t.root.keys), .ro (rolesE t.root.roles), .int .i64 t.floor, .ro (.ints .i64 t.gone), .int .i64 t.now,
  .int .i64 r.version, .int .i64 r.floor, .int .i64 r.expiry, .int .i64 r.size, .arr 32 (.u8 r.image), .int .i64 r.chunks, .arr 32 (.u8 r.tree), .ro (.ints .i64 r.gone), .ro (partsE r.parts), .int .i64 e]
theorem pure_acc (t : TrustL) (r : Rel) (e : Int) : pureS (.agg (accC t r e)) := ⟨trivial, trivial, fun _ _ => ⟨trivial, trivial⟩, fun _ _ => ⟨trivial, trivial, trivial, trivial⟩, trivial, trivial, trivial, trivial, trivial, trivial, trivial, trivial, trivial, trivial, trivial, fun _ _ => ⟨trivial, trivial, trivial⟩, trivial, trivial⟩
attribute [local irreducible] V.Sat V.DSat
theorem laccept_spec (t : TrustL) (body : List UInt8) (l : List SigL) (hro : okP body = true → RoleOk t.root nmRel body l) (hg : t.gone.length ≤ 1000) (hg2 : (parseP body).gone.length ≤ 1000) : Fun Tryz.prog Γh 17 [t.v, .agg (sgdC body l)] (.agg (accC (accT t body l) (accR t body l) (accE t body l))) := by
  have h1 := accept_spec t body l hro hg hg2
  clear hro hg hg2
  generalize accT t body l = t2 at h1 ⊢
  generalize accR t body l = r2 at h1 ⊢
  generalize accE t body l = e2 at h1 ⊢
  refine Fun.mk 6 Tryz.func17 rfl Tryz.ntmps17 rfl rfl fun T w0 => ?_
  repeat' (first
    | ((with_reducible apply Sat.run (X := X64)); exact rfl; (first | exact True.intro | (exact phi) | skip))
    | ((with_reducible apply Sat.call (h1)); exact rfl; exact rfl; kernel_rfl; (exact cnvX); exact rfl) | fail)
  exact Sat.fin (Sat.end1 rfl rfl rfl True.intro (.refl _ (pure_acc t2 r2 e2)) (by first | exact .inl rfl | exact .inr rfl) (fun _ h => h)) rfl
def plainL : RootL := ⟨3, 10, [1 :: List.replicate 31 0, 2 :: List.replicate 31 0], [⟨nmRel, [0, 1], 1⟩, ⟨nmRoot, [0], 1⟩]⟩
def plainR (i : Nat) : List SV := [.str (plainL.roles.getD i role0).name, .ro (.ints .i64 (plainL.roles.getD i role0).keys), .int .i64 (plainL.roles.getD i role0).need]
theorem plain_spec {Γ : Glob} : Fun Tryz.prog Γ 32 [] plainL.v := by
  refine Fun.mk 6 Tryz.func32 rfl Tryz.ntmps32 rfl rfl fun T w0 => ?_
  repeat' (first
    | ((with_reducible apply Sat.run (X := X64)); exact rfl; (first | exact True.intro | (exact phi) | skip)) | fail)
  refine Sat.rerow (pos := .ext _ _) (id := 1) (ty := 40) (ev' := keysE plainL.keys) rfl rfl rfl (fun E T w i cs hi h => ?_) rfl ?_
  · have hi : i < 2 := hi
    rcases i with _ | _ | i
    · exact items_bytes (1 :: List.replicate 31 0) [] cs h
    · exact items_bytes (2 :: List.replicate 31 0) [] cs h
    · omega
  refine Sat.nestX 2 4 (nthL [[SV.str nmRel, .ro (.ints .i64 [0, 1]), .int .i64 1], [.str nmRoot, SV.row 3 0 (0 + 1) 0 1, .int .i64 1]]) rfl ?_ ?_
  · (repeat' (first | exact AllP.nil | with_reducible refine AllP.cons ?_ ?_)) <;> first | exact rfl | exact trivial | exact ⟨rfl, rfl, rfl, rfl⟩ | (intro _ _; simp [pureL, pureS, pureE]; done) | exact .inl ⟨rfl, rfl, rfl⟩ | skip
    intro i hi
    rcases i with _ | _ | i
    · refine ⟨_, rfl, ?_⟩
      simp only [List.cons_append, List.nil_append]
      (repeat' (first | exact AllP.nil | with_reducible refine AllP.cons ?_ ?_)) <;> first | exact rfl | exact trivial | (simp [EV.len, EV.sub, EV.sz, pureE, plainL, role0]; done)
    · refine ⟨_, rfl, ?_⟩
      simp only [List.cons_append, List.nil_append]
      (repeat' (first | exact AllP.nil | with_reducible refine AllP.cons ?_ ?_)) <;> first | exact rfl | exact trivial | (simp [EV.len, EV.sub, EV.sz, pureE, plainL, role0]; done)
    · omega
  refine Sat.nestX 3 4 plainR rfl ?_ ?_
  · (repeat' (first | exact AllP.nil | with_reducible refine AllP.cons ?_ ?_)) <;> first | exact rfl | exact trivial | exact ⟨rfl, rfl, rfl, rfl⟩ | (intro _ _; simp [pureL, pureS, pureE]; done) | exact .inl ⟨rfl, rfl, rfl⟩ | skip
    intro i hi
    rcases i with _ | _ | i
    · refine ⟨_, rfl, ?_⟩
      simp only [List.cons_append, List.nil_append]
      (repeat' (first | exact AllP.nil | with_reducible refine AllP.cons ?_ ?_)) <;> first | exact rfl | exact trivial | (simp [EV.len, EV.sub, EV.sz, pureE, plainL, role0]; done)
    · refine ⟨_, rfl, ?_⟩
      simp only [List.cons_append, List.nil_append]
      (repeat' (first | exact AllP.nil | with_reducible refine AllP.cons ?_ ?_)) <;> first | exact rfl | exact trivial | (simp [EV.len, EV.sub, EV.sz, pureE, plainL, role0]; done)
    · omega
  refine Sat.fin (Sat.end1 rfl rfl rfl True.intro (.agg _ _ (.cons _ _ _ _ (.refl _ trivial) (.cons _ _ _ _ (.refl _ trivial) (.cons _ _ _ _ (.all _ _ _ _ _ rfl rfl rfl (fun _ _ => ⟨trivial, trivial⟩)) (.cons _ _ _ _ (.all _ _ _ _ _ rfl rfl rfl (fun _ _ => ⟨trivial, trivial, trivial, trivial⟩)) .nil))))) (by first | exact .inl rfl | exact .inr rfl) (fun _ h => h)) ?_
  rfl
end Go.Proofs.YtokaegeediokoaaGreatDoor
end
section
namespace Go.Proofs.YtokaegeediokoaaGreatDoor
open Go.RowKit V
set_option maxRecDepth 100000
set_option maxHeartbeats 8000000
set_option linter.unusedSimpArgs false
def goneL (v g : Int) : List Int := if g = v then [] else [g]
def relW (a b c d : UInt8) : Rel := ⟨1 + (a.toNat : Int) % 20, (b.toNat : Int) % (1 + (a.toNat : Int) % 20 + 1), 95 + (c.toNat : Int) % 10, 0, List.replicate 32 0, 1, List.replicate 32 0, goneL (1 + (a.toNat : Int) % 20) ((d.toNat : Int) % 24), []⟩
@[reducible] def w4 (a b c d : UInt8) : SV := .agg [.int .u8 (a.toNat : Int), .int .u8 (b.toNat : Int), .int .u8 (c.toNat : Int), .int .u8 (d.toNat : Int)]
attribute [local irreducible] V.Sat V.DSat
theorem rrel_spec {Γ : Glob} (a b c d : UInt8) : Fun Tryz.prog Γ 14 [w4 a b c d] (relW a b c d).v := by
  have ha := a.toNat_lt
  have hb := b.toNat_lt
  have hc := c.toNat_lt
  have hd := d.toNat_lt
  unfold relW goneL
  by_cases h : (d.toNat : Int) % 24 = 1 + (a.toNat : Int) % 20
  · rw [if_pos h]
    refine Fun.mk 6 Tryz.func14 rfl Tryz.ntmps14 rfl rfl fun T w0 => ?_
    repeat' (first
      | ((with_reducible apply Sat.run (X := X64)); exact rfl; (first | exact True.intro | (exact phi) | skip))
      | ((with_reducible apply Sat.cond_pf); exact rfl; (try dsimp only [V.EV.sub, V.EV.len]); first | assumption | omega) | fail)
    exact Sat.fin (Sat.end1 rfl rfl rfl True.intro (.agg _ _ (.cons _ _ _ _ (.refl _ trivial) (.cons _ _ _ _ (.refl _ trivial) (.cons _ _ _ _ (.refl _ trivial) (.cons _ _ _ _ (.refl _ trivial) (.cons _ _ _ _ (.refl _ trivial) (.cons _ _ _ _ (.refl _ trivial) (.cons _ _ _ _ (.refl _ trivial) (.cons _ _ _ _ (.nils (.ints .i64 []) rfl) (.cons _ _ _ _ (.nils (partsE []) rfl) .nil)))))))))) (by first | exact .inl rfl | exact .inr rfl) (fun _ h => h)) rfl
  · rw [if_neg h]
    refine Fun.mk 6 Tryz.func14 rfl Tryz.ntmps14 rfl rfl fun T w0 => ?_
    repeat' (first
      | ((with_reducible apply Sat.run (X := X64)); exact rfl; (first | exact True.intro | (exact phi) | skip))
      | ((with_reducible apply Sat.cond_pt); exact rfl; (try dsimp only [V.EV.sub, V.EV.len]); first | assumption | omega) | fail)
    exact Sat.fin (Sat.end1 rfl rfl rfl True.intro (.agg _ _ (.cons _ _ _ _ (.refl _ trivial) (.cons _ _ _ _ (.refl _ trivial) (.cons _ _ _ _ (.refl _ trivial) (.cons _ _ _ _ (.refl _ trivial) (.cons _ _ _ _ (.refl _ trivial) (.cons _ _ _ _ (.refl _ trivial) (.cons _ _ _ _ (.refl _ trivial) (.cons _ _ _ _ (.all _ _ _ _ _ rfl rfl rfl trivial) (.cons _ _ _ _ (.nils (partsE []) rfl) .nil)))))))))) (by first | exact .inl rfl | exact .inr rfl) (fun _ h => h)) rfl
def rolK (m : UInt8) : Nat → List Int
  | 0 => []
  | x + 1 => rolK m x ++ if bitU m x = true ∨ (x = 2 ∧ (rolK m x).length = 0) then [(x : Int)] else []
theorem rolK_len (m : UInt8) : ∀ x, (rolK m x).length ≤ x
  | 0 => Nat.le_refl _
  | x + 1 => by
    have := rolK_len m x
    rw [rolK, List.length_append]
    split <;> simp <;> omega
theorem rolK_pos (m : UInt8) : 1 ≤ (rolK m 3).length := by
  rw [rolK]
  by_cases h : (rolK m 2).length = 0
  · rw [if_pos (.inr ⟨rfl, h⟩)]; simp
  · rw [List.length_append]; omega
def rootM (g : Int) (m nd : UInt8) : RootL := ⟨g, 100, [pubL (seed 0), pubL (seed 1), pubL (seed 2)], [⟨nmRel, rolK m 3, 1 + (nd.toNat : Int) % ((rolK m 3).length : Int)⟩, ⟨nmRoot, [0], 1⟩]⟩
theorem pure_keys3 (k0 k1 k2 : List UInt8) (i : Nat) (_ : i < 3) : pureL (nthL [[SV.arr 32 (EV.u8 k0)], [SV.arr 32 (EV.u8 k1)], [SV.arr 32 (EV.u8 k2)]] i) := by
  rcases i with _ | _ | _ | i <;> first | exact ⟨trivial, trivial⟩ | exact trivial
theorem rroot_core {k0 k1 k2 : List UInt8} (h0 : Fun Tryz.prog Γh 37 [.int .i64 0] (.arr 32 (.u8 k0))) (h1 : Fun Tryz.prog Γh 37 [.int .i64 1] (.arr 32 (.u8 k1))) (h2 : Fun Tryz.prog Γh 37 [.int .i64 2] (.arr 32 (.u8 k2))) (g : Int) (m nd : UInt8) :
    Fun Tryz.prog Γh 11 [.int .i64 g, .int .u8 (m.toNat : Int), .int .u8 (nd.toNat : Int)] (RootL.v ⟨g, 100, [k0, k1, k2], [⟨nmRel, rolK m 3, 1 + (nd.toNat : Int) % ((rolK m 3).length : Int)⟩, ⟨nmRoot, [0], 1⟩]⟩) := by
  have hn := nd.toNat_lt
  refine Fun.mk 6 Tryz.func11 rfl Tryz.ntmps11 rfl rfl fun T w0 => ?_
  repeat' (first
    | ((with_reducible apply Sat.run (X := X64)); exact rfl; (first | exact True.intro | (exact phi) | skip))
    | ((with_reducible apply Sat.callR (h0)); exact rfl; exact rfl; exact rfl; kernel_rfl; (exact cnvX); exact rfl)
    | ((with_reducible apply Sat.callR (h1)); exact rfl; exact rfl; exact rfl; kernel_rfl; (exact cnvX); exact rfl)
    | ((with_reducible apply Sat.callR (h2)); exact rfl; exact rfl; exact rfl; kernel_rfl; (exact cnvX); exact rfl) | fail)
  apply Sat.loop (α := Nat) (fun x => x ≤ 3) (fun x => 3 - x) 0 (fun x => [(9, .int .i64 (x : Int))]) (fun x => [(3, .cells 56 [.str nmRel, .row 4 0 1 0 (rolK m x).length, .int .i64 0]), (4, .row 3 (.ints .i64 (rolK m x)))]) [] [(4, none)] 1
  · intro x; exact rfl
  · intro x; exact rfl
  · exact rfl
  · exact rfl
  · ((repeat' (first | exact AllP.nil | with_reducible refine AllP.cons ?_ ?_)) <;> first | exact rfl | exact trivial | exact Int.natCast_add_one _ | (intro j _; simp [pureL, pureS, pureE]; done) | exact ⟨rfl, rfl, rfl, rfl⟩ | exact pure_keys3 k0 k1 k2)
  · omega
  intro x hx
  have hle := rolK_len m x
  by_cases hx2 : x < 3
  · have hc : (x : Int) < 3 := by omega
    have hbit := u8_bit m x (by omega)
    have es : rolK m (x + 1) = rolK m x ++ if bitU m x = true ∨ (x = 2 ∧ (rolK m x).length = 0) then [(x : Int)] else [] := rfl
    have hcnd : (bif decide (IntKind.u8.wrap ((BitVec.ofInt IntKind.u8.bits (((m.toNat : Int)).fdiv (2 ^ min ((x : Int)).toNat IntKind.u8.bits)) &&& BitVec.ofInt IntKind.u8.bits 1).toNat : Nat) = 1) then true else bif decide ((x : Int) = 2) then decide (((rolK m x).length : Int) = 0) else false) = decide (bitU m x = true ∨ (x = 2 ∧ (rolK m x).length = 0)) := by
      rw [hbit]
      by_cases e1 : x = 2 <;> by_cases e2 : (rolK m x).length = 0 <;> cases bitU m x <;> simp [e1, e2] <;> omega
    by_cases hB : bitU m x = true ∨ (x = 2 ∧ (rolK m x).length = 0)
    · rw [if_pos hB] at es
      rw [decide_eq_true hB] at hcnd
      generalize rolK m x = L at hle es hcnd ⊢
      repeat' (first
        | ((with_reducible apply Sat.cond); exact rfl; (intro h; clear h; rotate_left); (intro h; exact absurd (h.symm.trans hcnd) (by decide)))
        | ((with_reducible apply Sat.run (X := X64)); exact rfl; (first | exact True.intro | (exact phi) | skip))
        | ((with_reducible apply Sat.cond_pt); exact rfl; (try dsimp only [V.EV.sub, V.EV.len]); first | assumption | omega) | fail)
      refine Sat.back (x + 1) [(4, some 6)] rfl ?_ (by omega) (by omega)
      rw [es]
      ((repeat' (first | exact AllP.nil | with_reducible refine AllP.cons ?_ ?_)) <;> first | exact rfl | exact trivial | exact Int.natCast_add_one _ | (intro j _; simp [pureL, pureS, pureE]; done) | exact ⟨rfl, rfl, rfl, rfl⟩ | exact pure_keys3 k0 k1 k2 | (simp; done) | exact ⟨rfl, rfl, rfl, (by simp [EV.len, EV.sub])⟩)
    · rw [if_neg hB, List.append_nil] at es
      rw [decide_eq_false hB] at hcnd
      generalize rolK m x = L at hle es hcnd ⊢
      repeat' (first
        | ((with_reducible apply Sat.cond); exact rfl; (intro h; exact absurd (h.symm.trans hcnd) (by decide)); (intro h; clear h))
        | ((with_reducible apply Sat.run (X := X64)); exact rfl; (first | exact True.intro | (exact phi) | skip))
        | ((with_reducible apply Sat.cond_pt); exact rfl; (try dsimp only [V.EV.sub, V.EV.len]); first | assumption | omega) | fail)
      refine Sat.back (x + 1) [] rfl ?_ (by omega) (by omega)
      rw [es]
      ((repeat' (first | exact AllP.nil | with_reducible refine AllP.cons ?_ ?_)) <;> first | exact rfl | exact trivial | exact Int.natCast_add_one _ | (intro j _; simp [pureL, pureS, pureE]; done) | exact ⟨rfl, rfl, rfl, rfl⟩ | exact pure_keys3 k0 k1 k2)
  · obtain rfl : x = 3 := by omega
    have hpos := rolK_pos m
    generalize rolK m 3 = K at hle hpos ⊢
    have hmod : inR IntKind.i64 (1 + (nd.toNat : Int) % (K.length : Int)) := by
      have h1 := Int.emod_nonneg (nd.toNat : Int) (b := (K.length : Int)) (by omega)
      have h2 := Int.emod_lt_of_pos (nd.toNat : Int) (b := (K.length : Int)) (by omega)
      exact inR_i64 (by omega) (by omega)
    repeat' (first
      | ((with_reducible apply Sat.run (X := X64)); exact rfl; (first | exact True.intro | (exact phi) | skip))
      | ((with_reducible apply Sat.cond_f); exact rfl) | fail)
    refine Sat.rerow (pos := .ext _ _) (id := 1) (ty := 40) (ev' := keysE [k0, k1, k2]) rfl rfl rfl (fun E T w i cs hi h => ?_) rfl ?_
    · have hi : i < 3 := hi
      rcases i with _ | _ | _ | i <;> first | exact h | omega
    refine Sat.nestX 4 6 (nthL [[SV.str nmRel, .ro (.ints .i64 K), .int .i64 (1 + (nd.toNat : Int) % (K.length : Int))], [.str nmRoot, SV.row 5 0 (0 + 1) 0 1, .int .i64 1]]) rfl ?_ ?_
    · (repeat' (first | exact AllP.nil | with_reducible refine AllP.cons ?_ ?_)) <;> first | exact rfl | exact trivial | exact ⟨rfl, rfl, rfl, rfl⟩ | (intro _ _; simp [pureL, pureS, pureE]; done) | exact .inl ⟨rfl, rfl, rfl⟩ | skip
      intro i hi
      rcases i with _ | _ | i
      · refine ⟨_, rfl, ?_⟩
        simp only [List.cons_append, List.nil_append]
        (repeat' (first | exact AllP.nil | with_reducible refine AllP.cons ?_ ?_)) <;> first | exact rfl | exact trivial | (simp [EV.len, EV.sub, EV.sz, pureE]; done)
      · refine ⟨_, rfl, ?_⟩
        simp only [List.cons_append, List.nil_append]
        (repeat' (first | exact AllP.nil | with_reducible refine AllP.cons ?_ ?_)) <;> first | exact rfl | exact trivial | (simp [EV.len, EV.sub, EV.sz, pureE]; done)
      · omega
    refine Sat.nestX 5 6 (fun i => [.str ((([⟨nmRel, K, 1 + (nd.toNat : Int) % (K.length : Int)⟩, ⟨nmRoot, [0], 1⟩] : List RoleL).getD i role0)).name, .ro (.ints .i64 (([⟨nmRel, K, 1 + (nd.toNat : Int) % (K.length : Int)⟩, ⟨nmRoot, [0], 1⟩] : List RoleL).getD i role0).keys), .int .i64 (([⟨nmRel, K, 1 + (nd.toNat : Int) % (K.length : Int)⟩, ⟨nmRoot, [0], 1⟩] : List RoleL).getD i role0).need]) rfl ?_ ?_
    · (repeat' (first | exact AllP.nil | with_reducible refine AllP.cons ?_ ?_)) <;> first | exact rfl | exact trivial | exact ⟨rfl, rfl, rfl, rfl⟩ | (intro _ _; simp [pureL, pureS, pureE]; done) | exact .inl ⟨rfl, rfl, rfl⟩ | skip
      intro i hi
      rcases i with _ | _ | i
      · refine ⟨_, rfl, ?_⟩
        simp only [List.cons_append, List.nil_append]
        (repeat' (first | exact AllP.nil | with_reducible refine AllP.cons ?_ ?_)) <;> first | exact rfl | exact trivial | (simp [EV.len, EV.sub, EV.sz, pureE]; done)
      · refine ⟨_, rfl, ?_⟩
        simp only [List.cons_append, List.nil_append]
        (repeat' (first | exact AllP.nil | with_reducible refine AllP.cons ?_ ?_)) <;> first | exact rfl | exact trivial | (simp [EV.len, EV.sub, EV.sz, pureE]; done)
      · omega
    refine Sat.fin (Sat.end1 rfl rfl rfl True.intro (.agg _ _ (.cons _ _ _ _ (.refl _ trivial) (.cons _ _ _ _ (.refl _ trivial) (.cons _ _ _ _ (.all _ _ _ _ _ rfl rfl rfl (fun _ _ => ⟨trivial, trivial⟩)) (.cons _ _ _ _ (.all _ _ _ _ _ rfl rfl rfl (fun _ _ => ⟨trivial, trivial, trivial, trivial⟩)) .nil))))) (by first | exact .inl rfl | exact .inr rfl) (fun _ h => h)) ?_
    rfl
theorem rroot_spec (g : Int) (m nd : UInt8) : Fun Tryz.prog Γh 11 [.int .i64 g, .int .u8 (m.toNat : Int), .int .u8 (nd.toNat : Int)] (rootM g m nd).v := rroot_core (key_spec 0 (by omega)) (key_spec 1 (by omega)) (key_spec 2 (by omega)) g m nd
end Go.Proofs.YtokaegeediokoaaGreatDoor
end
section
namespace Go.Proofs.YtokaegeediokoaaGreatDoor
open Go.RowKit V
set_option maxRecDepth 100000
set_option maxHeartbeats 8000000
set_option linter.unusedSimpArgs false
attribute [local irreducible] V.Sat V.DSat
def hasB (l : List Int) (n : Int) : Bool := l.any fun y => decide (n = y)
theorem any_at {α : Type} (p : α → Bool) (d : α) (l : List α) (x : Nat) (hx : x < l.length) (h : p (l.getD x d) = true) : l.any p = true := by
  rw [List.any_eq_true]
  refine ⟨l[x], List.getElem_mem _, ?_⟩
  rw [List.getD_eq_getElem?_getD, List.getElem?_eq_getElem hx] at h
  exact h
theorem any_none {α : Type} (p : α → Bool) (d : α) (l : List α) (h : ∀ i, i < l.length → p (l.getD i d) = false) : l.any p = false := by
  rw [List.any_eq_false]
  intro y hy
  obtain ⟨i, hi, rfl⟩ := List.getElem_of_mem hy
  have := h i hi
  rw [List.getD_eq_getElem?_getD, List.getElem?_eq_getElem hi] at this
  rw [show p l[i] = false from this]
  decide
theorem has_ref {Γ : Glob} (l : List Int) (n : Int) : Fun Tryz.prog Γ 30 [.ro (.ints .i64 l), .int .i64 n] (.bool (hasB l n)) := by
  refine Fun.mkF 6 Tryz.func30 rfl Tryz.ntmps30 rfl rfl fun hf T w0 => ?_
  obtain ⟨⟨hl, _⟩, _⟩ := hf
  dsimp only [EV.len] at hl
  unfold okLen at hl
  repeat' (first
    | ((with_reducible apply Sat.run (X := X64)); exact rfl; (first | exact True.intro | (exact phi) | skip)) | fail)
  apply Sat.loop (α := Nat) (fun x => x ≤ l.length ∧ ∀ i, i < x → decide (n = l.getD i 0) = false) (fun x => l.length - x) 0 (fun x => [(5, .int .i64 (x : Int))]) (fun _ => []) [] [] 0
  · intro x; exact rfl
  · intro x; exact rfl
  · exact rfl
  · exact rfl
  · ((repeat' (first | exact AllP.nil | with_reducible refine AllP.cons ?_ ?_)) <;> first | exact rfl | exact trivial | exact Int.natCast_add_one _ | (intro j _; simp [pureL, pureS, pureE]; done) | exact ⟨rfl, rfl, rfl, rfl⟩)
  · exact ⟨Nat.zero_le _, fun i hi => by omega⟩
  · rintro x ⟨x1, x2⟩
    repeat' (first
      | ((with_reducible apply Sat.run (X := X64)); exact rfl; (first | exact True.intro | (exact phi) | skip))
      | ((with_reducible apply Sat.cond_p); exact rfl; all_goals (intro h; (try simp only [V.EV.sub, V.EV.len] at h))) | fail)
    · (refine Sat.fin (Sat.end1 rfl rfl rfl True.intro (.refl _ purX) (by first | exact .inl rfl | exact .inr rfl) (fun _ h => h)) ?_; (exact congrArg SV.bool (any_at (fun y => decide (n = y)) 0 l x (by simp [EV.len] at *; omega) (decide_eq_true (Eq.symm (show l.getD x 0 = n from by simpa using h))))))
    · refine Sat.back (x + 1) [] rfl ?_ ?_ ?_
      · ((repeat' (first | exact AllP.nil | with_reducible refine AllP.cons ?_ ?_)) <;> first | exact rfl | exact trivial | exact Int.natCast_add_one _ | (intro j _; simp [pureL, pureS, pureE]; done) | exact ⟨rfl, rfl, rfl, rfl⟩)
      · refine ⟨by simp [EV.len] at *; omega, fun i hi => ?_⟩
        rcases Nat.lt_succ_iff_lt_or_eq.1 hi with h1 | rfl
        · exact x2 i h1
        · exact decide_eq_false (by simp at *; omega)
      · simp [EV.len] at *; omega
    · (refine Sat.fin (Sat.end1 rfl rfl rfl True.intro (.refl _ purX) (by first | exact .inl rfl | exact .inr rfl) (fun _ h => h)) ?_; (exact congrArg SV.bool (any_none (fun y => decide (n = y)) 0 l fun i hi => x2 i (by simp [EV.len] at *; omega))))
theorem role_ref {Γ : Glob} (r : RootL) (name : List UInt8) : Fun Tryz.prog Γ 46 [r.v, .str name] (.int .i64 (fndI r name)) := by
  obtain ⟨g, ex, ks, rs⟩ := r
  refine Fun.mkF 6 Tryz.func46 rfl Tryz.ntmps46 rfl rfl fun hf T w0 => ?_
  have hl : okLen rs.length := hf.1.2.2.2.1.1
  unfold okLen at hl
  repeat' (first
    | ((with_reducible apply Sat.run (X := X64)); exact rfl; (first | exact True.intro | (exact phi) | skip)) | fail)
  apply Sat.loop (α := Nat) (fun x => x ≤ rs.length ∧ ∀ i, i < x → named name (rs.getD i role0) = false) (fun x => rs.length - x) 0 (fun x => [(5, .int .i64 (x : Int))]) (fun _ => []) [] [] 0
  · intro x; exact rfl
  · intro x; exact rfl
  · exact rfl
  · exact rfl
  · ((repeat' (first | exact AllP.nil | with_reducible refine AllP.cons ?_ ?_)) <;> first | exact rfl | exact trivial | exact Int.natCast_add_one _ | (intro j _; simp [pureL, pureS, pureE]; done) | exact ⟨rfl, rfl, rfl, rfl⟩)
  · exact ⟨Nat.zero_le _, fun i hi => by omega⟩
  · rintro x ⟨x1, x2⟩
    repeat' (first
      | ((with_reducible apply Sat.run (X := X64)); exact rfl; (first | exact True.intro | (exact phi) | skip))
      | ((with_reducible apply Sat.cond_p); exact rfl; all_goals (intro h; (try simp only [V.EV.sub, V.EV.len] at h))) | fail)
    · (refine Sat.fin (Sat.end1 rfl rfl rfl True.intro (.refl _ purX) (by first | exact .inl rfl | exact .inr rfl) (fun _ h => h)) ?_; (exact congrArg (SV.int .i64) ((idxL_at (named name) role0 rs 0 x x2 (by omega) (decide_eq_true h)).trans (by simp))))
    · refine Sat.back (x + 1) [] rfl ?_ ?_ ?_
      · ((repeat' (first | exact AllP.nil | with_reducible refine AllP.cons ?_ ?_)) <;> first | exact rfl | exact trivial | exact Int.natCast_add_one _ | (intro j _; simp [pureL, pureS, pureE]; done) | exact ⟨rfl, rfl, rfl, rfl⟩)
      · refine ⟨by omega, fun i hi => ?_⟩
        rcases Nat.lt_succ_iff_lt_or_eq.1 hi with h1 | rfl
        · exact x2 i h1
        · exact decide_eq_false h
      · omega
    · (refine Sat.fin (Sat.end1 rfl rfl rfl True.intro (.refl _ purX) (by first | exact .inl rfl | exact .inr rfl) (fun _ h => h)) ?_; (exact congrArg (SV.int .i64) (idxL_none (named name) role0 rs 0 fun i hi => x2 i (by omega))))
def sgnP (ks : List (List UInt8)) (body : List UInt8) (key : Int) (s : SigL) : Bool := bif decide (s.key = key) then ver (ks.getD key.toNat []) body s.ch else false
def sgnB (ks : List (List UInt8)) (body : List UInt8) (l : List SigL) (key : Int) : Bool := l.any (sgnP ks body key)
theorem signs_ref (r : RootL) (key : Int) (body : List UInt8) (l : List SigL) (hb : body.length ≤ 1000000) (hl : l.length ≤ 1000000) (hs : ∀ i, i < l.length → ChOk (l.getD i sig0).ch) (hk : 0 ≤ key ∧ key < r.keys.length) : Fun Tryz.prog Γh 47 [r.v, .int .i64 key, .agg (sgdC body l)] (.bool (sgnB r.keys body l key)) := by
  obtain ⟨g, ex, ks, rs⟩ := r
  dsimp only at hk ⊢
  refine Fun.mk 6 Tryz.func47 rfl Tryz.ntmps47 rfl rfl fun T w0 => ?_
  repeat' (first
    | ((with_reducible apply Sat.run (X := X64)); exact rfl; (first | exact True.intro | (exact phi) | skip)) | fail)
  apply Sat.loop (α := Nat) (fun x => x ≤ l.length ∧ ∀ i, i < x → sgnP ks body key (l.getD i sig0) = false) (fun x => l.length - x) 0 (fun x => [(7, .int .i64 (x : Int))]) (fun _ => []) [] [] 0
  · intro x; exact rfl
  · intro x; exact rfl
  · exact rfl
  · exact rfl
  · ((repeat' (first | exact AllP.nil | with_reducible refine AllP.cons ?_ ?_)) <;> first | exact rfl | exact trivial | exact Int.natCast_add_one _ | (intro j _; simp [pureL, pureS, pureE]; done) | exact ⟨rfl, rfl, rfl, rfl⟩)
  · exact ⟨Nat.zero_le _, fun i hi => by omega⟩
  rintro x ⟨x1, x2⟩
  by_cases hx2 : x < l.length
  · have hc : (x : Int) < (l.length : Int) := by omega
    have hver := rverify_spec (ks.getD key.toNat []) body hb (l.getD x sig0).ch (hs x hx2)
    have hdef : sgnP ks body key (l.getD x sig0) = (bif decide ((l.getD x sig0).key = key) then ver (ks.getD key.toNat []) body (l.getD x sig0).ch else false) := rfl
    generalize hV : ver (ks.getD key.toNat []) body (l.getD x sig0).ch = v0 at hver hdef
    cases hB : sgnP ks body key (l.getD x sig0) with
    | true =>
      rw [hB] at hdef
      repeat' (first
        | ((with_reducible apply Sat.cond); exact rfl; (intro h; clear h; rotate_left); (intro h; exact absurd (h.symm.trans hdef.symm) (by decide)))
        | ((with_reducible apply Sat.run (X := X64)); exact rfl; (first | exact True.intro | (exact phi) | skip))
        | ((with_reducible apply Sat.drawn); kernel_rfl)
        | ((with_reducible apply DSat.run (X := X64)); exact rfl; (first | exact True.intro | (exact phi) | skip))
        | ((with_reducible apply DSat.fin); kernel_rfl)
        | ((with_reducible apply Sat.cond_pt); exact rfl; (try dsimp only [V.EV.sub, V.EV.len]); first | assumption | omega)
        | ((with_reducible apply DSat.callG1 (hver)); exact rfl; exact rfl; exact rfl; exact rfl; kernel_rfl; (intro hG; (exact cnvX)); exact rfl) | fail)
      (refine Sat.fin (Sat.end1 rfl rfl rfl True.intro (.refl _ purX) (by first | exact .inl rfl | exact .inr rfl) (fun _ h => h)) ?_; (exact congrArg SV.bool (any_at (sgnP ks body key) sig0 l x hx2 hB)))
    | false =>
      rw [hB] at hdef
      repeat' (first
        | ((with_reducible apply Sat.cond); exact rfl; (intro h; exact absurd (h.symm.trans hdef.symm) (by decide)); (intro h; clear h))
        | ((with_reducible apply Sat.run (X := X64)); exact rfl; (first | exact True.intro | (exact phi) | skip))
        | ((with_reducible apply Sat.drawn); kernel_rfl)
        | ((with_reducible apply DSat.run (X := X64)); exact rfl; (first | exact True.intro | (exact phi) | skip))
        | ((with_reducible apply DSat.fin); kernel_rfl)
        | ((with_reducible apply Sat.cond_pt); exact rfl; (try dsimp only [V.EV.sub, V.EV.len]); first | assumption | omega)
        | ((with_reducible apply DSat.callG1 (hver)); exact rfl; exact rfl; exact rfl; exact rfl; kernel_rfl; (intro hG; (exact cnvX)); exact rfl) | fail)
      refine Sat.back (x + 1) [] rfl ?_ ?_ (by omega)
      · ((repeat' (first | exact AllP.nil | with_reducible refine AllP.cons ?_ ?_)) <;> first | exact rfl | exact trivial | exact Int.natCast_add_one _ | (intro j _; simp [pureL, pureS, pureE]; done) | exact ⟨rfl, rfl, rfl, rfl⟩)
      · refine ⟨by omega, fun i hi => ?_⟩
        rcases Nat.lt_succ_iff_lt_or_eq.1 hi with h1 | rfl
        · exact x2 i h1
        · exact hB
  · obtain rfl : x = l.length := by omega
    repeat' (first
      | ((with_reducible apply Sat.run (X := X64)); exact rfl; (first | exact True.intro | (exact phi) | skip))
      | ((with_reducible apply Sat.cond_pf); exact rfl; (try dsimp only [V.EV.sub, V.EV.len]); first | assumption | omega) | fail)
    (refine Sat.fin (Sat.end1 rfl rfl rfl True.intro (.refl _ purX) (by first | exact .inl rfl | exact .inr rfl) (fun _ h => h)) ?_; (exact congrArg SV.bool (any_none (sgnP ks body key) sig0 l x2)))
def cntR (ks : List (List UInt8)) (body : List UInt8) (l : List SigL) (K : List Int) : Nat → Nat
  | 0 => 0
  | x + 1 => cntR ks body l K x + if sgnB ks body l (K.getD x 0) = true then 1 else 0
theorem cntR_le (ks : List (List UInt8)) (body : List UInt8) (l : List SigL) (K : List Int) : ∀ x, cntR ks body l K x ≤ x
  | 0 => Nat.le_refl _
  | x + 1 => by
    have := cntR_le ks body l K x
    rw [cntR]
    split <;> omega
theorem rcount_none (r : RootL) (name body : List UInt8) (l : List SigL) (h : fndI r name = -1) : Fun Tryz.prog Γh 16 [r.v, .str name, .agg (sgdC body l)] (.tup [.int .i64 0, .int .i64 161]) := by
  have h1 := role_ref (Γ := Γh) r name
  rw [h] at h1
  obtain ⟨g, ex, ks, rs⟩ := r
  refine Fun.mk 6 Tryz.func16 rfl Tryz.ntmps16 rfl rfl fun T w0 => ?_
  repeat' (first
    | ((with_reducible apply Sat.run (X := X64)); exact rfl; (first | exact True.intro | (exact phi) | skip))
    | ((with_reducible apply Sat.cond_t); exact rfl)
    | ((with_reducible apply Sat.callR (h1)); exact rfl; exact rfl; exact rfl; kernel_rfl; (exact cnvX); exact rfl) | fail)
  (refine Sat.fin (Sat.end2 rfl rfl rfl rfl True.intro True.intro (.refl _ purX) (.refl _ purX) (by first | exact .inl rfl | exact .inr rfl) (fun _ h => h)) ?_; rfl)
theorem rcount_some (r : RootL) (name body : List UInt8) (l : List SigL) (i : Nat) (hi : i < r.roles.length) (hm : i ≤ 1000) (h : fndI r name = i) (hK : (r.roles.getD i role0).keys.length ≤ 1000000) (hok : CntOk r.keys (r.roles.getD i role0).keys body l) :
    Fun Tryz.prog Γh 16 [r.v, .str name, .agg (sgdC body l)] (.tup [.int .i64 ((cntR r.keys body l (r.roles.getD i role0).keys (r.roles.getD i role0).keys.length : Nat) : Int), .int .i64 0]) := by
  have h1 := role_ref (Γ := Γh) r name
  rw [h] at h1
  have hsg := fun key hk => signs_ref r key body l hok.body hok.many hok.sigs hk
  have hky := hok.keys
  clear hok
  obtain ⟨g, ex, ks, rs⟩ := r
  dsimp only at hi hK hsg hky ⊢
  have hro : ∃ ro, rs.getD i role0 = ro := ⟨_, rfl⟩
  obtain ⟨ro, hro⟩ := hro
  rw [hro] at hK hky ⊢
  refine Fun.mk 6 Tryz.func16 rfl Tryz.ntmps16 rfl rfl fun T w0 => ?_
  repeat' (first
    | ((with_reducible apply Sat.run (X := X64)); exact rfl; (first | exact True.intro | (exact phi) | skip))
    | ((with_reducible apply Sat.cond_f); exact rfl)
    | ((with_reducible apply Sat.callR (h1)); exact rfl; exact rfl; exact rfl; kernel_rfl; (exact cnvX); exact rfl) | fail)
  apply Sat.loop (α := Nat) (fun x => x ≤ ro.keys.length) (fun x => ro.keys.length - x) 0 (fun x => [(10, .int .i64 (x : Int)), (9, .int .i64 (cntR ks body l ro.keys x : Nat))]) (fun _ => []) [] [] 0
  · intro x; exact rfl
  · intro x; exact rfl
  · exact rfl
  · exact rfl
  · ((repeat' (first | exact AllP.nil | with_reducible refine AllP.cons ?_ ?_)) <;> first | exact rfl | exact trivial | exact Int.natCast_add_one _ | (intro j _; simp [pureL, pureS, pureE]; done) | exact ⟨rfl, rfl, rfl, rfl⟩)
  · omega
  intro x hx
  have hle := cntR_le ks body l ro.keys x
  by_cases hx2 : x < ro.keys.length
  · have hc : (x : Int) < (ro.keys.length : Int) := by omega
    have hkk := hky (ro.keys.getD x 0) (any_at (fun y => decide (ro.keys.getD x 0 = y)) 0 ro.keys x hx2 (decide_eq_true rfl))
    have h2 := hsg (ro.keys.getD x 0) hkk
    have es : cntR ks body l ro.keys (x + 1) = cntR ks body l ro.keys x + if sgnB ks body l (ro.keys.getD x 0) = true then 1 else 0 := rfl
    subst hro
    generalize hV : sgnB ks body l ((rs.getD i role0).keys.getD x 0) = v0 at h2 es
    cases v0 with
    | true =>
      rw [if_pos rfl] at es
      repeat' (first
        | ((with_reducible apply Sat.run (X := X64)); exact rfl; (first | exact True.intro | (exact phi) | skip))
        | ((with_reducible apply Sat.drawn); kernel_rfl)
        | ((with_reducible apply DSat.run (X := X64)); exact rfl; (first | exact True.intro | (exact phi) | skip))
        | ((with_reducible apply DSat.fin); kernel_rfl)
        | ((with_reducible apply Sat.cond_t); exact rfl)
        | ((with_reducible apply Sat.cond_pt); exact rfl; (try dsimp only [V.EV.sub, V.EV.len]); first | assumption | omega)
        | ((with_reducible apply DSat.callR (h2)); exact rfl; exact rfl; exact rfl; kernel_rfl; (exact cnvX); exact rfl) | fail)
      refine Sat.back (x + 1) [] rfl ?_ (by omega) (by omega)
      rw [es]
      ((repeat' (first | exact AllP.nil | with_reducible refine AllP.cons ?_ ?_)) <;> first | exact rfl | exact trivial | exact Int.natCast_add_one _ | (intro j _; simp [pureL, pureS, pureE]; done) | exact ⟨rfl, rfl, rfl, rfl⟩)
    | false =>
      rw [if_neg Bool.false_ne_true, Nat.add_zero] at es
      repeat' (first
        | ((with_reducible apply Sat.run (X := X64)); exact rfl; (first | exact True.intro | (exact phi) | skip))
        | ((with_reducible apply Sat.drawn); kernel_rfl)
        | ((with_reducible apply DSat.run (X := X64)); exact rfl; (first | exact True.intro | (exact phi) | skip))
        | ((with_reducible apply DSat.fin); kernel_rfl)
        | ((with_reducible apply Sat.cond_f); exact rfl)
        | ((with_reducible apply Sat.cond_pt); exact rfl; (try dsimp only [V.EV.sub, V.EV.len]); first | assumption | omega)
        | ((with_reducible apply DSat.callR (h2)); exact rfl; exact rfl; exact rfl; kernel_rfl; (exact cnvX); exact rfl) | fail)
      refine Sat.back (x + 1) [] rfl ?_ (by omega) (by omega)
      rw [es]
      ((repeat' (first | exact AllP.nil | with_reducible refine AllP.cons ?_ ?_)) <;> first | exact rfl | exact trivial | exact Int.natCast_add_one _ | (intro j _; simp [pureL, pureS, pureE]; done) | exact ⟨rfl, rfl, rfl, rfl⟩)
  · obtain rfl : x = ro.keys.length := by omega
    subst hro
    have hx3 : ¬ (((rs.getD i role0).keys.length : Int) < ((rs.getD i role0).keys.length : Int)) := by omega
    repeat' (first
      | ((with_reducible apply Sat.cond_pf); exact rfl; exact hx3)
      | ((with_reducible apply Sat.run (X := X64)); exact rfl; (first | exact True.intro | (exact phi) | skip)) | fail)
    (refine Sat.fin (Sat.end2 rfl rfl rfl rfl True.intro True.intro (.refl _ purX) (.refl _ purX) (by first | exact .inl rfl | exact .inr rfl) (fun _ h => h)) ?_; rfl)
def renB (r : RootL) (name body : List UInt8) (l : List SigL) : Bool :=
  if fndI r name = -1 then false else decide ((r.roles.getD (fndI r name).toNat role0).need ≤ ((cntR r.keys body l (r.roles.getD (fndI r name).toNat role0).keys (r.roles.getD (fndI r name).toNat role0).keys.length : Nat) : Int))
theorem renough_ref (r : RootL) (name body : List UInt8) (l : List SigL) (hlen : ∀ i, (r.roles.getD i role0).keys.length ≤ 1000000) (h : RoleOk r name body l) : Fun Tryz.prog Γh 50 [r.v, .str name, .agg (sgdC body l)] (.bool (renB r name body l)) := by
  rcases h with h | ⟨i, h, hi, hm, hok⟩
  · have h1 := rcount_none r name body l h
    have e : renB r name body l = false := by unfold renB; rw [if_pos h]
    rw [e]
    obtain ⟨g, ex, ks, rs⟩ := r
    refine Fun.mk 6 Tryz.func50 rfl Tryz.ntmps50 rfl rfl fun T w0 => ?_
    repeat' (first
      | ((with_reducible apply Sat.run (X := X64)); exact rfl; (first | exact True.intro | (exact phi) | skip))
      | ((with_reducible apply Sat.drawn); kernel_rfl)
      | ((with_reducible apply DSat.run (X := X64)); exact rfl; (first | exact True.intro | (exact phi) | skip))
      | ((with_reducible apply DSat.fin); kernel_rfl)
      | ((with_reducible apply Sat.callR (h1)); exact rfl; exact rfl; exact rfl; kernel_rfl; (exact cnvX); exact rfl)
      | ((with_reducible apply DSat.goffM ((.int .i64 0))); exact rfl; (first | (decide +kernel) | assumption); exact rfl) | fail)
    (refine Sat.fin (Sat.end1 rfl rfl rfl True.intro (.refl _ purX) (by first | exact .inl rfl | exact .inr rfl) (fun _ h => h)) ?_; rfl)
  · have h1 := rcount_some r name body l i hi hm h (hlen i) hok
    have h2 := role_ref (Γ := Γh) r name
    rw [h] at h2
    have e : renB r name body l = decide ((r.roles.getD i role0).need ≤ ((cntR r.keys body l (r.roles.getD i role0).keys (r.roles.getD i role0).keys.length : Nat) : Int)) := by
      unfold renB
      rw [if_neg (by rw [h]; omega), h, Int.toNat_natCast]
    rw [e]
    clear e hok h
    obtain ⟨g, ex, ks, rs⟩ := r
    dsimp only at h1 hi ⊢
    generalize cntR ks body l (rs.getD i role0).keys _ = n at h1 ⊢
    refine Fun.mk 6 Tryz.func50 rfl Tryz.ntmps50 rfl rfl fun T w0 => ?_
    repeat' (first
      | ((with_reducible apply Sat.run (X := X64)); exact rfl; (first | exact True.intro | (exact phi) | skip))
      | ((with_reducible apply Sat.drawn); kernel_rfl)
      | ((with_reducible apply DSat.run (X := X64)); exact rfl; (first | exact True.intro | (exact phi) | skip))
      | ((with_reducible apply DSat.fin); kernel_rfl)
      | ((with_reducible apply Sat.callR (h1)); exact rfl; exact rfl; exact rfl; kernel_rfl; (exact cnvX); exact rfl)
      | ((with_reducible apply DSat.callG1 (h2)); exact rfl; exact rfl; exact rfl; exact rfl; kernel_rfl; (intro hG; (exact cnvX)); exact rfl) | fail)
    (refine Sat.fin (Sat.end1 rfl rfl rfl True.intro (.refl _ purX) (by first | exact .inl rfl | exact .inr rfl) (fun _ h => h)) ?_; rfl)
theorem rallows_ref {Γ : Glob} (t : TrustL) (v : Int) : Fun Tryz.prog Γ 21 [t.v, .int .i64 v] (.bool (allowB t v)) := by
  have h1 := has_ref (Γ := Γ) t.gone v
  refine Fun.mk 6 Tryz.func21 rfl Tryz.ntmps21 rfl rfl fun T w0 => ?_
  repeat' (first
    | ((with_reducible apply Sat.run (X := X64)); exact rfl; (first | exact True.intro | (exact phi) | skip))
    | ((with_reducible apply Sat.callG1 (h1)); exact rfl; exact rfl; exact rfl; exact rfl; kernel_rfl; (intro hG; (exact cnvX)); exact rfl) | fail)
  (refine Sat.fin (Sat.end1 rfl rfl rfl True.intro (.refl _ purX) (by first | exact .inl rfl | exact .inr rfl) (fun _ h => h)) ?_; (refine congrArg SV.bool ?_; unfold allowB hasB; cases decide (t.floor ≤ v) <;> cases decide (v ≤ 60000) <;> rfl))
def memN (K : List Int) (m : UInt8) : Nat → Nat
  | 0 => 0
  | x + 1 => memN K m x + if bitU m (K.getD x 0).toNat = true then 1 else 0
theorem memN_le (K : List Int) (m : UInt8) : ∀ x, memN K m x ≤ x
  | 0 => Nat.le_refl _
  | x + 1 => by
    have := memN_le K m x
    rw [memN]
    split <;> omega
theorem members_ref {Γ : Glob} (ro : RoleL) (m : UInt8) (hl : ro.keys.length ≤ 1000) (hk : ∀ i, i < ro.keys.length → 0 ≤ ro.keys.getD i 0 ∧ ro.keys.getD i 0 ≤ 7) : Fun Tryz.prog Γ 23 [ro.v, .int .u8 (m.toNat : Int)] (.int .i64 (memN ro.keys m ro.keys.length : Nat)) := by
  obtain ⟨rn, K, nd⟩ := ro
  dsimp only at hl hk ⊢
  refine Fun.mk 6 Tryz.func23 rfl Tryz.ntmps23 rfl rfl fun T w0 => ?_
  repeat' (first
    | ((with_reducible apply Sat.run (X := X64)); exact rfl; (first | exact True.intro | (exact phi) | skip)) | fail)
  apply Sat.loop (α := Nat) (fun x => x ≤ K.length) (fun x => K.length - x) 0 (fun x => [(6, .int .i64 (x : Int)), (5, .int .i64 (memN K m x : Nat))]) (fun _ => []) [] [] 0
  · intro x; exact rfl
  · intro x; exact rfl
  · exact rfl
  · exact rfl
  · ((repeat' (first | exact AllP.nil | with_reducible refine AllP.cons ?_ ?_)) <;> first | exact rfl | exact trivial | exact Int.natCast_add_one _ | (intro j _; simp [pureL, pureS, pureE]; done) | exact ⟨rfl, rfl, rfl, rfl⟩)
  · omega
  intro x hx
  have hle := memN_le K m x
  by_cases hx2 : x < K.length
  · have hc : (x : Int) < (K.length : Int) := by omega
    obtain ⟨k0, k1⟩ := hk x hx2
    have hbit := u8_bit m (K.getD x 0).toNat (by omega)
    have es : memN K m (x + 1) = memN K m x + if bitU m (K.getD x 0).toNat = true then 1 else 0 := rfl
    rw [Int.toNat_of_nonneg k0] at hbit
    generalize hB : bitU m (K.getD x 0).toNat = B at hbit es
    cases B with
    | true =>
      rw [if_pos rfl] at es
      repeat' (first
        | ((with_reducible apply Sat.cond_pt); exact rfl; exact of_decide_eq_true hbit)
        | ((with_reducible apply Sat.run (X := X64)); exact rfl; (first | exact True.intro | (exact phi) | skip))
        | ((with_reducible apply Sat.cond_pt); exact rfl; (try dsimp only [V.EV.sub, V.EV.len]); first | assumption | omega) | fail)
      refine Sat.back (x + 1) [] rfl ?_ (by omega) (by omega)
      rw [es]
      ((repeat' (first | exact AllP.nil | with_reducible refine AllP.cons ?_ ?_)) <;> first | exact rfl | exact trivial | exact Int.natCast_add_one _ | (intro j _; simp [pureL, pureS, pureE]; done) | exact ⟨rfl, rfl, rfl, rfl⟩)
    | false =>
      rw [if_neg Bool.false_ne_true, Nat.add_zero] at es
      repeat' (first
        | ((with_reducible apply Sat.cond_pf); exact rfl; exact of_decide_eq_false hbit)
        | ((with_reducible apply Sat.run (X := X64)); exact rfl; (first | exact True.intro | (exact phi) | skip))
        | ((with_reducible apply Sat.cond_pt); exact rfl; (try dsimp only [V.EV.sub, V.EV.len]); first | assumption | omega) | fail)
      refine Sat.back (x + 1) [] rfl ?_ (by omega) (by omega)
      rw [es]
      ((repeat' (first | exact AllP.nil | with_reducible refine AllP.cons ?_ ?_)) <;> first | exact rfl | exact trivial | exact Int.natCast_add_one _ | (intro j _; simp [pureL, pureS, pureE]; done) | exact ⟨rfl, rfl, rfl, rfl⟩)
  · obtain rfl : x = K.length := by omega
    repeat' (first
      | ((with_reducible apply Sat.run (X := X64)); exact rfl; (first | exact True.intro | (exact phi) | skip))
      | ((with_reducible apply Sat.cond_pf); exact rfl; (try dsimp only [V.EV.sub, V.EV.len]); first | assumption | omega) | fail)
    (refine Sat.fin (Sat.end1 rfl rfl rfl True.intro (.refl _ purX) (by first | exact .inl rfl | exact .inr rfl) (fun _ h => h)) ?_; rfl)
end Go.Proofs.YtokaegeediokoaaGreatDoor
end
section
namespace Go.Proofs.YtokaegeediokoaaGreatDoor
open Go.RowKit V
set_option maxRecDepth 100000
set_option maxHeartbeats 8000000
set_option linter.unusedSimpArgs false
attribute [local irreducible] V.Sat V.DSat
def relEq (a b : Rel) : Bool := decide (a.version = b.version ∧ a.floor = b.floor ∧ a.expiry = b.expiry ∧ a.size = b.size ∧ a.image = b.image ∧ a.chunks = b.chunks ∧ a.tree = b.tree) && (decide (a.gone = b.gone) && decide (a.parts.length = b.parts.length ∧ ∀ i, i < a.parts.length → (a.parts.getD i part0).name = (b.parts.getD i part0).name ∧ (a.parts.getD i part0).hash = (b.parts.getD i part0).hash))
theorem same_rel (a b : Rel) : Fun Tryz.prog [] 25 [a.v, b.v] (.bool (relEq a b)) := by
  obtain ⟨v, fl, ex, sz, im, ch, tr, go, pa⟩ := a
  obtain ⟨v', fl', ex', sz', im', ch', tr', go', pa'⟩ := b
  have hi := ints_ref go go'
  show Fun Tryz.prog [] 25 [.agg [.int .i64 v, .int .i64 fl, .int .i64 ex, .int .i64 sz, .arr 32 (.u8 im), .int .i64 ch, .arr 32 (.u8 tr), .ro (.ints .i64 go), .ro (partsE pa)], .agg [.int .i64 v', .int .i64 fl', .int .i64 ex', .int .i64 sz', .arr 32 (.u8 im'), .int .i64 ch', .arr 32 (.u8 tr'), .ro (.ints .i64 go'), .ro (partsE pa')]] _
  refine Fun.mkF 7 Tryz.func25 rfl Tryz.ntmps25 rfl rfl fun hf T w0 => ?_
  repeat' (first
    | ((with_reducible apply Sat.run (X := X64)); exact rfl; (first | exact True.intro | (exact phi) | skip))
    | ((with_reducible apply Sat.cond); exact rfl; all_goals (intro h; (try simp only [V.EV.sub, V.EV.len, Bool.cond_true_left, Bool.cond_false_right, Bool.or_eq_true, Bool.and_eq_true, Bool.or_eq_false_iff, Bool.and_eq_false_iff, Bool.not_eq_true', Bool.not_eq_false', decide_eq_true_eq, decide_eq_false_iff_not, ne_eq] at h)))
    | ((with_reducible apply Sat.callG1 (hi)); exact rfl; exact rfl; exact rfl; exact rfl; kernel_rfl; (intro hG; (exact cnvX)); exact rfl) | fail)
  · have q : relEq ⟨v, fl, ex, sz, im, ch, tr, go, pa⟩ ⟨v', fl', ex', sz', im', ch', tr', go', pa'⟩ = false := by
      cases hq : relEq ⟨v, fl, ex, sz, im, ch, tr, go, pa⟩ ⟨v', fl', ex', sz', im', ch', tr', go', pa'⟩ with
      | false => rfl
      | true =>
        exfalso
        unfold relEq at hq
        simp only [Bool.and_eq_true, decide_eq_true_eq] at hq
        obtain ⟨⟨q1, q2, q3, q4, q5, q6, q7⟩, q8, q9, -⟩ := hq
        rcases h with (((((((h | h) | h) | h) | h) | h) | h) | h) | h
        all_goals first | exact h q1 | exact h q2 | exact h q3 | exact h q4 | exact h q5 | exact h q6 | exact h q7 | exact h q8 | (have := of_decide_eq_true h; omega)
    (refine Sat.fin (Sat.end1 rfl rfl rfl True.intro (.refl _ purX) (by first | exact .inl rfl | exact .inr rfl) (fun _ h => h)) ?_; (rw [q]))
  obtain ⟨⟨⟨⟨⟨⟨⟨⟨p1, p2⟩, p3⟩, p4⟩, p5⟩, p6⟩, p7⟩, p8⟩, p9⟩ := h
  replace p1 := Classical.not_not.1 p1
  replace p2 := Classical.not_not.1 p2
  replace p3 := Classical.not_not.1 p3
  replace p4 := Classical.not_not.1 p4
  replace p6 := Classical.not_not.1 p6
  have p10 : pa.length = pa'.length := by
    have := of_decide_eq_false p9
    omega
  clear p9 hi
  have hla : pa.length ≤ 9223372036854775807 := hf.1.2.2.2.2.2.2.2.2.1.1
  apply Sat.loop (α := Nat) (fun x => x ≤ pa.length ∧ ∀ i, i < x → (pa.getD i part0).name = (pa'.getD i part0).name ∧ (pa.getD i part0).hash = (pa'.getD i part0).hash) (fun x => pa.length - x) 0 (fun x => [(5, .int .i64 (x : Int))]) (fun _ => []) [] [] 0
  · intro x; exact rfl
  · intro x; exact rfl
  · exact rfl
  · exact rfl
  · (repeat' (first | exact AllP.nil | with_reducible refine AllP.cons ?_ ?_)) <;> first | with_reducible exact rfl | exact rfl | exact trivial | exact Int.natCast_add_one _ | (intro _ _; simp [pureL, pureS, pureE]; done) | exact ⟨rfl, rfl, rfl, rfl⟩
  · exact ⟨Nat.zero_le _, fun i hi => by omega⟩
  · rintro x ⟨x1, x2⟩
    repeat' (first
      | ((with_reducible apply Sat.run (X := X64)); exact rfl; (first | exact True.intro | (exact phi) | skip))
      | ((with_reducible apply Sat.drawn); kernel_rfl)
      | ((with_reducible apply DSat.run (X := X64)); exact rfl; (first | exact True.intro | (exact phi) | skip))
      | ((with_reducible apply DSat.fin); kernel_rfl)
      | ((with_reducible apply Sat.cond_p); exact rfl; all_goals (intro h; (try simp only [V.EV.sub, V.EV.len] at h)))
      | ((with_reducible apply Sat.cond); exact rfl; all_goals (intro h; (try simp only [V.EV.sub, V.EV.len, Bool.cond_true_left, Bool.cond_false_right, Bool.or_eq_true, Bool.and_eq_true, Bool.or_eq_false_iff, Bool.and_eq_false_iff, Bool.not_eq_true', Bool.not_eq_false', decide_eq_true_eq, decide_eq_false_iff_not, ne_eq] at h))) | fail)
    · have hx : x < pa.length := by omega
      have q : relEq ⟨v, fl, ex, sz, im, ch, tr, go, pa⟩ ⟨v', fl', ex', sz', im', ch', tr', go', pa'⟩ = false := by
        cases hq : relEq ⟨v, fl, ex, sz, im, ch, tr, go, pa⟩ ⟨v', fl', ex', sz', im', ch', tr', go', pa'⟩ with
        | false => rfl
        | true =>
          exfalso
          unfold relEq at hq
          simp only [Bool.and_eq_true, decide_eq_true_eq] at hq
          obtain ⟨-, -, -, q9⟩ := hq
          obtain ⟨r1, r2⟩ := q9 x hx
          rcases h with h | h | h
          · exact h r1
          · exact h r2
          · cases h
      (refine Sat.fin (Sat.end1 rfl rfl rfl True.intro (.refl _ purX) (by first | exact .inl rfl | exact .inr rfl) (fun _ h => h)) ?_; (rw [q]))
    · refine Sat.back (x + 1) [] rfl ?_ ?_ ?_
      · (repeat' (first | exact AllP.nil | with_reducible refine AllP.cons ?_ ?_)) <;> first | with_reducible exact rfl | exact Int.natCast_add_one _ | exact rfl | exact trivial | (intro _ _; simp [pureL, pureS, pureE]; done) | exact ⟨rfl, rfl, rfl, rfl⟩
      · refine ⟨by omega, fun i hi => ?_⟩
        rcases Nat.lt_succ_iff_lt_or_eq.1 hi with h1 | rfl
        · exact x2 i h1
        · exact ⟨h.1, h.2.1⟩
      · omega
    · have hx : x = pa.length := by omega
      subst hx
      (refine Sat.fin (Sat.end1 rfl rfl rfl True.intro (.refl _ purX) (by first | exact .inl rfl | exact .inr rfl) (fun _ h => h)) ?_; (refine congrArg SV.bool (Eq.trans (show relEq ⟨v, fl, ex, sz, im, ch, tr, go, pa⟩ ⟨v', fl', ex', sz', im', ch', tr', go', pa'⟩ = true by unfold relEq; rw [p1, p2, p3, p4, p5, p6, p7, p8]; simp only [p10, true_and, decide_true, Bool.true_and, and_true, and_self]; exact decide_eq_true (fun i hi => x2 i (by omega))) rfl)))
theorem parts_ext {pa pb : List PartL} (h : pa.length = pb.length) (h2 : ∀ i, i < pa.length → (pa.getD i part0).name = (pb.getD i part0).name ∧ (pa.getD i part0).hash = (pb.getD i part0).hash) : pa = pb := by
  refine List.ext_getElem h fun i h3 h4 => ?_
  have := h2 i h3
  simp only [List.getD_eq_getElem?_getD, List.getElem?_eq_getElem h3, List.getElem?_eq_getElem h4, Option.getD_some] at this
  cases hp : pa[i] with
  | mk n1 h1 =>
    cases hq : pb[i] with
    | mk n2 h2' =>
      rw [hp, hq] at this
      obtain ⟨r1, r2⟩ := this
      dsimp only at r1 r2
      rw [r1, r2]
theorem relEq_iff (a b : Rel) : relEq a b = true ↔ a = b := by
  constructor
  · intro h
    unfold relEq at h
    simp only [Bool.and_eq_true, decide_eq_true_eq] at h
    obtain ⟨⟨q1, q2, q3, q4, q5, q6, q7⟩, q8, q9, q10⟩ := h
    obtain ⟨v, fl, ex, sz, im, ch, tr, go, pa⟩ := a
    obtain ⟨v', fl', ex', sz', im', ch', tr', go', pa'⟩ := b
    dsimp only at q1 q2 q3 q4 q5 q6 q7 q8 q9 q10
    rw [q1, q2, q3, q4, q5, q6, q7, q8, parts_ext q9 q10]
  · rintro rfl
    unfold relEq
    simp
def rootEq (a b : RootL) : Bool := decide (a.gen = b.gen ∧ a.expiry = b.expiry ∧ a.keys.length = b.keys.length ∧ a.roles.length = b.roles.length) && (decide (∀ i, i < a.keys.length → a.keys.getD i [] = b.keys.getD i []) && decide (∀ i, i < a.roles.length → (a.roles.getD i role0).name = (b.roles.getD i role0).name ∧ (a.roles.getD i role0).need = (b.roles.getD i role0).need ∧ (a.roles.getD i role0).keys = (b.roles.getD i role0).keys))
theorem same_root (a b : RootL) : Fun Tryz.prog [] 29 [a.v, b.v] (.bool (rootEq a b)) := by
  obtain ⟨g, ex, ks, rs⟩ := a
  obtain ⟨g', ex', ks', rs'⟩ := b
  show Fun Tryz.prog [] 29 [.agg [.int .i64 g, .int .i64 ex, .ro (keysE ks), .ro (rolesE rs)], .agg [.int .i64 g', .int .i64 ex', .ro (keysE ks'), .ro (rolesE rs')]] _
  refine Fun.mkF 7 Tryz.func29 rfl Tryz.ntmps29 rfl rfl fun hf T w0 => ?_
  repeat' (first
    | ((with_reducible apply Sat.run (X := X64)); exact rfl; (first | exact True.intro | (exact phi) | skip))
    | ((with_reducible apply Sat.cond); exact rfl; all_goals (intro h; (try simp only [V.EV.sub, V.EV.len, Bool.cond_true_left, Bool.cond_false_right, Bool.or_eq_true, Bool.and_eq_true, Bool.or_eq_false_iff, Bool.and_eq_false_iff, Bool.not_eq_true', Bool.not_eq_false', decide_eq_true_eq, decide_eq_false_iff_not, ne_eq] at h))) | fail)
  · have q : rootEq ⟨g, ex, ks, rs⟩ ⟨g', ex', ks', rs'⟩ = false := by
      cases hq : rootEq ⟨g, ex, ks, rs⟩ ⟨g', ex', ks', rs'⟩ with
      | false => rfl
      | true =>
        exfalso
        unfold rootEq at hq
        simp only [Bool.and_eq_true, decide_eq_true_eq] at hq
        obtain ⟨⟨q1, q2, q3, q4⟩, -⟩ := hq
        rcases h with ((h | h) | h) | h
        all_goals first | exact h q1 | exact h q2 | (have := of_decide_eq_true h; omega) | omega
    (refine Sat.fin (Sat.end1 rfl rfl rfl True.intro (.refl _ purX) (by first | exact .inl rfl | exact .inr rfl) (fun _ h => h)) ?_; (rw [q]))
  obtain ⟨⟨⟨p1, p2⟩, p3⟩, p4⟩ := h
  replace p1 := Classical.not_not.1 p1
  replace p2 := Classical.not_not.1 p2
  have p5 : ks.length = ks'.length := by
    have := of_decide_eq_false p3
    omega
  have p6 : rs.length = rs'.length := by
    have := of_decide_eq_false p4
    omega
  clear p3 p4
  have hk : ks.length ≤ 9223372036854775807 := hf.1.2.2.1.1
  have hr : rs.length ≤ 9223372036854775807 := hf.1.2.2.2.1.1
  apply Sat.loop (α := Nat) (fun x => x ≤ ks.length ∧ ∀ i, i < x → ks.getD i [] = ks'.getD i []) (fun x => ks.length - x) 0 (fun x => [(5, .int .i64 (x : Int))]) (fun _ => []) [] [] 0
  · intro x; exact rfl
  · intro x; exact rfl
  · exact rfl
  · exact rfl
  · (repeat' (first | exact AllP.nil | with_reducible refine AllP.cons ?_ ?_)) <;> first | with_reducible exact rfl | exact Int.natCast_add_one _ | exact rfl | exact trivial | (intro _ _; simp [pureL, pureS, pureE]; done) | exact ⟨rfl, rfl, rfl, rfl⟩
  · exact ⟨Nat.zero_le _, fun i hi => by omega⟩
  · rintro x ⟨x1, x2⟩
    repeat' (first
      | ((with_reducible apply Sat.run (X := X64)); exact rfl; (first | exact True.intro | (exact phi) | skip))
      | ((with_reducible apply Sat.drawn); kernel_rfl)
      | ((with_reducible apply DSat.run (X := X64)); exact rfl; (first | exact True.intro | (exact phi) | skip))
      | ((with_reducible apply DSat.fin); kernel_rfl)
      | ((with_reducible apply Sat.cond_p); exact rfl; all_goals (intro h; (try simp only [V.EV.sub, V.EV.len] at h)))
      | ((with_reducible apply Sat.cond); exact rfl; all_goals (intro h; (try simp only [V.EV.sub, V.EV.len, Bool.cond_true_left, Bool.cond_false_right, Bool.or_eq_true, Bool.and_eq_true, Bool.or_eq_false_iff, Bool.and_eq_false_iff, Bool.not_eq_true', Bool.not_eq_false', decide_eq_true_eq, decide_eq_false_iff_not, ne_eq] at h))) | fail)
    · have hx : x < ks.length := by omega
      have q : rootEq ⟨g, ex, ks, rs⟩ ⟨g', ex', ks', rs'⟩ = false := by
        cases hq : rootEq ⟨g, ex, ks, rs⟩ ⟨g', ex', ks', rs'⟩ with
        | false => rfl
        | true =>
          exfalso
          unfold rootEq at hq
          simp only [Bool.and_eq_true, decide_eq_true_eq] at hq
          exact h (hq.2.1 x hx)
      (refine Sat.fin (Sat.end1 rfl rfl rfl True.intro (.refl _ purX) (by first | exact .inl rfl | exact .inr rfl) (fun _ h => h)) ?_; (rw [q]))
    · refine Sat.back (x + 1) [] rfl ?_ ?_ ?_
      · (repeat' (first | exact AllP.nil | with_reducible refine AllP.cons ?_ ?_)) <;> first | with_reducible exact rfl | exact Int.natCast_add_one _ | exact rfl | exact trivial | (intro _ _; simp [pureL, pureS, pureE]; done) | exact ⟨rfl, rfl, rfl, rfl⟩
      · refine ⟨by omega, fun i hi => ?_⟩
        rcases Nat.lt_succ_iff_lt_or_eq.1 hi with h1 | rfl
        · exact x2 i h1
        · exact h
      · omega
    have e2 : ∀ i, i < ks.length → ks.getD i [] = ks'.getD i [] := fun i hi => x2 i (by omega)
    apply Sat.loop (α := Nat) (fun x => x ≤ rs.length ∧ ∀ i, i < x → (rs.getD i role0).name = (rs'.getD i role0).name ∧ (rs.getD i role0).need = (rs'.getD i role0).need ∧ (rs.getD i role0).keys = (rs'.getD i role0).keys) (fun x => rs.length - x) 0 (fun x => [(6, .int .i64 (x : Int))]) (fun _ => []) [] [] 0
    · intro x; exact rfl
    · intro x; exact rfl
    · exact rfl
    · exact rfl
    · (repeat' (first | exact AllP.nil | with_reducible refine AllP.cons ?_ ?_)) <;> first | with_reducible exact rfl | exact Int.natCast_add_one _ | exact rfl | exact trivial | (intro _ _; simp [pureL, pureS, pureE]; done) | exact ⟨rfl, rfl, rfl, rfl⟩
    · exact ⟨Nat.zero_le _, fun i hi => by omega⟩
    · rintro y ⟨y1, y2⟩
      have hi := ints_ref (rs.getD (y : Int).toNat role0).keys (rs'.getD (y : Int).toNat role0).keys
      repeat' (first
        | ((with_reducible apply Sat.run (X := X64)); exact rfl; (first | exact True.intro | (exact phi) | skip))
        | ((with_reducible apply Sat.drawn); kernel_rfl)
        | ((with_reducible apply DSat.run (X := X64)); exact rfl; (first | exact True.intro | (exact phi) | skip))
        | ((with_reducible apply DSat.fin); kernel_rfl)
        | ((with_reducible apply Sat.cond_p); exact rfl; all_goals (intro h; (try simp only [V.EV.sub, V.EV.len] at h)))
        | ((with_reducible apply Sat.cond); exact rfl; all_goals (intro h; (try simp only [V.EV.sub, V.EV.len, Bool.cond_true_left, Bool.cond_false_right, Bool.or_eq_true, Bool.and_eq_true, Bool.or_eq_false_iff, Bool.and_eq_false_iff, Bool.not_eq_true', Bool.not_eq_false', decide_eq_true_eq, decide_eq_false_iff_not, ne_eq] at h)))
        | ((with_reducible apply Sat.callG1 (hi)); exact rfl; exact rfl; exact rfl; exact rfl; kernel_rfl; (intro hG; (exact cnvX)); exact rfl) | fail)
      · have hy : y < rs.length := by omega
        have q : rootEq ⟨g, ex, ks, rs⟩ ⟨g', ex', ks', rs'⟩ = false := by
          cases hq : rootEq ⟨g, ex, ks, rs⟩ ⟨g', ex', ks', rs'⟩ with
          | false => rfl
          | true =>
            exfalso
            unfold rootEq at hq
            simp only [Bool.and_eq_true, decide_eq_true_eq] at hq
            obtain ⟨r1, r2, r3⟩ := hq.2.2 y hy
            rcases h with (h | h) | h
            · exact h r1
            · exact h r2
            · exact h r3
        (refine Sat.fin (Sat.end1 rfl rfl rfl True.intro (.refl _ purX) (by first | exact .inl rfl | exact .inr rfl) (fun _ h => h)) ?_; (rw [q]))
      · refine Sat.back (y + 1) [] rfl ?_ ?_ ?_
        · (repeat' (first | exact AllP.nil | with_reducible refine AllP.cons ?_ ?_)) <;> first | with_reducible exact rfl | exact Int.natCast_add_one _ | exact rfl | exact trivial | (intro _ _; simp [pureL, pureS, pureE]; done) | exact ⟨rfl, rfl, rfl, rfl⟩
        · refine ⟨by omega, fun i hi => ?_⟩
          rcases Nat.lt_succ_iff_lt_or_eq.1 hi with h1 | rfl
          · exact y2 i h1
          · exact ⟨Classical.not_not.1 h.1.1, Classical.not_not.1 h.1.2, h.2⟩
        · omega
      · (refine Sat.fin (Sat.end1 rfl rfl rfl True.intro (.refl _ purX) (by first | exact .inl rfl | exact .inr rfl) (fun _ h => h)) ?_; (refine congrArg SV.bool (Eq.trans (show rootEq ⟨g, ex, ks, rs⟩ ⟨g', ex', ks', rs'⟩ = true by unfold rootEq; rw [decide_eq_true (p := ∀ i, i < ks.length → ks.getD i [] = ks'.getD i []) e2, decide_eq_true (p := ∀ i, i < rs.length → (rs.getD i role0).name = (rs'.getD i role0).name ∧ (rs.getD i role0).need = (rs'.getD i role0).need ∧ (rs.getD i role0).keys = (rs'.getD i role0).keys) (fun i hi => y2 i (by omega)), decide_eq_true ⟨p1, p2, p5, p6⟩]; rfl) rfl)))
theorem rootEq_iff (a b : RootL) : rootEq a b = true ↔ a = b := by
  constructor
  · intro h
    unfold rootEq at h
    simp only [Bool.and_eq_true, decide_eq_true_eq] at h
    obtain ⟨⟨q1, q2, q3, q4⟩, q5, q6⟩ := h
    obtain ⟨g, ex, ks, rs⟩ := a
    obtain ⟨g', ex', ks', rs'⟩ := b
    dsimp only at q1 q2 q3 q4 q5 q6
    have e1 : ks = ks' := by
      refine List.ext_getElem q3 fun i h3 h4 => ?_
      have := q5 i h3
      simpa only [List.getD_eq_getElem?_getD, List.getElem?_eq_getElem h3, List.getElem?_eq_getElem h4, Option.getD_some] using this
    have e2 : rs = rs' := by
      refine List.ext_getElem q4 fun i h3 h4 => ?_
      have := q6 i h3
      simp only [List.getD_eq_getElem?_getD, List.getElem?_eq_getElem h3, List.getElem?_eq_getElem h4, Option.getD_some] at this
      cases hp : rs[i] with
      | mk n1 k1 m1 =>
        cases hq : rs'[i] with
        | mk n2 k2 m2 =>
          rw [hp, hq] at this
          obtain ⟨r1, r2, r3⟩ := this
          dsimp only at r1 r2 r3
          rw [r1, r2, r3]
    rw [q1, q2, e1, e2]
  · rintro rfl
    unfold rootEq
    simp
end Go.Proofs.YtokaegeediokoaaGreatDoor
end
section
namespace Go.Proofs.YtokaegeediokoaaGreatDoor
open Go.RowKit V
set_option maxRecDepth 100000
set_option maxHeartbeats 8000000
set_option linter.unusedSimpArgs false
attribute [local irreducible] V.Sat V.DSat
theorem union_nil {Γ : Glob} (x : Int) : Fun Tryz.prog Γ 51 [.ro (.ints .i64 [x]), .ro (.ints .i64 [])] (.ro (.ints .i64 [x])) := by
  refine Fun.mk 6 Tryz.func51 rfl Tryz.ntmps51 rfl rfl fun T w0 => ?_
  repeat' (first
    | ((with_reducible apply Sat.run (X := X64)); exact rfl; (first | exact True.intro | (exact phi) | skip))
    | ((with_reducible apply Sat.cond_f); exact rfl)
    | (with_reducible apply Sat.unroll 40) | fail)
  exact Sat.fin (Sat.end1 rfl rfl rfl True.intro (.all _ _ _ _ _ rfl rfl rfl trivial) (by first | exact .inl rfl | exact .inr rfl) (fun _ h => h)) rfl
theorem union_nil2 {Γ : Glob} : Fun Tryz.prog Γ 51 [.ro (.ints .i64 []), .ro (.ints .i64 [])] (.ro (.ints .i64 [])) := by
  refine Fun.mk 6 Tryz.func51 rfl Tryz.ntmps51 rfl rfl fun T w0 => ?_
  repeat' (first
    | ((with_reducible apply Sat.run (X := X64)); exact rfl; (first | exact True.intro | (exact phi) | skip))
    | ((with_reducible apply Sat.cond_f); exact rfl)
    | (with_reducible apply Sat.unroll 40) | fail)
  exact Sat.fin (Sat.end1 rfl rfl rfl True.intro (.all _ _ _ _ _ rfl rfl rfl trivial) (by first | exact .inl rfl | exact .inr rfl) (fun _ h => h)) rfl
theorem union_one {Γ : Glob} (y : Int) : Fun Tryz.prog Γ 51 [.ro (.ints .i64 []), .ro (.ints .i64 [y])] (.ro (.ints .i64 [y])) := by
  have h1 := has_ref (Γ := Γ) [] y
  rw [show hasB [] y = false from rfl] at h1
  refine Fun.mk 6 Tryz.func51 rfl Tryz.ntmps51 rfl rfl fun T w0 => ?_
  repeat' (first
    | ((with_reducible apply Sat.run (X := X64)); exact rfl; (first | exact True.intro | (exact phi) | skip))
    | ((with_reducible apply Sat.drawn); kernel_rfl)
    | ((with_reducible apply DSat.run (X := X64)); exact rfl; (first | exact True.intro | (exact phi) | skip))
    | ((with_reducible apply DSat.fin); kernel_rfl)
    | ((with_reducible apply Sat.cond_t); exact rfl)
    | ((with_reducible apply Sat.cond_f); exact rfl)
    | (with_reducible apply Sat.unroll 40)
    | (with_reducible apply Sat.again)
    | ((with_reducible apply Sat.callR (h1)); exact rfl; exact rfl; exact rfl; kernel_rfl; (exact cnvX); exact rfl) | fail)
  exact Sat.fin (Sat.end1 rfl rfl rfl True.intro (.all _ _ _ _ _ rfl rfl rfl trivial) (by first | exact .inl rfl | exact .inr rfl) (fun _ h => h)) rfl
theorem union_same {Γ : Glob} (x : Int) : Fun Tryz.prog Γ 51 [.ro (.ints .i64 [x]), .ro (.ints .i64 [x])] (.ro (.ints .i64 [x])) := by
  have h1 := has_ref (Γ := Γ) [x] x
  rw [show hasB [x] x = true by simp [hasB]] at h1
  refine Fun.mk 6 Tryz.func51 rfl Tryz.ntmps51 rfl rfl fun T w0 => ?_
  repeat' (first
    | ((with_reducible apply Sat.run (X := X64)); exact rfl; (first | exact True.intro | (exact phi) | skip))
    | ((with_reducible apply Sat.cond_t); exact rfl)
    | ((with_reducible apply Sat.cond_f); exact rfl)
    | (with_reducible apply Sat.unroll 40)
    | (with_reducible apply Sat.again)
    | ((with_reducible apply Sat.callR (h1)); exact rfl; exact rfl; exact rfl; kernel_rfl; (exact cnvX); exact rfl) | fail)
  exact Sat.fin (Sat.end1 rfl rfl rfl True.intro (.all _ _ _ _ _ rfl rfl rfl trivial) (by first | exact .inl rfl | exact .inr rfl) (fun _ h => h)) rfl
theorem union_lt {Γ : Glob} (x y : Int) (h : x < y) : Fun Tryz.prog Γ 51 [.ro (.ints .i64 [x]), .ro (.ints .i64 [y])] (.ro (.ints .i64 [x, y])) := by
  have h1 := has_ref (Γ := Γ) [x] y
  rw [show hasB [x] y = false by simp [hasB]; omega] at h1
  have hq : (bif decide ((0 : Int) < 1) then decide (x < y) else false) = true := by simp [h]
  refine Fun.mk 6 Tryz.func51 rfl Tryz.ntmps51 rfl rfl fun T w0 => ?_
  repeat' (first
    | ((with_reducible apply Sat.cond); exact rfl; (intro h; clear h; rotate_left); (intro h; exact absurd (h.symm.trans hq) (by decide)))
    | ((with_reducible apply Sat.run (X := X64)); exact rfl; (first | exact True.intro | (exact phi) | skip))
    | ((with_reducible apply Sat.drawn); kernel_rfl)
    | ((with_reducible apply DSat.run (X := X64)); exact rfl; (first | exact True.intro | (exact phi) | skip))
    | ((with_reducible apply DSat.fin); kernel_rfl)
    | ((with_reducible apply Sat.cond_t); exact rfl)
    | ((with_reducible apply Sat.cond_f); exact rfl)
    | (with_reducible apply Sat.unroll 40)
    | (with_reducible apply Sat.again)
    | ((with_reducible apply Sat.callR (h1)); exact rfl; exact rfl; exact rfl; kernel_rfl; (exact cnvX); exact rfl) | fail)
  exact Sat.fin (Sat.end1 rfl rfl rfl True.intro (.all _ _ _ _ _ rfl rfl rfl trivial) (by first | exact .inl rfl | exact .inr rfl) (fun _ h => h)) rfl
theorem union_gt {Γ : Glob} (x y : Int) (h : y < x) : Fun Tryz.prog Γ 51 [.ro (.ints .i64 [x]), .ro (.ints .i64 [y])] (.ro (.ints .i64 [y, x])) := by
  have h1 := has_ref (Γ := Γ) [x] y
  rw [show hasB [x] y = false by simp [hasB]; omega] at h1
  have hq : (bif decide ((0 : Int) < 1) then decide (x < y) else false) = false := by simp; omega
  refine Fun.mk 6 Tryz.func51 rfl Tryz.ntmps51 rfl rfl fun T w0 => ?_
  repeat' (first
    | ((with_reducible apply Sat.cond); exact rfl; (intro h; exact absurd (h.symm.trans hq) (by decide)); (intro h; clear h))
    | ((with_reducible apply Sat.run (X := X64)); exact rfl; (first | exact True.intro | (exact phi) | skip))
    | ((with_reducible apply Sat.drawn); kernel_rfl)
    | ((with_reducible apply DSat.run (X := X64)); exact rfl; (first | exact True.intro | (exact phi) | skip))
    | ((with_reducible apply DSat.fin); kernel_rfl)
    | ((with_reducible apply Sat.cond_t); exact rfl)
    | ((with_reducible apply Sat.cond_f); exact rfl)
    | (with_reducible apply Sat.unroll 40)
    | (with_reducible apply Sat.again)
    | ((with_reducible apply Sat.callR (h1)); exact rfl; exact rfl; exact rfl; kernel_rfl; (exact cnvX); exact rfl) | fail)
  exact Sat.fin (Sat.end1 rfl rfl rfl True.intro (.all _ _ _ _ _ rfl rfl rfl trivial) (by first | exact .inl rfl | exact .inr rfl) (fun _ h => h)) rfl
end Go.Proofs.YtokaegeediokoaaGreatDoor
end
section
namespace Go.Proofs.YtokaegeediokoaaGreatDoor
open Go.RowKit V
theorem cut_inv (d : Array Int) (hs : ∀ i j, i ≤ j → j < d.size → d[i]! ≤ d[j]!) : ∀ m, m ≤ d.size → (Lib.compactUpTo d m).Pairwise (· < ·) ∧ (∀ y ∈ Lib.compactUpTo d m, 0 < m ∧ y ≤ d[m - 1]!) ∧ ∀ j, j < m → d[j]! ∈ Lib.compactUpTo d m
  | 0, _ => ⟨by simp [Lib.compactUpTo], by simp [Lib.compactUpTo], fun j hj => absurd hj (Nat.not_lt_zero _)⟩
  | m + 1, hm => by
    obtain ⟨q1, q2, q3⟩ := cut_inv d hs m (by omega)
    rw [Lib.compactUpTo_succ]
    by_cases hk : Lib.keeps d m = true
    · rw [if_pos hk]
      have hlt : ∀ y ∈ Lib.compactUpTo d m, y < d[m]! := by
        intro y hy
        obtain ⟨h0, h1⟩ := q2 y hy
        have h2 := hs (m - 1) m (by omega) (by omega)
        have h3 : d[m]! ≠ d[m - 1]! := by
          unfold Lib.keeps at hk
          intro e
          simp [e] at hk
          omega
        omega
      refine ⟨List.pairwise_append.2 ⟨q1, List.pairwise_singleton _ _, fun a ha b hb => ?_⟩, fun y hy => ⟨by omega, ?_⟩, fun j hj => ?_⟩
      · rw [List.mem_singleton] at hb
        subst hb
        exact hlt a ha
      · rw [Nat.add_sub_cancel]
        rcases List.mem_append.1 hy with h | h
        · exact Int.le_of_lt (hlt y h)
        · rw [List.mem_singleton] at h
          rw [h]
          exact Int.le_refl _
      · rcases Nat.lt_succ_iff_lt_or_eq.1 hj with h | rfl
        · exact List.mem_append_left _ (q3 j h)
        · exact List.mem_append_right _ (List.mem_singleton.2 rfl)
    · rw [if_neg hk, List.append_nil]
      have h0 : 0 < m ∧ d[m]! = d[m - 1]! := by
        unfold Lib.keeps at hk
        simp at hk
        omega
      refine ⟨q1, fun y hy => ⟨by omega, ?_⟩, fun j hj => ?_⟩
      · rw [Nat.add_sub_cancel, h0.2]
        exact (q2 y hy).2
      · rcases Nat.lt_succ_iff_lt_or_eq.1 hj with h | rfl
        · exact q3 j h
        · rw [h0.2]
          exact q3 _ (by omega)
theorem compact_str {zs : List Int} (h : zs.Pairwise (· ≤ ·)) : (Lib.compact zs).Pairwise (· < ·) ∧ ∀ y, y ∈ Lib.compact zs ↔ y ∈ zs := by
  have hs : ∀ i j, i ≤ j → j < zs.toArray.size → zs.toArray[i]! ≤ zs.toArray[j]! := by
    intro i j hij hj
    have hj2 : j < zs.length := by simpa using hj
    rw [getElem!_pos _ j hj, getElem!_pos _ i (by omega)]
    rcases Nat.lt_or_eq_of_le hij with e | rfl
    · simpa using List.pairwise_iff_getElem.1 h i j (by omega) hj2 e
    · exact Int.le_refl _
  obtain ⟨q1, _, q3⟩ := cut_inv zs.toArray hs zs.length (by simp)
  refine ⟨q1, fun y => ⟨compact_mem, fun hy => ?_⟩⟩
  obtain ⟨j, hj, rfl⟩ := List.getElem_of_mem hy
  have := q3 j hj
  rw [getElem!_pos _ j (by simpa using hj)] at this
  unfold Lib.compact
  simpa using this
theorem goneU_str (a b : List Int) : (goneU a b).Pairwise (· < ·) := by
  refine (compact_str ?_).1
  have := List.pairwise_mergeSort (le := fun x y : Int => decide (x ≤ y)) (fun a b c h1 h2 => by simp at *; omega) (fun a b => by simp; omega) (a ++ b)
  exact this.imp fun h => by simpa using h
theorem goneU_mem (a b : List Int) (y : Int) : y ∈ goneU a b ↔ y ∈ a ∨ y ∈ b := by
  have hp : ((a ++ b).mergeSort fun x y => decide (x ≤ y)).Pairwise (· ≤ ·) := by
    have := List.pairwise_mergeSort (le := fun x y : Int => decide (x ≤ y)) (fun a b c h1 h2 => by simp at *; omega) (fun a b => by simp; omega) (a ++ b)
    exact this.imp fun h => by simpa using h
  rw [show goneU a b = Lib.compact ((a ++ b).mergeSort fun x y => decide (x ≤ y)) from rfl, (compact_str hp).2, List.mem_mergeSort, List.mem_append]
theorem str_uniq : ∀ {a b : List Int}, a.Pairwise (· < ·) → b.Pairwise (· < ·) → (∀ y, y ∈ a ↔ y ∈ b) → a = b
  | [], [], _, _, _ => rfl
  | [], y :: b, _, _, h => absurd ((h y).2 (List.mem_cons_self ..)) (by simp)
  | x :: a, [], _, _, h => absurd ((h x).1 (List.mem_cons_self ..)) (by simp)
  | x :: a, y :: b, ha, hb, h => by
    obtain ⟨a1, a2⟩ := List.pairwise_cons.1 ha
    obtain ⟨b1, b2⟩ := List.pairwise_cons.1 hb
    have hxy : x = y := by
      rcases List.mem_cons.1 ((h x).1 (List.mem_cons_self ..)) with e | e
      · exact e
      · rcases List.mem_cons.1 ((h y).2 (List.mem_cons_self ..)) with e2 | e2
        · exact e2.symm
        · have := a1 y e2
          have := b1 x e
          omega
    subst hxy
    rw [str_uniq a2 b2 fun z => ?_]
    constructor
    · intro hz
      rcases List.mem_cons.1 ((h z).1 (List.mem_cons_of_mem _ hz)) with e | e
      · subst e; exact absurd (a1 z hz) (by omega)
      · exact e
    · intro hz
      rcases List.mem_cons.1 ((h z).2 (List.mem_cons_of_mem _ hz)) with e | e
      · subst e; exact absurd (b1 z hz) (by omega)
      · exact e
theorem goneU_len (a b : List Int) : (goneU a b).length ≤ a.length + b.length := by
  have h1 := Lib.compact_length_le ((a ++ b).mergeSort fun x y => decide (x ≤ y))
  rw [List.length_mergeSort, List.length_append] at h1
  exact h1
theorem goneU_nil (b : List Int) (h : b.Pairwise (· < ·)) : goneU [] b = b := str_uniq (goneU_str _ _) h fun y => by rw [goneU_mem]; simp
theorem goneU_nil2 (b : List Int) (h : b.Pairwise (· < ·)) : goneU b [] = b := str_uniq (goneU_str _ _) h fun y => by rw [goneU_mem]; simp
theorem union_spec {Γ : Glob} (a b : List Int) (ha : a.length ≤ 1) (hb : b.length ≤ 1) : Fun Tryz.prog Γ 51 [.ro (.ints .i64 a), .ro (.ints .i64 b)] (.ro (.ints .i64 (goneU a b))) := by
  rcases a with _ | ⟨x, _ | ⟨_, _⟩⟩
  · rcases b with _ | ⟨y, _ | ⟨_, _⟩⟩
    · rw [goneU_nil [] .nil]; exact union_nil2
    · rw [goneU_nil [y] (List.pairwise_singleton _ _)]; exact union_one y
    · simp at hb
  · rcases b with _ | ⟨y, _ | ⟨_, _⟩⟩
    · rw [goneU_nil2 [x] (List.pairwise_singleton _ _)]; exact union_nil x
    · rcases Int.lt_trichotomy x y with h | rfl | h
      · rw [str_uniq (b := [x, y]) (goneU_str _ _) (by simp [h]) fun z => by rw [goneU_mem]; simp]
        exact union_lt x y h
      · rw [str_uniq (b := [x]) (goneU_str _ _) (by simp) fun z => by rw [goneU_mem]; simp]
        exact union_same x
      · rw [str_uniq (b := [y, x]) (goneU_str _ _) (by simp [h]) fun z => by rw [goneU_mem]; simp [or_comm]]
        exact union_gt x y h
    · simp at hb
  · simp at ha
end Go.Proofs.YtokaegeediokoaaGreatDoor
end
section
namespace Go.Proofs.YtokaegeediokoaaGreatDoor
open Go.RowKit V
set_option maxRecDepth 100000
set_option maxHeartbeats 8000000
set_option linter.unusedSimpArgs false
attribute [local irreducible] V.Sat V.DSat
theorem ints27 {Γ : Glob} (l m : List Int) : Fun Tryz.prog Γ 26 [.ro (.ints .i64 l), .ro (.ints .i64 m)] (.bool (decide (l = m))) := by
  refine Fun.mkF 6 Tryz.func26 rfl Tryz.ntmps26 rfl rfl fun hf T w0 => ?_
  obtain ⟨⟨hl, _⟩, ⟨hm, _⟩, _⟩ := hf
  dsimp only [EV.len] at hl hm
  unfold okLen at hl hm
  repeat' (first
    | ((with_reducible apply Sat.run (X := X64)); exact rfl; (first | exact True.intro | (exact phi) | skip))
    | ((with_reducible apply Sat.cond_p); exact rfl; all_goals (intro h; (try simp only [V.EV.sub, V.EV.len] at h))) | fail)
  · (refine Sat.fin (Sat.end1 rfl rfl rfl True.intro (.refl _ purX) (by first | exact .inl rfl | exact .inr rfl) (fun _ h => h)) ?_; (refine congrArg SV.bool ?_; exact decide_eq_false (fun e => by subst e; exact h rfl)))
  have hlm : l.length = m.length := by simp [EV.len] at h; omega
  apply Sat.loop (α := Nat) (fun x => x ≤ l.length ∧ ∀ i, i < x → l.getD i 0 = m.getD i 0) (fun x => l.length - x) 0 (fun x => [(5, .int .i64 (x : Int))]) (fun _ => []) [] [] 0
  · intro x; exact rfl
  · intro x; exact rfl
  · exact rfl
  · exact rfl
  · (repeat' (first | exact AllP.nil | with_reducible refine AllP.cons ?_ ?_)) <;> first | exact rfl | exact trivial
  · exact ⟨Nat.zero_le _, fun i hi => by omega⟩
  · rintro x ⟨x1, x2⟩
    repeat' (first
      | ((with_reducible apply Sat.run (X := X64)); exact rfl; (first | exact True.intro | (exact phi) | skip))
      | ((with_reducible apply Sat.drawn); kernel_rfl)
      | ((with_reducible apply DSat.run (X := X64)); exact rfl; (first | exact True.intro | (exact phi) | skip))
      | ((with_reducible apply DSat.fin); kernel_rfl)
      | ((with_reducible apply Sat.cond_p); exact rfl; all_goals (intro h; (try simp only [V.EV.sub, V.EV.len] at h))) | fail)
    · (refine Sat.fin (Sat.end1 rfl rfl rfl True.intro (.refl _ purX) (by first | exact .inl rfl | exact .inr rfl) (fun _ h => h)) ?_; (refine congrArg SV.bool (decide_eq_false fun e => ?_); subst e; exact h rfl))
    · refine Sat.back (x + 1) [] rfl ?_ ?_ ?_
      · (repeat' (first | exact AllP.nil | with_reducible refine AllP.cons ?_ ?_)) <;> first | exact rfl | exact trivial | exact Int.natCast_add_one _
      · refine ⟨by omega, fun i hi => ?_⟩
        rcases Nat.lt_succ_iff_lt_or_eq.1 hi with h1 | rfl
        · exact x2 i h1
        · have e : (i : Int).toNat = i := rfl
          rw [e] at h
          exact Decidable.not_not.1 h
      · omega
    · (refine Sat.fin (Sat.end1 rfl rfl rfl True.intro (.refl _ purX) (by first | exact .inl rfl | exact .inr rfl) (fun _ h => h)) ?_; (refine congrArg SV.bool (decide_eq_true ?_); exact (list_eq_iff rfl hlm.symm).1 fun j hj => x2 j (by omega)))
def trustEq (a b : TrustL) : Bool := bif bif (bif rootEq a.root b.root then decide (a.floor = b.floor) else false) then decide (a.gone = b.gone) else false then decide (a.now = b.now) else false
theorem trustEq_iff (a b : TrustL) : trustEq a b = true ↔ a = b := by
  have h1 := rootEq_iff a.root b.root
  obtain ⟨r, f, g, n⟩ := a
  obtain ⟨r', f', g', n'⟩ := b
  unfold trustEq
  dsimp only at h1 ⊢
  constructor
  · intro h
    cases hr : rootEq r r' <;> rw [hr] at h h1
    · simp at h
    · simp at h
      obtain ⟨⟨rfl, rfl⟩, rfl⟩ := h
      rw [h1.1 rfl]
  · intro h
    cases h
    rw [h1.2 rfl]
    simp
theorem same27 (a b : TrustL) : Fun Tryz.prog Γh 24 [a.v, b.v] (.bool (trustEq a b)) := by
  have h1 := (same_root a.root b.root).weak (Γ := Γh)
  have h2 := ints27 (Γ := Γh) a.gone b.gone
  refine Fun.mk 6 Tryz.func24 rfl Tryz.ntmps24 rfl rfl fun T w0 => ?_
  repeat' (first
    | ((with_reducible apply Sat.run (X := X64)); exact rfl; (first | exact True.intro | (exact phi) | skip))
    | ((with_reducible apply Sat.callR (h1)); exact rfl; exact rfl; exact rfl; kernel_rfl; (exact cnvX); exact rfl)
    | ((with_reducible apply Sat.callG1 (h2)); exact rfl; exact rfl; exact rfl; exact rfl; kernel_rfl; (intro hG; (exact cnvX)); exact rfl) | fail)
  (refine Sat.fin (Sat.end1 rfl rfl rfl True.intro (.refl _ purX) (by first | exact .inl rfl | exact .inr rfl) (fun _ h => h)) ?_; rfl)
def accEq (a b : TrustL) (r r' : Rel) (e e' : Int) : Bool := bif (bif trustEq a b then relEq r r' else false) then decide (e = e') else false
theorem accEq_refl (a : TrustL) (r : Rel) (e : Int) : accEq a a r r e e = true := by
  unfold accEq
  rw [(trustEq_iff a a).2 rfl, (relEq_iff r r).2 rfl]
  simp
theorem sameacc (a b : TrustL) (r r' : Rel) (e e' : Int) : Fun Tryz.prog Γh 19 [.agg (accC a r e), .agg (accC b r' e')] (.bool (accEq a b r r' e e')) := by
  have h1 := same27 a b
  have h2 := (same_rel r r').weak (Γ := Γh)
  refine Fun.mk 7 Tryz.func19 rfl Tryz.ntmps19 rfl rfl fun T w0 => ?_
  repeat' (first
    | ((with_reducible apply Sat.run (X := X64)); exact rfl; (first | exact True.intro | (exact phi) | skip))
    | ((with_reducible apply Sat.callR (h1)); exact rfl; exact rfl; exact rfl; kernel_rfl; (exact cnvX); exact rfl)
    | ((with_reducible apply Sat.callG1 (h2)); exact rfl; exact rfl; exact rfl; exact rfl; kernel_rfl; (intro hG; (exact cnvX)); exact rfl) | fail)
  (refine Sat.fin (Sat.end1 rfl rfl rfl True.intro (.refl _ purX) (by first | exact .inl rfl | exact .inr rfl) (fun _ h => h)) ?_; rfl)
end Go.Proofs.YtokaegeediokoaaGreatDoor
end
section
namespace Go.Proofs.YtokaegeediokoaaGreatDoor
open Go.RowKit V
set_option maxRecDepth 100000
set_option maxHeartbeats 4000000
set_option linter.unusedSimpArgs false
attribute [local irreducible] V.Sat V.DSat
def tkZ (l : List UInt8) (n : Nat) : List UInt8 := if n ≤ l.length then l.take n else List.replicate n 0
theorem tkZ_len (l : List UInt8) (n : Nat) : (tkZ l n).length = n := by
  unfold tkZ
  split
  · simp; omega
  · simp
theorem takeR_spec (l : List UInt8) (bad : Bool) (n : Nat) (hn : n ≤ 255) : MFun Tryz.prog [] 112 [.int .i64 (n : Int)] 180 [.ro (.u8 l), .bool bad] [.ro (.u8 (tkR l n)), .bool (tkB l bad n)] (.ro (.u8 (tkZ l n))) := by
  refine MFun.mk 6 Tryz.func112 rfl Tryz.ntmps112 rfl rfl fun hf hg T w b hT hTb => ?_
  unfold tkZ tkR tkB
  by_cases h0 : n ≤ l.length
  · rw [if_pos h0, if_pos h0, if_pos h0]
    repeat' (first
      | ((with_reducible apply Sat.run (X := X64)); exact rfl; (first | exact True.intro | (exact phi) | skip))
      | ((with_reducible apply Sat.cond_pf); exact rfl; (try dsimp only [V.EV.sub, V.EV.len]); first | assumption | omega) | fail)
    refine Sat.mfin (Sat.mend1 hT rfl rfl True.intro rfl (.cons _ _ _ _ (.refl _ trivial) (.cons _ _ _ _ (.refl _ trivial) .nil)) (.refl _ trivial) (by first | exact .inl rfl | exact .inr rfl) rfl) ?_ ?_
    · show SV.ro (EV.u8 (l.take n)) = SV.ro (EV.u8 (((l.drop 0).take (n - 0))))
      rw [List.drop_zero, Nat.sub_zero]
    · show [SV.ro (EV.u8 (l.drop n)), SV.bool bad] = [SV.ro (EV.u8 ((l.drop n).take (l.length - n))), SV.bool bad]
      rw [List.take_of_length_le (by simp)]
  · rw [if_neg h0, if_neg h0, if_neg h0]
    repeat' (first
      | ((with_reducible apply Sat.run (X := X64)); exact rfl; (first | exact True.intro | (exact phi) | skip))
      | ((with_reducible apply Sat.cond_pt); exact rfl; (try dsimp only [V.EV.sub, V.EV.len]); first | assumption | omega) | fail)
    · rw [show (mctx Tryz.prog [] 119 T w b).P.types[5].bytes = 1 from by kernel_rfl]
      exact ⟨⟨by omega, by omega, by omega, by omega⟩, trivial⟩
    refine Sat.mfin (Sat.mend1 hT rfl rfl True.intro rfl (.cons _ _ _ _ (.nils (.u8 []) rfl) (.cons _ _ _ _ (.refl _ trivial) .nil)) (.all _ _ _ _ _ rfl rfl (by simp [EV.len]) trivial) (by first | exact .inl rfl | exact .inr rfl) rfl) ?_ ?_
    all_goals rfl
theorem numV_zero : ∀ n : Nat, numV (List.replicate n 0) = 0
  | 0 => rfl
  | n + 1 => by
    have := numV_zero n
    unfold numV at this ⊢
    simpa [List.replicate_succ] using this
theorem numV_tkZ (l : List UInt8) (n : Nat) : numV (tkZ l n) = numV (tkO l n) := by
  unfold tkZ tkO
  split
  · rfl
  · rw [numV_zero]; rfl
theorem hashO_tkZ (l : List UInt8) : tkZ l 32 = hashO l := rfl
theorem numberR_spec (l : List UInt8) (bad : Bool) (n : Nat) (hn : n ≤ 4) : MFun Tryz.prog [] 113 [.int .i64 (n : Int)] 180 [.ro (.u8 l), .bool bad] [.ro (.u8 (tkR l n)), .bool (tkB l bad n)] (.int .i64 (numV (tkO l n) : Int)) := by
  have ht := takeR_spec l bad n (by omega)
  have hl := tkZ_len l n
  rw [← numV_tkZ]
  generalize tkZ l n = m at ht hl ⊢
  refine MFun.mk 6 Tryz.func113 rfl Tryz.ntmps113 rfl rfl fun hf hg T w b hT hTb => ?_
  repeat' (first
    | ((with_reducible apply Sat.run (X := X64)); exact rfl; (first | exact True.intro | (exact phi) | skip))
    | ((with_reducible apply Sat.mcall (ht)); exact rfl; exact rfl; kernel_rfl; (exact cnv); exact rfl; exact pur; exact rfl; exact rfl) | fail)
  clear ht
  apply Sat.loop (α := Nat) (fun x => x ≤ m.length) (fun x => m.length - x) 0 (fun x => [(7, .int .i64 (x : Int)), (6, .int .i64 (numV (m.take x) : Int))]) (fun _ => []) [] [] 0
  · intro x; exact rfl
  · intro x; exact rfl
  · exact rfl
  · exact rfl
  · (repeat' (first | exact AllP.nil | with_reducible refine AllP.cons ?_ ?_)) <;> first | exact rfl | exact trivial
  · exact Nat.zero_le _
  · intro x hx
    have h1 := numV_lt m x hx
    have h2 : 256 ^ x ≤ 256 ^ 4 := Nat.pow_le_pow_right (by omega) (by omega)
    have h3 : numV (m.take x) < 4294967296 := by omega
    clear h1 h2
    have h4 := (m.getD (x : Int).toNat 0).toNat_lt
    generalize hv : numV (m.take x) = v at h3
    repeat' (first
      | ((with_reducible apply Sat.run (X := X64)); exact rfl; (first | exact True.intro | (exact phi) | skip))
      | ((with_reducible apply Sat.cond_p); exact rfl; all_goals intro h) | fail)
    · have hx2 : x < m.length := by omega
      refine Sat.back (x + 1) [] rfl ?_ hx2 (by omega)
      (repeat' (first | exact AllP.nil | with_reducible refine AllP.cons ?_ ?_)) <;> first | with_reducible exact rfl | exact Int.natCast_add_one _ | (rw [numV_snoc m x hx2, hv]; show 256 * (v : Int) + ((m.getD x 0).toNat : Int) = ((v * 256 + (m.getD x 0).toNat : Nat) : Int); omega) | exact rfl | exact trivial
    · have hx2 : x = m.length := by omega
      rw [hx2, List.take_length] at hv
      refine Sat.mfin (Sat.mend1 hT rfl rfl True.intro rfl (.cons _ _ _ _ (.refl _ trivial) (.cons _ _ _ _ (.refl _ trivial) .nil)) (.refl _ trivial) (by first | exact .inl rfl | exact .inr rfl) rfl) ?_ rfl
      rw [hv]
theorem set_step (m : List UInt8) (x : Nat) (hm : m.length = 32) (hx : x < 32) : (m.take x ++ List.replicate (32 - x) 0).set x (UInt8.ofNat ((m.getD x 0).toNat : Int).toNat) = m.take (x + 1) ++ List.replicate (32 - (x + 1)) 0 := by
  have e : UInt8.ofNat ((m.getD x 0).toNat : Int).toNat = m.getD x 0 := by
    rw [Int.toNat_natCast, UInt8.ofNat_toNat]
  have e2 : m.take (x + 1) = m.take x ++ [m.getD x 0] := by
    rw [List.take_add_one]
    simp [List.getD_eq_getElem?_getD, show x < m.length by omega]
  have hl : (m.take x).length = x := by simp; omega
  rw [e, show 32 - x = (32 - (x + 1)) + 1 by omega, List.replicate_succ, List.set_append_right _ _ (by omega), hl, Nat.sub_self, List.set_cons_zero, e2, List.append_assoc]
  rfl
theorem sumR_spec (l : List UInt8) (bad : Bool) : MFun Tryz.prog [] 114 [] 180 [.ro (.u8 l), .bool bad] [.ro (.u8 (tkR l 32)), .bool (tkB l bad 32)] (.arr 32 (.u8 (hashO l))) := by
  have ht := takeR_spec l bad 32 (by omega)
  have hl := tkZ_len l 32
  rw [← hashO_tkZ]
  generalize tkZ l 32 = m at ht hl ⊢
  refine MFun.mk 6 Tryz.func114 rfl Tryz.ntmps114 rfl rfl fun hf hg T w b hT hTb => ?_
  repeat' (first
    | ((with_reducible apply Sat.run (X := X64)); exact rfl; (first | exact True.intro | (exact phi) | skip))
    | ((with_reducible apply Sat.mcall (ht)); exact rfl; exact rfl; kernel_rfl; (exact cnv); exact rfl; exact pur; exact rfl; exact rfl) | fail)
  clear ht
  apply Sat.loop (α := Nat) (fun x => x ≤ 32) (fun x => 32 - x) 0 (fun x => [(5, .int .i64 (x : Int))]) (fun x => [(2, .cells 40 [.arr 32 (.u8 (m.take x ++ List.replicate (32 - x) 0))])]) [] [] 0
  · intro x; exact rfl
  · intro x; exact rfl
  · exact rfl
  · exact rfl
  · (repeat' (first | exact AllP.nil | with_reducible refine AllP.cons ?_ ?_)) <;> first | exact rfl | exact trivial
  · exact Nat.zero_le _
  · intro x hx
    repeat' (first
      | ((with_reducible apply Sat.run (X := X64)); exact rfl; (first | exact True.intro | (exact phi) | skip))
      | ((with_reducible apply Sat.cond_p); exact rfl; all_goals intro h) | fail)
    · have hx2 : x < 32 := by omega
      refine Sat.back (x + 1) [] rfl ?_ (by omega) (by omega)
      (repeat' (first | exact AllP.nil | with_reducible refine AllP.cons ?_ ?_)) <;> first | with_reducible exact rfl | exact Int.natCast_add_one _ | exact congrArg EV.u8 (set_step m x hl hx2) | exact rfl | exact trivial
    · have hx2 : x = 32 := by omega
      subst hx2
      refine Sat.mfin (Sat.mend1 hT rfl rfl True.intro rfl (.cons _ _ _ _ (.refl _ trivial) (.cons _ _ _ _ (.refl _ trivial) .nil)) (.refl _ trivial) (by first | exact .inl rfl | exact .inr rfl) rfl) ?_ rfl
      refine congrArg (fun x => SV.arr 32 (EV.u8 x)) ?_
      rw [List.take_of_length_le (by omega)]
      simp
end Go.Proofs.YtokaegeediokoaaGreatDoor
end
section
namespace Go.Proofs.YtokaegeediokoaaGreatDoor
open Go.RowKit V
set_option maxRecDepth 100000
set_option maxHeartbeats 4000000
set_option linter.unusedSimpArgs false
attribute [local irreducible] V.Sat V.DSat tkO tkR tkB tkZ numV hashO
theorem take1_rf (l : List UInt8) (bad : Bool) : MFun Tryz.prog [] 112 [.int .i64 1] 180 [.ro (.u8 l), .bool bad] [.ro (.u8 (tkR l 1)), .bool (tkB l bad 1)] (.ro (.u8 (tkZ l 1))) := takeR_spec l bad 1 (by omega)
theorem num1_rf (l : List UInt8) (bad : Bool) : MFun Tryz.prog [] 113 [.int .i64 1] 180 [.ro (.u8 l), .bool bad] [.ro (.u8 (tkR l 1)), .bool (tkB l bad 1)] (.int .i64 (numV (tkO l 1) : Int)) := numberR_spec l bad 1 (by omega)
theorem num2_rf (l : List UInt8) (bad : Bool) : MFun Tryz.prog [] 113 [.int .i64 2] 180 [.ro (.u8 l), .bool bad] [.ro (.u8 (tkR l 2)), .bool (tkB l bad 2)] (.int .i64 (numV (tkO l 2) : Int)) := numberR_spec l bad 2 (by omega)
theorem num4_rf (l : List UInt8) (bad : Bool) : MFun Tryz.prog [] 113 [.int .i64 4] 180 [.ro (.u8 l), .bool bad] [.ro (.u8 (tkR l 4)), .bool (tkB l bad 4)] (.int .i64 (numV (tkO l 4) : Int)) := numberR_spec l bad 4 (by omega)
def rdPartR (s : RdS) : PartL × RdS := (⟨tkZ (s.tk 1).l (s.num 1), hashO ((s.tk 1).tk (s.num 1)).l⟩, ((s.tk 1).tk (s.num 1)).tk 32)
def partsR (s : RdS) : List PartL × RdS := listP rdPartR (s.num 1) (s.tk 1)
def parseR (b : List UInt8) : Rel := ⟨(numV (tkO (tkR b 1) 2) : Int), (numV (tkO (tkR (tkR b 1) 2) 2) : Int), (numV (tkO (tkR (tkR (tkR b 1) 2) 2) 4) : Int), (numV (tkO (tkR (tkR (tkR (tkR b 1) 2) 2) 4) 4) : Int), hashO (tkR (tkR (tkR (tkR (tkR b 1) 2) 2) 4) 4), (numV (tkO (tkR (tkR (tkR (tkR (tkR (tkR b 1) 2) 2) 4) 4) 32) 2) : Int), hashO (tkR (tkR (tkR (tkR (tkR (tkR (tkR b 1) 2) 2) 4) 4) 32) 2), (goneP (hd8 b)).1, (partsR (goneP (hd8 b)).2).1⟩
def badR (b : List UInt8) : Bool := (partsR (goneP (hd8 b)).2).2.bad
def okR (b : List UInt8) : Bool := !badR b && (!decide (b = []) && (validB (parseR b) && decide (bytesR (parseR b) = b)))
theorem parseR_walk (b : List UInt8) : Fun Tryz.prog [] 49 [.ro (.u8 b)] (.tup [(bif okR b then parseR b else zeroRel).v, .int .i64 (bif okR b then 0 else 260)]) := by
  refine Fun.mkF 7 Tryz.func49 rfl Tryz.ntmps49 rfl rfl fun hf T w0 => ?_
  have hN := numV_le (tkR (tkR (tkR (tkR (tkR (tkR (tkR (tkR b 1) 2) 2) 4) 4) 32) 2) 32) 1
  repeat' (first
    | ((with_reducible apply Sat.run (X := X64)); exact rfl; (first | exact True.intro | (exact phi) | skip))
    | ((with_reducible apply Sat.mcall (take1_rf _ _)); exact rfl; exact rfl; kernel_rfl; (exact cnvX); exact rfl; exact purX; exact rfl; exact rfl)
    | ((with_reducible apply Sat.mcall (num2_rf _ _)); exact rfl; exact rfl; kernel_rfl; (exact cnvX); exact rfl; exact purX; exact rfl; exact rfl)
    | ((with_reducible apply Sat.mcall (num4_rf _ _)); exact rfl; exact rfl; kernel_rfl; (exact cnvX); exact rfl; exact purX; exact rfl; exact rfl)
    | ((with_reducible apply Sat.mcall (sumR_spec _ _)); exact rfl; exact rfl; kernel_rfl; (exact cnvX); exact rfl; exact purX; exact rfl; exact rfl)
    | ((with_reducible apply Sat.mcall (num1_rf _ _)); exact rfl; exact rfl; kernel_rfl; (exact cnvX); exact rfl; exact purX; exact rfl; exact rfl) | fail)
  generalize el : (tkR (tkR (tkR (tkR (tkR (tkR (tkR (tkR b 1) 2) 2) 4) 4) 32) 2) 32) = l8 at hN ⊢
  generalize eb : (tkB (tkR (tkR (tkR (tkR (tkR (tkR (tkR b 1) 2) 2) 4) 4) 32) 2) (tkB (tkR (tkR (tkR (tkR (tkR (tkR b 1) 2) 2) 4) 4) 32) (tkB (tkR (tkR (tkR (tkR (tkR b 1) 2) 2) 4) 4) (tkB (tkR (tkR (tkR (tkR b 1) 2) 2) 4) (tkB (tkR (tkR (tkR b 1) 2) 2) (tkB (tkR (tkR b 1) 2) (tkB (tkR b 1) (tkB b false 1) 2) 2) 4) 4) 32) 2) 32) = b8
  have hnv := numV_le (tkR b 1) 2
  generalize env : numV (tkO (tkR b 1) 2) = nv at hnv ⊢
  have hnf := numV_le (tkR (tkR b 1) 2) 2
  generalize enf : numV (tkO (tkR (tkR b 1) 2) 2) = nf at hnf ⊢
  have hne := numV_le (tkR (tkR (tkR b 1) 2) 2) 4
  generalize ene : numV (tkO (tkR (tkR (tkR b 1) 2) 2) 4) = ne at hne ⊢
  have hns := numV_le (tkR (tkR (tkR (tkR b 1) 2) 2) 4) 4
  generalize ens : numV (tkO (tkR (tkR (tkR (tkR b 1) 2) 2) 4) 4) = ns at hns ⊢
  have hnc := numV_le (tkR (tkR (tkR (tkR (tkR (tkR b 1) 2) 2) 4) 4) 32) 2
  generalize enc : numV (tkO (tkR (tkR (tkR (tkR (tkR (tkR b 1) 2) 2) 4) 4) 32) 2) = nc at hnc ⊢
  have him := hashO_len (tkR (tkR (tkR (tkR (tkR b 1) 2) 2) 4) 4)
  generalize eim : hashO (tkR (tkR (tkR (tkR (tkR b 1) 2) 2) 4) 4) = im at him ⊢
  have htr := hashO_len (tkR (tkR (tkR (tkR (tkR (tkR (tkR b 1) 2) 2) 4) 4) 32) 2)
  generalize etr : hashO (tkR (tkR (tkR (tkR (tkR (tkR (tkR b 1) 2) 2) 4) 4) 32) 2) = tr at htr ⊢
  generalize eg : listP rdInt2 (numV (tkO l8 1)) ⟨tkR l8 1, tkB l8 b8 1⟩ = gp
  generalize en : numV (tkO l8 1) = n0 at hN eg ⊢
  generalize eq1 : tkR l8 1 = l9 at eg ⊢
  generalize eq2 : tkB l8 b8 1 = b9 at eg ⊢
  apply Sat.loop (α := Nat × RdS × List Int) (fun x => x.1 ≤ n0 ∧ x.2.2.length = x.1 ∧ gp = (x.2.2 ++ (listP rdInt2 (n0 - x.1) x.2.1).1, (listP rdInt2 (n0 - x.1) x.2.1).2)) (fun x => n0 - x.1) (0, ⟨l9, b9⟩, []) (fun x => [(7, .int .i64 (x.1 : Int))]) (fun x => [(1, .cells 180 [.ro (.u8 x.2.1.l), .bool x.2.1.bad]), (2, .cells 43 [.int .i64 nv, .int .i64 nf, .int .i64 ne, .int .i64 ns, .arr 32 (.u8 im), .int .i64 nc, .arr 32 (.u8 tr), .row 3 0 1 0 x.2.2.length, .nils]), (3, .row 3 (.ints .i64 x.2.2))]) [] [(3, none)] 1
  · intro x; exact rfl
  · intro x; exact rfl
  · exact rfl
  · exact rfl
  · (repeat' (first | exact AllP.nil | with_reducible refine AllP.cons ?_ ?_)) <;> first | with_reducible exact rfl | exact rfl | exact trivial | (intro _ _; simp [pureL, pureS, pureE]; done) | exact ⟨rfl, rfl, rfl, rfl⟩
  · exact ⟨Nat.zero_le _, rfl, by rw [← eg]; rfl⟩
  · rintro ⟨i, s, acc⟩ ⟨x0, x1, x2⟩
    obtain ⟨l, bad⟩ := s
    dsimp only at x0 x1 x2 ⊢
    repeat' (first
      | ((with_reducible apply Sat.run (X := X64)); exact rfl; (first | exact True.intro | (exact phi) | skip))
      | ((with_reducible apply Sat.drawn); kernel_rfl)
      | ((with_reducible apply DSat.run (X := X64)); exact rfl; (first | exact True.intro | (exact phi) | skip))
      | ((with_reducible apply DSat.fin); kernel_rfl)
      | ((with_reducible apply Sat.cond); exact rfl; all_goals (intro h; (try simp only [V.EV.sub, V.EV.len, Bool.cond_true_left, Bool.cond_false_right, Bool.or_eq_true, Bool.and_eq_true, Bool.or_eq_false_iff, Bool.and_eq_false_iff, Bool.not_eq_true', Bool.not_eq_false', decide_eq_true_eq, decide_eq_false_iff_not, ne_eq] at h)))
      | ((with_reducible apply DSat.mcall (num2_rf _ _)); exact rfl; exact rfl; kernel_rfl; (exact cnvX); exact rfl; exact purX; exact rfl; exact rfl) | fail)
    · obtain ⟨hn, hb⟩ : i < n0 ∧ bad = false := by revert h; cases bad <;> simp <;> omega
      refine Sat.back (i + 1, ⟨tkR l 2, tkB l bad 2⟩, acc ++ [(numV (tkO l 2) : Int)]) [(3, some 5)] rfl ?_ ?_ ?_
      · (repeat' (first | exact AllP.nil | with_reducible refine AllP.cons ?_ ?_)) <;> first | with_reducible exact rfl | exact Int.natCast_add_one _ | (show _ = (acc ++ [(numV (tkO l 2) : Int)]).length; simp [EV.len, EV.sub]; done) | (refine ⟨rfl, rfl, rfl, ?_⟩; show _ = (acc ++ [(numV (tkO l 2) : Int)]).length; simp [EV.len, EV.sub]; done) | exact rfl | exact trivial | (intro _ _; simp [pureL, pureS, pureE]; done) | exact ⟨rfl, rfl, rfl, rfl⟩
      · refine ⟨hn, by simp only [List.length_append, List.length_cons, List.length_nil]; omega, ?_⟩
        dsimp only
        rw [x2, listP_next rdInt2 (n0 - i) ⟨l, bad⟩ (by omega) hb, show n0 - (i + 1) = n0 - i - 1 by omega]
        simp only [List.append_assoc, List.cons_append, List.nil_append]
        rfl
      · dsimp only; omega
    · have hs : n0 - i = 0 ∨ bad = true := by revert h; cases bad <;> simp <;> omega
      rw [listP_stop rdInt2 (n0 - i) ⟨l, bad⟩ hs, List.append_nil] at x2
      have hacc : acc.length ≤ 255 := by omega
      clear h hs
      have hN2 := numV_le l 1
      repeat' (first
        | ((with_reducible apply Sat.run (X := X64)); exact rfl; (first | exact True.intro | (exact phi) | skip))
        | ((with_reducible apply Sat.mcall (num1_rf _ _)); exact rfl; exact rfl; kernel_rfl; (exact cnvX); exact rfl; exact purX; exact rfl; exact rfl) | fail)
      generalize eg2 : listP rdPartR (numV (tkO l 1)) ⟨tkR l 1, tkB l bad 1⟩ = pp
      generalize en2 : numV (tkO l 1) = n2 at hN2 eg2 ⊢
      generalize eq3 : tkR l 1 = l10 at eg2 ⊢
      generalize eq4 : tkB l bad 1 = b10 at eg2 ⊢
      apply Sat.loop (α := Nat × RdS × List PartL) (fun x => x.1 ≤ n2 ∧ x.2.2.length = x.1 ∧ pp = (x.2.2 ++ (listP rdPartR (n2 - x.1) x.2.1).1, (listP rdPartR (n2 - x.1) x.2.1).2)) (fun x => n2 - x.1) (0, ⟨l10, b10⟩, []) (fun x => [(8, .int .i64 (x.1 : Int))]) (fun x => [(1, .cells 180 [.ro (.u8 x.2.1.l), .bool x.2.1.bad]), (2, .cells 43 [.int .i64 nv, .int .i64 nf, .int .i64 ne, .int .i64 ns, .arr 32 (.u8 im), .int .i64 nc, .arr 32 (.u8 tr), .row 3 0 1 0 acc.length, .row 4 0 33 0 x.2.2.length]), (4, .row 87 (partsE x.2.2))]) [] [(4, none)] 1
      · intro x; exact rfl
      · intro x; exact rfl
      · exact rfl
      · exact rfl
      · (repeat' (first | exact AllP.nil | with_reducible refine AllP.cons ?_ ?_)) <;> first | with_reducible exact rfl | exact rfl | exact trivial | (intro _ _; simp [pureL, pureS, pureE]; done) | exact ⟨rfl, rfl, rfl, rfl⟩
      · exact ⟨Nat.zero_le _, rfl, by rw [← eg2]; rfl⟩
      · rintro ⟨j, s, pa⟩ ⟨y0, y1, y2⟩
        obtain ⟨k, bd⟩ := s
        dsimp only at y0 y1 y2 ⊢
        have hk := numV_le k 1
        have ht := takeR_spec (tkR k 1) (tkB k bd 1) (numV (tkO k 1)) (by omega)
        repeat' (first
          | ((with_reducible apply Sat.run (X := X64)); exact rfl; (first | exact True.intro | (exact phi) | skip))
          | ((with_reducible apply Sat.drawn); kernel_rfl)
          | ((with_reducible apply DSat.run (X := X64)); exact rfl; (first | exact True.intro | (exact phi) | skip))
          | ((with_reducible apply DSat.fin); kernel_rfl)
          | ((with_reducible apply Sat.cond); exact rfl; all_goals (intro h; (try simp only [V.EV.sub, V.EV.len, Bool.cond_true_left, Bool.cond_false_right, Bool.or_eq_true, Bool.and_eq_true, Bool.or_eq_false_iff, Bool.and_eq_false_iff, Bool.not_eq_true', Bool.not_eq_false', decide_eq_true_eq, decide_eq_false_iff_not, ne_eq] at h)))
          | ((with_reducible apply DSat.mcall (num1_rf k bd)); exact rfl; exact rfl; kernel_rfl; (exact cnvX); exact rfl; exact purX; exact rfl; exact rfl)
          | ((with_reducible apply DSat.mcall (ht)); exact rfl; exact rfl; kernel_rfl; (exact cnvX); exact rfl; exact purX; exact rfl; exact rfl)
          | ((with_reducible apply DSat.mcall (sumR_spec _ _)); exact rfl; exact rfl; kernel_rfl; (exact cnvX); exact rfl; exact purX; exact rfl; exact rfl) | fail)
        · obtain ⟨hn, hb⟩ : j < n2 ∧ bd = false := by revert h; cases bd <;> simp <;> omega
          refine Sat.back (j + 1, ⟨tkR (tkR (tkR k 1) (numV (tkO k 1))) 32, tkB (tkR (tkR k 1) (numV (tkO k 1))) (tkB (tkR k 1) (tkB k bd 1) (numV (tkO k 1))) 32⟩, pa ++ [(⟨tkZ (tkR k 1) (numV (tkO k 1)), hashO (tkR (tkR k 1) (numV (tkO k 1)))⟩ : PartL)]) [(4, some 6)] rfl ?_ ?_ ?_
          · (repeat' (first | exact AllP.nil | with_reducible refine AllP.cons ?_ ?_)) <;> first | with_reducible exact rfl | exact Int.natCast_add_one _ | (show pa.length + 1 = (pa ++ [(⟨tkZ (tkR k 1) (numV (tkO k 1)), hashO (tkR (tkR k 1) (numV (tkO k 1)))⟩ : PartL)]).length; simp; done) | exact parts_pure pa (⟨tkZ (tkR k 1) (numV (tkO k 1)), hashO (tkR (tkR k 1) (numV (tkO k 1)))⟩ : PartL) | (intro i hi; exact parts_snoc pa (⟨tkZ (tkR k 1) (numV (tkO k 1)), hashO (tkR (tkR k 1) (numV (tkO k 1)))⟩ : PartL) i hi) | (show _ = (pa ++ [(⟨tkZ (tkR k 1) (numV (tkO k 1)), hashO (tkR (tkR k 1) (numV (tkO k 1)))⟩ : PartL)]).length; simp [EV.len, EV.sub]; done) | (refine ⟨rfl, rfl, rfl, ?_⟩; show _ = (pa ++ [(⟨tkZ (tkR k 1) (numV (tkO k 1)), hashO (tkR (tkR k 1) (numV (tkO k 1)))⟩ : PartL)]).length; simp [EV.len, EV.sub]; done) | exact rfl | exact trivial | (intro _ _; simp [pureL, pureS, pureE]; done) | exact ⟨rfl, rfl, rfl, rfl⟩
          · refine ⟨hn, by simp only [List.length_append, List.length_cons, List.length_nil]; omega, ?_⟩
            dsimp only
            rw [y2, listP_next rdPartR (n2 - j) ⟨k, bd⟩ (by omega) hb, show n2 - (j + 1) = n2 - j - 1 by omega]
            simp only [List.append_assoc, List.cons_append, List.nil_append]
            rfl
          · dsimp only; omega
        · have hs : n2 - j = 0 ∨ bd = true := by revert h; cases bd <;> simp <;> omega
          rw [listP_stop rdPartR (n2 - j) ⟨k, bd⟩ hs, List.append_nil] at y2
          clear h hs ht
          have hq : okLen b.length := hf.1.1
          have hP : parseR b = ⟨nv, nf, ne, ns, im, nc, tr, acc, pa⟩ ∧ badR b = bd := by
            subst en2 eq3 eq4 eg2 en eq1 eq2 eg el eb env enf ene ens enc eim etr
            have x3 : goneP (hd8 b) = (acc, ⟨l, bad⟩) := x2
            have y3 : partsR ⟨l, bad⟩ = (pa, ⟨k, bd⟩) := y2
            unfold parseR badR
            rw [x3]
            dsimp only
            rw [y3]
            exact ⟨rfl, rfl⟩
          obtain ⟨hP, hbd⟩ := hP
          by_cases hb0 : bd = true ∨ b = []
          · have hgd0 : (bif bd then true else decide (((EV.u8 b).len : Int) = 0)) = true := by
              rcases hb0 with h1 | h1
              · rw [h1]; rfl
              · rw [h1]; cases bd <;> rfl
            have hgd : ¬ ((bif bd then true else decide (((EV.u8 b).len : Int) = 0)) = false) := by rw [hgd0]; exact fun h => by cases h
            have hok : okR b = false := by
              unfold okR
              rw [hbd]
              rcases hb0 with h1 | h1
              · rw [h1]; rfl
              · rw [decide_eq_true h1]; cases bd <;> rfl
            repeat' (first
              | ((with_reducible apply Sat.run (X := X64)); exact rfl; (first | exact True.intro | (exact phi) | skip))
              | ((with_reducible apply Sat.cond); exact rfl; all_goals intro h)
              | ((with_reducible apply Sat.goffM (.bool true)); exact rfl; exact hgd; exact rfl) | fail)
            · (refine Sat.fin (Sat.end2 rfl rfl rfl rfl True.intro True.intro (.agg _ _ (.cons _ _ _ _ (.refl _ trivial) (.cons _ _ _ _ (.refl _ trivial) (.cons _ _ _ _ (.refl _ trivial) (.cons _ _ _ _ (.refl _ trivial) (.cons _ _ _ _ (.refl _ trivial) (.cons _ _ _ _ (.refl _ trivial) (.cons _ _ _ _ (.refl _ trivial) (.cons _ _ _ _ (.nils (.ints .i64 []) rfl) (.cons _ _ _ _ (.nils (partsE []) rfl) .nil)))))))))) (.refl _ trivial) (by first | exact .inl rfl | exact .inr rfl) (fun _ h => h)) ?_; rw [hok]; rfl)
            · exfalso
              rw [hgd0] at h
              cases h
          · have hb1 : bd = false := by cases bd; rfl; exact absurd (.inl rfl) hb0
            have hb2 : b ≠ [] := fun h => hb0 (.inr h)
            have hgd : (bif bd then true else decide (((EV.u8 b).len : Int) = 0)) = false := by
              rw [hb1]
              exact decide_eq_false fun e => hb2 (List.eq_nil_of_length_eq_zero (by simp only [EV.len] at e; omega))
            repeat' (first
              | ((with_reducible apply Sat.gon); exact rfl; exact hgd) | fail)
            refine Sat.freezeR true 3 rfl ?_ ?_
            · (repeat' (first | exact AllP.nil | with_reducible refine AllP.cons ?_ ?_)) <;> first | exact rfl | exact trivial | exact .inl ⟨rfl, rfl, rfl⟩ | (intro _ _; simp [pureL, pureS, pureE]; done) | (intro _ _; exact rfl) | (intro _; exact rfl) | (intro _; exact trivial) | (intro _; exact .inl ⟨rfl, rfl, rfl⟩) | (intro _ _ _; simp [pureL, pureS, pureE]; done) | exact ⟨rfl, rfl, rfl, rfl⟩ | (intro _; exact ⟨rfl, rfl, rfl, rfl⟩)
            refine Sat.freezeR true 4 rfl ?_ ?_
            · (repeat' (first | exact AllP.nil | with_reducible refine AllP.cons ?_ ?_)) <;> first | exact rfl | exact trivial | exact .inl ⟨rfl, rfl, rfl⟩ | (intro _ _; simp [pureL, pureS, pureE]; done) | (intro _ _; exact rfl) | (intro _; exact rfl) | (intro _; exact trivial) | (intro _; exact .inl ⟨rfl, rfl, rfl⟩) | (intro _ _ _; simp [pureL, pureS, pureE]; done) | exact ⟨rfl, rfl, rfl, rfl⟩ | (intro _; exact ⟨rfl, rfl, rfl, rfl⟩)
            by_cases hv : validB ⟨nv, nf, ne, ns, im, nc, tr, acc, pa⟩ = true
            · have p1 := bytesR_spec ⟨nv, nf, ne, ns, im, nc, tr, acc, pa⟩ hv
              have p2 := same_ref (bytesR ⟨nv, nf, ne, ns, im, nc, tr, acc, pa⟩) b
              by_cases he : bytesR ⟨nv, nf, ne, ns, im, nc, tr, acc, pa⟩ = b
              · rw [decide_eq_true he] at p2
                have hok : okR b = true := by unfold okR; rw [hbd, hP, hv, decide_eq_true he, decide_eq_false hb2, hb1]; rfl
                repeat' (first
                  | ((with_reducible apply Sat.run (X := X64)); exact rfl; (first | exact True.intro | (exact phi) | skip))
                  | ((with_reducible apply Sat.cond); exact rfl; all_goals intro h)
                  | ((with_reducible apply Sat.gon); exact rfl; exact hgd)
                  | ((with_reducible apply Sat.call (p1)); exact rfl; exact rfl; kernel_rfl; (exact cnvX); exact rfl)
                  | ((with_reducible apply Sat.callR (p2)); exact rfl; exact rfl; exact rfl; kernel_rfl; (exact cnvX); exact rfl) | fail)
                · exfalso; rw [hgd] at h; cases h
                · (refine Sat.fin (Sat.end2 rfl rfl rfl rfl True.intro True.intro (.refl _ (by (repeat' (first | exact True.intro | (intro _ _; simp [pureL, pureS, pureE]; done) | apply And.intro)))) (.refl _ trivial) (by first | exact .inl rfl | exact .inr rfl) (fun _ h => h)) ?_; rw [hok, hP]; rfl)
              · rw [decide_eq_false he] at p2
                have hok : okR b = false := by unfold okR; rw [hP, decide_eq_false he]; simp
                repeat' (first
                  | ((with_reducible apply Sat.run (X := X64)); exact rfl; (first | exact True.intro | (exact phi) | skip))
                  | ((with_reducible apply Sat.cond); exact rfl; all_goals intro h)
                  | ((with_reducible apply Sat.gon); exact rfl; exact hgd)
                  | ((with_reducible apply Sat.call (p1)); exact rfl; exact rfl; kernel_rfl; (exact cnvX); exact rfl)
                  | ((with_reducible apply Sat.callR (p2)); exact rfl; exact rfl; exact rfl; kernel_rfl; (exact cnvX); exact rfl) | fail)
                · (refine Sat.fin (Sat.end2 rfl rfl rfl rfl True.intro True.intro (.agg _ _ (.cons _ _ _ _ (.refl _ trivial) (.cons _ _ _ _ (.refl _ trivial) (.cons _ _ _ _ (.refl _ trivial) (.cons _ _ _ _ (.refl _ trivial) (.cons _ _ _ _ (.refl _ trivial) (.cons _ _ _ _ (.refl _ trivial) (.cons _ _ _ _ (.refl _ trivial) (.cons _ _ _ _ (.nils (.ints .i64 []) rfl) (.cons _ _ _ _ (.nils (partsE []) rfl) .nil)))))))))) (.refl _ trivial) (by first | exact .inl rfl | exact .inr rfl) (fun _ h => h)) ?_; rw [hok]; rfl)
                · exfalso; rw [hgd] at h; cases h
            · have hv' : validB ⟨nv, nf, ne, ns, im, nc, tr, acc, pa⟩ = false := by simpa using hv
              have p1 := bytesR_f ⟨nv, nf, ne, ns, im, nc, tr, acc, pa⟩ hv'
              have p2 := same_ref [] b
              rw [decide_eq_false (fun e : [] = b => hb2 e.symm)] at p2
              have hok : okR b = false := by unfold okR; rw [hP, hv']; simp
              repeat' (first
                | ((with_reducible apply Sat.run (X := X64)); exact rfl; (first | exact True.intro | (exact phi) | skip))
                | ((with_reducible apply Sat.cond); exact rfl; all_goals intro h)
                | ((with_reducible apply Sat.gon); exact rfl; exact hgd)
                | ((with_reducible apply Sat.call (p1)); exact rfl; exact rfl; kernel_rfl; (exact cnvX); exact rfl)
                | ((with_reducible apply Sat.callR (p2)); exact rfl; exact rfl; exact rfl; kernel_rfl; (exact cnvX); exact rfl) | fail)
              · (refine Sat.fin (Sat.end2 rfl rfl rfl rfl True.intro True.intro (.agg _ _ (.cons _ _ _ _ (.refl _ trivial) (.cons _ _ _ _ (.refl _ trivial) (.cons _ _ _ _ (.refl _ trivial) (.cons _ _ _ _ (.refl _ trivial) (.cons _ _ _ _ (.refl _ trivial) (.cons _ _ _ _ (.refl _ trivial) (.cons _ _ _ _ (.refl _ trivial) (.cons _ _ _ _ (.nils (.ints .i64 []) rfl) (.cons _ _ _ _ (.nils (partsE []) rfl) .nil)))))))))) (.refl _ trivial) (by first | exact .inl rfl | exact .inr rfl) (fun _ h => h)) ?_; rw [hok]; rfl)
              · exfalso; rw [hgd] at h; cases h
end Go.Proofs.YtokaegeediokoaaGreatDoor
end
section
namespace Go.Proofs.YtokaegeediokoaaGreatDoor
open Go.RowKit V
set_option maxRecDepth 100000
set_option maxHeartbeats 8000000
set_option linter.unusedSimpArgs false
theorem tkZ_app {m : List UInt8} {n : Nat} (h : m.length = n) (r : List UInt8) : tkZ (m ++ r) n = m := by
  subst h
  unfold tkZ
  rw [if_pos (by simp)]
  simp
attribute [local irreducible] tkO tkR tkB tkZ numV hashO
theorem rdPartR_enc (p : PartL) (rest : List UInt8) (h : p.name.length < 256 ∧ p.hash.length = 32) : rdPartR ⟨partW p ++ rest, false⟩ = (p, ⟨rest, false⟩) := by
  obtain ⟨nm, hs⟩ := p
  dsimp only at h
  have e1 : numV (num1 (nm.length : Int)) = nm.length := numV_num1 _ h.1
  unfold rdPartR partW
  dsimp only [RdS.num, RdS.tk]
  rw [List.append_assoc, List.append_assoc]
  rw [tkO_app (num1_len _), tkR_app (num1_len _), tkB_app (num1_len _), e1, tkZ_app rfl, tkR_app rfl, tkB_app rfl, hashO_app h.2, tkR_app h.2, tkB_app h.2]
theorem parseR_enc (r : Rel) (hv : validB r = true) (hw : RelW r) : parseR (bytesR r) = r ∧ badR (bytesR r) = false := by
  obtain ⟨n1, n2, n3, n4, n5, n6, n7, n8⟩ := valid_nums hv
  have nl : ∀ p ∈ r.parts, p.name.length < 256 ∧ p.hash.length = 32 := fun p hp => by
    obtain ⟨i, hi, rfl⟩ := mem_getD r.parts part0 p hp
    exact ⟨by have := name_len hv i hi; omega, hw.parts _ hp⟩
  obtain ⟨v, fl, ex, sz, im, ch, tr, go, pa⟩ := r
  obtain ⟨w1, w2, -⟩ := hw
  dsimp only at n1 n2 n3 n4 n5 n6 n7 n8 nl w1 w2
  have hb : bytesR ⟨v, fl, ex, sz, im, ch, tr, go, pa⟩ = num1 86 ++ (num2 v ++ (num2 fl ++ (num4 ex ++ (num4 sz ++ (im ++ (num2 ch ++ (tr ++ (num1 go.length ++ (go.flatMap num2 ++ (num1 pa.length ++ (pa.flatMap partW ++ []))))))))))) := by
    simp only [bytesR, hdr, partsW, List.append_assoc, List.append_nil]
    rfl
  rw [hb]
  have e1 : ((numV (num1 (go.length : Int)) : Nat)) = go.length := numV_num1 _ (by omega)
  have e2 : ((numV (num1 (pa.length : Int)) : Nat)) = pa.length := numV_num1 _ (by omega)
  have g1 : goneP ⟨num1 go.length ++ (go.flatMap num2 ++ (num1 pa.length ++ (pa.flatMap partW ++ []))), false⟩ = (go, ⟨num1 pa.length ++ (pa.flatMap partW ++ []), false⟩) := by
    unfold goneP
    dsimp only [RdS.num, RdS.tk]
    rw [tkO_app (num1_len _), tkR_app (num1_len _), tkB_app (num1_len _), e1]
    exact listP_enc rdInt2 num2 _ rdInt2_enc go _ n8
  have g2 : partsR ⟨num1 pa.length ++ (pa.flatMap partW ++ []), false⟩ = (pa, ⟨[], false⟩) := by
    unfold partsR
    dsimp only [RdS.num, RdS.tk]
    rw [tkO_app (num1_len _), tkR_app (num1_len _), tkB_app (num1_len _), e2]
    exact listP_enc rdPartR partW _ rdPartR_enc pa _ nl
  have h8 : hd8 (num1 86 ++ (num2 v ++ (num2 fl ++ (num4 ex ++ (num4 sz ++ (im ++ (num2 ch ++ (tr ++ (num1 go.length ++ (go.flatMap num2 ++ (num1 pa.length ++ (pa.flatMap partW ++ [])))))))))))) = ⟨num1 go.length ++ (go.flatMap num2 ++ (num1 pa.length ++ (pa.flatMap partW ++ []))), false⟩ := by
    unfold hd8
    simp only [tkR_app (num1_len 86), tkR_app (num2_len v), tkR_app (num2_len fl), tkR_app (num4_len ex), tkR_app (num4_len sz), tkR_app w1, tkR_app (num2_len ch), tkR_app w2, tkB_app (num1_len 86), tkB_app (num2_len v), tkB_app (num2_len fl), tkB_app (num4_len ex), tkB_app (num4_len sz), tkB_app w1, tkB_app (num2_len ch), tkB_app w2]
  constructor
  · unfold parseR
    rw [h8, g1]
    dsimp only
    rw [g2]
    simp only [tkR_app (num1_len 86), tkR_app (num2_len v), tkR_app (num2_len fl), tkR_app (num4_len ex), tkR_app (num4_len sz), tkR_app w1, tkR_app (num2_len ch), tkR_app w2, tkO_app (num2_len v), tkO_app (num2_len fl), tkO_app (num4_len ex), tkO_app (num4_len sz), tkO_app (num2_len ch), hashO_app w1, hashO_app w2]
    rw [numV2 v (by omega) (by omega), numV2 fl (by omega) (by omega), numV4 ex (by omega) (by omega), numV4 sz (by omega) (by omega), numV2 ch (by omega) (by omega)]
  · unfold badR
    rw [h8, g1]
    dsimp only
    rw [g2]
theorem parseR_wf (b : List UInt8) : RelW (parseR b) := ⟨hashO_len _, hashO_len _, listP_all rdPartR (fun p => p.hash.length = 32) (fun _ => hashO_len _) _ _⟩
theorem okR_eq (b : List UInt8) : okR b = okP b ∧ (okP b = true → parseR b = parseP b) := by
  cases h : okP b with
  | true =>
    obtain ⟨h1, h2⟩ := okP_inv h
    obtain ⟨h3, h4⟩ := parseR_enc (parseP b) h2 (parseP_wf b)
    rw [← h1] at h3 h4
    refine ⟨?_, fun _ => h3⟩
    unfold okR
    rw [h4, h3]
    unfold okP at h
    exact h
  | false =>
    refine ⟨?_, fun h => by cases h⟩
    cases h5 : okR b with
    | false => rfl
    | true =>
      unfold okR at h5
      simp only [Bool.and_eq_true, decide_eq_true_eq] at h5
      have := (okP_of (parseR b) h5.2.2.1 (parseR_wf b)).1
      rw [h5.2.2.2, h] at this
      cases this
theorem parseR_spec (b : List UInt8) : Fun Tryz.prog [] 49 [.ro (.u8 b)] (.tup [(bif okP b then parseP b else zeroRel).v, .int .i64 (bif okP b then 0 else 260)]) := by
  have h := parseR_walk b
  obtain ⟨h1, h2⟩ := okR_eq b
  rw [h1] at h
  cases h3 : okP b with
  | true => rw [h3, h2 h3] at h; exact h
  | false => rw [h3] at h; exact h
end Go.Proofs.YtokaegeediokoaaGreatDoor
end
section
namespace Go.Proofs.YtokaegeediokoaaGreatDoor
open Go.RowKit V
set_option maxRecDepth 100000
set_option maxHeartbeats 8000000
set_option linter.unusedSimpArgs false
theorem conv_accz {M : Mem} (t : TrustL) (e : Int) : Conv M (.agg [.int .i64 t.root.gen, .int .i64 t.root.expiry, .ro (keysE t.root.keys), .ro (rolesE t.root.roles), .int .i64 t.floor, .ro (.ints .i64 t.gone), .int .i64 t.now,
    .int .i64 0, .int .i64 0, .int .i64 0, .int .i64 0, .arr 32 (.u8 (List.replicate 32 0)), .int .i64 0, .arr 32 (.u8 (List.replicate 32 0)), .nils, .nils, .int .i64 e]) (.agg (accC t zeroRel e)) :=
  .agg _ _ (.cons _ _ _ _ (.refl _ trivial) (.cons _ _ _ _ (.refl _ trivial) (.cons _ _ _ _ (.refl _ (fun _ _ => ⟨trivial, trivial⟩)) (.cons _ _ _ _ (.refl _ (fun _ _ => ⟨trivial, trivial, trivial, trivial⟩)) (.cons _ _ _ _ (.refl _ trivial) (.cons _ _ _ _ (.refl _ trivial) (.cons _ _ _ _ (.refl _ trivial)
    (.cons _ _ _ _ (.refl _ trivial) (.cons _ _ _ _ (.refl _ trivial) (.cons _ _ _ _ (.refl _ trivial) (.cons _ _ _ _ (.refl _ trivial) (.cons _ _ _ _ (.refl _ trivial) (.cons _ _ _ _ (.refl _ trivial) (.cons _ _ _ _ (.refl _ trivial) (.cons _ _ _ _ (.nils (.ints .i64 []) rfl) (.cons _ _ _ _ (.nils (partsE []) rfl) (.cons _ _ _ _ (.refl _ trivial) .nil)))))))))))))))))
attribute [local irreducible] V.Sat V.DSat
theorem raccept_spec (t : TrustL) (body : List UInt8) (l : List SigL) (hro : okP body = true → RoleOk t.root nmRel body l) (hlen : ∀ i, (t.root.roles.getD i role0).keys.length ≤ 1000000) (hrn : renB t.root nmRel body l = enB t.root nmRel body l)
    (hun : Fun Tryz.prog Γh 51 [.ro (.ints .i64 t.gone), .ro (.ints .i64 (parseP body).gone)] (.ro (.ints .i64 (goneU t.gone (parseP body).gone)))) : Fun Tryz.prog Γh 18 [t.v, .agg (sgdC body l)] (.agg (accC (accT t body l) (accR t body l) (accE t body l))) := by
  have h1 := (parseR_spec body).weak (Γ := Γh)
  cases h : okP body with
  | false =>
    rw [h] at h1
    dsimp only [cond_false] at h1
    have e : accE t body l = 260 := by unfold accE; rw [if_pos h]
    have e1 : accT t body l = t := by unfold accT; rw [e, if_neg (by decide)]
    have e2 : accR t body l = zeroRel := by unfold accR; rw [e, if_neg (by decide)]
    rw [e, e1, e2]
    clear e e1 e2 h hun hro hrn
    refine Fun.mk 7 Tryz.func18 rfl Tryz.ntmps18 rfl rfl fun T w0 => ?_
    repeat' (first
      | ((with_reducible apply Sat.run (X := X64)); exact rfl; (first | exact True.intro | (exact phi) | skip))
      | ((with_reducible apply Sat.cond_t); exact rfl)
      | ((with_reducible apply Sat.call (h1)); exact rfl; exact rfl; kernel_rfl; (exact cnvX); exact rfl) | fail)
    exact Sat.fin (Sat.end1 rfl rfl rfl True.intro (conv_accz t 260) (by first | exact .inl rfl | exact .inr rfl) (fun _ h => h)) rfl
  | true =>
  rw [h] at h1
  dsimp only [cond_true] at h1
  have k2 := renough_ref t.root nmRel body l hlen (hro h)
  rw [hrn] at k2
  have k4 := has_ref (Γ := Γh) t.gone (parseP body).version
  have hmin : (t.now ≤ minV t.root.expiry (parseP body).expiry) ↔ (¬ t.root.expiry < t.now ∧ ¬ (parseP body).expiry < t.now) := by
    unfold minV
    split <;> omega
  have hres : ((bif decide (t.root.expiry < t.now) then true else decide ((parseP body).expiry < t.now)) = true ∧ accE t body l = 271 ∧ accT t body l = t ∧ accR t body l = zeroRel) ∨
      ((bif decide (t.root.expiry < t.now) then true else decide ((parseP body).expiry < t.now)) = false ∧ enB t.root nmRel body l = false ∧ accE t body l = 270 ∧ accT t body l = t ∧ accR t body l = zeroRel) ∨
      ((bif decide (t.root.expiry < t.now) then true else decide ((parseP body).expiry < t.now)) = false ∧ enB t.root nmRel body l = true ∧ (parseP body).version < t.floor ∧ accE t body l = 272 ∧ accT t body l = t ∧ accR t body l = zeroRel) ∨
      ((bif decide (t.root.expiry < t.now) then true else decide ((parseP body).expiry < t.now)) = false ∧ enB t.root nmRel body l = true ∧ ¬ (parseP body).version < t.floor ∧ hasB t.gone (parseP body).version = true ∧ accE t body l = 273 ∧ accT t body l = t ∧ accR t body l = zeroRel) ∨
      ((bif decide (t.root.expiry < t.now) then true else decide ((parseP body).expiry < t.now)) = false ∧ enB t.root nmRel body l = true ∧ ¬ (parseP body).version < t.floor ∧ hasB t.gone (parseP body).version = false ∧ accE t body l = 0 ∧ accT t body l = ⟨t.root, maxV t.floor (parseP body).floor, goneU t.gone (parseP body).gone, t.now⟩ ∧ accR t body l = parseP body) := by
    unfold accT accR accE
    simp only [hmin, h, Bool.true_eq_false, if_false]
    rw [show (t.gone.any fun y => decide ((parseP body).version = y)) = hasB t.gone (parseP body).version from rfl]
    generalize enB t.root nmRel body l = B3
    generalize hasB t.gone (parseP body).version = B4
    by_cases c1 : t.root.expiry < t.now
    · exact .inl (by simp [c1])
    · by_cases c2 : (parseP body).expiry < t.now
      · exact .inl (by simp [c1, c2])
      · cases B3 with
        | false => exact .inr (.inl (by simp [c1, c2]))
        | true =>
          by_cases c3 : (parseP body).version < t.floor
          · have c4 : ¬ t.floor ≤ (parseP body).version := by omega
            exact .inr (.inr (.inl (by simp [c1, c2, c3, c4])))
          · have c4 : t.floor ≤ (parseP body).version := by omega
            cases B4 with
            | true => exact .inr (.inr (.inr (.inl (by simp [c1, c2, c3, c4]))))
            | false => exact .inr (.inr (.inr (.inr (by simp [c1, c2, c3, c4]))))
  generalize accE t body l = e at hres ⊢
  generalize accT t body l = T' at hres ⊢
  generalize accR t body l = R' at hres ⊢
  generalize enB t.root nmRel body l = B3 at k2 hres
  generalize hasB t.gone (parseP body).version = B4 at k4 hres
  generalize parseP body = r at h1 k4 hres hun
  generalize goneU t.gone r.gone = gu at hun hres
  clear hmin hro hrn hlen h
  rcases hres with ⟨c1, rfl, rfl, rfl⟩ | ⟨c1, rfl, rfl, rfl, rfl⟩ | ⟨c1, rfl, c3, rfl, rfl, rfl⟩ | ⟨c1, rfl, c3, rfl, rfl, rfl, rfl⟩ | ⟨c1, rfl, c3, rfl, rfl, rfl, rfl⟩
  · refine Fun.mk 7 Tryz.func18 rfl Tryz.ntmps18 rfl rfl fun T w0 => ?_
    repeat' (first
      | ((with_reducible apply Sat.cond); exact rfl; (intro h; clear h; rotate_left); (intro h; exact absurd (h.symm.trans c1) (by decide)))
      | ((with_reducible apply Sat.run (X := X64)); exact rfl; (first | exact True.intro | (exact phi) | skip))
      | ((with_reducible apply Sat.cond_f); exact rfl)
      | ((with_reducible apply Sat.call (h1)); exact rfl; exact rfl; kernel_rfl; (exact cnvX); exact rfl) | fail)
    exact Sat.fin (Sat.end1 rfl rfl rfl True.intro (conv_accz T' 271) (by first | exact .inl rfl | exact .inr rfl) (fun _ h => h)) rfl
  · refine Fun.mk 7 Tryz.func18 rfl Tryz.ntmps18 rfl rfl fun T w0 => ?_
    repeat' (first
      | ((with_reducible apply Sat.cond); exact rfl; (intro h; exact absurd (h.symm.trans c1) (by decide)); (intro h; clear h))
      | ((with_reducible apply Sat.run (X := X64)); exact rfl; (first | exact True.intro | (exact phi) | skip))
      | ((with_reducible apply Sat.cond_t); exact rfl)
      | ((with_reducible apply Sat.cond_f); exact rfl)
      | ((with_reducible apply Sat.call (h1)); exact rfl; exact rfl; kernel_rfl; (exact cnvX); exact rfl)
      | ((with_reducible apply Sat.callR (k2)); exact rfl; exact rfl; exact rfl; kernel_rfl; (exact cnvX); exact rfl) | fail)
    exact Sat.fin (Sat.end1 rfl rfl rfl True.intro (conv_accz T' 270) (by first | exact .inl rfl | exact .inr rfl) (fun _ h => h)) rfl
  · refine Fun.mk 7 Tryz.func18 rfl Tryz.ntmps18 rfl rfl fun T w0 => ?_
    repeat' (first
      | ((with_reducible apply Sat.cond); exact rfl; (intro h; exact absurd (h.symm.trans c1) (by decide)); (intro h; clear h))
      | ((with_reducible apply Sat.run (X := X64)); exact rfl; (first | exact True.intro | (exact phi) | skip))
      | ((with_reducible apply Sat.cond_f); exact rfl)
      | ((with_reducible apply Sat.cond_pt); exact rfl; (try dsimp only [V.EV.sub, V.EV.len]); first | assumption | omega)
      | ((with_reducible apply Sat.call (h1)); exact rfl; exact rfl; kernel_rfl; (exact cnvX); exact rfl)
      | ((with_reducible apply Sat.callR (k2)); exact rfl; exact rfl; exact rfl; kernel_rfl; (exact cnvX); exact rfl) | fail)
    exact Sat.fin (Sat.end1 rfl rfl rfl True.intro (conv_accz T' 272) (by first | exact .inl rfl | exact .inr rfl) (fun _ h => h)) rfl
  · refine Fun.mk 7 Tryz.func18 rfl Tryz.ntmps18 rfl rfl fun T w0 => ?_
    repeat' (first
      | ((with_reducible apply Sat.cond); exact rfl; (intro h; exact absurd (h.symm.trans c1) (by decide)); (intro h; clear h))
      | ((with_reducible apply Sat.run (X := X64)); exact rfl; (first | exact True.intro | (exact phi) | skip))
      | ((with_reducible apply Sat.cond_t); exact rfl)
      | ((with_reducible apply Sat.cond_f); exact rfl)
      | ((with_reducible apply Sat.cond_pf); exact rfl; (try dsimp only [V.EV.sub, V.EV.len]); first | assumption | omega)
      | ((with_reducible apply Sat.call (h1)); exact rfl; exact rfl; kernel_rfl; (exact cnvX); exact rfl)
      | ((with_reducible apply Sat.callR (k2)); exact rfl; exact rfl; exact rfl; kernel_rfl; (exact cnvX); exact rfl)
      | ((with_reducible apply Sat.callR (k4)); exact rfl; exact rfl; exact rfl; kernel_rfl; (exact cnvX); exact rfl) | fail)
    exact Sat.fin (Sat.end1 rfl rfl rfl True.intro (conv_accz T' 273) (by first | exact .inl rfl | exact .inr rfl) (fun _ h => h)) rfl
  · obtain ⟨rt, fl, go, nw⟩ := t
    refine Fun.mk 7 Tryz.func18 rfl Tryz.ntmps18 rfl rfl fun T w0 => ?_
    repeat' (first
      | ((with_reducible apply Sat.cond); exact rfl; (intro h; exact absurd (h.symm.trans c1) (by decide)); (intro h; clear h))
      | ((with_reducible apply Sat.run (X := X64)); exact rfl; (first | exact True.intro | (exact phi) | skip))
      | ((with_reducible apply Sat.cond_f); exact rfl)
      | ((with_reducible apply Sat.cond_pf); exact rfl; (try dsimp only [V.EV.sub, V.EV.len]); first | assumption | omega)
      | ((with_reducible apply Sat.call (h1)); exact rfl; exact rfl; kernel_rfl; (exact cnvX); exact rfl)
      | ((with_reducible apply Sat.callR (k2)); exact rfl; exact rfl; exact rfl; kernel_rfl; (exact cnvX); exact rfl)
      | ((with_reducible apply Sat.callR (k4)); exact rfl; exact rfl; exact rfl; kernel_rfl; (exact cnvX); exact rfl)
      | ((with_reducible apply Sat.call (hun)); exact rfl; exact rfl; kernel_rfl; (exact cnvX); exact rfl) | fail)
    exact Sat.fin (Sat.end1 rfl rfl rfl True.intro (.refl _ (pure_acc ⟨rt, maxV fl R'.floor, gu, nw⟩ R' 0)) (by first | exact .inl rfl | exact .inr rfl) (fun _ h => h)) rfl
end Go.Proofs.YtokaegeediokoaaGreatDoor
end
section
namespace Go.Proofs.YtokaegeediokoaaGreatDoor
open Go.RowKit V
theorem flatN_congr {f g : Nat → List UInt8} : ∀ (x : Nat), (∀ i, i < x → f i = g i) → flatN f x = flatN g x
  | 0, _ => rfl
  | x + 1, h => by rw [flatN, flatN, flatN_congr x fun i hi => h i (by omega), h x (by omega)]
theorem ver_own (s b : List UInt8) : ver (pubL s) b (chnL s b 67) = true := by
  have e : endsL b (chnL s b 67) 67 = chunkL s := by
    unfold endsL chunkL
    refine flatN_congr 67 fun i hi => ?_
    have e1 : (chnL s b 67).getD i [] = stp (strt s i) (dgn b i) := by
      unfold chnL
      rw [List.getD_eq_getElem?_getD, List.getElem?_map, List.getElem?_range hi]
      rfl
    have h1 := dgn_le b i
    rw [e1, stp_add, show dgn b i + (15 - dgn b i) = 15 by omega]
  unfold ver pubL
  rw [e]
  exact decide_eq_true rfl
theorem any_key (K : List Int) (k : Int) : (K.any fun y => decide (k = y)) = true ↔ k ∈ K := by
  rw [List.any_eq_true]
  constructor
  · rintro ⟨y, hy, e⟩
    rw [of_decide_eq_true e]
    exact hy
  · exact fun h => ⟨k, h, decide_eq_true rfl⟩
theorem cntF_inv (ks : List (List UInt8)) (K : List Int) (body : List UInt8) (S : List Int) (s : SigL) (hn : S.Nodup) : (cntF ks K body S s).Nodup ∧ ∀ k, k ∈ cntF ks K body S s ↔ k ∈ S ∨ (k ∈ K ∧ sgnP ks body k s = true) := by
  unfold cntF sgnP
  have hk := any_key K s.key
  have hq : ∀ k, (bif decide (s.key = k) then ver (ks.getD k.toNat []) body s.ch else false) = true ↔ s.key = k ∧ ver (ks.getD k.toNat []) body s.ch = true := by
    intro k
    by_cases e : s.key = k <;> simp [e]
  by_cases h1 : (K.any fun y => decide (s.key = y)) = true
  · rw [if_pos h1]
    by_cases h2 : S.contains s.key = true
    · rw [if_pos h2]
      refine ⟨hn, fun k => ⟨.inl, fun h => ?_⟩⟩
      rcases h with h | ⟨_, h⟩
      · exact h
      · rw [hq] at h
        rw [← h.1]
        simpa using h2
    · rw [if_neg h2]
      by_cases h3 : ver (ks.getD s.key.toNat []) body s.ch = true
      · rw [if_pos h3]
        refine ⟨List.nodup_cons.2 ⟨by simpa using h2, hn⟩, fun k => ?_⟩
        rw [List.mem_cons, hq]
        constructor
        · rintro (rfl | h)
          · exact .inr ⟨hk.1 h1, rfl, h3⟩
          · exact .inl h
        · rintro (h | ⟨_, h, _⟩)
          · exact .inr h
          · exact .inl h.symm
      · rw [if_neg h3]
        refine ⟨hn, fun k => ⟨.inl, fun h => ?_⟩⟩
        rcases h with h | ⟨_, h⟩
        · exact h
        · rw [hq] at h
          rw [← h.1] at h
          exact absurd h.2 h3
  · rw [if_neg h1]
    refine ⟨hn, fun k => ⟨.inl, fun h => ?_⟩⟩
    rcases h with h | ⟨h0, h⟩
    · exact h
    · rw [hq] at h
      rw [← h.1] at h0
      exact absurd (hk.2 h0) h1
theorem cntS_inv (ks : List (List UInt8)) (K : List Int) (body : List UInt8) (l : List SigL) : ∀ (S : List Int), S.Nodup → (l.foldl (cntF ks K body) S).Nodup ∧ ∀ k, k ∈ l.foldl (cntF ks K body) S ↔ k ∈ S ∨ (k ∈ K ∧ sgnB ks body l k = true) := by
  induction l with
  | nil => exact fun S h => ⟨h, fun k => by simp [sgnB]⟩
  | cons s l ih =>
    intro S h
    obtain ⟨q1, q2⟩ := cntF_inv ks K body S s h
    obtain ⟨p1, p2⟩ := ih _ q1
    refine ⟨p1, fun k => ?_⟩
    rw [List.foldl_cons, p2, q2]
    have : sgnB ks body (s :: l) k = (sgnP ks body k s || sgnB ks body l k) := rfl
    rw [this, Bool.or_eq_true]
    constructor
    · rintro ((h | ⟨h1, h2⟩) | ⟨h1, h2⟩)
      · exact .inl h
      · exact .inr ⟨h1, .inl h2⟩
      · exact .inr ⟨h1, .inr h2⟩
    · rintro (h | ⟨h1, h2 | h2⟩)
      · exact .inl (.inl h)
      · exact .inl (.inr ⟨h1, h2⟩)
      · exact .inr ⟨h1, h2⟩
theorem cntS_eq (ks : List (List UInt8)) (K : List Int) (body : List UInt8) (l : List SigL) (hK : K.Nodup) : (cntS ks K body l l.length).length = (K.filter (sgnB ks body l)).length := by
  obtain ⟨h1, h2⟩ := cntS_inv ks K body l [] .nil
  unfold cntS
  rw [List.take_length]
  refine List.Perm.length_eq ((List.perm_ext_iff_of_nodup h1 (hK.filter _)).2 fun k => ?_)
  rw [h2, List.mem_filter]
  simp
theorem count_prefix (p : Int → Bool) (K : List Int) (f : Nat → Nat) (h0 : f 0 = 0) (hs : ∀ x, f (x + 1) = f x + if p (K.getD x 0) = true then 1 else 0) : ∀ x, x ≤ K.length → f x = ((K.take x).filter p).length
  | 0, _ => by rw [h0]; rfl
  | x + 1, h => by
    rw [hs, count_prefix p K f h0 hs x (by omega), List.take_add_one, List.filter_append, List.length_append]
    rw [List.getElem?_eq_getElem (show x < K.length by omega), List.getD_eq_getElem?_getD, List.getElem?_eq_getElem (show x < K.length by omega)]
    simp only [Option.getD_some, Option.toList_some]
    by_cases hp : p K[x] = true <;> simp [hp]
theorem cntR_eq (ks : List (List UInt8)) (body : List UInt8) (l : List SigL) (K : List Int) : cntR ks body l K K.length = (K.filter (sgnB ks body l)).length := by
  rw [count_prefix (sgnB ks body l) K (cntR ks body l K) rfl (fun _ => rfl) K.length (Nat.le_refl _), List.take_length]
theorem memN_eq (K : List Int) (m : UInt8) : memN K m K.length = (K.filter fun k => bitU m k.toNat).length := by
  rw [count_prefix (fun k => bitU m k.toNat) K (memN K m) rfl (fun _ => rfl) K.length (Nat.le_refl _), List.take_length]
theorem sgd_mem (b : List UInt8) (m : UInt8) (sh : Int) (s : SigL) : ∀ x, s ∈ sgd b m sh x ↔ ∃ i, i < x ∧ bitU m i = true ∧ s = ⟨(i : Int) + sh, chnL (seed i) b 67⟩
  | 0 => by simp [sgd]
  | x + 1 => by
    rw [sgd, List.mem_append, sgd_mem b m sh s x]
    constructor
    · rintro (⟨i, h1, h2⟩ | h)
      · exact ⟨i, by omega, h2⟩
      · split at h
        · rename_i hb
          exact ⟨x, by omega, hb, List.mem_singleton.1 h⟩
        · cases h
    · rintro ⟨i, h1, h2, h3⟩
      rcases Nat.lt_succ_iff_lt_or_eq.1 h1 with h | rfl
      · exact .inl ⟨i, h, h2, h3⟩
      · rw [if_pos h2]
        exact .inr (List.mem_singleton.2 h3)
theorem sgd_ok (b : List UInt8) (m : UInt8) (sh : Int) (x : Nat) (i : Nat) (hi : i < (sgd b m sh x).length) : ChOk ((sgd b m sh x).getD i sig0).ch := by
  have hm : (sgd b m sh x).getD i sig0 ∈ sgd b m sh x := by
    rw [List.getD_eq_getElem?_getD, List.getElem?_eq_getElem hi]
    exact List.getElem_mem _
  obtain ⟨j, _, _, e⟩ := (sgd_mem b m sh _ x).1 hm
  rw [e]
  exact chn_ok _ _
def keys3 : List (List UInt8) := [pubL (seed 0), pubL (seed 1), pubL (seed 2)]
theorem keys3_at (k : Nat) (h : k < 3) : keys3.getD k [] = pubL (seed k) := by
  rcases k with _ | _ | _ | k
  · rw [keys3, List.getD_cons_zero]
  · rw [keys3, List.getD_cons_succ, List.getD_cons_zero]
  · rw [keys3, List.getD_cons_succ, List.getD_cons_succ, List.getD_cons_zero]
  · exact absurd h (by omega)
theorem sgnB_sgd (b : List UInt8) (m : UInt8) (k : Nat) (hk : k < 3) : sgnB keys3 b (sgd b m 0 3) (k : Int) = bitU m k := by
  unfold sgnB
  cases hb : bitU m k with
  | true =>
    rw [List.any_eq_true]
    refine ⟨⟨(k : Int) + 0, chnL (seed k) b 67⟩, (sgd_mem b m 0 _ 3).2 ⟨k, hk, hb, rfl⟩, ?_⟩
    unfold sgnP
    rw [Int.add_zero, decide_eq_true rfl, cond_true, Int.toNat_natCast, keys3_at k hk]
    exact ver_own _ _
  | false =>
    rw [List.any_eq_false]
    intro s hs hp
    obtain ⟨i, _, h2, rfl⟩ := (sgd_mem b m 0 s 3).1 hs
    unfold sgnP at hp
    dsimp only at hp
    by_cases e : (i : Int) + 0 = (k : Int)
    · obtain rfl : i = k := by omega
      rw [hb] at h2
      cases h2
    · rw [decide_eq_false e] at hp
      cases hp
theorem rolK_rng (m : UInt8) : ∀ x k, k ∈ rolK m x → 0 ≤ k ∧ k < (x : Int)
  | 0, k, h => by simp [rolK] at h
  | x + 1, k, h => by
    rw [rolK, List.mem_append] at h
    rcases h with h | h
    · have := rolK_rng m x k h
      omega
    · split at h
      · rw [List.mem_singleton] at h
        omega
      · cases h
theorem rolK_str (m : UInt8) : ∀ x, (rolK m x).Pairwise (· < ·)
  | 0 => .nil
  | x + 1 => by
    rw [rolK]
    refine List.pairwise_append.2 ⟨rolK_str m x, ?_, fun a ha b hb => ?_⟩
    · split
      · exact List.pairwise_singleton _ _
      · exact .nil
    · split at hb
      · rw [List.mem_singleton] at hb
        have := rolK_rng m x a ha
        omega
      · cases hb
theorem str_nodup {l : List Int} (h : l.Pairwise (· < ·)) : l.Nodup := h.imp fun h e => by omega
theorem filter_sgd (b : List UInt8) (m m2 : UInt8) : ((rolK m 3).filter (sgnB keys3 b (sgd b m2 0 3))).length = memN (rolK m 3) m2 (rolK m 3).length := by
  rw [memN_eq]
  refine congrArg List.length (List.filter_congr fun k hk => ?_)
  obtain ⟨h0, h1⟩ := rolK_rng m 3 k hk
  have e : k = ((k.toNat : Nat) : Int) := by omega
  rw [e, sgnB_sgd b m2 k.toNat (by omega), Int.toNat_natCast]
theorem fnd_rel (g : Int) (m nd : UInt8) : fndI (rootM g m nd) nmRel = 0 := rfl
theorem fnd_root (g : Int) (m nd : UInt8) : fndI (rootM g m nd) nmRoot = 1 := rfl
theorem cntOk_sgd (b : List UInt8) (m m2 : UInt8) (hb : b.length ≤ 1000000) : CntOk keys3 (rolK m 3) b (sgd b m2 0 3) where
  body := hb
  keys := fun k h => by
    obtain ⟨h0, h1⟩ := rolK_rng m 3 k ((any_key _ _).1 h)
    exact ⟨h0, h1⟩
  sigs := fun i hi => sgd_ok b m2 0 3 i hi
  many := by have := sgd_len b m2 0 3; omega
theorem roleOk_sgd (g : Int) (m nd : UInt8) (b : List UInt8) (m2 : UInt8) (hb : b.length ≤ 1000000) : RoleOk (rootM g m nd) nmRel b (sgd b m2 0 3) := .inr ⟨0, fnd_rel g m nd, Nat.zero_lt_succ 1, by omega, cntOk_sgd b m m2 hb⟩
theorem cntS_sgd (b : List UInt8) (m m2 : UInt8) : (cntS keys3 (rolK m 3) b (sgd b m2 0 3) (sgd b m2 0 3).length).length = memN (rolK m 3) m2 (rolK m 3).length := by
  rw [cntS_eq _ _ _ _ (str_nodup (rolK_str m 3)), filter_sgd]
theorem cntR_sgd (b : List UInt8) (m m2 : UInt8) : cntR keys3 b (sgd b m2 0 3) (rolK m 3) (rolK m 3).length = memN (rolK m 3) m2 (rolK m 3).length := by
  rw [cntR_eq, filter_sgd]
theorem enB_sgd (g : Int) (m nd : UInt8) (b : List UInt8) (m2 : UInt8) : enB (rootM g m nd) nmRel b (sgd b m2 0 3) = decide (1 + (nd.toNat : Int) % ((rolK m 3).length : Int) ≤ (memN (rolK m 3) m2 (rolK m 3).length : Nat)) := by
  unfold enB
  rw [fnd_rel, if_neg (by decide)]
  show decide (_ ≤ ((cntS keys3 (rolK m 3) b (sgd b m2 0 3) (sgd b m2 0 3).length).length : Int)) = _
  rw [cntS_sgd]
  rfl
theorem renB_sgd (g : Int) (m nd : UInt8) (b : List UInt8) (m2 : UInt8) : renB (rootM g m nd) nmRel b (sgd b m2 0 3) = enB (rootM g m nd) nmRel b (sgd b m2 0 3) := by
  rw [enB_sgd]
  unfold renB
  rw [fnd_rel, if_neg (by decide)]
  show decide (_ ≤ ((cntR keys3 b (sgd b m2 0 3) (rolK m 3) (rolK m 3).length : Nat) : Int)) = _
  rw [cntR_sgd]
  rfl
theorem rol_len (g : Int) (m nd : UInt8) (i : Nat) : ((rootM g m nd).roles.getD i role0).keys.length ≤ 1000000 := by
  have := rolK_len m 3
  rcases i with _ | _ | i
  · show (rolK m 3).length ≤ _; omega
  · show ([0] : List Int).length ≤ _; decide
  · show ([] : List Int).length ≤ _; decide
theorem relW_wf (a b c d : UInt8) : RelW (relW a b c d) := ⟨rfl, rfl, fun p hp => by cases hp⟩
theorem goneL_cases (v g : Int) : (g = v ∧ goneL v g = []) ∨ (g ≠ v ∧ goneL v g = [g]) := by
  unfold goneL
  by_cases h : g = v
  · rw [if_pos h]; exact .inl ⟨h, rfl⟩
  · rw [if_neg h]; exact .inr ⟨h, rfl⟩
theorem goneL_len (v g : Int) : (goneL v g).length ≤ 1 := by
  rcases goneL_cases v g with ⟨_, h⟩ | ⟨_, h⟩ <;> rw [h] <;> simp
theorem relW_valid (a b c d : UInt8) : validB (relW a b c d) = true := by
  have ha := a.toNat_lt
  have hb := b.toNat_lt
  have hc := c.toNat_lt
  have hd := d.toNat_lt
  have h1 : 0 ≤ (b.toNat : Int) % (1 + (a.toNat : Int) % 20 + 1) := Int.emod_nonneg _ (by omega)
  have h2 : (b.toNat : Int) % (1 + (a.toNat : Int) % 20 + 1) < 1 + (a.toNat : Int) % 20 + 1 := Int.emod_lt_of_pos _ (by omega)
  unfold validB relW
  generalize (b.toNat : Int) % (1 + (a.toNat : Int) % 20 + 1) = fl at h1 h2
  simp only [Bool.and_eq_true]
  refine ⟨?_, ?_, ?_, ?_⟩
  · unfold valid1 inB
    simp only [Bool.and_eq_true, decide_eq_true_eq]
    refine ⟨⟨by omega, by omega⟩, ⟨by omega, by omega⟩, ⟨by omega, by omega⟩, ⟨by omega, by omega⟩, by omega, by omega⟩
  · unfold valid2
    have := goneL_len (1 + (a.toNat : Int) % 20) ((d.toNat : Int) % 24)
    simp only [Bool.and_eq_true, decide_eq_true_eq]
    refine ⟨by omega, ?_, by simp⟩
    refine decide_eq_true fun i hi => ?_
    obtain rfl : i = 0 := by omega
    rcases goneL_cases (1 + (a.toNat : Int) % 20) ((d.toNat : Int) % 24) with ⟨_, h⟩ | ⟨_, h⟩
    · rw [h] at hi
      cases hi
    · rw [h]
      refine ⟨?_, fun h => absurd h (Nat.lt_irrefl _)⟩
      unfold inB
      simp only [Bool.and_eq_true, decide_eq_true_eq, List.getD_cons_zero]
      omega
  · refine decide_eq_true fun i hi => ?_
    dsimp only at hi ⊢
    rcases goneL_cases (1 + (a.toNat : Int) % 20) ((d.toNat : Int) % 24) with ⟨_, h⟩ | ⟨hne, h⟩
    · rw [h] at hi
      cases hi
    · rw [h] at hi ⊢
      obtain rfl : i = 0 := by simp at hi; omega
      exact hne
  · exact decide_eq_true fun i hi => absurd hi (Nat.not_lt_zero _)
end Go.Proofs.YtokaegeediokoaaGreatDoor
end
section
namespace Go.Proofs.YtokaegeediokoaaGreatDoor
open Go.RowKit V
set_option maxRecDepth 100000
set_option maxHeartbeats 8000000
set_option linter.unusedSimpArgs false
def sv5 : Rel := ⟨5, 2, 10, 0, List.replicate 32 0, 1, List.replicate 32 0, [], []⟩
def st5 (n : Int) : TrustL := ⟨plainL, 3, [4], n⟩
attribute [local irreducible] V.Sat V.DSat
theorem parts_nil : Fun Tryz.prog Γh 34 [(st5 10).v, sv5.v, .ro (.u8 []), .ro (.g 0 7 fun _ => [])] (.bool true) := by
  refine Fun.mk 6 Tryz.func34 rfl Tryz.ntmps34 rfl rfl fun T w0 => ?_
  repeat' (first
    | ((with_reducible apply Sat.run (X := X64)); exact rfl; (first | exact True.intro | (exact phi) | skip))
    | ((with_reducible apply Sat.cond_f); exact rfl)
    | ((with_reducible apply Sat.inl 7 [] Tryz.func78 Tryz.ntmps78); exact rfl; exact rfl; kernel_rfl; exact rfl; exact rfl; exact rfl; exact rfl; ((repeat' (first | exact AllP.nil | with_reducible refine AllP.cons ?_ ?_)) <;> (first | exact True.intro | exact purX)); intro _ _)
    | ((with_reducible apply Sat.inl 7 [] Tryz.func79 Tryz.ntmps79); exact rfl; exact rfl; kernel_rfl; exact rfl; exact rfl; exact rfl; exact rfl; ((repeat' (first | exact AllP.nil | with_reducible refine AllP.cons ?_ ?_)) <;> (first | exact True.intro | exact purX)); intro _ _)
    | ((with_reducible apply Sat.inl 7 [] Tryz.func147 Tryz.ntmps147); exact rfl; exact rfl; kernel_rfl; exact rfl; exact rfl; exact rfl; exact rfl; ((repeat' (first | exact AllP.nil | with_reducible refine AllP.cons ?_ ?_)) <;> (first | exact True.intro | exact purX)); intro _ _)
    | ((with_reducible apply Sat.out1 (C := ⟨_, _, _, _, _, _, _, _, _⟩)); exact rfl; (first | exact .inl rfl | exact .inr rfl); exact rfl; (exact phi); exact rfl)
    | (with_reducible apply Sat.unroll 40) | fail)
  (refine Sat.fin (Sat.end1 rfl rfl rfl True.intro (.refl _ purX) (by first | exact .inl rfl | exact .inr rfl) (fun _ h => h)) ?_; rfl)
theorem plain_ok : rootB plainL = true := by decide
theorem sv5_ok : validB sv5 = true := by decide
theorem plainW : RootW plainL := ⟨by decide⟩
theorem sv5W : RelW sv5 := ⟨rfl, rfl, fun p hp => by cases hp⟩
theorem plain_cnt (b : List UInt8) (hb : b.length ≤ 1000000) : CntOk plainL.keys (plainL.roles.getD 0 role0).keys b [] := ⟨hb, fun k h => by
  have h2 : k = 0 ∨ k = 1 := by simpa [any_key, plainL] using h
  have e : plainL.keys.length = 2 := rfl
  rcases h2 with rfl | rfl <;> rw [e] <;> omega, fun i hi => absurd hi (Nat.not_lt_zero _), by decide⟩
theorem plain_role (b : List UInt8) (hb : b.length ≤ 1000000) : RoleOk plainL nmRel b [] := .inr ⟨0, rfl, by decide, by omega, plain_cnt b hb⟩
theorem plain_cnt2 (b : List UInt8) (hb : b.length ≤ 1000000) : CntOk plainL.keys (plainL.roles.getD 1 role0).keys b [] := ⟨hb, fun k h => by
  have h2 : k = 0 := by simpa [any_key, plainL] using h
  have e : plainL.keys.length = 2 := rfl
  subst h2; rw [e]; omega, fun i hi => absurd hi (Nat.not_lt_zero _), by decide⟩
theorem plain_role2 (b : List UInt8) (hb : b.length ≤ 1000000) : RoleOk plainL nmRoot b [] := .inr ⟨1, rfl, by decide, by omega, plain_cnt2 b hb⟩
theorem sanity_core (bz bq : List UInt8) (hz : okP bz = true ∧ parseP bz = sv5) (hq : okQ bq = true ∧ parseQ bq = plainL) (hzl : bz.length ≤ 1000000) (hql : bq.length ≤ 1000000)
    (c1 : Fun Tryz.prog Γh 13 [sv5.v] (.ro (.u8 bz))) (c2 : Fun Tryz.prog Γh 36 [plainL.v] (.ro (.u8 bq))) : Fun Tryz.prog Γh 10 [] (.bool true) := by
  have c0 := plain_spec (Γ := Γh)
  have d1 := count_some plainL nmRel [] [] 0 (by decide) (by omega) rfl (plain_cnt [] (by decide))
  rw [show ((cntS plainL.keys (plainL.roles.getD 0 role0).keys [] [] ([] : List SigL).length).length : Int) = 0 from rfl] at d1
  have d2 := count_none plainL [111, 116, 104, 101, 114] [] [] rfl
  have e1 : accE (st5 10) bz [] = 270 := by
    unfold accE
    rw [hz.1, hz.2]
    rfl
  have e2 : accE (st5 11) bz [] = 271 := by
    unfold accE
    rw [hz.1, hz.2]
    rfl
  have e3 : accE (st5 10) [] [] = 260 := rfl
  have a1 := laccept_spec (st5 10) bz [] (fun _ => plain_role bz hzl) (by decide) (by rw [hz.2]; decide)
  have a2 := laccept_spec (st5 11) bz [] (fun _ => plain_role bz hzl) (by decide) (by rw [hz.2]; decide)
  have a3 := laccept_spec (st5 10) [] [] (fun _ => plain_role [] (by decide)) (by decide) (by decide)
  unfold accT accR at a1 a2 a3
  rw [e1] at a1
  rw [e2] at a2
  rw [e3] at a3
  simp only [show ¬ ((270 : Int) = 0) by decide, show ¬ ((271 : Int) = 0) by decide, show ¬ ((260 : Int) = 0) by decide, if_false] at a1 a2 a3
  have e4 : rotE (st5 10) bq [] = 274 := by
    unfold rotE
    rw [hq.1, hq.2]
    rfl
  have r1 := rotate_spec (st5 10) bq [] (by decide) (by decide) (by decide) (fun i hi => absurd hi (Nat.not_lt_zero _)) (fun _ => plain_role2 bq hql) (fun _ => by rw [hq.2]; exact plain_role2 bq hql)
  unfold rotT at r1
  rw [e4] at r1
  simp only [show ¬ ((274 : Int) = 0) by decide, if_false] at r1
  have s1 := same27 (st5 10) (st5 10)
  rw [(trustEq_iff _ _).2 rfl] at s1
  have l1 := allows_spec (st5 10) 3
  have l2 := allows_spec (st5 10) 60000
  have l3 := allows_spec (st5 10) 2
  have l4 := allows_spec (st5 10) 4
  have l5 := allows_spec (st5 10) 60001
  rw [show allowB (st5 10) 3 = true by decide] at l1
  rw [show allowB (st5 10) 60000 = true by decide] at l2
  rw [show allowB (st5 10) 2 = false by decide] at l3
  rw [show allowB (st5 10) 4 = false by decide] at l4
  rw [show allowB (st5 10) 60001 = false by decide] at l5
  have p1 := parts_nil
  clear e1 e2 e3 e4 hz hq
  refine Fun.mk 7 Tryz.func10 rfl Tryz.ntmps10 rfl rfl fun T w0 => ?_
  repeat' (first
    | ((with_reducible apply Sat.run (X := X64)); exact rfl; (first | exact True.intro | (exact phi) | skip))
    | ((with_reducible apply Sat.call (c0)); exact rfl; exact rfl; kernel_rfl; (exact cnvX); exact rfl) | fail)
  refine Sat.freezeR true 2 rfl ?_ ?_
  · (repeat' (first | exact AllP.nil | with_reducible refine AllP.cons ?_ ?_)) <;> first | exact rfl | exact trivial | exact .inl ⟨rfl, rfl, rfl⟩ | exact ⟨rfl, rfl, rfl, rfl⟩ | (intro _ _; simp [pureL, pureS, pureE]; done)
  repeat' (first
    | ((with_reducible apply Sat.run (X := X64)); exact rfl; (first | exact True.intro | (exact phi) | skip))
    | ((with_reducible apply Sat.drawn); kernel_rfl)
    | ((with_reducible apply DSat.run (X := X64)); exact rfl; (first | exact True.intro | (exact phi) | skip))
    | ((with_reducible apply DSat.fin); kernel_rfl)
    | ((with_reducible apply Sat.callR (d1)); exact rfl; exact rfl; exact rfl; kernel_rfl; (exact cnvX); exact rfl)
    | ((with_reducible apply Sat.callR (d2)); exact rfl; exact rfl; exact rfl; kernel_rfl; (exact cnvX); exact rfl)
    | ((with_reducible apply DSat.call (c1)); exact rfl; exact rfl; kernel_rfl; (exact cnvX); exact rfl)
    | ((with_reducible apply DSat.call (c2)); exact rfl; exact rfl; kernel_rfl; (exact cnvX); exact rfl)
    | ((with_reducible apply DSat.call (a1)); exact rfl; exact rfl; kernel_rfl; (exact cnvX); exact rfl)
    | ((with_reducible apply DSat.call (a2)); exact rfl; exact rfl; kernel_rfl; (exact cnvX); exact rfl)
    | ((with_reducible apply Sat.call (a3)); exact rfl; exact rfl; kernel_rfl; (exact cnvX); exact rfl)
    | ((with_reducible apply DSat.call (r1)); exact rfl; exact rfl; kernel_rfl; (exact cnvX); exact rfl)
    | ((with_reducible apply Sat.callG1 (s1)); exact rfl; exact rfl; exact rfl; exact rfl; kernel_rfl; (intro hG; (exact cnvX)); exact rfl)
    | ((with_reducible apply Sat.callG1 (l1)); exact rfl; exact rfl; exact rfl; exact rfl; kernel_rfl; (intro hG; (exact cnvX)); exact rfl)
    | ((with_reducible apply Sat.callG1 (l2)); exact rfl; exact rfl; exact rfl; exact rfl; kernel_rfl; (intro hG; (exact cnvX)); exact rfl)
    | ((with_reducible apply Sat.callG1 (l3)); exact rfl; exact rfl; exact rfl; exact rfl; kernel_rfl; (intro hG; (exact cnvX)); exact rfl)
    | ((with_reducible apply Sat.callG1 (l4)); exact rfl; exact rfl; exact rfl; exact rfl; kernel_rfl; (intro hG; (exact cnvX)); exact rfl)
    | ((with_reducible apply Sat.callG1 (l5)); exact rfl; exact rfl; exact rfl; exact rfl; kernel_rfl; (intro hG; (exact cnvX)); exact rfl)
    | ((with_reducible apply Sat.callG1 (p1)); exact rfl; exact rfl; exact rfl; exact rfl; kernel_rfl; (intro hG; (exact cnvX)); exact rfl) | fail)
  (refine Sat.fin (Sat.end1 rfl rfl rfl True.intro (.refl _ purX) (by first | exact .inl rfl | exact .inr rfl) (fun _ h => h)) ?_; rfl)
theorem sanity_law : Fun Tryz.prog Γh 10 [] (.bool true) := by
  have h1 := okP_of sv5 sv5_ok sv5W
  have h2 := okQ_of plainL plain_ok plainW
  exact sanity_core (bytesR sv5) (bytesQ plainL) h1 h2 (by decide) (by decide) ((bytesR_spec sv5 sv5_ok).weak) ((rootBytesR_spec plainL plain_ok).weak)
end Go.Proofs.YtokaegeediokoaaGreatDoor
end
section
namespace Go.Proofs.YtokaegeediokoaaGreatDoor
open Go.RowKit V
set_option maxRecDepth 100000
set_option linter.unusedSimpArgs false
def partsN (l : List PartL) : Nat := (l.map fun p => 33 + p.name.length).sum
def rolesN (l : List RoleL) : Nat := (l.map fun p => 3 + p.name.length + p.keys.length).sum
theorem flat_len {α : Type} (f : α → List UInt8) (k : Nat) : ∀ (l : List α), (∀ x ∈ l, (f x).length = k) → (l.flatMap f).length = k * l.length
  | [], _ => rfl
  | x :: r, h => by
    rw [List.flatMap_cons, List.length_append, flat_len f k r (fun y hy => h y (List.mem_cons_of_mem _ hy)), h x (List.mem_cons_self ..), List.length_cons, Nat.mul_succ]
    omega
theorem partsW_len : ∀ (l : List PartL), (∀ p ∈ l, p.hash.length = 32) → (partsW l).length = partsN l
  | [], _ => rfl
  | x :: r, h => by
    have ih := partsW_len r fun y hy => h y (List.mem_cons_of_mem _ hy)
    have hx := h x (List.mem_cons_self ..)
    unfold partsW partsN at *
    rw [List.flatMap_cons, List.length_append, ih, List.map_cons, List.sum_cons]
    simp only [List.length_append, num1_len, hx]
    omega
theorem bytesR_len (r : Rel) (hw : RelW r) : (bytesR r).length = 81 + 2 * r.gone.length + partsN r.parts := by
  unfold bytesR hdr
  simp only [List.length_append, num1_len, num2_len, num4_len, hw.image, hw.tree, partsW_len r.parts hw.parts, flat_len num2 2 r.gone fun _ _ => rfl]
  omega
theorem roleW_len (x : RoleL) : (roleW x).length = 3 + x.name.length + x.keys.length := by
  unfold roleW
  simp only [List.length_append, num1_len, flat_len num1 1 x.keys fun _ _ => rfl]
  omega
theorem rolesW_len : ∀ (l : List RoleL), (l.flatMap roleW).length = rolesN l
  | [] => rfl
  | x :: r => by
    rw [List.flatMap_cons, List.length_append, roleW_len, rolesW_len r]
    rfl
theorem bytesQ_len (r : RootL) (hw : RootW r) : (bytesQ r).length = 11 + 32 * r.keys.length + rolesN r.roles := by
  unfold bytesQ hdrR
  have hk : r.keys.flatten.length = 32 * r.keys.length := by
    rw [← List.flatMap_id]
    exact flat_len id 32 r.keys hw.keys
  simp only [List.length_append, num1_len, num4_len, rolesW_len, hk]
  omega
theorem sum_le {α : Type} (f : α → Nat) (b : Nat) : ∀ (l : List α), (∀ x ∈ l, f x ≤ b) → (l.map f).sum ≤ b * l.length
  | [], _ => Nat.le_refl _
  | x :: r, h => by
    rw [List.map_cons, List.sum_cons, List.length_cons, Nat.mul_succ]
    have := sum_le f b r fun y hy => h y (List.mem_cons_of_mem _ hy)
    have := h x (List.mem_cons_self ..)
    omega
theorem parts_name {r : Rel} (hv : validB r = true) : ∀ p ∈ r.parts, p.name.length ≤ 12 := by
  intro p hp
  obtain ⟨i, hi, rfl⟩ := mem_getD _ part0 p hp
  unfold validB at hv
  simp only [Bool.and_eq_true] at hv
  have h := (of_decide_eq_true hv.2.2.2 i hi).1
  unfold nameB inB at h
  simp only [Bool.and_eq_true, decide_eq_true_eq] at h
  omega
theorem bytesR_le (r : Rel) (hv : validB r = true) (hw : RelW r) : 81 ≤ (bytesR r).length ∧ (bytesR r).length ≤ 5000 := by
  rw [bytesR_len r hw]
  have h := valid_nums hv
  have := sum_le (fun p : PartL => 33 + p.name.length) 45 r.parts fun p hp => by have := parts_name hv p hp; omega
  have : partsN r.parts ≤ 45 * r.parts.length := this
  omega
theorem bytesQ_le (r : RootL) (hv : rootB r = true) (hw : RootW r) : 11 ≤ (bytesQ r).length ∧ (bytesQ r).length ≤ 5000 := by
  rw [bytesQ_len r hw]
  have h := root_nums hv
  have := sum_le (fun p : RoleL => 3 + p.name.length + p.keys.length) 520 r.roles fun p hp => by have := h.2.2.2.2 p hp; have h1 := this.1; have h2 := this.2.1; omega
  have : rolesN r.roles ≤ 520 * r.roles.length := this
  omega
end Go.Proofs.YtokaegeediokoaaGreatDoor
end
section
namespace Go.Proofs.YtokaegeediokoaaGreatDoor
open Go.RowKit V
set_option maxRecDepth 100000
set_option maxHeartbeats 8000000
set_option linter.unusedSimpArgs false
theorem u8_wrap (x : Int) : ∃ m : UInt8, IntKind.u8.wrap x = (m.toNat : Int) := by
  refine ⟨UInt8.ofNat (x % 256).toNat, ?_⟩
  rw [wrap_u8, UInt8.toNat_ofNat_of_lt' (show (x % 256).toNat < 256 by omega)]
  omega
theorem memN_congr (K : List Int) (m m' : UInt8) (h : ∀ k, k ∈ K → bitU m k.toNat = bitU m' k.toNat) : memN K m K.length = memN K m' K.length := by
  rw [memN_eq, memN_eq]
  exact congrArg List.length (List.filter_congr h)
theorem bit_mod (m : UInt8) (i : Nat) (hi : i < 3) : bitU (UInt8.ofNat (m.toNat % 8)) i = bitU m i := by
  have h := m.toNat_lt
  unfold bitU
  rw [UInt8.toNat_ofNat_of_lt' (show m.toNat % 8 < 256 by omega)]
  have : m.toNat % 8 / 2 ^ i % 2 = m.toNat / 2 ^ i % 2 := by
    rcases i with _ | _ | _ | i <;> omega
  rw [this]
theorem memN_mod (x m : UInt8) : memN (rolK x 3) (UInt8.ofNat (m.toNat % 8)) (rolK x 3).length = memN (rolK x 3) m (rolK x 3).length := memN_congr _ _ _ fun k hk => by
  obtain ⟨h0, h1⟩ := rolK_rng x 3 k hk
  exact bit_mod m k.toNat (by omega)
theorem mod8 (m : UInt8) : IntKind.u8.wrap ((BitVec.ofInt IntKind.u8.bits (m.toNat : Int) &&& BitVec.ofInt IntKind.u8.bits 7).toNat : Nat) = ((UInt8.ofNat (m.toNat % 8)).toNat : Int) := by
  have h1 := band_mask .u8 (m.toNat : Int) 3 (by decide)
  rw [show ((2 : Int) ^ 3 - 1) = 7 from rfl] at h1
  rw [h1, UInt8.toNat_ofNat_of_lt' (show m.toNat % 8 < 256 by omega)]
  omega
theorem rootM_few (g : Int) (m nd : UInt8) : (rootM g m nd).expiry = 100 := rfl
theorem relW_facts (a b c d : UInt8) : (1 ≤ (relW a b c d).version ∧ (relW a b c d).version ≤ 20) ∧ (0 ≤ (relW a b c d).floor ∧ (relW a b c d).floor ≤ (relW a b c d).version) ∧ (95 ≤ (relW a b c d).expiry ∧ (relW a b c d).expiry ≤ 104) ∧ (relW a b c d).gone.length ≤ 1 ∧ (relW a b c d).version ∉ (relW a b c d).gone ∧ (relW a b c d).gone.Pairwise (· < ·) := by
  have h1 := (valid_nums (relW_valid a b c d)).2.1
  refine ⟨?_, h1, ?_, goneL_len _ _, ?_, ?_⟩
  · unfold relW; dsimp only; omega
  · unfold relW; dsimp only; omega
  · unfold relW
    dsimp only
    rcases goneL_cases (1 + (a.toNat : Int) % 20) ((d.toNat : Int) % 24) with ⟨_, h⟩ | ⟨hne, h⟩ <;> rw [h]
    · simp
    · simp only [List.mem_singleton]
      exact fun e => hne e.symm
  · have h2 := goneL_len (1 + (a.toNat : Int) % 20) ((d.toNat : Int) % 24)
    show (goneL _ _).Pairwise _
    rcases goneL_cases (1 + (a.toNat : Int) % 20) ((d.toNat : Int) % 24) with ⟨_, h⟩ | ⟨_, h⟩ <;> rw [h]
    · exact .nil
    · exact List.pairwise_singleton _ _
theorem relW_body (a b c d : UInt8) : okP (bytesR (relW a b c d)) = true ∧ parseP (bytesR (relW a b c d)) = relW a b c d ∧ (bytesR (relW a b c d)).length ≤ 1000000 := by
  have h1 := okP_of (relW a b c d) (relW_valid a b c d) (relW_wf a b c d)
  have h2 := bytesR_le (relW a b c d) (relW_valid a b c d) (relW_wf a b c d)
  exact ⟨h1.1, h1.2, by omega⟩
attribute [local irreducible] V.Sat V.DSat
theorem threshold_law (a b c d mask need : UInt8) : Fun Tryz.prog Γh 4 [w4 a b c d, .int .u8 (mask.toNat : Int), .int .u8 (need.toNat : Int)] (.bool true) := by
  have c0 := sanity_law
  have c1 := rrel_spec (Γ := Γh) a b c d
  have c2 := rroot_spec 1 mask need
  obtain ⟨f1, f2, f3, f4, f5, f6⟩ := relW_facts a b c d
  obtain ⟨b1, b2, b3⟩ := relW_body a b c d
  have c3 := (bytes_spec (relW a b c d) (relW_valid a b c d)).weak (Γ := Γh)
  generalize relW a b c d = r at c1 c3 f1 f2 f3 f4 f5 f6 b1 b2 b3
  generalize bytesR r = bz at c3 b1 b2 b3
  obtain ⟨m2, hx⟩ := u8_wrap ((BitVec.ofInt IntKind.u8.bits (a.toNat : Int) ^^^ BitVec.ofInt IntKind.u8.bits (d.toNat : Int)).toNat : Nat)
  have c4 := signed_spec bz b3 m2 0 (by omega) (by omega)
  have c5 := laccept_spec ⟨rootM 1 mask need, 0, [], 95⟩ bz (sgd bz m2 0 3) (fun _ => roleOk_sgd 1 mask need bz m2 b3) (by simp) (by rw [b2]; omega)
  have hlen := rolK_len mask 3
  have c6 := members_ref (Γ := Γh) ⟨nmRel, rolK mask 3, 1 + (need.toNat : Int) % ((rolK mask 3).length : Int)⟩ (UInt8.ofNat (m2.toNat % 8)) (by dsimp only; omega) (fun i hi => by
    have hm : (rolK mask 3).getD i 0 ∈ rolK mask 3 := by
      rw [List.getD_eq_getElem?_getD, List.getElem?_eq_getElem hi]
      exact List.getElem_mem _
    have := rolK_rng mask 3 _ hm
    dsimp only
    omega)
  dsimp only at c6
  rw [memN_mod] at c6
  have hen := enB_sgd 1 mask need bz m2
  have c7 := same27 ⟨rootM 1 mask need, 0, [], 95⟩ ⟨rootM 1 mask need, 0, [], 95⟩
  rw [(trustEq_iff _ _).2 rfl] at c7
  have c8 := (same_rel r r).weak (Γ := Γh)
  rw [(relEq_iff _ _).2 rfl] at c8
  have c9 := ints27 (Γ := Γh) r.gone r.gone
  rw [decide_eq_true rfl] at c9
  have c10 := allows_spec ⟨rootM 1 mask need, r.floor, r.gone, 95⟩ r.version
  have hal : allowB ⟨rootM 1 mask need, r.floor, r.gone, 95⟩ r.version = true := by
    unfold allowB
    dsimp only
    rw [decide_eq_true f2.2, decide_eq_true (show r.version ≤ 60000 by omega), show (r.gone.any fun y => decide (r.version = y)) = false by
      rw [Bool.eq_false_iff]; exact fun h => f5 ((any_key _ _).1 h)]
    rfl
  rw [hal] at c10
  have hmin : 95 ≤ minV 100 r.expiry := by unfold minV; split <;> omega
  have hmax : maxV 0 r.floor = r.floor := by unfold maxV; split <;> omega
  have hE : accE ⟨rootM 1 mask need, 0, [], 95⟩ bz (sgd bz m2 0 3) = if enB (rootM 1 mask need) nmRel bz (sgd bz m2 0 3) = true then 0 else 270 := by
    have hv0 : 0 ≤ r.version := by omega
    unfold accE
    simp only [b1, b2, rootM_few, hmin, hv0, not_true_eq_false, if_false, Bool.true_eq_false, List.any_nil, Bool.false_eq_true]
    cases enB (rootM 1 mask need) nmRel bz (sgd bz m2 0 3) <;> rfl
  rw [hen] at hE
  have hgu : goneU [] r.gone = r.gone := goneU_nil _ f6
  unfold accT accR at c5
  rw [hE, b2] at c5
  dsimp only at c5
  rw [hgu, hmax] at c5
  have hmod := mod8 m2
  clear hE hen hal
  have hrl : (0 : Int) < ((rootM 1 mask need).roles.length : Int) := Int.natCast_pos.2 (Nat.zero_lt_succ 1)
  by_cases hq : 1 + (need.toNat : Int) % ((rolK mask 3).length : Int) ≤ (memN (rolK mask 3) m2 (rolK mask 3).length : Nat)
  · rw [decide_eq_true hq] at c5
    simp only [if_true] at c5
    generalize memN (rolK mask 3) m2 (rolK mask 3).length = nm at hq c6
    have q0 : decide (((rootM 1 mask need).roles.getD (Int.toNat 0) role0).need ≤ (nm : Int)) = true := decide_eq_true hq
    have q1 : (decide ((0 : Int) = 0) != decide (((rootM 1 mask need).roles.getD (Int.toNat 0) role0).need ≤ (nm : Int))) = false := by rw [q0]; rfl
    have q2 : (!decide (((rootM 1 mask need).roles.getD (Int.toNat 0) role0).need ≤ (nm : Int))) = false := by rw [q0]; rfl
    refine Fun.mk 7 Tryz.func4 rfl Tryz.ntmps4 rfl rfl fun T w0 => ?_
    repeat' (first
      | ((with_reducible apply Sat.cond); exact rfl; (intro h; exact absurd (h.symm.trans q2) (by decide)); (intro h; clear h))
      | ((with_reducible apply Sat.cond); exact rfl; (intro h; exact absurd (h.symm.trans q1) (by decide)); (intro h; clear h))
      | (rw [hmod])
      | (rw [hx])
      | ((with_reducible apply Sat.run (X := X64)); exact rfl; (first | exact True.intro | (exact phi) | skip))
      | ((with_reducible apply Sat.drawn); kernel_rfl)
      | ((with_reducible apply DSat.run (X := X64)); exact rfl; (first | exact True.intro | (exact phi) | skip))
      | ((with_reducible apply DSat.fin); kernel_rfl)
      | ((with_reducible apply Sat.call0 (c0)); exact rfl; exact rfl; kernel_rfl; exact rfl)
      | ((with_reducible apply Sat.call (c1)); exact rfl; exact rfl; kernel_rfl; (exact cnvX); exact rfl)
      | ((with_reducible apply Sat.call (c2)); exact rfl; exact rfl; kernel_rfl; (exact cnvX); exact rfl)
      | ((with_reducible apply DSat.call (c3)); exact rfl; exact rfl; kernel_rfl; (exact cnvX); exact rfl)
      | ((with_reducible apply DSat.call (c4)); exact rfl; exact rfl; kernel_rfl; (exact cnvX); exact rfl)
      | ((with_reducible apply DSat.call (c5)); exact rfl; exact rfl; kernel_rfl; (exact cnvX); exact rfl)
      | ((with_reducible apply DSat.callR (c6)); exact rfl; exact rfl; exact rfl; kernel_rfl; (exact cnvX); exact rfl)
      | ((with_reducible apply Sat.callR (c8)); exact rfl; exact rfl; exact rfl; kernel_rfl; (exact cnvX); exact rfl)
      | ((with_reducible apply Sat.callG1 (c9)); exact rfl; exact rfl; exact rfl; exact rfl; kernel_rfl; (intro hG; (exact cnvX)); exact rfl)
      | ((with_reducible apply Sat.callG1 (c10)); exact rfl; exact rfl; exact rfl; exact rfl; kernel_rfl; (intro hG; (exact cnvX)); exact rfl) | fail)
    (refine Sat.fin (Sat.end1 rfl rfl rfl True.intro (.refl _ purX) (by first | exact .inl rfl | exact .inr rfl) (fun _ h => h)) ?_; (simp; done))
  · rw [decide_eq_false hq] at c5
    simp only [Bool.false_eq_true, if_false, show ¬ ((270 : Int) = 0) by decide] at c5
    generalize memN (rolK mask 3) m2 (rolK mask 3).length = nm at hq c6
    have q0 : decide (((rootM 1 mask need).roles.getD (Int.toNat 0) role0).need ≤ (nm : Int)) = false := decide_eq_false hq
    have q1 : (decide ((270 : Int) = 0) != decide (((rootM 1 mask need).roles.getD (Int.toNat 0) role0).need ≤ (nm : Int))) = false := by rw [q0]; rfl
    have q2 : (!decide (((rootM 1 mask need).roles.getD (Int.toNat 0) role0).need ≤ (nm : Int))) = true := by rw [q0]; rfl
    refine Fun.mk 7 Tryz.func4 rfl Tryz.ntmps4 rfl rfl fun T w0 => ?_
    repeat' (first
      | ((with_reducible apply Sat.cond); exact rfl; (intro h; clear h; rotate_left); (intro h; exact absurd (h.symm.trans q2) (by decide)))
      | ((with_reducible apply Sat.cond); exact rfl; (intro h; exact absurd (h.symm.trans q1) (by decide)); (intro h; clear h))
      | (rw [hmod])
      | (rw [hx])
      | ((with_reducible apply Sat.run (X := X64)); exact rfl; (first | exact True.intro | (exact phi) | skip))
      | ((with_reducible apply Sat.drawn); kernel_rfl)
      | ((with_reducible apply DSat.run (X := X64)); exact rfl; (first | exact True.intro | (exact phi) | skip))
      | ((with_reducible apply DSat.fin); kernel_rfl)
      | ((with_reducible apply Sat.call0 (c0)); exact rfl; exact rfl; kernel_rfl; exact rfl)
      | ((with_reducible apply Sat.call (c1)); exact rfl; exact rfl; kernel_rfl; (exact cnvX); exact rfl)
      | ((with_reducible apply Sat.call (c2)); exact rfl; exact rfl; kernel_rfl; (exact cnvX); exact rfl)
      | ((with_reducible apply DSat.call (c3)); exact rfl; exact rfl; kernel_rfl; (exact cnvX); exact rfl)
      | ((with_reducible apply DSat.call (c4)); exact rfl; exact rfl; kernel_rfl; (exact cnvX); exact rfl)
      | ((with_reducible apply DSat.call (c5)); exact rfl; exact rfl; kernel_rfl; (exact cnvX); exact rfl)
      | ((with_reducible apply DSat.callR (c6)); exact rfl; exact rfl; exact rfl; kernel_rfl; (exact cnvX); exact rfl)
      | ((with_reducible apply Sat.callG1 (c7)); exact rfl; exact rfl; exact rfl; exact rfl; kernel_rfl; (intro hG; (exact cnvX)); exact rfl) | fail)
    (refine Sat.fin (Sat.end1 rfl rfl rfl True.intro (.refl _ purX) (by first | exact .inl rfl | exact .inr rfl) (fun _ h => h)) ?_; rfl)
end Go.Proofs.YtokaegeediokoaaGreatDoor
end
