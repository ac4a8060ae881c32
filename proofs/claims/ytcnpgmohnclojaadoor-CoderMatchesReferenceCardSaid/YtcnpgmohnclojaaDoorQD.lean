/-
  Joined texts: CS: Coder: a model in the program's memory: its blocks are hidden from a walk; the table in use is taken in hand, and given back.
  CU: Coder: trailing zeros cut off; two slices of bytes compared.
  CT: Coder: Encode, for any model that stands in the program's memory.
  CV: Coder: the models 0 and 1 in the program's memory.
  CW: Coder: the models are made; what is refused.
  CX: Coder: Decode, for any model that stands in the program's memory.
  CN: Coder: the tables of model 2: a map from bytes to pointers, as a function; now.
  CM: Coder: now, where the byte has no table yet.
  CY: Coder: model 2 in the program's memory.
  CZ: Coder: model 2 is made; what Encode, Size and Decode return.
  CE: Coder: Limited and Edited of the reference of layer 1.
  CL: Coder: what the laws' arguments read as; the tables that the rows list.
  Br: Stopping places of a walk; rows given up there.
  CK: Coder: the fixed examples.
  CG: Coder: the laws of sizes and zeros.
-/
import Derived.Test.YtcnpgmohnclojaaDoorQC
import Derived.Deep.QuietTactic
import Derived.Maps.OwnSet
import Derived.WalkKit
import Derived.Test.YtcnpgmohnclojaaDoorCards
import Derived.Test.YtcnpgmohnclojaaDoorTie
import Derived.Lib.LaidTab
import Derived.MakeChecks
import Derived.Stop.LaidErr
import Derived.Shelf.Vars
import Derived.Lay
section
namespace Go.Proofs.YtcnpgmohnclojaaDoor
open Go.RowKit V
set_option maxRecDepth 100000
/-- The parts of a block that holds counts. -/
@[reducible] def cnt (l : List Nat) (r : List SV) : List SV := .arr 256 (.ints .u32 (castL l)) :: r
/-- A model in the program's memory: what its methods do; the blocks of S are the model's own. -/
structure Impl (P : Program) (M : Rc.Mdl) where
  t : TypeId
  fc : FuncId
  fs : FuncId
  mc : ∀ v w, (method (P.types.size + Made.depth) t v "inlay/coder.counts").run P w = .ok (fc, v) w
  ms : ∀ v w, (method (P.types.size + Made.depth) t v "inlay/coder.saw").run P w = .ok (fs, v) w
  cc : callable P fc = true
  cs : callable P fs = true
  ty : TypeId
  tl : M.σ → List SV
  rig : ∀ s, V.rigid.rigids (tl s) = true
  Own : World → M.σ → Value → (Nat → Prop) → Prop
  lt : ∀ {w s v S}, Own w s v S → ∀ b, S b → b < w.heap.size
  kept : ∀ {w w' s v S}, Own w s v S → (∀ b, S b → w'.heap[b]? = w.heap[b]?) → Own w' s v S
  counts : ∀ {w s v S}, M.inv s → Own w s v S → Calls P fc #[v] w fun e w' => ∃ p cs S', e = .returned (.tuple #[.pointer (some ⟨p, 0, none⟩), .int .u64 (M.t s : Int)]) ∧
    w'.heap[p]? = some (.cells (List.toArray cs) ty (0, 0)) ∧ Items E0 (fun _ => False) w' (cnt (M.l s) (tl s)) cs ∧ Own w' s v S' ∧ S' p ∧ Kp w S w' ∧ ∀ b, S' b → S b ∨ w.heap.size ≤ b
  saw : ∀ {w s v S} (c : UInt8), M.inv s → Own w s v S → Calls P fs #[v, .int .u8 (c.toNat : Int)] w fun e w' => e = .returned (.tuple #[]) ∧ ∃ S', Own w' (M.saw s c) v S' ∧ Kp w S w' ∧ ∀ b, S' b → S b ∨ w.heap.size ≤ b
/-- The state of a walk, told from a later world. -/
theorem V.St.anew {C : Ctx} {F : Tr} {M M' : Mem} {U U' : Nat → Prop} {E E' : Env} {a : Act} {w w' : World} {l : List (Nat × Nat)} (h : St C F M U E a w) (hE : ∀ i x, E i = some x → E' i = some x) (hw : Chg (trk C.T0 M E) w w') (T : Nat → Prop) (hT : ∀ b, T b → b < w'.heap.size ∧ ¬ mine M' E' b)
    (hTT : ∀ b, b < w.heap.size → trk T M' E' b → trk C.T0 M E b) (hm : MOk E' (trk T M' E') M' w') (hf : ∀ k, U' k → E' k = none) (hl : ∀ p ∈ l, E' p.1 = some (some p.2)) : St (C.at w' (mine M' E') T l) F M' U' E' a w' := by
  refine ⟨h.defers, h.size, fun t s hs => (h.slots t s hs).mono hE hTT hw, hm, fun id b hf hE => ?_, hf, ⟨rfl, rfl, rfl, Chg.refl _ w'⟩, fun b hb => .inl (hT b hb), h.glob.mono hTT hw, ?_, ?_⟩
  · right
    cases hq : find M' id with
    | none => rw [hq] at hf; cases hf
    | some B => exact ⟨id, B, hq, hE⟩
  · intro p hp id b hpe
    obtain ⟨q, hq, rfl⟩ := List.mem_map.1 hp
    dsimp only at hpe
    split at hpe
    · rename_i he
      subst he
      cases hpe
      exact ⟨List.elem_eq_true_of_mem (List.mem_map.2 ⟨q, hq, rfl⟩), hl q hq⟩
    · cases hpe
  · intro p hp t s hs
    obtain ⟨q, hq, rfl⟩ := List.mem_map.1 hp
    cases hs
section
variable {P : Program} {M : Rc.Mdl}
/-- A round begins: the model stands in hidden blocks. -/
structure AtH (C : Ctx) (I : Impl P M) (s : M.σ) (v : Value) (W : World) (S Sm : Nat → Prop) : Prop where
  kp : Kp C.W0 C.S W
  sp : ∀ b, S b → C.W0.heap.size ≤ b ∨ C.S b
  own : I.Own W s v Sm
  new : ∀ b, Sm b → C.W0.heap.size ≤ b
/-- The table is in hand. -/
structure AtT (C : Ctx) (I : Impl P M) (s : M.σ) (v : Value) (W : World) (S Sm : Nat → Prop) (p : Nat) : Prop where
  kp : Kp C.W0 C.S W
  sp : ∀ b, S b → C.W0.heap.size ≤ b ∨ C.S b
  own : I.Own W s v Sm
  new : ∀ b, Sm b → C.W0.heap.size ≤ b
  at_ : Sm p
  tab : ∃ cs, W.heap[p]? = some (.cells (List.toArray cs) I.ty (0, 0)) ∧ Items E0 (fun _ => False) W (cnt (M.l s) (I.tl s)) cs
@[reducible] def hidH (C : Ctx) (Sm : Nat → Prop) : Nat → Prop := fun b => C.T0 b ∨ Sm b
@[reducible] def hidT (C : Ctx) (Sm : Nat → Prop) (p : Nat) : Nat → Prop := fun b => C.T0 b ∨ (Sm b ∧ b ≠ p)
variable {C : Ctx} {I : Impl P M} {s : M.σ} {v : Value} {W : World} {S Sm : Nat → Prop} {p : Nat}
theorem AtH.over (h : AtH C I s v W S Sm) : Over C W S (hidH C Sm) := ⟨h.kp, h.sp, fun _ => .inl⟩
theorem AtT.over (h : AtT C I s v W S Sm p) : Over C W S (hidT C Sm p) := ⟨h.kp, h.sp, fun _ => .inl⟩
theorem rig_cnt (s : M.σ) : V.rigid.rigids (cnt (M.l s) (I.tl s)) = true := by
  have := I.rig s
  simp only [V.rigid.rigids, Bool.and_eq_true]
  exact ⟨by first | rfl | simp [V.rigid], this⟩
end
section
variable {C : Ctx} {M : Rc.Mdl} {I : Impl C.P M} {Q0 : Exit → Act → World → Prop} {F F' : Tr} {Mm : Mem} {ids : List Nat} {k : List Kont} {s : M.σ} {v : Value} {full rest : List Oper} {d : Option Tmp} {x : Operand} {type : TypeId} {pos : String} {after : Array Edge} {ats : Array TypeId}
/-- The model is made. -/
theorem V.Sat.begins {Fn : Value → Tr} {f : FuncId} {svs : List SV} {xs : List Operand} (c : Top C) (hspec : ∀ w vs, (∀ E T w, Tup E T w svs vs) → Calls C.P f vs.toArray w fun e w' => ∃ v Sm, e = .returned (.iface I.t v) ∧ I.Own w' s v Sm ∧ Below w.heap.size w w' ∧ ∀ b, Sm b → w.heap.size ≤ b)
    (hrig : V.rigid.rigids svs = true) (hx : argsF C.Γ F x xs = some (f, svs)) (hc : callable C.P f = true) (hp : ∀ v, putD C.N F d (some (.ifc I.t (.val v))) some = some (Fn v))
    (h : ∀ v W S Sm, AtH C I s v W S Sm → Sat (C.at W S (hidH C Sm) []) Q0 (.reg full rest (Fn v) Mm ids k)) :
    Sat C Q0 (.reg full (⟨d, .call ⟨.value x, ⟨xs⟩, ats⟩, type, pos, after, none⟩ :: rest) F Mm ids k) := by
  intro U E a w hsup hst
  refine wpList_plain rfl fun K hK => ?_
  unfold Oper.wp
  obtain ⟨vs, ht, hex⟩ := argsF_ok hst.vw hx
  rw [hex, run_callFunc_go hc]
  refine (hspec w vs (fun E' T' w' => ht.rigid_ hrig)).mono ?_
  rintro e w' ⟨v, Sm, rfl, hown, hb, hnew⟩
  obtain ⟨F1, h1, h2⟩ := putD_inv (hp v)
  cases h1
  have hst2 := hst.below hb
  have hat : AtH C I s v w' (mine Mm E) Sm := by
    refine ⟨hst2.kp, fun b ⟨id, B, q1, q2⟩ => hst.own id b (by rw [q1]; rfl) q2, hown, fun b hb' => Nat.le_trans hst.kp.chg.size (hnew b hb')⟩
  have hap : ∀ b, hidH C Sm b → b < w'.heap.size ∧ ¬ mine Mm E b := by
    rintro b (q | q)
    · exact ⟨hst2.lt c.wide b (.inr q), fun ⟨id, B, q1, q2⟩ => hst2.apart c.wide id b (by rw [q1]; rfl) q2 q⟩
    · refine ⟨I.lt hown b q, fun ⟨id, B, q1, q2⟩ => ?_⟩
      have := (hst.mem.at q1 q2).1
      have := hnew b q
      omega
  have hTT : ∀ b, b < w.heap.size → trk (hidH C Sm) Mm E b → trk C.T0 Mm E b := by
    rintro b hb' (q | q | q)
    · exact .inl q
    · exact .inr q
    · have := hnew b q; omega
  have hmem : MOk E (trk (hidH C Sm) Mm E) Mm w' := ⟨fun id B hf => by
    rcases hst.mem.blk id B hf with ⟨b, q1, q2, q3⟩ | q
    · exact .inl ⟨b, q1, Nat.lt_of_lt_of_le q2 hb.size, q3.mono (fun _ _ h => h) hTT (Chg.of_below hb) (hb.block b q2)⟩
    · exact .inr q, hst.mem.inj⟩
  have h3 := hst.anew (E' := E) (M' := Mm) (U' := U) (l := []) (fun _ _ h => h) (Chg.of_below hb) (hidH C Sm) hap hTT hmem hst.fresh (fun _ h => by cases h)
  exact hK _ _ (h v w' _ Sm hat U E _ w' hsup (St.putD h3 h2 fun s' hs' => by cases hs'; exact .ifc _ _ _ (.val v)))
/-- The table is taken in hand. -/
theorem V.Sat.counts {id : Nat} {name : String} {W : World} {S Sm : Nat → Prop} (c : Top C) (hs : M.inv s) (hat : AtH C I s v W S Sm) (hname : name = "inlay/coder.counts")
    (hx : opd C.Γ F x = some (.ifc I.t (.val v))) (hp : putD C.N F d (some (.tup [.ptr id 0, .int .u64 (M.t s : Int)])) some = some F') (ht : (M.t s : Int) ≤ 65536)
    (h : ∀ p W S Sm, AtT C I s v W S Sm p → Sat (C.at W S (hidT C Sm p) [(id, p)]) Q0 (.reg full rest F' ((id, .cells I.ty (cnt (M.l s) (I.tl s))) :: Mm) ids k)) :
    Sat (C.at W S (hidH C Sm) []) Q0 (.reg full (⟨d, .call ⟨.invoke x name, ⟨[]⟩, ats⟩, type, pos, after, none⟩ :: rest) F Mm (id :: ids) k) := by
  subst hname
  intro U E a w hsup hst
  refine wpList_plain rfl fun K hK => ?_
  unfold Oper.wp
  obtain ⟨vs, htp, hex⟩ := argsI_ok (f := I.fc) (xs := []) (name := "inlay/coder.counts") hst.vw (show argsI C.Γ F x [] = some (I.t, [.val v]) by unfold argsI; rw [hx]; rfl) I.mc d ats type pos after none
  have hvs : vs = [v] := by
    cases htp with
    | cons _ _ _ _ h1 h2 =>
      cases h1
      cases h2
      rfl
  subst hvs
  rw [show (C.at W S (hidH C Sm) []).P = C.P from rfl, hex, run_callFunc_go I.cc]
  have hap0 := hst.apart c.wide
  have hlt0 := hst.lt c.wide
  have hown : I.Own w s v Sm := I.kept hat.own fun b hb => hst.kp.chg.keep b (I.lt hat.own b hb) (hst.hid_ c.wide b (.inr hb)).2
  refine (I.counts hs hown).mono ?_
  rintro e w' ⟨p, cs, Sm', rfl, hpc, hpi, hown', hp', hkp, hsub⟩
  obtain ⟨F1, h1, h2⟩ := putD_inv hp
  cases h1
  obtain ⟨hUid, hsup'⟩ := hsup
  have hEid : E id = none := hst.fresh id hUid
  have hpl : p < w'.heap.size := I.lt hown' p hp'
  have hE : ∀ i y, E i = some y → envWith E id (some p) i = some y := fun i y hi => by
    unfold envWith
    split
    · rename_i e; subst e; rw [hEid] at hi; cases hi
    · exact hi
  have hpm : ∀ b, mine Mm E b → b ≠ p := by
    rintro b ⟨j, B, q1, q2⟩ rfl
    rcases hsub b hp' with q | q
    · exact hap0 j b (by rw [q1]; rfl) q2 (.inr q)
    · have := (hst.mem.at q1 q2).1; omega
  have hid : ∀ j B, find Mm j = some B → ∀ y, E j = some y → j ≠ id := fun j B _ y hy e => by subst e; rw [hEid] at hy; cases hy
  have hmin : ∀ b, mine ((id, .cells I.ty (cnt (M.l s) (I.tl s))) :: Mm) (envWith E id (some p)) b ↔ (b = p ∨ mine Mm E b) := by
    intro b
    constructor
    · rintro ⟨j, B, q1, q2⟩
      rw [find_cons] at q1
      by_cases hj : j = id
      · subst hj
        left
        unfold envWith at q2
        rw [if_pos rfl] at q2
        cases q2
        rfl
      · right
        rw [if_neg hj] at q1
        unfold envWith at q2
        rw [if_neg hj] at q2
        exact ⟨j, B, q1, q2⟩
    · rintro (rfl | ⟨j, B, q1, q2⟩)
      · exact ⟨id, .cells I.ty (cnt (M.l s) (I.tl s)), by rw [find_cons, if_pos rfl], by unfold envWith; rw [if_pos rfl]⟩
      · exact ⟨j, B, by rw [find_cons, if_neg (hid j B q1 _ q2)]; exact q1, hE j _ q2⟩
  have hchg : Chg (trk (hidH C Sm) Mm E) w w' := ⟨hkp.chg.size, fun b hb hT => hkp.chg.keep b hb fun q => hT (.inr (.inr q)), hkp.chg.shape⟩
  have hnew' : ∀ b, Sm' b → C.W0.heap.size ≤ b := fun b hb => by
    rcases hsub b hb with q | q
    · exact hat.new b q
    · exact Nat.le_trans hat.kp.chg.size (Nat.le_trans hst.kp.chg.size q)
  have hSw : ∀ b, mine Mm E b → C.W0.heap.size ≤ b ∨ C.S b := by
    rintro b ⟨j, B, q1, q2⟩
    rcases hst.own j b (by rw [q1]; rfl) q2 with q | q
    · exact .inl (Nat.le_trans hat.kp.chg.size q)
    · exact hat.sp b q
  have hkpw : Kp C.W0 C.S w' := Kp.trans (Kp.trans hat.kp hst.kp hat.sp) hkp fun b hb => .inl (hat.new b hb)
  have hatT : AtT C I s v w' (mine ((id, .cells I.ty (cnt (M.l s) (I.tl s))) :: Mm) (envWith E id (some p))) Sm' p :=
    ⟨hkpw, fun b hb => by
      rcases (hmin b).1 hb with rfl | q
      · exact .inl (hnew' _ hp')
      · exact hSw b q, hown', hnew', hp', cs, hpc, hpi⟩
  have hT' : ∀ b, hidT C Sm' p b → b < w'.heap.size ∧ ¬ mine ((id, .cells I.ty (cnt (M.l s) (I.tl s))) :: Mm) (envWith E id (some p)) b := by
    rintro b (q | ⟨q, qp⟩)
    · refine ⟨Nat.lt_of_lt_of_le (hlt0 b (.inr (.inl q))) hkp.chg.size, fun hm => ?_⟩
      rcases (hmin b).1 hm with rfl | ⟨j, B, q1, q2⟩
      · have h1 := hnew' _ hp'
        have h2 := (c.hid _ q).1
        omega
      · exact hap0 j b (by rw [q1]; rfl) q2 (.inl q)
    · refine ⟨I.lt hown' b q, fun hm => ?_⟩
      rcases (hmin b).1 hm with rfl | ⟨j, B, q1, q2⟩
      · exact qp rfl
      · rcases hsub b q with z | z
        · exact hap0 j b (by rw [q1]; rfl) q2 (.inr z)
        · have := (hst.mem.at q1 q2).1; omega
  have hTT : ∀ b, b < w.heap.size → trk (hidT C Sm' p) ((id, .cells I.ty (cnt (M.l s) (I.tl s))) :: Mm) (envWith E id (some p)) b → trk (hidH C Sm) Mm E b := by
    have hsm : ∀ b, b < w.heap.size → Sm' b → Sm b := fun b hb q => by
      rcases hsub b q with z | z
      · exact z
      · omega
    rintro b hb (q | q | q)
    · rcases (hmin b).1 q with rfl | q
      · exact .inr (.inr (hsm _ hb hp'))
      · exact .inl q
    · exact .inr (.inl q)
    · exact .inr (.inr (hsm b hb q.1))
  have hmem : MOk (envWith E id (some p)) (trk (hidT C Sm' p) ((id, .cells I.ty (cnt (M.l s) (I.tl s))) :: Mm) (envWith E id (some p))) ((id, .cells I.ty (cnt (M.l s) (I.tl s))) :: Mm) w' := by
    refine ⟨fun j B hf => ?_, fun j j' b f1 f2 e1 e2 => ?_⟩
    · rw [find_cons] at hf
      by_cases hj : j = id
      · subst hj
        rw [if_pos rfl] at hf
        cases hf
        exact .inl ⟨p, by unfold envWith; rw [if_pos rfl], hpl, cs, hpc, Items.rigid_ hpi (rig_cnt s)⟩
      · rw [if_neg hj] at hf
        rcases hst.mem.blk j B hf with ⟨b, q1, q2, q3⟩ | ⟨q1, q2⟩
        · refine .inl ⟨b, hE j _ q1, Nat.lt_of_lt_of_le q2 hkp.chg.size, q3.mono hE hTT hchg (hkp.chg.keep b q2 fun q => hap0 j b (by rw [hf]; rfl) q1 (.inr q))⟩
        · exact .inr ⟨hE j _ q1, q2⟩
    · by_cases hj : j = id
      · by_cases hj' : j' = id
        · rw [hj, hj']
        · exfalso
          subst hj
          unfold envWith at e1 e2
          rw [if_pos rfl] at e1
          cases e1
          rw [if_neg hj'] at e2
          rw [find_cons, if_neg hj'] at f2
          obtain ⟨B, hB⟩ := Option.isSome_iff_exists.1 f2
          exact hpm p ⟨j', B, hB, e2⟩ rfl
      · by_cases hj' : j' = id
        · exfalso
          subst hj'
          unfold envWith at e1 e2
          rw [if_pos rfl] at e2
          cases e2
          rw [if_neg hj] at e1
          rw [find_cons, if_neg hj] at f1
          obtain ⟨B, hB⟩ := Option.isSome_iff_exists.1 f1
          exact hpm p ⟨j, B, hB, e1⟩ rfl
        · unfold envWith at e1 e2
          rw [if_neg hj] at e1
          rw [if_neg hj'] at e2
          rw [find_cons, if_neg hj] at f1
          rw [find_cons, if_neg hj'] at f2
          exact hst.mem.inj j j' b f1 f2 e1 e2
  have h3 := hst.anew (U' := V.rest U id) (l := [(id, p)]) hE hchg (hidT C Sm' p) hT' hTT hmem (fun k hk => by
    unfold envWith
    rw [if_neg hk.2]
    exact hst.fresh k hk.1) (fun q hq => by cases List.mem_singleton.1 hq; show envWith E id (some p) id = _; unfold envWith; rw [if_pos rfl])
  refine hK _ _ (h p w' _ Sm' hatT _ _ _ w' hsup' (St.putD h3 h2 fun s' hs' => ?_))
  cases hs'
  refine .tup _ [_, _] (.cons _ _ _ _ (.ptr id 0 p (by unfold envWith; rw [if_pos rfl])) (.cons _ _ _ _ (.int _ _ (inR_u64 (by omega) (by omega))) .nil))
/-- The model goes on; the table is given back. -/
theorem V.Sat.saws {id p : Nat} {name : String} {y : Operand} {c : UInt8} {W : World} {S Sm : Nat → Prop} (c0 : Top C) (hs : M.inv s) (hat : AtT C I s v W S Sm p) (hname : name = "inlay/coder.saw")
    (hx : argsI C.Γ F x [y] = some (I.t, [.val v, .int .u8 (c.toNat : Int)])) (hf : find Mm id = some (.cells I.ty (cnt (M.l s) (I.tl s)))) (hp : putD C.N F d (some (.tup [])) some = some F')
    (h : ∀ W S Sm, AtH C I (M.saw s c) v W S Sm → Sat (C.at W S (hidH C Sm) []) Q0 (.reg full rest F' (del Mm id) ids k)) :
    Sat (C.at W S (hidT C Sm p) [(id, p)]) Q0 (.reg full (⟨d, .call ⟨.invoke x name, ⟨[y]⟩, ats⟩, type, pos, after, none⟩ :: rest) F Mm ids k) := by
  subst hname
  intro U E a w hsup hst
  refine wpList_plain rfl fun K hK => ?_
  unfold Oper.wp
  obtain ⟨vs, htp, hex⟩ := argsI_ok (f := I.fs) (xs := [y]) (name := "inlay/coder.saw") hst.vw hx I.ms d ats type pos after none
  have hvs : vs = [v, .int .u8 (c.toNat : Int)] := by
    cases htp with
    | cons _ _ _ _ h1 h2 =>
      cases h1
      cases h2 with
      | cons _ _ _ _ h1 h2 =>
        cases h1
        cases h2
        rfl
  subst hvs
  rw [show (C.at W S (hidT C Sm p) [(id, p)]).P = C.P from rfl, hex, run_callFunc_go I.cs]
  have hap0 := hst.apart c0.wide
  have hlt0 := hst.lt c0.wide
  have hEid : E id = some (some p) := (hst.pin _ (List.mem_singleton.2 rfl) id (some p) (by dsimp only; rw [if_pos rfl])).2
  obtain ⟨hpw, cs, hpc, hpi⟩ := hst.mem.at hf hEid
  have hpm : mine Mm E p := ⟨id, _, hf, hEid⟩
  have hown : I.Own w s v Sm := I.kept hat.own fun b hb => by
    by_cases hbp : b = p
    · subst hbp
      obtain ⟨cs0, q1, q2⟩ := hat.tab
      rw [q1, hpc, Items.uniq q2 (rig_cnt s) hpi]
    · exact hst.kp.chg.keep b (I.lt hat.own b hb) (hst.hid_ c0.wide b (.inr ⟨hb, hbp⟩)).2
  refine (I.saw c hs hown).mono ?_
  rintro e w' ⟨rfl, Sm', hown', hkp, hsub⟩
  obtain ⟨F1, h1, h2⟩ := putD_inv hp
  cases h1
  have hdel : ∀ j B, find (del Mm id) j = some B → j ≠ id ∧ find Mm j = some B := fun j B hj => by
    rw [find_del] at hj
    split at hj
    · cases hj
    · rename_i hne; exact ⟨hne, hj⟩
  have hmin : ∀ b, mine (del Mm id) E b → mine Mm E b ∧ b ≠ p := by
    rintro b ⟨j, B, q1, q2⟩
    obtain ⟨r1, r2⟩ := hdel j B q1
    refine ⟨⟨j, B, r2, q2⟩, fun e => r1 ?_⟩
    subst e
    exact hst.mem.inj j id b (by rw [r2]; rfl) (by rw [hf]; rfl) q2 hEid
  have hSm : ∀ b, Sm b → trk (hidT C Sm p) Mm E b := fun b hb => by
    by_cases hbp : b = p
    · subst hbp; exact .inl hpm
    · exact .inr (.inr ⟨hb, hbp⟩)
  have hnm : ∀ b, mine (del Mm id) E b → ¬ Sm b := fun b hb q => by
    obtain ⟨⟨j, B, q1, q2⟩, q3⟩ := hmin b hb
    exact hap0 j b (by rw [q1]; rfl) q2 (.inr ⟨q, q3⟩)
  have hchg : Chg (trk (hidT C Sm p) Mm E) w w' := ⟨hkp.chg.size, fun b hb hT => hkp.chg.keep b hb fun q => hT (hSm b q), hkp.chg.shape⟩
  have hnew' : ∀ b, Sm' b → C.W0.heap.size ≤ b := fun b hb => by
    rcases hsub b hb with q | q
    · exact hat.new b q
    · exact Nat.le_trans hat.kp.chg.size (Nat.le_trans hst.kp.chg.size q)
  have hSw : ∀ b, mine Mm E b → C.W0.heap.size ≤ b ∨ C.S b := by
    rintro b ⟨j, B, q1, q2⟩
    rcases hst.own j b (by rw [q1]; rfl) q2 with q | q
    · exact .inl (Nat.le_trans hat.kp.chg.size q)
    · exact hat.sp b q
  have hatH : AtH C I (M.saw s c) v w' (mine (del Mm id) E) Sm' :=
    ⟨Kp.trans (Kp.trans hat.kp hst.kp hat.sp) hkp fun b hb => .inl (hat.new b hb), fun b hb => hSw b (hmin b hb).1, hown', hnew'⟩
  have hT' : ∀ b, hidH C Sm' b → b < w'.heap.size ∧ ¬ mine (del Mm id) E b := by
    rintro b (q | q)
    · refine ⟨Nat.lt_of_lt_of_le (hlt0 b (.inr (.inl q))) hkp.chg.size, fun hm => ?_⟩
      obtain ⟨j, B, q1, q2⟩ := (hmin b hm).1
      exact hap0 j b (by rw [q1]; rfl) q2 (.inl q)
    · refine ⟨I.lt hown' b q, fun hm => ?_⟩
      rcases hsub b q with z | z
      · exact hnm b hm z
      · obtain ⟨j, B, q1, q2⟩ := (hmin b hm).1
        have := (hst.mem.at q1 q2).1
        omega
  have hTT : ∀ b, b < w.heap.size → trk (hidH C Sm') (del Mm id) E b → trk (hidT C Sm p) Mm E b := by
    rintro b hb (q | q | q)
    · exact .inl (hmin b q).1
    · exact .inr (.inl q)
    · rcases hsub b q with z | z
      · exact hSm b z
      · omega
  have hmem : MOk E (trk (hidH C Sm') (del Mm id) E) (del Mm id) w' := by
    refine ⟨fun j B hj => ?_, fun j j' b f1 f2 e1 e2 => ?_⟩
    · obtain ⟨r1, r2⟩ := hdel j B hj
      rcases hst.mem.blk j B r2 with ⟨b, q1, q2, q3⟩ | q
      · exact .inl ⟨b, q1, Nat.lt_of_lt_of_le q2 hkp.chg.size, q3.mono (fun _ _ h => h) hTT hchg (hkp.chg.keep b q2 (hnm b ⟨j, B, hj, q1⟩))⟩
      · exact .inr q
    · obtain ⟨B, hB⟩ := Option.isSome_iff_exists.1 f1
      obtain ⟨B', hB'⟩ := Option.isSome_iff_exists.1 f2
      exact hst.mem.inj j j' b (by rw [(hdel j B hB).2]; rfl) (by rw [(hdel j' B' hB').2]; rfl) e1 e2
  have h3 := hst.anew (E' := E) (U' := U) (l := []) (fun _ _ h => h) hchg (hidH C Sm') hT' hTT hmem hst.fresh (fun q hq => by cases hq)
  refine hK _ _ (h w' _ Sm' hatH _ _ _ w' hsup (St.putD h3 h2 fun s' hs' => ?_))
  cases hs'
  exact .tup _ [] .nil
/-- What is asked of a round's end. -/
def BackM (C : Ctx) {M : Rc.Mdl} (I : Impl C.P M) (v : Value) {α : Type} (st : α → M.σ) (ids : List Nat) (Fh : α → Tr) (Mh : α → Mem) (Cx : α → Prop) (m : α → Nat) (x : α) (a : Act) (w : World) : Prop :=
  ∃ x' W S Sm, Cx x' ∧ AtH C I (st x') v W S Sm ∧ m x' < m x ∧ ∃ U E, Sup ids U ∧ St (C.at W S (hidH C Sm) []) (Fh x') (Mh x') U E a w
/-- A loop over the model's states. -/
theorem V.Sat.loopM {α : Type} {body : Code} {Fh : α → Tr} {Mh : α → Mem} {φ : List Prop} {ids' : List Nat} {W : World} {S Sm : Nat → Prop} (st : α → M.σ) (Cx : α → Prop) (m : α → Nat) (x0 : α) (fr : α → List (Nat × SV)) (mr : α → List (Nat × Blk)) (dm : List Nat) (σ : List (Nat × Option Nat)) (n : Nat)
    (_hF : ∀ x, headT F body (fr x) = some (Fh x)) (_hM : ∀ x, headM Mm dm (mr x) = some (Mh x)) (_hi : dropN ids n = some ids') (hin : intoF C.wide [] σ F Mm (Fh x0) (Mh x0) ids' = some φ) (hφ : AllP φ) (h0 : Cx x0) (hat : AtH C I (st x0) v W S Sm)
    (step : ∀ x W S Sm, Cx x → AtH C I (st x) v W S Sm → Sat (C.at W S (hidH C Sm) []) Q0 (.code body (Fh x) (Mh x) ids' (.lp (BackM C I v st ids' Fh Mh Cx m x) :: k))) :
    Sat (C.at W S (hidH C Sm) []) Q0 (.code (.loop body) F Mm ids k) := by
  intro U E a w hsup hst
  obtain ⟨U', E', h1, h2⟩ := into_ok hst hin hφ
  refine wp_loop_ghost (fun n a w => ∃ x W S Sm, Cx x ∧ AtH C I (st x) v W S Sm ∧ m x = n ∧ ∃ U E, Sup ids' U ∧ St (C.at W S (hidH C Sm) []) (Fh x) (Mh x) U E a w) (m x0) ⟨x0, W, S, Sm, h0, hat, rfl, U', E', h1, h2⟩ ?_
  rintro n a w ⟨x, W, S, Sm, hx, hat, rfl, U, E, hs, hst⟩
  refine wp_mono (step x W S Sm hx hat U E a w hs hst) ?_
  intro e a' w' hq
  cases e with
  | normal =>
    obtain ⟨x', W', S', Sm', q1, q2, q3, q4⟩ := hq
    exact ⟨m x', q3, x', W', S', Sm', q1, q2, rfl, q4⟩
  | exit id => exact hq
  | goto l => exact hq
  | ret => exact hq
  | panic v => exact hq
  | outgrown => exact hq
theorem V.Sat.backM {α : Type} {Fh : α → Tr} {Mh : α → Mem} {φ : List Prop} {ids0 : List Nat} {st : α → M.σ} {Cx : α → Prop} {m : α → Nat} {x : α} {W : World} {S Sm : Nat → Prop} (x' : α) (σ : List (Nat × Option Nat)) (hin : intoF C.wide [] σ F Mm (Fh x') (Mh x') ids0 = some φ) (hφ : AllP φ) (hat : AtH C I (st x') v W S Sm) (hC : Cx x') (hm : m x' < m x) :
    Sat (C.at W S (hidH C Sm) []) Q0 (.ext .normal F Mm ids (.lp (BackM C I v st ids0 Fh Mh Cx m x) :: k)) := by
  intro U E a w hsup hst
  obtain ⟨U', E', h1, h2⟩ := into_ok hst hin hφ
  exact ⟨x', W, S, Sm, hC, hat, hm, U', E', h1, h2⟩
end
end Go.Proofs.YtcnpgmohnclojaaDoor
end
section
namespace Go.Proofs.YtcnpgmohnclojaaDoor
open Go.RowKit V
set_option maxRecDepth 100000
set_option maxHeartbeats 4000000
set_option linter.unusedSimpArgs false
attribute [local irreducible] V.Sat V.DSat
theorem trim_spec1 (l : List UInt8) : Fun Tryd.prog [] 33 [.ro (.u8 l), .int .u8 0] (.ro (.u8 (Rc.trim l))) := by
  refine Fun.mkF 6 Tryd.func33 rfl Tryd.ntmps33 rfl rfl fun hf T w0 => ?_
  have hl : l.length ≤ 9223372036854775807 := hf.1.1
  repeat' (first
      | ((with_reducible apply Sat.run (X := X64)); exact rfl; (first | exact True.intro | (exact phi) | skip))
      | ((with_reducible apply Sat.drawn); kernel_rfl)
      | ((with_reducible apply DSat.run (X := X64)); exact rfl; (first | exact True.intro | (exact phi) | skip))
      | ((with_reducible apply DSat.fin); kernel_rfl) | fail)
  apply Sat.loop (α := List UInt8) (fun y => y.length ≤ l.length ∧ Hd (Rc.trim y = Rc.trim l)) (fun y => y.length) l (fun y => [(0, .ro (.u8 y))]) (fun _ => []) [] [] 0
  · intro x; exact rfl
  · intro x; exact rfl
  · exact rfl
  · exact rfl
  · (repeat' (first | exact AllP.nil | with_reducible refine AllP.cons ?_ ?_)) <;> first | exact rfl | exact trivial
  · exact ⟨Nat.le_refl _, ⟨rfl⟩⟩
  · rintro y ⟨hy, ht⟩
    repeat' (first
        | ((with_reducible apply Sat.run (X := X64)); exact rfl; (first | exact True.intro | (exact phi) | skip))
        | ((with_reducible apply Sat.drawn); kernel_rfl)
        | ((with_reducible apply DSat.run (X := X64)); exact rfl; (first | exact True.intro | (exact phi) | skip))
        | ((with_reducible apply DSat.fin); kernel_rfl)
        | ((with_reducible apply Sat.cond_t); exact rfl)
        | ((with_reducible apply Sat.cond_f); exact rfl)
        | ((with_reducible apply Sat.cond_pt); exact rfl; (try dsimp only [V.EV.sub, V.EV.len]); first | assumption | omega)
        | ((with_reducible apply Sat.cond_pf); exact rfl; (try dsimp only [V.EV.sub, V.EV.len]); first | assumption | omega)
        | ((with_reducible apply Sat.cond_p); exact rfl; all_goals (intro h; (try simp only [V.EV.sub, V.EV.len] at h)))
        | ((with_reducible apply Sat.cond); exact rfl; all_goals (intro h; (try simp only [V.EV.sub, V.EV.len, Bool.cond_true_left, Bool.cond_false_right, Bool.or_eq_true, Bool.and_eq_true, Bool.or_eq_false_iff, Bool.and_eq_false_iff, Bool.not_eq_true', Bool.not_eq_false', decide_eq_true_eq, decide_eq_false_iff_not, ne_eq] at h))) | fail)
    · have hd : (0 : Int) < y.length := of_decide_eq_true h.1
      have hz : ((y.getD ((y.length : Int) - 1).toNat 0).toNat : Int) = 0 := of_decide_eq_true h.2
      have hx : List.take ((some ((y.length : Int) - 1).toNat).getD y.length - (none : Option Nat).getD 0) (List.drop ((none : Option Nat).getD 0) y) = y.take (y.length - 1) := by
        show List.take (((y.length : Int) - 1).toNat - 0) (List.drop 0 y) = _
        rw [show ((y.length : Int) - 1).toNat - 0 = y.length - 1 by omega]
        rfl
      refine Sat.back (List.take ((some ((y.length : Int) - 1).toNat).getD y.length - (none : Option Nat).getD 0) (List.drop ((none : Option Nat).getD 0) y)) [] rfl ?_ ?_ ?_
      · (repeat' (first | exact AllP.nil | with_reducible refine AllP.cons ?_ ?_)) <;> first | exact rfl | exact trivial
      · rw [hx]
        refine ⟨by rw [List.length_take]; omega, ⟨?_⟩⟩
        rcases Rc.snoc_cases y with rfl | ⟨m, b, rfl⟩
        · simp at hd
        · rw [List.length_append, show ((m.length + [b].length : Nat) : Int) - 1 = m.length by show ((m.length + 1 : Nat) : Int) - 1 = _; omega, Int.toNat_natCast, List.getD_eq_getElem?_getD, List.getElem?_append_right (Nat.le_refl _), Nat.sub_self] at hz
          have hb : b = 0 := UInt8.toNat_inj.1 (by have hz : ((b.toNat : Nat) : Int) = 0 := hz; show b.toNat = 0; omega)
          subst hb
          rw [← ht.h, Rc.trim_zero, List.length_append, show m.length + [(0 : UInt8)].length - 1 = m.length from rfl, List.take_left]
      · rw [hx, List.length_take]
        omega
    · have hy2 : y = Rc.trim l := by
        rw [← ht.h]
        rcases Rc.snoc_cases y with rfl | ⟨m, b, rfl⟩
        · rfl
        · by_cases hb : b = 0
          · exfalso
            subst hb
            rcases h with h | h
            · have h : ¬ (0 : Int) < ((m ++ [(0 : UInt8)]).length : Nat) := of_decide_eq_false h
              rw [List.length_append] at h
              exact h (by show (0 : Int) < ((m.length + 1 : Nat) : Int); omega)
            · have h : ¬ (((m ++ [(0 : UInt8)]).getD (((m ++ [(0 : UInt8)]).length : Int) - 1).toNat 0).toNat : Int) = 0 := of_decide_eq_false h
              apply h
              rw [List.length_append, show ((m.length + [(0 : UInt8)].length : Nat) : Int) - 1 = m.length by show ((m.length + 1 : Nat) : Int) - 1 = _; omega, Int.toNat_natCast, List.getD_eq_getElem?_getD, List.getElem?_append_right (Nat.le_refl _), Nat.sub_self]
              rfl
          · rw [Rc.trim_keep m b hb]
      (refine Sat.fin (Sat.end1 rfl rfl rfl True.intro (.refl _ pur) (by first | exact .inl rfl | exact .inr rfl) (fun _ h => h)) ?_; (rw [hy2]))
theorem trim_spec (l : List UInt8) : Fun Tryd.prog [] 24 [.ro (.u8 l), .str [0]] (.ro (.u8 (Rc.trim l))) := by
  refine Fun.mkF 6 Tryd.func24 rfl Tryd.ntmps24 rfl rfl fun hf T w0 => ?_
  have h1 := trim_spec1 l
  by_cases hl : l.length = 0
  · obtain rfl := List.eq_nil_of_length_eq_zero hl
    repeat' (first
        | ((with_reducible apply Sat.run (X := X64)); exact rfl; (first | exact True.intro | (exact phi) | skip))
        | ((with_reducible apply Sat.drawn); kernel_rfl)
        | ((with_reducible apply DSat.run (X := X64)); exact rfl; (first | exact True.intro | (exact phi) | skip))
        | ((with_reducible apply DSat.fin); kernel_rfl)
        | ((with_reducible apply Sat.cond_t); exact rfl)
        | ((with_reducible apply Sat.cond_f); exact rfl)
        | ((with_reducible apply Sat.cond_pt); exact rfl; (try dsimp only [V.EV.sub, V.EV.len]); first | assumption | omega)
        | ((with_reducible apply Sat.cond_pf); exact rfl; (try dsimp only [V.EV.sub, V.EV.len]); first | assumption | omega)
        | ((with_reducible apply Sat.cond_p); exact rfl; all_goals (intro h; (try simp only [V.EV.sub, V.EV.len] at h)))
        | ((with_reducible apply Sat.cond); exact rfl; all_goals (intro h; (try simp only [V.EV.sub, V.EV.len, Bool.cond_true_left, Bool.cond_false_right, Bool.or_eq_true, Bool.and_eq_true, Bool.or_eq_false_iff, Bool.and_eq_false_iff, Bool.not_eq_true', Bool.not_eq_false', decide_eq_true_eq, decide_eq_false_iff_not, ne_eq] at h)))
        | ((with_reducible apply Sat.call (h1)); exact rfl; exact rfl; kernel_rfl; (exact cnv); exact rfl)
        | ((with_reducible apply DSat.call (h1)); exact rfl; exact rfl; kernel_rfl; (exact cnv); exact rfl) | fail)
    (refine Sat.fin (Sat.end1 rfl rfl rfl True.intro (.refl _ pur) (by first | exact .inl rfl | exact .inr rfl) (fun _ h => h)) ?_; (rfl))
  · have hl' : 0 < l.length := by omega
    repeat' (first
        | ((with_reducible apply Sat.run (X := X64)); exact rfl; (first | exact True.intro | (exact phi) | skip))
        | ((with_reducible apply Sat.drawn); kernel_rfl)
        | ((with_reducible apply DSat.run (X := X64)); exact rfl; (first | exact True.intro | (exact phi) | skip))
        | ((with_reducible apply DSat.fin); kernel_rfl)
        | ((with_reducible apply Sat.cond_t); exact rfl)
        | ((with_reducible apply Sat.cond_f); exact rfl)
        | ((with_reducible apply Sat.cond_pt); exact rfl; (try dsimp only [V.EV.sub, V.EV.len]); first | assumption | omega)
        | ((with_reducible apply Sat.cond_pf); exact rfl; (try dsimp only [V.EV.sub, V.EV.len]); first | assumption | omega)
        | ((with_reducible apply Sat.cond_p); exact rfl; all_goals (intro h; (try simp only [V.EV.sub, V.EV.len] at h)))
        | ((with_reducible apply Sat.cond); exact rfl; all_goals (intro h; (try simp only [V.EV.sub, V.EV.len, Bool.cond_true_left, Bool.cond_false_right, Bool.or_eq_true, Bool.and_eq_true, Bool.or_eq_false_iff, Bool.and_eq_false_iff, Bool.not_eq_true', Bool.not_eq_false', decide_eq_true_eq, decide_eq_false_iff_not, ne_eq] at h)))
        | ((with_reducible apply Sat.call (h1)); exact rfl; exact rfl; kernel_rfl; (exact cnv); exact rfl)
        | ((with_reducible apply DSat.call (h1)); exact rfl; exact rfl; kernel_rfl; (exact cnv); exact rfl) | fail)
    · exfalso
      rcases h with h | h
      · have h : ((l.length : Nat) : Int) = 0 := of_decide_eq_true h
        omega
      · cases h
    (refine Sat.fin (Sat.end1 rfl rfl rfl True.intro (.refl _ pur) (by first | exact .inl rfl | exact .inr rfl) (fun _ h => h)) ?_; (rfl))
theorem eq_spec (a b : List UInt8) : Fun Tryd.prog [] 26 [.ro (.u8 a), .ro (.u8 b)] (.bool (decide (a = b))) := by
  refine Fun.mkF 6 Tryd.func26 rfl Tryd.ntmps26 rfl rfl fun hf T w0 => ?_
  repeat' (first
      | ((with_reducible apply Sat.run (X := X64)); exact rfl; (first | exact True.intro | (exact phi) | skip))
      | ((with_reducible apply Sat.drawn); kernel_rfl)
      | ((with_reducible apply DSat.run (X := X64)); exact rfl; (first | exact True.intro | (exact phi) | skip))
      | ((with_reducible apply DSat.fin); kernel_rfl)
      | ((with_reducible apply Sat.cond_t); exact rfl)
      | ((with_reducible apply Sat.cond_f); exact rfl)
      | ((with_reducible apply Sat.cond_pt); exact rfl; (try dsimp only [V.EV.sub, V.EV.len]); first | assumption | omega)
      | ((with_reducible apply Sat.cond_pf); exact rfl; (try dsimp only [V.EV.sub, V.EV.len]); first | assumption | omega)
      | ((with_reducible apply Sat.cond_p); exact rfl; all_goals (intro h; (try simp only [V.EV.sub, V.EV.len] at h)))
      | ((with_reducible apply Sat.cond); exact rfl; all_goals (intro h; (try simp only [V.EV.sub, V.EV.len, Bool.cond_true_left, Bool.cond_false_right, Bool.or_eq_true, Bool.and_eq_true, Bool.or_eq_false_iff, Bool.and_eq_false_iff, Bool.not_eq_true', Bool.not_eq_false', decide_eq_true_eq, decide_eq_false_iff_not, ne_eq] at h))) | fail)
  · have hab : ¬ a = b := fun e => by subst e; exact h rfl
    (refine Sat.fin (Sat.end1 rfl rfl rfl True.intro (.refl _ pur) (by first | exact .inl rfl | exact .inr rfl) (fun _ h => h)) ?_; (rw [decide_eq_false hab]))
  · apply Sat.loop (α := Nat) (fun x => x ≤ a.length ∧ ∀ i, i < x → a.getD i 0 = b.getD i 0) (fun x => a.length - x) 0 (fun x => [(13, .int .i64 (x : Int))]) (fun _ => []) [] [] 0
    · intro x; exact rfl
    · intro x; exact rfl
    · exact rfl
    · exact rfl
    · (repeat' (first | exact AllP.nil | with_reducible refine AllP.cons ?_ ?_)) <;> first | exact rfl | exact trivial
    · exact ⟨Nat.zero_le _, fun i hi => by omega⟩
    · rintro x ⟨hx, he⟩
      have hla : a.length ≤ 9223372036854775807 := hf.1.1
      repeat' (first
          | ((with_reducible apply Sat.run (X := X64)); exact rfl; (first | exact True.intro | (exact phi) | skip))
          | ((with_reducible apply Sat.drawn); kernel_rfl)
          | ((with_reducible apply DSat.run (X := X64)); exact rfl; (first | exact True.intro | (exact phi) | skip))
          | ((with_reducible apply DSat.fin); kernel_rfl)
          | ((with_reducible apply Sat.cond_t); exact rfl)
          | ((with_reducible apply Sat.cond_f); exact rfl)
          | ((with_reducible apply Sat.cond_pt); exact rfl; (try dsimp only [V.EV.sub, V.EV.len]); first | assumption | omega)
          | ((with_reducible apply Sat.cond_pf); exact rfl; (try dsimp only [V.EV.sub, V.EV.len]); first | assumption | omega)
          | ((with_reducible apply Sat.cond_p); exact rfl; all_goals (intro h; (try simp only [V.EV.sub, V.EV.len] at h)))
          | ((with_reducible apply Sat.cond); exact rfl; all_goals (intro h; (try simp only [V.EV.sub, V.EV.len, Bool.cond_true_left, Bool.cond_false_right, Bool.or_eq_true, Bool.and_eq_true, Bool.or_eq_false_iff, Bool.and_eq_false_iff, Bool.not_eq_true', Bool.not_eq_false', decide_eq_true_eq, decide_eq_false_iff_not, ne_eq] at h))) | fail)
      · have hab : ¬ a = b := fun e => by subst e; exact h rfl
        (refine Sat.fin (Sat.end1 rfl rfl rfl True.intro (.refl _ pur) (by first | exact .inl rfl | exact .inr rfl) (fun _ h => h)) ?_; (rw [decide_eq_false hab]))
      · refine Sat.back (x + 1) [] rfl ?_ ?_ ?_
        · (repeat' (first | exact AllP.nil | with_reducible refine AllP.cons ?_ ?_)) <;> first | exact rfl | exact trivial | exact Int.natCast_add_one _
        · refine ⟨by omega, fun i hi => ?_⟩
          by_cases hix : i = x
          · subst hix
            exact UInt8.toNat_inj.1 (Int.ofNat.inj (Classical.not_not.1 h))
          · exact he i (by omega)
        · omega
      · have hab : a = b := by
          apply List.ext_getElem (by omega)
          intro i h1 h2
          have := he i (by omega)
          rw [List.getD_eq_getElem?_getD, List.getD_eq_getElem?_getD, List.getElem?_eq_getElem h1, List.getElem?_eq_getElem h2] at this
          exact this
        (refine Sat.fin (Sat.end1 rfl rfl rfl True.intro (.refl _ pur) (by first | exact .inl rfl | exact .inr rfl) (fun _ h => h)) ?_; (rw [decide_eq_true hab]))
end Go.Proofs.YtcnpgmohnclojaaDoor
end
section
namespace Go.Proofs.YtcnpgmohnclojaaDoor
open Go.RowKit V
set_option maxRecDepth 100000
set_option maxHeartbeats 8000000
set_option linter.unusedSimpArgs false
theorem V.Sat.top {C : Ctx} {Q0 : Exit → Act → World → Prop} {c : Cfg} (h1 : C.pins = []) (h2 : C.hold = []) (h3 : C.wide = false) (h : Top C → Sat C Q0 c) : Sat C Q0 c := by
  cases c with
  | reg full rest F M ids k => exact fun U E a w hs hst => h ⟨h1, h2, h3, fun b hb => hst.hid_ h3 b hb⟩ U E a w hs hst
  | qreg full rest F M ids k => exact fun U E a w hs hst => h ⟨h1, h2, h3, fun b hb => hst.hid_ h3 b hb⟩ U E a w hs hst
  | code cc F M ids k => exact fun U E a w hs hst => h ⟨h1, h2, h3, fun b hb => hst.hid_ h3 b hb⟩ U E a w hs hst
  | ext e F M ids k => exact fun U E a w hs hst => h ⟨h1, h2, h3, fun b hb => hst.hid_ h3 b hb⟩ U E a w hs hst
@[reducible] def cx (P : Program) (N : Nat) (T : Nat → Prop) (w0 : World) : Ctx := ⟨P, w0, fun _ => False, T, [], N, [], [], false⟩
theorem killR {C : Ctx} {Q0 : Exit → Act → World → Prop} {full rest : List Oper} {F G : Tr} {M : Mem} {ids : List Nat} {k : List Kont} (l : List Nat) (hG : killF l F some = some G) (h : Sat C Q0 (.reg full rest G M ids k)) : Sat C Q0 (.reg full rest F M ids k) := fun U E a w hsup hst => by
  obtain ⟨F1, h1, h2⟩ := killF_inv hG
  cases h1
  exact h U E a w hsup ⟨hst.defers, hst.size, fun t s hs => hst.slots t s (h2 t s hs), hst.mem, hst.own, hst.fresh, hst.kp, hst.hid, hst.glob, hst.pin, hst.held⟩
attribute [local irreducible] V.Sat V.DSat
/-- Model n is made, in its first state. -/
def Begins {M : Rc.Mdl} (I : Impl Tryd.prog M) (n : Int) (s : M.σ) : Prop :=
  ∀ w vs, (∀ E T w, Tup E T w [.int .i64 n] vs) → Calls Tryd.prog 22 vs.toArray w fun e w' => ∃ v Sm, e = .returned (.iface I.t v) ∧ I.Own w' s v Sm ∧ Below w.heap.size w w' ∧ ∀ b, Sm b → w.heap.size ≤ b
theorem carry_255 (m : List UInt8) : Rc.carry (m ++ [255]) = Rc.carry m ++ [0] := by
  unfold Rc.carry
  rw [List.reverse_append]
  show (Rc.incR (255 :: m.reverse)).reverse = _
  rw [Rc.incR, if_pos rfl, List.reverse_cons]
theorem carry_else (m : List UInt8) (b : UInt8) (h : b ≠ 255) : Rc.carry (m ++ [b]) = m ++ [b + 1] := by
  unfold Rc.carry
  rw [List.reverse_append]
  show (Rc.incR (b :: m.reverse)).reverse = _
  rw [Rc.incR, if_neg h, List.reverse_cons, List.reverse_reverse]
theorem sum_tab {L : List Nat} {t : Nat} (hT : Rc.Tab L t) (c : UInt8) : Fun Tryd.prog [] 23 [.ro (.ints .u32 (((castL L).drop 0).take ((c.toNat : Nat) : Int).toNat))] (.int .u64 (Rc.bef L c.toNat : Nat)) := by
  have h := sum_spec (((castL L).drop 0).take ((c.toNat : Nat) : Int).toNat) (fun x hx => by
    have hx := List.mem_of_mem_drop (List.mem_of_mem_take hx)
    unfold castL at hx
    obtain ⟨n, hn, rfl⟩ := List.mem_map.1 hx
    obtain ⟨i, hi, rfl⟩ := List.getElem_of_mem hn
    have h1 := tab_le hT i (by rw [← hT.len]; exact hi)
    rw [List.getD_eq_getElem?_getD, List.getElem?_eq_getElem hi] at h1
    have h1 : L[i] ≤ 65536 := h1
    omega) (by rw [List.length_take, List.length_drop, castL_len, hT.len]; omega)
  rw [show sumL (((castL L).drop 0).take ((c.toNat : Nat) : Int).toNat) = (Rc.bef L c.toNat : Nat) by
    rw [List.drop_zero, Int.toNat_natCast, castL_take, castL_sum]
    rfl] at h
  exact h
theorem mid_at (m : List UInt8) (b : UInt8) : 0 + (((m ++ [b]).length : Nat) - 1 : Int).toNat = m.length := by
  rw [List.length_append]
  show 0 + (((m.length + 1 : Nat) : Int) - 1).toNat = _
  omega
theorem mid_get (m r : List UInt8) (b : UInt8) : (m ++ [b] ++ r).getD (0 + (((m ++ [b]).length : Nat) - 1 : Int).toNat) 0 = b := by
  rw [mid_at, List.append_assoc, List.getD_eq_getElem?_getD, List.getElem?_append_right (Nat.le_refl _), Nat.sub_self]
  rfl
theorem mid_set (m r : List UInt8) (b x : UInt8) : (m ++ [b] ++ r).set (0 + (((m ++ [b]).length : Nat) - 1 : Int).toNat) x = m ++ [x] ++ r := by
  rw [mid_at, List.append_assoc, List.set_append_right _ _ (Nat.le_refl _), Nat.sub_self, List.append_assoc]
  rfl
theorem inc_nat : ∀ n : Nat, n < 256 → UInt8.ofNat (IntKind.u8.wrap ((n : Int) + 1)).toNat = UInt8.ofNat n + 1 := by decide +kernel
theorem inc_u8 (b : UInt8) : UInt8.ofNat (IntKind.u8.wrap ((b.toNat : Int) + 1)).toNat = b + 1 := by
  rw [inc_nat _ b.toNat_lt, UInt8.ofNat_toNat]
theorem wrap_ofNat (n : Nat) : UInt8.ofNat (IntKind.u8.wrap (n : Int)).toNat = UInt8.ofNat n := by
  apply UInt8.toNat_inj.1
  rw [UInt8.toNat_ofNat', UInt8.toNat_ofNat']
  simp [IntKind.wrap, IntKind.signed, IntKind.bits]
  omega
theorem enc_spec0 {M : Rc.Mdl} (I : Impl Tryd.prog M) (hty : I.ty = 80) (hg : ∀ s, I.tl s = []) (n : Int) (s0 : M.σ) (hs0 : M.inv s0) (hb : Begins I n s0) (l : List UInt8) (hl : l.length ≤ 65536) :
    Fun Tryd.prog [] 13 [.int .i64 n, .ro (.u8 l)] (.tup [.ro (.u8 (Rc.code M s0 l)), .int .i64 0]) := by
  refine Fun.mkF 7 Tryd.func13 rfl Tryd.ntmps13 rfl rfl fun hf T w0 => ?_
  refine Sat.top rfl rfl rfl fun top => ?_
  repeat' (first
      | ((with_reducible apply Sat.run (X := XU)); exact rfl; (first | exact True.intro | (exact phi) | skip))
      | ((with_reducible apply Sat.drawn); kernel_rfl)
      | ((with_reducible apply DSat.run (X := XU)); exact rfl; (first | exact True.intro | (exact phi) | skip))
      | ((with_reducible apply DSat.fin); kernel_rfl)
      | ((with_reducible apply Sat.cond_t); exact rfl)
      | ((with_reducible apply Sat.cond_f); exact rfl)
      | ((with_reducible apply Sat.cond_pt); exact rfl; (try dsimp only [V.EV.sub, V.EV.len]); first | assumption | omega)
      | ((with_reducible apply Sat.cond_pf); exact rfl; (try dsimp only [V.EV.sub, V.EV.len]); first | assumption | omega)
      | ((with_reducible apply Sat.cond_p); exact rfl; all_goals (intro h; (try simp only [V.EV.sub, V.EV.len] at h)))
      | ((with_reducible apply Sat.cond); exact rfl; all_goals (intro h; (try simp only [V.EV.sub, V.EV.len, Bool.cond_true_left, Bool.cond_false_right, Bool.or_eq_true, Bool.and_eq_true, Bool.or_eq_false_iff, Bool.and_eq_false_iff, Bool.not_eq_true', Bool.not_eq_false', decide_eq_true_eq, decide_eq_false_iff_not, ne_eq] at h))) | fail)
  refine Sat.begins (C := cx Tryd.prog 112 T w0) (I := I) (s := s0) (f := 22) (svs := [.int .i64 n]) top hb rfl rfl (by kernel_rfl) (fun _ => rfl) fun v W S Sm hat => ?_
  repeat' (first
      | ((with_reducible apply Sat.run (X := XU)); exact rfl; (first | exact True.intro | (exact phi) | skip))
      | ((with_reducible apply Sat.drawn); kernel_rfl)
      | ((with_reducible apply DSat.run (X := XU)); exact rfl; (first | exact True.intro | (exact phi) | skip))
      | ((with_reducible apply DSat.fin); kernel_rfl)
      | ((with_reducible apply Sat.cond_t); exact rfl)
      | ((with_reducible apply Sat.cond_f); exact rfl)
      | ((with_reducible apply Sat.cond_pt); exact rfl; (try dsimp only [V.EV.sub, V.EV.len]); first | assumption | omega)
      | ((with_reducible apply Sat.cond_pf); exact rfl; (try dsimp only [V.EV.sub, V.EV.len]); first | assumption | omega)
      | ((with_reducible apply Sat.cond_p); exact rfl; all_goals (intro h; (try simp only [V.EV.sub, V.EV.len] at h)))
      | ((with_reducible apply Sat.cond); exact rfl; all_goals (intro h; (try simp only [V.EV.sub, V.EV.len, Bool.cond_true_left, Bool.cond_false_right, Bool.or_eq_true, Bool.and_eq_true, Bool.or_eq_false_iff, Bool.and_eq_false_iff, Bool.not_eq_true', Bool.not_eq_false', decide_eq_true_eq, decide_eq_false_iff_not, ne_eq] at h))) | fail)
  refine Sat.loopM (C := cx Tryd.prog 112 T w0) (I := I) (M := M) (α := Nat × M.σ × Rc.Enc) (fun x => x.2.1) (fun x => x.1 ≤ l.length ∧ M.inv x.2.1 ∧ Rc.Ok x.2.2 ∧ x.2.2.out.length ≤ 4 * x.1 ∧ Hd (Rc.encS M x.2.1 x.2.2 (l.drop x.1) = Rc.encS M s0 Rc.e0 l)) (fun x => l.length - x.1) (0, s0, Rc.e0)
    (fun x => [(27, .int .i64 (x.1 : Int)), (7, .row 0 0 1 0 x.2.2.out.length), (8, .int .u64 (x.2.2.low : Int)), (9, .int .u64 (x.2.2.size : Int))]) (fun x => [(0, .row 5 (.u8 x.2.2.out))]) [] [(0, none)] 1 (fun x => rfl) (fun x => rfl) rfl rfl ?_ ?_ hat ?_
  · ((repeat' (first | exact AllP.nil | with_reducible refine AllP.cons ?_ ?_)) <;> first | exact rfl | exact trivial | exact Int.natCast_add_one _ | exact ⟨rfl, rfl⟩ | exact ⟨rfl, rfl, rfl⟩ | exact ⟨rfl, rfl, rfl, rfl⟩ | exact ⟨rfl, .inl rfl⟩ | exact ⟨rfl, .inr rfl⟩ | exact pur)
  · exact ⟨Nat.zero_le _, hs0, Rc.e0_ok, Nat.zero_le _, ⟨rfl⟩⟩
  rintro ⟨i, s, e⟩ W S Sm ⟨hi, hs, he, ho, hE⟩ hat
  dsimp only at hi hs he ho hE hat
  have hT := M.tab s hs
  have ht1 := hT.tpos
  have ht2 := hT.big
  have hlow := he.low
  have hlo := he.lo
  have hhi := he.hi
  repeat' (first
      | ((with_reducible apply Sat.run (X := XU)); exact rfl; (first | exact True.intro | (exact phi) | skip))
      | ((with_reducible apply Sat.drawn); kernel_rfl)
      | ((with_reducible apply DSat.run (X := XU)); exact rfl; (first | exact True.intro | (exact phi) | skip))
      | ((with_reducible apply DSat.fin); kernel_rfl)
      | ((with_reducible apply Sat.cond_t); exact rfl)
      | ((with_reducible apply Sat.cond_f); exact rfl)
      | ((with_reducible apply Sat.cond_pt); exact rfl; (try dsimp only [V.EV.sub, V.EV.len]); first | assumption | omega)
      | ((with_reducible apply Sat.cond_pf); exact rfl; (try dsimp only [V.EV.sub, V.EV.len]); first | assumption | omega)
      | ((with_reducible apply Sat.cond_p); exact rfl; all_goals (intro h; (try simp only [V.EV.sub, V.EV.len] at h)))
      | ((with_reducible apply Sat.cond); exact rfl; all_goals (intro h; (try simp only [V.EV.sub, V.EV.len, Bool.cond_true_left, Bool.cond_false_right, Bool.or_eq_true, Bool.and_eq_true, Bool.or_eq_false_iff, Bool.and_eq_false_iff, Bool.not_eq_true', Bool.not_eq_false', decide_eq_true_eq, decide_eq_false_iff_not, ne_eq] at h))) | fail)
  · have hil : i < l.length := by omega
    refine Sat.counts (C := cx Tryd.prog 112 T w0) (I := I) top hs hat rfl rfl rfl (by omega) fun p W S Sm hat => ?_
    rw [hg, hty]
    dsimp only
    generalize hcd : l.getD (i : Int).toNat 0 = c
    have hc := c.toNat_lt
    have hlc : (castL (M.l s)).length = 256 := by rw [castL_len, hT.len]
    have hsum : Fun Tryd.prog [] 23 [.ro (.ints .u32 (((castL (M.l s)).drop 0).take ((c.toNat : Nat) : Int).toNat))] (.int .u64 (Rc.bef (M.l s) c.toNat : Nat)) := sum_tab hT c
    have hle : 0 + (c.toNat - 0) ≤ (castL (M.l s)).length := by omega
    obtain ⟨RB, hRB⟩ : ∃ RB : Nat, RB = e.size / M.t s * Rc.bef (M.l s) c.toNat := ⟨_, rfl⟩
    obtain ⟨RK, hRK⟩ : ∃ RK : Nat, RK = e.size / M.t s * (M.l s).getD c.toNat 0 := ⟨_, rfl⟩
    have hX : Hd ((e.size : Int) / (M.t s : Int) * (Rc.bef (M.l s) c.toNat : Nat) = (RB : Int)) := ⟨by rw [hRB, Int.natCast_mul, Int.natCast_ediv]⟩
    have hY : Hd ((e.size : Int) / (M.t s : Int) * (castL (M.l s)).getD (c.toNat : Int).toNat 0 = (RK : Int)) := ⟨by rw [Int.toNat_natCast, castL_get _ _ (by rw [hT.len]; exact hc), hRK, Int.natCast_mul, Int.natCast_ediv]⟩
    have hpl : RB + RK ≤ e.size := by rw [hRB, hRK]; exact Rc.part_le (hT.part c.toNat hc)
    have hK0 : 0 < RK := by rw [hRK]; exact Nat.mul_pos (Nat.div_pos (by omega) ht1) (hT.pos c.toNat hc)
    have hfit : Rc.num e.out * 4294967296 + e.low + e.size ≤ 256 ^ (e.out.length + 4) := he.fit
    have hcut := Rc.cut_ok (low := e.low + RB) (out := e.out) (size := RK) (by omega) hK0 (by omega)
    have hstep : Hd (Rc.stepE (M.l s) (M.t s) e c.toNat = Rc.norm (Rc.cut (e.low + RB) e.out).1 RK (Rc.cut (e.low + RB) e.out).2) := ⟨by unfold Rc.stepE; rw [← hRB, ← hRK]⟩
    clear hRB hRK
    repeat' (first
        | ((with_reducible apply DSat.callR hsum); exact rfl; exact rfl; exact rfl; kernel_rfl; exact .cons _ _ _ _ (.row _ _ _ _ _ (.ints .u32 (castL (M.l s))) rfl rfl hle trivial) .nil; exact rfl)
        | ((with_reducible apply Sat.run (X := XU)); exact rfl; (first | exact True.intro | (exact phi) | skip))
        | ((with_reducible apply Sat.drawn); kernel_rfl)
        | ((with_reducible apply DSat.run (X := XU)); exact rfl; (first | exact True.intro | (exact phi) | skip))
        | ((with_reducible apply DSat.fin); kernel_rfl) | fail)
    · rw [hX.h, hY.h]
      exact .cons (inR_u64 (by omega) (by omega)) (.cons (by show c.toNat < (castL (M.l s)).length; omega) (.cons ⟨by omega, by omega⟩ (.cons (inR_u64 (by omega) (by omega)) (.cons (inR_u64 (by omega) (by omega)) .nil))))
    rw [hX.h, hY.h]
    clear hX hY hsum
    with_reducible apply Sat.cond_p
    · exact rfl
    · intro h
      have hlt : Rc.num e.out + 1 < 256 ^ e.out.length := by
        rw [Rc.pow4] at hfit
        generalize 256 ^ e.out.length = q at hfit
        omega
      have hcutE : Rc.cut (e.low + RB) e.out = (e.low + RB - 4294967296, Rc.carry e.out) := by unfold Rc.cut; rw [if_pos (by omega)]
      repeat' (first
          | ((with_reducible apply Sat.run (X := XU)); exact rfl; (first | exact True.intro | (exact phi) | skip))
          | ((with_reducible apply Sat.drawn); kernel_rfl)
          | ((with_reducible apply DSat.run (X := XU)); exact rfl; (first | exact True.intro | (exact phi) | skip))
          | ((with_reducible apply DSat.fin); kernel_rfl)
          | ((with_reducible apply Sat.cond_t); exact rfl)
          | ((with_reducible apply Sat.cond_f); exact rfl)
          | ((with_reducible apply Sat.cond_pt); exact rfl; (try dsimp only [V.EV.sub, V.EV.len]); first | assumption | omega)
          | ((with_reducible apply Sat.cond_pf); exact rfl; (try dsimp only [V.EV.sub, V.EV.len]); first | assumption | omega)
          | ((with_reducible apply Sat.cond_p); exact rfl; all_goals (intro h; (try simp only [V.EV.sub, V.EV.len] at h)))
          | ((with_reducible apply Sat.cond); exact rfl; all_goals (intro h; (try simp only [V.EV.sub, V.EV.len, Bool.cond_true_left, Bool.cond_false_right, Bool.or_eq_true, Bool.and_eq_true, Bool.or_eq_false_iff, Bool.and_eq_false_iff, Bool.not_eq_true', Bool.not_eq_false', decide_eq_true_eq, decide_eq_false_iff_not, ne_eq] at h))) | fail)
      apply Sat.loop (α := List UInt8 × Nat) (fun x => x.1.length + x.2 = e.out.length ∧ Hd (Rc.carry e.out = Rc.carry x.1 ++ List.replicate x.2 0) ∧ Hd (Rc.num x.1 + 1 < 256 ^ x.1.length)) (fun x => x.1.length) (e.out, 0) (fun x => [(15, .int .i64 ((x.1.length : Int) - 1))]) (fun x => [(0, .row 5 (.u8 (x.1 ++ List.replicate x.2 0)))]) [] [] 0
      · intro x; exact rfl
      · intro x; exact rfl
      · exact rfl
      · exact rfl
      · ((repeat' (first | exact AllP.nil | with_reducible refine AllP.cons ?_ ?_)) <;> first | exact rfl | exact trivial | exact Int.natCast_add_one _ | exact ⟨rfl, rfl⟩ | exact ⟨rfl, rfl, rfl⟩ | exact ⟨rfl, rfl, rfl, rfl⟩ | exact ⟨rfl, .inl rfl⟩ | exact ⟨rfl, .inr rfl⟩ | exact pur | (show EV.u8 _ = EV.u8 (_ ++ []); rw [List.append_nil]))
      · exact ⟨rfl, ⟨(List.append_nil _).symm⟩, ⟨hlt⟩⟩
      rintro ⟨m, k⟩ ⟨x1, x2, x3⟩
      dsimp only at x1 x2 x3 ⊢
      rcases Rc.snoc_cases m with rfl | ⟨m, b, rfl⟩
      · exact absurd x3.h (by decide)
      repeat' (first
          | ((with_reducible apply Sat.run (X := XU)); exact rfl; (first | exact True.intro | (exact phi) | skip))
          | ((with_reducible apply Sat.drawn); kernel_rfl)
          | ((with_reducible apply DSat.run (X := XU)); exact rfl; (first | exact True.intro | (exact phi) | skip))
          | ((with_reducible apply DSat.fin); kernel_rfl)
          | ((with_reducible apply Sat.cond_t); exact rfl)
          | ((with_reducible apply Sat.cond_f); exact rfl)
          | ((with_reducible apply Sat.cond_pt); exact rfl; (try dsimp only [V.EV.sub, V.EV.len]); first | assumption | omega)
          | ((with_reducible apply Sat.cond_pf); exact rfl; (try dsimp only [V.EV.sub, V.EV.len]); first | assumption | omega)
          | ((with_reducible apply Sat.cond_p); exact rfl; all_goals (intro h; (try simp only [V.EV.sub, V.EV.len] at h)))
          | ((with_reducible apply Sat.cond); exact rfl; all_goals (intro h; (try simp only [V.EV.sub, V.EV.len, Bool.cond_true_left, Bool.cond_false_right, Bool.or_eq_true, Bool.and_eq_true, Bool.or_eq_false_iff, Bool.and_eq_false_iff, Bool.not_eq_true', Bool.not_eq_false', decide_eq_true_eq, decide_eq_false_iff_not, ne_eq] at h))) | fail)
      · rw [mid_get] at h
        have hb255 : b = 255 := UInt8.toNat_inj.1 (by show b.toNat = 255; omega)
        subst hb255
        rw [mid_set]
        refine Sat.back (m, k + 1) [] rfl ?_ ⟨?_, ⟨?_⟩, ⟨?_⟩⟩ ?_
        · ((repeat' (first | exact AllP.nil | with_reducible refine AllP.cons ?_ ?_)) <;> first | exact rfl | exact trivial | exact Int.natCast_add_one _ | exact ⟨rfl, rfl⟩ | exact ⟨rfl, rfl, rfl⟩ | exact ⟨rfl, rfl, rfl, rfl⟩ | exact ⟨rfl, .inl rfl⟩ | exact ⟨rfl, .inr rfl⟩ | exact pur | (show EV.u8 (m ++ [0] ++ List.replicate k 0) = EV.u8 (m ++ List.replicate (k + 1) 0); rw [List.replicate_succ, List.append_assoc]; rfl) | (show ((((m ++ [255]).length : Nat) : Int) - 1 - 1 = (m.length : Int) - 1); rw [List.length_append]; show ((m.length + 1 : Nat) : Int) - 1 - 1 = _; omega))
        · rw [← x1, List.length_append]
          show m.length + (k + 1) = m.length + 1 + k
          omega
        · rw [x2.h, carry_255, List.append_assoc, List.replicate_succ]
          rfl
        · have q := x3.h
          rw [Rc.num_snoc, List.length_append, show m.length + [(255 : UInt8)].length = m.length + 1 from rfl, Nat.pow_succ] at q
          have : (255 : UInt8).toNat = 255 := rfl
          dsimp only
          omega
        · show m.length < (m ++ [255]).length
          rw [List.length_append]
          show m.length < m.length + 1
          omega
      · rw [mid_get] at h
        have hb255 : b ≠ 255 := fun e => by subst e; exact h rfl
        rw [mid_set, mid_get, inc_u8, ← carry_else m b hb255, ← x2.h]
        rw [show ((e.low : Int) + RB - 4294967296) = ((e.low + RB - 4294967296 : Nat) : Int) by omega]
        rw [hcutE] at hcut hstep
        clear hcutE x1 x2 x3 h
        dsimp only at hcut hstep
        generalize e.low + RB - 4294967296 = lo at *
        generalize Rc.carry e.out = o' at *
        have hol : o'.length ≤ 4 * i := by omega
        refine Sat.kill [60, 63, 65, 70, 72, 73, 75, 78] rfl ?_
        apply Sat.loop (α := Nat × Rc.Enc) (fun x => Hd (Rc.norm x.2.low x.2.size x.2.out = Rc.norm lo RK o') ∧ 0 < x.2.size ∧ x.2.size < 4294967296 ∧ x.2.low < 4294967296 ∧ x.2.out.length = o'.length + x.1 ∧ x.1 ≤ 4 ∧ 256 ^ x.1 ≤ x.2.size) (fun x => 16777216 - x.2.size) (0, ⟨lo, RK, o'⟩) (fun x => [(7, .row 0 0 1 0 x.2.out.length), (8, .int .u64 (x.2.low : Int)), (9, .int .u64 (x.2.size : Int))]) (fun x => [(0, .row 5 (.u8 x.2.out))]) [] [] 0
        · intro x; exact rfl
        · intro x; exact rfl
        · exact rfl
        · exact rfl
        · ((repeat' (first | exact AllP.nil | with_reducible refine AllP.cons ?_ ?_)) <;> first | exact rfl | exact trivial | exact Int.natCast_add_one _ | exact ⟨rfl, rfl⟩ | exact ⟨rfl, rfl, rfl⟩ | exact ⟨rfl, rfl, rfl, rfl⟩ | exact ⟨rfl, .inl rfl⟩ | exact ⟨rfl, .inr rfl⟩ | exact pur | exact ⟨rfl, rfl, rfl, hcut.2.1.symm⟩)
        · dsimp only; exact ⟨⟨rfl⟩, hK0, by omega, by omega, rfl, by omega, by rw [Nat.pow_zero]; exact hK0⟩
        rintro ⟨j, lo1, sz1, o1⟩ ⟨z1, z2, z3, z4, z5, z6, z7⟩
        dsimp only at z1 z2 z3 z4 z5 z6 z7 ⊢
        repeat' (first
            | ((with_reducible apply Sat.run (X := XU)); exact rfl; (first | exact True.intro | (exact phi) | skip))
            | ((with_reducible apply Sat.drawn); kernel_rfl)
            | ((with_reducible apply DSat.run (X := XU)); exact rfl; (first | exact True.intro | (exact phi) | skip))
            | ((with_reducible apply DSat.fin); kernel_rfl) | fail)
        with_reducible apply Sat.cond_p
        · exact rfl
        · intro h
          have hw : UInt8.ofNat (IntKind.u8.wrap ((lo1 : Int) / 16777216)).toNat = UInt8.ofNat (lo1 / 16777216) := by
            rw [show ((lo1 : Int) / 16777216) = ((lo1 / 16777216 : Nat) : Int) by omega, wrap_ofNat]
          have hj : j < 3 := by
            rcases Nat.lt_or_ge j 3 with q | q
            · exact q
            · have : 256 ^ 3 ≤ 256 ^ j := Nat.pow_le_pow_right (by decide) q
              omega
          repeat' (first
              | ((with_reducible apply Sat.run (X := XU)); exact rfl; (first | exact True.intro | (fail) | skip))
              | ((with_reducible apply Sat.drawn); kernel_rfl)
              | ((with_reducible apply DSat.run (X := XU)); exact rfl; (first | exact True.intro | (fail) | skip))
              | ((with_reducible apply DSat.fin); kernel_rfl) | fail)
          · exact .cons (inR_u64 (by omega) (by omega)) (.cons (inR_u64 (by omega) (by omega)) (.cons ⟨by omega, by omega⟩ (.cons (Nat.le_refl 1) (.cons rfl (.cons (by show (o1.length + 1) * (0 + 1) ≤ 140737488355328; omega) (.cons ⟨by omega, by omega⟩ .nil))))))
          · rw [hw]
            refine Sat.back (j + 1, ⟨lo1 % 16777216 * 256, sz1 * 256, o1 ++ [UInt8.ofNat (lo1 / 16777216)]⟩) [(0, some 3)] rfl ?_ ?_ ?_
            · ((repeat' (first | exact AllP.nil | with_reducible refine AllP.cons ?_ ?_)) <;> first | exact rfl | exact trivial | exact Int.natCast_add_one _ | exact ⟨rfl, rfl⟩ | exact ⟨rfl, rfl, rfl⟩ | exact ⟨rfl, rfl, rfl, rfl⟩ | exact ⟨rfl, .inl rfl⟩ | exact ⟨rfl, .inr rfl⟩ | exact pur | exact ⟨rfl, rfl, rfl, (by rw [List.length_append]; rfl)⟩ | (dsimp only; omega))
            · dsimp only
              refine ⟨⟨?_⟩, by omega, by omega, by omega, ?_, by omega, ?_⟩
              · rw [← z1.h, Rc.norm_more (low := lo1) ⟨z2, by omega⟩]
              · rw [List.length_append, z5]; rfl
              · rw [Nat.pow_succ]; omega
            · dsimp only; omega
        · intro h
          have hend : Rc.stepE (M.l s) (M.t s) e c.toNat = ⟨lo1, sz1, o1⟩ := by
            rw [hstep.h, ← z1.h]
            exact Rc.norm_end (by omega)
          repeat' (first
              | ((with_reducible apply Sat.run (X := XU)); exact rfl; (first | exact True.intro | (fail) | skip))
              | ((with_reducible apply Sat.drawn); kernel_rfl)
              | ((with_reducible apply DSat.run (X := XU)); exact rfl; (first | exact True.intro | (fail) | skip))
              | ((with_reducible apply DSat.fin); kernel_rfl) | fail)
          refine Sat.saws (C := cx Tryd.prog 112 T w0) (I := I) (M := M) (s := s) (c := c) (id := 1) top hs hat rfl rfl (by rw [hg, hty]; rfl) rfl fun W S Sm hat => ?_
          repeat' (first
              | ((with_reducible apply Sat.run (X := XU)); exact rfl; (first | exact True.intro | (fail) | skip))
              | ((with_reducible apply Sat.drawn); kernel_rfl)
              | ((with_reducible apply DSat.run (X := XU)); exact rfl; (first | exact True.intro | (fail) | skip))
              | ((with_reducible apply DSat.fin); kernel_rfl) | fail)
          · exact .cons (inR_i64 (by omega) (by omega)) .nil
          refine Sat.backM (C := cx Tryd.prog 112 T w0) (I := I) ((i + 1, M.saw s c, (⟨lo1, sz1, o1⟩ : Rc.Enc)) : Nat × M.σ × Rc.Enc) [] rfl ?_ hat ?_ ?_
          · ((repeat' (first | exact AllP.nil | with_reducible refine AllP.cons ?_ ?_)) <;> first | exact rfl | exact trivial | exact Int.natCast_add_one _ | exact ⟨rfl, rfl⟩ | exact ⟨rfl, rfl, rfl⟩ | exact ⟨rfl, rfl, rfl, rfl⟩ | exact ⟨rfl, .inl rfl⟩ | exact ⟨rfl, .inr rfl⟩ | exact pur)
          · dsimp only
            have hok := (Rc.step_ok hT he c.toNat hc).1
            rw [hend] at hok
            refine ⟨by omega, M.keep s c hs, hok, by omega, ⟨?_⟩⟩
            rw [← hE.h, ← hend, List.drop_eq_getElem_cons hil, show l[i] = c by rw [← hcd, Int.toNat_natCast, List.getD_eq_getElem?_getD, List.getElem?_eq_getElem hil]; rfl]
            rfl
          · dsimp only; omega
    · intro h
      have hcutE : Rc.cut (e.low + RB) e.out = (e.low + RB, e.out) := by unfold Rc.cut; rw [if_neg (by omega)]
      rw [hcutE] at hcut hstep
      dsimp only at hcut hstep
      have ho' : e.out.length ≤ 4 * i := ho
      rw [show ((e.low : Int) + RB) = ((e.low + RB : Nat) : Int) by omega]
      obtain ⟨lo, hlo⟩ : ∃ lo, lo = e.low + RB := ⟨_, rfl⟩
      obtain ⟨o', ho2⟩ : ∃ o', o' = e.out := ⟨_, rfl⟩
      have hol : o'.length ≤ 4 * i := by rw [ho2]; exact ho
      rw [← hlo, ← ho2] at hcut hstep
      rw [← hlo]
      repeat' (first
          | ((with_reducible apply Sat.run (X := XU)); exact rfl; (first | exact True.intro | (exact phi) | skip))
          | ((with_reducible apply Sat.drawn); kernel_rfl)
          | ((with_reducible apply DSat.run (X := XU)); exact rfl; (first | exact True.intro | (exact phi) | skip))
          | ((with_reducible apply DSat.fin); kernel_rfl)
          | ((with_reducible apply Sat.cond_t); exact rfl)
          | ((with_reducible apply Sat.cond_f); exact rfl)
          | ((with_reducible apply Sat.cond_pt); exact rfl; (try dsimp only [V.EV.sub, V.EV.len]); first | assumption | omega)
          | ((with_reducible apply Sat.cond_pf); exact rfl; (try dsimp only [V.EV.sub, V.EV.len]); first | assumption | omega)
          | ((with_reducible apply Sat.cond_p); exact rfl; all_goals (intro h; (try simp only [V.EV.sub, V.EV.len] at h)))
          | ((with_reducible apply Sat.cond); exact rfl; all_goals (intro h; (try simp only [V.EV.sub, V.EV.len, Bool.cond_true_left, Bool.cond_false_right, Bool.or_eq_true, Bool.and_eq_true, Bool.or_eq_false_iff, Bool.and_eq_false_iff, Bool.not_eq_true', Bool.not_eq_false', decide_eq_true_eq, decide_eq_false_iff_not, ne_eq] at h))) | fail)
      apply Sat.loop (α := Nat × Rc.Enc) (fun x => Hd (Rc.norm x.2.low x.2.size x.2.out = Rc.norm lo RK o') ∧ 0 < x.2.size ∧ x.2.size < 4294967296 ∧ x.2.low < 4294967296 ∧ x.2.out.length = o'.length + x.1 ∧ x.1 ≤ 4 ∧ 256 ^ x.1 ≤ x.2.size) (fun x => 16777216 - x.2.size) (0, ⟨lo, RK, o'⟩) (fun x => [(7, .row 0 0 1 0 x.2.out.length), (8, .int .u64 (x.2.low : Int)), (9, .int .u64 (x.2.size : Int))]) (fun x => [(0, .row 5 (.u8 x.2.out))]) [] [] 0
      · intro x; exact rfl
      · intro x; exact rfl
      · exact rfl
      · exact rfl
      · ((repeat' (first | exact AllP.nil | with_reducible refine AllP.cons ?_ ?_)) <;> first | exact rfl | exact trivial | exact Int.natCast_add_one _ | exact ⟨rfl, rfl⟩ | exact ⟨rfl, rfl, rfl⟩ | exact ⟨rfl, rfl, rfl, rfl⟩ | exact ⟨rfl, .inl rfl⟩ | exact ⟨rfl, .inr rfl⟩ | exact pur | exact ⟨rfl, rfl, rfl, hcut.2.1.symm⟩ | exact ⟨rfl, rfl, rfl, congrArg List.length ho2.symm⟩ | (show EV.u8 _ = EV.u8 _; rw [ho2]))
      · dsimp only; exact ⟨⟨rfl⟩, hK0, by omega, by omega, rfl, by omega, by rw [Nat.pow_zero]; exact hK0⟩
      rintro ⟨j, lo1, sz1, o1⟩ ⟨z1, z2, z3, z4, z5, z6, z7⟩
      dsimp only at z1 z2 z3 z4 z5 z6 z7 ⊢
      repeat' (first
          | ((with_reducible apply Sat.run (X := XU)); exact rfl; (first | exact True.intro | (exact phi) | skip))
          | ((with_reducible apply Sat.drawn); kernel_rfl)
          | ((with_reducible apply DSat.run (X := XU)); exact rfl; (first | exact True.intro | (exact phi) | skip))
          | ((with_reducible apply DSat.fin); kernel_rfl) | fail)
      with_reducible apply Sat.cond_p
      · exact rfl
      · intro h
        have hw : UInt8.ofNat (IntKind.u8.wrap ((lo1 : Int) / 16777216)).toNat = UInt8.ofNat (lo1 / 16777216) := by
          rw [show ((lo1 : Int) / 16777216) = ((lo1 / 16777216 : Nat) : Int) by omega, wrap_ofNat]
        have hj : j < 3 := by
          rcases Nat.lt_or_ge j 3 with q | q
          · exact q
          · have : 256 ^ 3 ≤ 256 ^ j := Nat.pow_le_pow_right (by decide) q
            omega
        repeat' (first
            | ((with_reducible apply Sat.run (X := XU)); exact rfl; (first | exact True.intro | (fail) | skip))
            | ((with_reducible apply Sat.drawn); kernel_rfl)
            | ((with_reducible apply DSat.run (X := XU)); exact rfl; (first | exact True.intro | (fail) | skip))
            | ((with_reducible apply DSat.fin); kernel_rfl) | fail)
        · exact .cons (inR_u64 (by omega) (by omega)) (.cons (inR_u64 (by omega) (by omega)) (.cons ⟨by omega, by omega⟩ (.cons (Nat.le_refl 1) (.cons rfl (.cons (by show (o1.length + 1) * (0 + 1) ≤ 140737488355328; omega) (.cons ⟨by omega, by omega⟩ .nil))))))
        · rw [hw]
          refine Sat.back (j + 1, ⟨lo1 % 16777216 * 256, sz1 * 256, o1 ++ [UInt8.ofNat (lo1 / 16777216)]⟩) [(0, some 3)] rfl ?_ ?_ ?_
          · ((repeat' (first | exact AllP.nil | with_reducible refine AllP.cons ?_ ?_)) <;> first | exact rfl | exact trivial | exact Int.natCast_add_one _ | exact ⟨rfl, rfl⟩ | exact ⟨rfl, rfl, rfl⟩ | exact ⟨rfl, rfl, rfl, rfl⟩ | exact ⟨rfl, .inl rfl⟩ | exact ⟨rfl, .inr rfl⟩ | exact pur | exact ⟨rfl, rfl, rfl, (by rw [List.length_append]; rfl)⟩ | (dsimp only; omega))
          · dsimp only
            refine ⟨⟨?_⟩, by omega, by omega, by omega, ?_, by omega, ?_⟩
            · rw [← z1.h, Rc.norm_more (low := lo1) ⟨z2, by omega⟩]
            · rw [List.length_append, z5]; rfl
            · rw [Nat.pow_succ]; omega
          · dsimp only; omega
      · intro h
        have hend : Rc.stepE (M.l s) (M.t s) e c.toNat = ⟨lo1, sz1, o1⟩ := by
          rw [hstep.h, ← z1.h]
          exact Rc.norm_end (by omega)
        repeat' (first
            | ((with_reducible apply Sat.run (X := XU)); exact rfl; (first | exact True.intro | (fail) | skip))
            | ((with_reducible apply Sat.drawn); kernel_rfl)
            | ((with_reducible apply DSat.run (X := XU)); exact rfl; (first | exact True.intro | (fail) | skip))
            | ((with_reducible apply DSat.fin); kernel_rfl) | fail)
        refine Sat.saws (C := cx Tryd.prog 112 T w0) (I := I) (M := M) (s := s) (c := c) (id := 1) top hs hat rfl rfl (by rw [hg, hty]; rfl) rfl fun W S Sm hat => ?_
        repeat' (first
            | ((with_reducible apply Sat.run (X := XU)); exact rfl; (first | exact True.intro | (fail) | skip))
            | ((with_reducible apply Sat.drawn); kernel_rfl)
            | ((with_reducible apply DSat.run (X := XU)); exact rfl; (first | exact True.intro | (fail) | skip))
            | ((with_reducible apply DSat.fin); kernel_rfl) | fail)
        · exact .cons (inR_i64 (by omega) (by omega)) .nil
        refine Sat.backM (C := cx Tryd.prog 112 T w0) (I := I) ((i + 1, M.saw s c, (⟨lo1, sz1, o1⟩ : Rc.Enc)) : Nat × M.σ × Rc.Enc) [] rfl ?_ hat ?_ ?_
        · ((repeat' (first | exact AllP.nil | with_reducible refine AllP.cons ?_ ?_)) <;> first | exact rfl | exact trivial | exact Int.natCast_add_one _ | exact ⟨rfl, rfl⟩ | exact ⟨rfl, rfl, rfl⟩ | exact ⟨rfl, rfl, rfl, rfl⟩ | exact ⟨rfl, .inl rfl⟩ | exact ⟨rfl, .inr rfl⟩ | exact pur)
        · dsimp only
          have hok := (Rc.step_ok hT he c.toNat hc).1
          rw [hend] at hok
          refine ⟨by omega, M.keep s c hs, hok, by omega, ⟨?_⟩⟩
          rw [← hE.h, ← hend, List.drop_eq_getElem_cons hil, show l[i] = c by rw [← hcd, Int.toNat_natCast, List.getD_eq_getElem?_getD, List.getElem?_eq_getElem hil]; rfl]
          rfl
        · dsimp only; omega
  · have hil : i = l.length := by omega
    refine Sat.up top hat.over ?_
    dsimp only
    have hfull : e.out ++ List.take 4 (List.drop 0 [UInt8.ofNat (IntKind.u8.wrap ((e.low : Int) / 2 ^ Int.toNat 24)).toNat, UInt8.ofNat (IntKind.u8.wrap ((e.low : Int) / 2 ^ Int.toNat 16)).toNat, UInt8.ofNat (IntKind.u8.wrap ((e.low : Int) / 2 ^ Int.toNat 8)).toNat, UInt8.ofNat (IntKind.u8.wrap (e.low : Int)).toNat]) = Rc.full e := by
      rw [show ((e.low : Int) / 2 ^ Int.toNat 24) = ((e.low / 16777216 : Nat) : Int) from rfl, show ((e.low : Int) / 2 ^ Int.toNat 16) = ((e.low / 65536 : Nat) : Int) from rfl, show ((e.low : Int) / 2 ^ Int.toNat 8) = ((e.low / 256 : Nat) : Int) from rfl, wrap_ofNat, wrap_ofNat, wrap_ofNat, wrap_ofNat]
      rfl
    have hcode : Rc.trim (Rc.full e) = Rc.code M s0 l := by
      have := hE.h
      rw [hil, List.drop_length] at this
      show Rc.trim (Rc.full e) = Rc.trim (Rc.full (Rc.encS M s0 Rc.e0 l))
      rw [← this]
      rfl
    repeat' (first
        | ((with_reducible apply Sat.run (X := XU)); exact rfl; (first | exact True.intro | (fail) | skip))
        | ((with_reducible apply Sat.drawn); kernel_rfl)
        | ((with_reducible apply DSat.run (X := XU)); exact rfl; (first | exact True.intro | (fail) | skip))
        | ((with_reducible apply DSat.fin); kernel_rfl) | fail)
    rw [hfull]
    refine killR [96] rfl ?_
    with_reducible apply Sat.freeze true
    · exact rfl
    · exact rfl
    · exact rfl
    · have hfl : e.out.length + ((EV.u8 [UInt8.ofNat (IntKind.u8.wrap ((e.low : Int) / 2 ^ Int.toNat 24)).toNat, UInt8.ofNat (IntKind.u8.wrap ((e.low : Int) / 2 ^ Int.toNat 16)).toNat, UInt8.ofNat (IntKind.u8.wrap ((e.low : Int) / 2 ^ Int.toNat 8)).toNat, UInt8.ofNat (IntKind.u8.wrap (e.low : Int)).toNat]).sub 0 4).len = (EV.u8 (Rc.full e)).len := by
        show e.out.length + 4 = (Rc.full e).length
        rw [Rc.full_len]
      ((repeat' (first | exact AllP.nil | with_reducible refine AllP.cons ?_ ?_)) <;> first | exact rfl | exact trivial | exact Int.natCast_add_one _ | exact ⟨rfl, rfl⟩ | exact ⟨rfl, rfl, rfl⟩ | exact ⟨rfl, rfl, rfl, rfl⟩ | exact ⟨rfl, .inl rfl⟩ | exact ⟨rfl, .inr rfl⟩ | exact pur | exact .inl ⟨rfl, hfl, rfl⟩)
    repeat' (first
        | ((with_reducible apply Sat.run (X := XU)); exact rfl; (first | exact True.intro | (fail) | skip))
        | ((with_reducible apply Sat.drawn); kernel_rfl)
        | ((with_reducible apply DSat.run (X := XU)); exact rfl; (first | exact True.intro | (fail) | skip))
        | ((with_reducible apply DSat.fin); kernel_rfl)
        | ((with_reducible apply Sat.call ((trim_spec _))); exact rfl; exact rfl; kernel_rfl; (exact cnv); exact rfl)
        | ((with_reducible apply DSat.call ((trim_spec _))); exact rfl; exact rfl; kernel_rfl; (exact cnv); exact rfl) | fail)
    (refine Sat.fin (Sat.end2 rfl rfl rfl rfl True.intro True.intro (.refl _ pur) (.refl _ pur) (by first | exact .inl rfl | exact .inr rfl) (fun _ h => h)) ?_; (rw [hcode]))
theorem enc_spec1 {M : Rc.Mdl} (I : Impl Tryd.prog M) (hty : I.ty = 83) (g : M.σ → Int) (hg : ∀ s, I.tl s = [.int .u64 (g s)]) (n : Int) (s0 : M.σ) (hs0 : M.inv s0) (hb : Begins I n s0) (l : List UInt8) (hl : l.length ≤ 65536) :
    Fun Tryd.prog [] 13 [.int .i64 n, .ro (.u8 l)] (.tup [.ro (.u8 (Rc.code M s0 l)), .int .i64 0]) := by
  refine Fun.mkF 7 Tryd.func13 rfl Tryd.ntmps13 rfl rfl fun hf T w0 => ?_
  refine Sat.top rfl rfl rfl fun top => ?_
  repeat' (first
      | ((with_reducible apply Sat.run (X := XU)); exact rfl; (first | exact True.intro | (exact phi) | skip))
      | ((with_reducible apply Sat.drawn); kernel_rfl)
      | ((with_reducible apply DSat.run (X := XU)); exact rfl; (first | exact True.intro | (exact phi) | skip))
      | ((with_reducible apply DSat.fin); kernel_rfl)
      | ((with_reducible apply Sat.cond_t); exact rfl)
      | ((with_reducible apply Sat.cond_f); exact rfl)
      | ((with_reducible apply Sat.cond_pt); exact rfl; (try dsimp only [V.EV.sub, V.EV.len]); first | assumption | omega)
      | ((with_reducible apply Sat.cond_pf); exact rfl; (try dsimp only [V.EV.sub, V.EV.len]); first | assumption | omega)
      | ((with_reducible apply Sat.cond_p); exact rfl; all_goals (intro h; (try simp only [V.EV.sub, V.EV.len] at h)))
      | ((with_reducible apply Sat.cond); exact rfl; all_goals (intro h; (try simp only [V.EV.sub, V.EV.len, Bool.cond_true_left, Bool.cond_false_right, Bool.or_eq_true, Bool.and_eq_true, Bool.or_eq_false_iff, Bool.and_eq_false_iff, Bool.not_eq_true', Bool.not_eq_false', decide_eq_true_eq, decide_eq_false_iff_not, ne_eq] at h))) | fail)
  refine Sat.begins (C := cx Tryd.prog 112 T w0) (I := I) (s := s0) (f := 22) (svs := [.int .i64 n]) top hb rfl rfl (by kernel_rfl) (fun _ => rfl) fun v W S Sm hat => ?_
  repeat' (first
      | ((with_reducible apply Sat.run (X := XU)); exact rfl; (first | exact True.intro | (exact phi) | skip))
      | ((with_reducible apply Sat.drawn); kernel_rfl)
      | ((with_reducible apply DSat.run (X := XU)); exact rfl; (first | exact True.intro | (exact phi) | skip))
      | ((with_reducible apply DSat.fin); kernel_rfl)
      | ((with_reducible apply Sat.cond_t); exact rfl)
      | ((with_reducible apply Sat.cond_f); exact rfl)
      | ((with_reducible apply Sat.cond_pt); exact rfl; (try dsimp only [V.EV.sub, V.EV.len]); first | assumption | omega)
      | ((with_reducible apply Sat.cond_pf); exact rfl; (try dsimp only [V.EV.sub, V.EV.len]); first | assumption | omega)
      | ((with_reducible apply Sat.cond_p); exact rfl; all_goals (intro h; (try simp only [V.EV.sub, V.EV.len] at h)))
      | ((with_reducible apply Sat.cond); exact rfl; all_goals (intro h; (try simp only [V.EV.sub, V.EV.len, Bool.cond_true_left, Bool.cond_false_right, Bool.or_eq_true, Bool.and_eq_true, Bool.or_eq_false_iff, Bool.and_eq_false_iff, Bool.not_eq_true', Bool.not_eq_false', decide_eq_true_eq, decide_eq_false_iff_not, ne_eq] at h))) | fail)
  refine Sat.loopM (C := cx Tryd.prog 112 T w0) (I := I) (M := M) (α := Nat × M.σ × Rc.Enc) (fun x => x.2.1) (fun x => x.1 ≤ l.length ∧ M.inv x.2.1 ∧ Rc.Ok x.2.2 ∧ x.2.2.out.length ≤ 4 * x.1 ∧ Hd (Rc.encS M x.2.1 x.2.2 (l.drop x.1) = Rc.encS M s0 Rc.e0 l)) (fun x => l.length - x.1) (0, s0, Rc.e0)
    (fun x => [(27, .int .i64 (x.1 : Int)), (7, .row 0 0 1 0 x.2.2.out.length), (8, .int .u64 (x.2.2.low : Int)), (9, .int .u64 (x.2.2.size : Int))]) (fun x => [(0, .row 5 (.u8 x.2.2.out))]) [] [(0, none)] 1 (fun x => rfl) (fun x => rfl) rfl rfl ?_ ?_ hat ?_
  · ((repeat' (first | exact AllP.nil | with_reducible refine AllP.cons ?_ ?_)) <;> first | exact rfl | exact trivial | exact Int.natCast_add_one _ | exact ⟨rfl, rfl⟩ | exact ⟨rfl, rfl, rfl⟩ | exact ⟨rfl, rfl, rfl, rfl⟩ | exact ⟨rfl, .inl rfl⟩ | exact ⟨rfl, .inr rfl⟩ | exact pur)
  · exact ⟨Nat.zero_le _, hs0, Rc.e0_ok, Nat.zero_le _, ⟨rfl⟩⟩
  rintro ⟨i, s, e⟩ W S Sm ⟨hi, hs, he, ho, hE⟩ hat
  dsimp only at hi hs he ho hE hat
  have hT := M.tab s hs
  have ht1 := hT.tpos
  have ht2 := hT.big
  have hlow := he.low
  have hlo := he.lo
  have hhi := he.hi
  repeat' (first
      | ((with_reducible apply Sat.run (X := XU)); exact rfl; (first | exact True.intro | (exact phi) | skip))
      | ((with_reducible apply Sat.drawn); kernel_rfl)
      | ((with_reducible apply DSat.run (X := XU)); exact rfl; (first | exact True.intro | (exact phi) | skip))
      | ((with_reducible apply DSat.fin); kernel_rfl)
      | ((with_reducible apply Sat.cond_t); exact rfl)
      | ((with_reducible apply Sat.cond_f); exact rfl)
      | ((with_reducible apply Sat.cond_pt); exact rfl; (try dsimp only [V.EV.sub, V.EV.len]); first | assumption | omega)
      | ((with_reducible apply Sat.cond_pf); exact rfl; (try dsimp only [V.EV.sub, V.EV.len]); first | assumption | omega)
      | ((with_reducible apply Sat.cond_p); exact rfl; all_goals (intro h; (try simp only [V.EV.sub, V.EV.len] at h)))
      | ((with_reducible apply Sat.cond); exact rfl; all_goals (intro h; (try simp only [V.EV.sub, V.EV.len, Bool.cond_true_left, Bool.cond_false_right, Bool.or_eq_true, Bool.and_eq_true, Bool.or_eq_false_iff, Bool.and_eq_false_iff, Bool.not_eq_true', Bool.not_eq_false', decide_eq_true_eq, decide_eq_false_iff_not, ne_eq] at h))) | fail)
  · have hil : i < l.length := by omega
    refine Sat.counts (C := cx Tryd.prog 112 T w0) (I := I) top hs hat rfl rfl rfl (by omega) fun p W S Sm hat => ?_
    rw [hg, hty]
    dsimp only
    generalize hcd : l.getD (i : Int).toNat 0 = c
    have hc := c.toNat_lt
    have hlc : (castL (M.l s)).length = 256 := by rw [castL_len, hT.len]
    have hsum : Fun Tryd.prog [] 23 [.ro (.ints .u32 (((castL (M.l s)).drop 0).take ((c.toNat : Nat) : Int).toNat))] (.int .u64 (Rc.bef (M.l s) c.toNat : Nat)) := sum_tab hT c
    have hle : 0 + (c.toNat - 0) ≤ (castL (M.l s)).length := by omega
    obtain ⟨RB, hRB⟩ : ∃ RB : Nat, RB = e.size / M.t s * Rc.bef (M.l s) c.toNat := ⟨_, rfl⟩
    obtain ⟨RK, hRK⟩ : ∃ RK : Nat, RK = e.size / M.t s * (M.l s).getD c.toNat 0 := ⟨_, rfl⟩
    have hX : Hd ((e.size : Int) / (M.t s : Int) * (Rc.bef (M.l s) c.toNat : Nat) = (RB : Int)) := ⟨by rw [hRB, Int.natCast_mul, Int.natCast_ediv]⟩
    have hY : Hd ((e.size : Int) / (M.t s : Int) * (castL (M.l s)).getD (c.toNat : Int).toNat 0 = (RK : Int)) := ⟨by rw [Int.toNat_natCast, castL_get _ _ (by rw [hT.len]; exact hc), hRK, Int.natCast_mul, Int.natCast_ediv]⟩
    have hpl : RB + RK ≤ e.size := by rw [hRB, hRK]; exact Rc.part_le (hT.part c.toNat hc)
    have hK0 : 0 < RK := by rw [hRK]; exact Nat.mul_pos (Nat.div_pos (by omega) ht1) (hT.pos c.toNat hc)
    have hfit : Rc.num e.out * 4294967296 + e.low + e.size ≤ 256 ^ (e.out.length + 4) := he.fit
    have hcut := Rc.cut_ok (low := e.low + RB) (out := e.out) (size := RK) (by omega) hK0 (by omega)
    have hstep : Hd (Rc.stepE (M.l s) (M.t s) e c.toNat = Rc.norm (Rc.cut (e.low + RB) e.out).1 RK (Rc.cut (e.low + RB) e.out).2) := ⟨by unfold Rc.stepE; rw [← hRB, ← hRK]⟩
    clear hRB hRK
    repeat' (first
        | ((with_reducible apply DSat.callR hsum); exact rfl; exact rfl; exact rfl; kernel_rfl; exact .cons _ _ _ _ (.row _ _ _ _ _ (.ints .u32 (castL (M.l s))) rfl rfl hle trivial) .nil; exact rfl)
        | ((with_reducible apply Sat.run (X := XU)); exact rfl; (first | exact True.intro | (exact phi) | skip))
        | ((with_reducible apply Sat.drawn); kernel_rfl)
        | ((with_reducible apply DSat.run (X := XU)); exact rfl; (first | exact True.intro | (exact phi) | skip))
        | ((with_reducible apply DSat.fin); kernel_rfl) | fail)
    · rw [hX.h, hY.h]
      exact .cons (inR_u64 (by omega) (by omega)) (.cons (by show c.toNat < (castL (M.l s)).length; omega) (.cons ⟨by omega, by omega⟩ (.cons (inR_u64 (by omega) (by omega)) (.cons (inR_u64 (by omega) (by omega)) .nil))))
    rw [hX.h, hY.h]
    clear hX hY hsum
    with_reducible apply Sat.cond_p
    · exact rfl
    · intro h
      have hlt : Rc.num e.out + 1 < 256 ^ e.out.length := by
        rw [Rc.pow4] at hfit
        generalize 256 ^ e.out.length = q at hfit
        omega
      have hcutE : Rc.cut (e.low + RB) e.out = (e.low + RB - 4294967296, Rc.carry e.out) := by unfold Rc.cut; rw [if_pos (by omega)]
      repeat' (first
          | ((with_reducible apply Sat.run (X := XU)); exact rfl; (first | exact True.intro | (exact phi) | skip))
          | ((with_reducible apply Sat.drawn); kernel_rfl)
          | ((with_reducible apply DSat.run (X := XU)); exact rfl; (first | exact True.intro | (exact phi) | skip))
          | ((with_reducible apply DSat.fin); kernel_rfl)
          | ((with_reducible apply Sat.cond_t); exact rfl)
          | ((with_reducible apply Sat.cond_f); exact rfl)
          | ((with_reducible apply Sat.cond_pt); exact rfl; (try dsimp only [V.EV.sub, V.EV.len]); first | assumption | omega)
          | ((with_reducible apply Sat.cond_pf); exact rfl; (try dsimp only [V.EV.sub, V.EV.len]); first | assumption | omega)
          | ((with_reducible apply Sat.cond_p); exact rfl; all_goals (intro h; (try simp only [V.EV.sub, V.EV.len] at h)))
          | ((with_reducible apply Sat.cond); exact rfl; all_goals (intro h; (try simp only [V.EV.sub, V.EV.len, Bool.cond_true_left, Bool.cond_false_right, Bool.or_eq_true, Bool.and_eq_true, Bool.or_eq_false_iff, Bool.and_eq_false_iff, Bool.not_eq_true', Bool.not_eq_false', decide_eq_true_eq, decide_eq_false_iff_not, ne_eq] at h))) | fail)
      apply Sat.loop (α := List UInt8 × Nat) (fun x => x.1.length + x.2 = e.out.length ∧ Hd (Rc.carry e.out = Rc.carry x.1 ++ List.replicate x.2 0) ∧ Hd (Rc.num x.1 + 1 < 256 ^ x.1.length)) (fun x => x.1.length) (e.out, 0) (fun x => [(15, .int .i64 ((x.1.length : Int) - 1))]) (fun x => [(0, .row 5 (.u8 (x.1 ++ List.replicate x.2 0)))]) [] [] 0
      · intro x; exact rfl
      · intro x; exact rfl
      · exact rfl
      · exact rfl
      · ((repeat' (first | exact AllP.nil | with_reducible refine AllP.cons ?_ ?_)) <;> first | exact rfl | exact trivial | exact Int.natCast_add_one _ | exact ⟨rfl, rfl⟩ | exact ⟨rfl, rfl, rfl⟩ | exact ⟨rfl, rfl, rfl, rfl⟩ | exact ⟨rfl, .inl rfl⟩ | exact ⟨rfl, .inr rfl⟩ | exact pur | (show EV.u8 _ = EV.u8 (_ ++ []); rw [List.append_nil]))
      · exact ⟨rfl, ⟨(List.append_nil _).symm⟩, ⟨hlt⟩⟩
      rintro ⟨m, k⟩ ⟨x1, x2, x3⟩
      dsimp only at x1 x2 x3 ⊢
      rcases Rc.snoc_cases m with rfl | ⟨m, b, rfl⟩
      · exact absurd x3.h (by decide)
      repeat' (first
          | ((with_reducible apply Sat.run (X := XU)); exact rfl; (first | exact True.intro | (exact phi) | skip))
          | ((with_reducible apply Sat.drawn); kernel_rfl)
          | ((with_reducible apply DSat.run (X := XU)); exact rfl; (first | exact True.intro | (exact phi) | skip))
          | ((with_reducible apply DSat.fin); kernel_rfl)
          | ((with_reducible apply Sat.cond_t); exact rfl)
          | ((with_reducible apply Sat.cond_f); exact rfl)
          | ((with_reducible apply Sat.cond_pt); exact rfl; (try dsimp only [V.EV.sub, V.EV.len]); first | assumption | omega)
          | ((with_reducible apply Sat.cond_pf); exact rfl; (try dsimp only [V.EV.sub, V.EV.len]); first | assumption | omega)
          | ((with_reducible apply Sat.cond_p); exact rfl; all_goals (intro h; (try simp only [V.EV.sub, V.EV.len] at h)))
          | ((with_reducible apply Sat.cond); exact rfl; all_goals (intro h; (try simp only [V.EV.sub, V.EV.len, Bool.cond_true_left, Bool.cond_false_right, Bool.or_eq_true, Bool.and_eq_true, Bool.or_eq_false_iff, Bool.and_eq_false_iff, Bool.not_eq_true', Bool.not_eq_false', decide_eq_true_eq, decide_eq_false_iff_not, ne_eq] at h))) | fail)
      · rw [mid_get] at h
        have hb255 : b = 255 := UInt8.toNat_inj.1 (by show b.toNat = 255; omega)
        subst hb255
        rw [mid_set]
        refine Sat.back (m, k + 1) [] rfl ?_ ⟨?_, ⟨?_⟩, ⟨?_⟩⟩ ?_
        · ((repeat' (first | exact AllP.nil | with_reducible refine AllP.cons ?_ ?_)) <;> first | exact rfl | exact trivial | exact Int.natCast_add_one _ | exact ⟨rfl, rfl⟩ | exact ⟨rfl, rfl, rfl⟩ | exact ⟨rfl, rfl, rfl, rfl⟩ | exact ⟨rfl, .inl rfl⟩ | exact ⟨rfl, .inr rfl⟩ | exact pur | (show EV.u8 (m ++ [0] ++ List.replicate k 0) = EV.u8 (m ++ List.replicate (k + 1) 0); rw [List.replicate_succ, List.append_assoc]; rfl) | (show ((((m ++ [255]).length : Nat) : Int) - 1 - 1 = (m.length : Int) - 1); rw [List.length_append]; show ((m.length + 1 : Nat) : Int) - 1 - 1 = _; omega))
        · rw [← x1, List.length_append]
          show m.length + (k + 1) = m.length + 1 + k
          omega
        · rw [x2.h, carry_255, List.append_assoc, List.replicate_succ]
          rfl
        · have q := x3.h
          rw [Rc.num_snoc, List.length_append, show m.length + [(255 : UInt8)].length = m.length + 1 from rfl, Nat.pow_succ] at q
          have : (255 : UInt8).toNat = 255 := rfl
          dsimp only
          omega
        · show m.length < (m ++ [255]).length
          rw [List.length_append]
          show m.length < m.length + 1
          omega
      · rw [mid_get] at h
        have hb255 : b ≠ 255 := fun e => by subst e; exact h rfl
        rw [mid_set, mid_get, inc_u8, ← carry_else m b hb255, ← x2.h]
        rw [show ((e.low : Int) + RB - 4294967296) = ((e.low + RB - 4294967296 : Nat) : Int) by omega]
        rw [hcutE] at hcut hstep
        clear hcutE x1 x2 x3 h
        dsimp only at hcut hstep
        generalize e.low + RB - 4294967296 = lo at *
        generalize Rc.carry e.out = o' at *
        have hol : o'.length ≤ 4 * i := by omega
        refine Sat.kill [60, 63, 65, 70, 72, 73, 75, 78] rfl ?_
        apply Sat.loop (α := Nat × Rc.Enc) (fun x => Hd (Rc.norm x.2.low x.2.size x.2.out = Rc.norm lo RK o') ∧ 0 < x.2.size ∧ x.2.size < 4294967296 ∧ x.2.low < 4294967296 ∧ x.2.out.length = o'.length + x.1 ∧ x.1 ≤ 4 ∧ 256 ^ x.1 ≤ x.2.size) (fun x => 16777216 - x.2.size) (0, ⟨lo, RK, o'⟩) (fun x => [(7, .row 0 0 1 0 x.2.out.length), (8, .int .u64 (x.2.low : Int)), (9, .int .u64 (x.2.size : Int))]) (fun x => [(0, .row 5 (.u8 x.2.out))]) [] [] 0
        · intro x; exact rfl
        · intro x; exact rfl
        · exact rfl
        · exact rfl
        · ((repeat' (first | exact AllP.nil | with_reducible refine AllP.cons ?_ ?_)) <;> first | exact rfl | exact trivial | exact Int.natCast_add_one _ | exact ⟨rfl, rfl⟩ | exact ⟨rfl, rfl, rfl⟩ | exact ⟨rfl, rfl, rfl, rfl⟩ | exact ⟨rfl, .inl rfl⟩ | exact ⟨rfl, .inr rfl⟩ | exact pur | exact ⟨rfl, rfl, rfl, hcut.2.1.symm⟩)
        · dsimp only; exact ⟨⟨rfl⟩, hK0, by omega, by omega, rfl, by omega, by rw [Nat.pow_zero]; exact hK0⟩
        rintro ⟨j, lo1, sz1, o1⟩ ⟨z1, z2, z3, z4, z5, z6, z7⟩
        dsimp only at z1 z2 z3 z4 z5 z6 z7 ⊢
        repeat' (first
            | ((with_reducible apply Sat.run (X := XU)); exact rfl; (first | exact True.intro | (exact phi) | skip))
            | ((with_reducible apply Sat.drawn); kernel_rfl)
            | ((with_reducible apply DSat.run (X := XU)); exact rfl; (first | exact True.intro | (exact phi) | skip))
            | ((with_reducible apply DSat.fin); kernel_rfl) | fail)
        with_reducible apply Sat.cond_p
        · exact rfl
        · intro h
          have hw : UInt8.ofNat (IntKind.u8.wrap ((lo1 : Int) / 16777216)).toNat = UInt8.ofNat (lo1 / 16777216) := by
            rw [show ((lo1 : Int) / 16777216) = ((lo1 / 16777216 : Nat) : Int) by omega, wrap_ofNat]
          have hj : j < 3 := by
            rcases Nat.lt_or_ge j 3 with q | q
            · exact q
            · have : 256 ^ 3 ≤ 256 ^ j := Nat.pow_le_pow_right (by decide) q
              omega
          repeat' (first
              | ((with_reducible apply Sat.run (X := XU)); exact rfl; (first | exact True.intro | (fail) | skip))
              | ((with_reducible apply Sat.drawn); kernel_rfl)
              | ((with_reducible apply DSat.run (X := XU)); exact rfl; (first | exact True.intro | (fail) | skip))
              | ((with_reducible apply DSat.fin); kernel_rfl) | fail)
          · exact .cons (inR_u64 (by omega) (by omega)) (.cons (inR_u64 (by omega) (by omega)) (.cons ⟨by omega, by omega⟩ (.cons (Nat.le_refl 1) (.cons rfl (.cons (by show (o1.length + 1) * (0 + 1) ≤ 140737488355328; omega) (.cons ⟨by omega, by omega⟩ .nil))))))
          · rw [hw]
            refine Sat.back (j + 1, ⟨lo1 % 16777216 * 256, sz1 * 256, o1 ++ [UInt8.ofNat (lo1 / 16777216)]⟩) [(0, some 3)] rfl ?_ ?_ ?_
            · ((repeat' (first | exact AllP.nil | with_reducible refine AllP.cons ?_ ?_)) <;> first | exact rfl | exact trivial | exact Int.natCast_add_one _ | exact ⟨rfl, rfl⟩ | exact ⟨rfl, rfl, rfl⟩ | exact ⟨rfl, rfl, rfl, rfl⟩ | exact ⟨rfl, .inl rfl⟩ | exact ⟨rfl, .inr rfl⟩ | exact pur | exact ⟨rfl, rfl, rfl, (by rw [List.length_append]; rfl)⟩ | (dsimp only; omega))
            · dsimp only
              refine ⟨⟨?_⟩, by omega, by omega, by omega, ?_, by omega, ?_⟩
              · rw [← z1.h, Rc.norm_more (low := lo1) ⟨z2, by omega⟩]
              · rw [List.length_append, z5]; rfl
              · rw [Nat.pow_succ]; omega
            · dsimp only; omega
        · intro h
          have hend : Rc.stepE (M.l s) (M.t s) e c.toNat = ⟨lo1, sz1, o1⟩ := by
            rw [hstep.h, ← z1.h]
            exact Rc.norm_end (by omega)
          repeat' (first
              | ((with_reducible apply Sat.run (X := XU)); exact rfl; (first | exact True.intro | (fail) | skip))
              | ((with_reducible apply Sat.drawn); kernel_rfl)
              | ((with_reducible apply DSat.run (X := XU)); exact rfl; (first | exact True.intro | (fail) | skip))
              | ((with_reducible apply DSat.fin); kernel_rfl) | fail)
          refine Sat.saws (C := cx Tryd.prog 112 T w0) (I := I) (M := M) (s := s) (c := c) (id := 1) top hs hat rfl rfl (by rw [hg, hty]; rfl) rfl fun W S Sm hat => ?_
          repeat' (first
              | ((with_reducible apply Sat.run (X := XU)); exact rfl; (first | exact True.intro | (fail) | skip))
              | ((with_reducible apply Sat.drawn); kernel_rfl)
              | ((with_reducible apply DSat.run (X := XU)); exact rfl; (first | exact True.intro | (fail) | skip))
              | ((with_reducible apply DSat.fin); kernel_rfl) | fail)
          · exact .cons (inR_i64 (by omega) (by omega)) .nil
          refine Sat.backM (C := cx Tryd.prog 112 T w0) (I := I) ((i + 1, M.saw s c, (⟨lo1, sz1, o1⟩ : Rc.Enc)) : Nat × M.σ × Rc.Enc) [] rfl ?_ hat ?_ ?_
          · ((repeat' (first | exact AllP.nil | with_reducible refine AllP.cons ?_ ?_)) <;> first | exact rfl | exact trivial | exact Int.natCast_add_one _ | exact ⟨rfl, rfl⟩ | exact ⟨rfl, rfl, rfl⟩ | exact ⟨rfl, rfl, rfl, rfl⟩ | exact ⟨rfl, .inl rfl⟩ | exact ⟨rfl, .inr rfl⟩ | exact pur)
          · dsimp only
            have hok := (Rc.step_ok hT he c.toNat hc).1
            rw [hend] at hok
            refine ⟨by omega, M.keep s c hs, hok, by omega, ⟨?_⟩⟩
            rw [← hE.h, ← hend, List.drop_eq_getElem_cons hil, show l[i] = c by rw [← hcd, Int.toNat_natCast, List.getD_eq_getElem?_getD, List.getElem?_eq_getElem hil]; rfl]
            rfl
          · dsimp only; omega
    · intro h
      have hcutE : Rc.cut (e.low + RB) e.out = (e.low + RB, e.out) := by unfold Rc.cut; rw [if_neg (by omega)]
      rw [hcutE] at hcut hstep
      dsimp only at hcut hstep
      have ho' : e.out.length ≤ 4 * i := ho
      rw [show ((e.low : Int) + RB) = ((e.low + RB : Nat) : Int) by omega]
      obtain ⟨lo, hlo⟩ : ∃ lo, lo = e.low + RB := ⟨_, rfl⟩
      obtain ⟨o', ho2⟩ : ∃ o', o' = e.out := ⟨_, rfl⟩
      have hol : o'.length ≤ 4 * i := by rw [ho2]; exact ho
      rw [← hlo, ← ho2] at hcut hstep
      rw [← hlo]
      repeat' (first
          | ((with_reducible apply Sat.run (X := XU)); exact rfl; (first | exact True.intro | (exact phi) | skip))
          | ((with_reducible apply Sat.drawn); kernel_rfl)
          | ((with_reducible apply DSat.run (X := XU)); exact rfl; (first | exact True.intro | (exact phi) | skip))
          | ((with_reducible apply DSat.fin); kernel_rfl)
          | ((with_reducible apply Sat.cond_t); exact rfl)
          | ((with_reducible apply Sat.cond_f); exact rfl)
          | ((with_reducible apply Sat.cond_pt); exact rfl; (try dsimp only [V.EV.sub, V.EV.len]); first | assumption | omega)
          | ((with_reducible apply Sat.cond_pf); exact rfl; (try dsimp only [V.EV.sub, V.EV.len]); first | assumption | omega)
          | ((with_reducible apply Sat.cond_p); exact rfl; all_goals (intro h; (try simp only [V.EV.sub, V.EV.len] at h)))
          | ((with_reducible apply Sat.cond); exact rfl; all_goals (intro h; (try simp only [V.EV.sub, V.EV.len, Bool.cond_true_left, Bool.cond_false_right, Bool.or_eq_true, Bool.and_eq_true, Bool.or_eq_false_iff, Bool.and_eq_false_iff, Bool.not_eq_true', Bool.not_eq_false', decide_eq_true_eq, decide_eq_false_iff_not, ne_eq] at h))) | fail)
      apply Sat.loop (α := Nat × Rc.Enc) (fun x => Hd (Rc.norm x.2.low x.2.size x.2.out = Rc.norm lo RK o') ∧ 0 < x.2.size ∧ x.2.size < 4294967296 ∧ x.2.low < 4294967296 ∧ x.2.out.length = o'.length + x.1 ∧ x.1 ≤ 4 ∧ 256 ^ x.1 ≤ x.2.size) (fun x => 16777216 - x.2.size) (0, ⟨lo, RK, o'⟩) (fun x => [(7, .row 0 0 1 0 x.2.out.length), (8, .int .u64 (x.2.low : Int)), (9, .int .u64 (x.2.size : Int))]) (fun x => [(0, .row 5 (.u8 x.2.out))]) [] [] 0
      · intro x; exact rfl
      · intro x; exact rfl
      · exact rfl
      · exact rfl
      · ((repeat' (first | exact AllP.nil | with_reducible refine AllP.cons ?_ ?_)) <;> first | exact rfl | exact trivial | exact Int.natCast_add_one _ | exact ⟨rfl, rfl⟩ | exact ⟨rfl, rfl, rfl⟩ | exact ⟨rfl, rfl, rfl, rfl⟩ | exact ⟨rfl, .inl rfl⟩ | exact ⟨rfl, .inr rfl⟩ | exact pur | exact ⟨rfl, rfl, rfl, hcut.2.1.symm⟩ | exact ⟨rfl, rfl, rfl, congrArg List.length ho2.symm⟩ | (show EV.u8 _ = EV.u8 _; rw [ho2]))
      · dsimp only; exact ⟨⟨rfl⟩, hK0, by omega, by omega, rfl, by omega, by rw [Nat.pow_zero]; exact hK0⟩
      rintro ⟨j, lo1, sz1, o1⟩ ⟨z1, z2, z3, z4, z5, z6, z7⟩
      dsimp only at z1 z2 z3 z4 z5 z6 z7 ⊢
      repeat' (first
          | ((with_reducible apply Sat.run (X := XU)); exact rfl; (first | exact True.intro | (exact phi) | skip))
          | ((with_reducible apply Sat.drawn); kernel_rfl)
          | ((with_reducible apply DSat.run (X := XU)); exact rfl; (first | exact True.intro | (exact phi) | skip))
          | ((with_reducible apply DSat.fin); kernel_rfl) | fail)
      with_reducible apply Sat.cond_p
      · exact rfl
      · intro h
        have hw : UInt8.ofNat (IntKind.u8.wrap ((lo1 : Int) / 16777216)).toNat = UInt8.ofNat (lo1 / 16777216) := by
          rw [show ((lo1 : Int) / 16777216) = ((lo1 / 16777216 : Nat) : Int) by omega, wrap_ofNat]
        have hj : j < 3 := by
          rcases Nat.lt_or_ge j 3 with q | q
          · exact q
          · have : 256 ^ 3 ≤ 256 ^ j := Nat.pow_le_pow_right (by decide) q
            omega
        repeat' (first
            | ((with_reducible apply Sat.run (X := XU)); exact rfl; (first | exact True.intro | (fail) | skip))
            | ((with_reducible apply Sat.drawn); kernel_rfl)
            | ((with_reducible apply DSat.run (X := XU)); exact rfl; (first | exact True.intro | (fail) | skip))
            | ((with_reducible apply DSat.fin); kernel_rfl) | fail)
        · exact .cons (inR_u64 (by omega) (by omega)) (.cons (inR_u64 (by omega) (by omega)) (.cons ⟨by omega, by omega⟩ (.cons (Nat.le_refl 1) (.cons rfl (.cons (by show (o1.length + 1) * (0 + 1) ≤ 140737488355328; omega) (.cons ⟨by omega, by omega⟩ .nil))))))
        · rw [hw]
          refine Sat.back (j + 1, ⟨lo1 % 16777216 * 256, sz1 * 256, o1 ++ [UInt8.ofNat (lo1 / 16777216)]⟩) [(0, some 3)] rfl ?_ ?_ ?_
          · ((repeat' (first | exact AllP.nil | with_reducible refine AllP.cons ?_ ?_)) <;> first | exact rfl | exact trivial | exact Int.natCast_add_one _ | exact ⟨rfl, rfl⟩ | exact ⟨rfl, rfl, rfl⟩ | exact ⟨rfl, rfl, rfl, rfl⟩ | exact ⟨rfl, .inl rfl⟩ | exact ⟨rfl, .inr rfl⟩ | exact pur | exact ⟨rfl, rfl, rfl, (by rw [List.length_append]; rfl)⟩ | (dsimp only; omega))
          · dsimp only
            refine ⟨⟨?_⟩, by omega, by omega, by omega, ?_, by omega, ?_⟩
            · rw [← z1.h, Rc.norm_more (low := lo1) ⟨z2, by omega⟩]
            · rw [List.length_append, z5]; rfl
            · rw [Nat.pow_succ]; omega
          · dsimp only; omega
      · intro h
        have hend : Rc.stepE (M.l s) (M.t s) e c.toNat = ⟨lo1, sz1, o1⟩ := by
          rw [hstep.h, ← z1.h]
          exact Rc.norm_end (by omega)
        repeat' (first
            | ((with_reducible apply Sat.run (X := XU)); exact rfl; (first | exact True.intro | (fail) | skip))
            | ((with_reducible apply Sat.drawn); kernel_rfl)
            | ((with_reducible apply DSat.run (X := XU)); exact rfl; (first | exact True.intro | (fail) | skip))
            | ((with_reducible apply DSat.fin); kernel_rfl) | fail)
        refine Sat.saws (C := cx Tryd.prog 112 T w0) (I := I) (M := M) (s := s) (c := c) (id := 1) top hs hat rfl rfl (by rw [hg, hty]; rfl) rfl fun W S Sm hat => ?_
        repeat' (first
            | ((with_reducible apply Sat.run (X := XU)); exact rfl; (first | exact True.intro | (fail) | skip))
            | ((with_reducible apply Sat.drawn); kernel_rfl)
            | ((with_reducible apply DSat.run (X := XU)); exact rfl; (first | exact True.intro | (fail) | skip))
            | ((with_reducible apply DSat.fin); kernel_rfl) | fail)
        · exact .cons (inR_i64 (by omega) (by omega)) .nil
        refine Sat.backM (C := cx Tryd.prog 112 T w0) (I := I) ((i + 1, M.saw s c, (⟨lo1, sz1, o1⟩ : Rc.Enc)) : Nat × M.σ × Rc.Enc) [] rfl ?_ hat ?_ ?_
        · ((repeat' (first | exact AllP.nil | with_reducible refine AllP.cons ?_ ?_)) <;> first | exact rfl | exact trivial | exact Int.natCast_add_one _ | exact ⟨rfl, rfl⟩ | exact ⟨rfl, rfl, rfl⟩ | exact ⟨rfl, rfl, rfl, rfl⟩ | exact ⟨rfl, .inl rfl⟩ | exact ⟨rfl, .inr rfl⟩ | exact pur)
        · dsimp only
          have hok := (Rc.step_ok hT he c.toNat hc).1
          rw [hend] at hok
          refine ⟨by omega, M.keep s c hs, hok, by omega, ⟨?_⟩⟩
          rw [← hE.h, ← hend, List.drop_eq_getElem_cons hil, show l[i] = c by rw [← hcd, Int.toNat_natCast, List.getD_eq_getElem?_getD, List.getElem?_eq_getElem hil]; rfl]
          rfl
        · dsimp only; omega
  · have hil : i = l.length := by omega
    refine Sat.up top hat.over ?_
    dsimp only
    have hfull : e.out ++ List.take 4 (List.drop 0 [UInt8.ofNat (IntKind.u8.wrap ((e.low : Int) / 2 ^ Int.toNat 24)).toNat, UInt8.ofNat (IntKind.u8.wrap ((e.low : Int) / 2 ^ Int.toNat 16)).toNat, UInt8.ofNat (IntKind.u8.wrap ((e.low : Int) / 2 ^ Int.toNat 8)).toNat, UInt8.ofNat (IntKind.u8.wrap (e.low : Int)).toNat]) = Rc.full e := by
      rw [show ((e.low : Int) / 2 ^ Int.toNat 24) = ((e.low / 16777216 : Nat) : Int) from rfl, show ((e.low : Int) / 2 ^ Int.toNat 16) = ((e.low / 65536 : Nat) : Int) from rfl, show ((e.low : Int) / 2 ^ Int.toNat 8) = ((e.low / 256 : Nat) : Int) from rfl, wrap_ofNat, wrap_ofNat, wrap_ofNat, wrap_ofNat]
      rfl
    have hcode : Rc.trim (Rc.full e) = Rc.code M s0 l := by
      have := hE.h
      rw [hil, List.drop_length] at this
      show Rc.trim (Rc.full e) = Rc.trim (Rc.full (Rc.encS M s0 Rc.e0 l))
      rw [← this]
      rfl
    repeat' (first
        | ((with_reducible apply Sat.run (X := XU)); exact rfl; (first | exact True.intro | (fail) | skip))
        | ((with_reducible apply Sat.drawn); kernel_rfl)
        | ((with_reducible apply DSat.run (X := XU)); exact rfl; (first | exact True.intro | (fail) | skip))
        | ((with_reducible apply DSat.fin); kernel_rfl) | fail)
    rw [hfull]
    refine killR [96] rfl ?_
    with_reducible apply Sat.freeze true
    · exact rfl
    · exact rfl
    · exact rfl
    · have hfl : e.out.length + ((EV.u8 [UInt8.ofNat (IntKind.u8.wrap ((e.low : Int) / 2 ^ Int.toNat 24)).toNat, UInt8.ofNat (IntKind.u8.wrap ((e.low : Int) / 2 ^ Int.toNat 16)).toNat, UInt8.ofNat (IntKind.u8.wrap ((e.low : Int) / 2 ^ Int.toNat 8)).toNat, UInt8.ofNat (IntKind.u8.wrap (e.low : Int)).toNat]).sub 0 4).len = (EV.u8 (Rc.full e)).len := by
        show e.out.length + 4 = (Rc.full e).length
        rw [Rc.full_len]
      ((repeat' (first | exact AllP.nil | with_reducible refine AllP.cons ?_ ?_)) <;> first | exact rfl | exact trivial | exact Int.natCast_add_one _ | exact ⟨rfl, rfl⟩ | exact ⟨rfl, rfl, rfl⟩ | exact ⟨rfl, rfl, rfl, rfl⟩ | exact ⟨rfl, .inl rfl⟩ | exact ⟨rfl, .inr rfl⟩ | exact pur | exact .inl ⟨rfl, hfl, rfl⟩)
    repeat' (first
        | ((with_reducible apply Sat.run (X := XU)); exact rfl; (first | exact True.intro | (fail) | skip))
        | ((with_reducible apply Sat.drawn); kernel_rfl)
        | ((with_reducible apply DSat.run (X := XU)); exact rfl; (first | exact True.intro | (fail) | skip))
        | ((with_reducible apply DSat.fin); kernel_rfl)
        | ((with_reducible apply Sat.call ((trim_spec _))); exact rfl; exact rfl; kernel_rfl; (exact cnv); exact rfl)
        | ((with_reducible apply DSat.call ((trim_spec _))); exact rfl; exact rfl; kernel_rfl; (exact cnv); exact rfl) | fail)
    (refine Sat.fin (Sat.end2 rfl rfl rfl rfl True.intro True.intro (.refl _ pur) (.refl _ pur) (by first | exact .inl rfl | exact .inr rfl) (fun _ h => h)) ?_; (rw [hcode]))
end Go.Proofs.YtcnpgmohnclojaaDoor
end
section
namespace Go.Proofs.YtcnpgmohnclojaaDoor
open Go.RowKit V
set_option maxRecDepth 100000
set_option maxHeartbeats 4000000
set_option linter.unusedSimpArgs false
theorem sup_ids0 : Sup ids0 fun _ => True := by
  have : ∀ (l : List Nat) (n : Nat) (U : Nat → Prop), (∀ i, i < l.length → l[i]? = some (n + i)) → (∀ k, n ≤ k → U k) → Sup l U := by
    intro l
    induction l with
    | nil => intro n _ _ _; trivial
    | cons i r ih =>
      intro n U hl hU
      have hi : i = n := by simpa using hl 0 (by simp)
      refine ⟨hU i (by omega), ih (n + 1) _ (fun j hj => ?_) fun k hk => ⟨hU k (by omega), by omega⟩⟩
      have := hl (j + 1) (by simpa using hj)
      simpa [Nat.add_assoc, Nat.add_comm 1 j] using this
  exact this ids0 0 _ (by decide) fun _ _ => trivial
/-- What a call does, by a walk from its start. -/
theorem raw_mk {P : Program} {f : FuncId} {fn : Func} {c : Code} {N : Nat} {args : List SV} {F : Tr} {R : Ending → World → Prop} (dep : Nat) (hf : P.funcs[f]? = some fn) (hb : fn.body = some c) (hN : fn.ntmps = N) (hle : Nat.ble args.length N = true) (hF : argT 0 args (Tr.mk dep) = some F) (w : World) (vs : List Value)
    (ht : Tup E0 (fun _ => False) w args vs) (h : Sat ⟨P, w, fun _ => False, fun _ => False, [], N, [], [], false⟩ (bodyPost P fn R) (.code c F [] ids0 [])) : Calls P f vs.toArray w R := by
  have hle' := Nat.le_of_ble_eq_true hle
  have hlen := ht.len
  have hno : ∀ b, trk (fun _ => False) [] E0 b → False := fun b hb => by rcases hb with ⟨id, B, hf, _⟩ | h0 <;> first | (simp [find] at hf; done) | exact h0
  refine calls_of_wp hf hb (h (fun _ => True) E0 _ w sup_ids0 ⟨rfl, ?_, fun t s hs => ?_, ⟨fun id B hf => by simp [find] at hf, fun id id' b hf => by simp [find] at hf⟩, fun id b hf => by simp [find] at hf, fun _ _ => rfl, ⟨rfl, rfl, rfl, Chg.refl _ w⟩, fun b hb => hb.elim, ⟨fun g e hg => by simp [gl] at hg, fun g e hg => by simp [gl] at hg⟩, fun p hp => (by cases hp), fun p hp => (by cases hp)⟩)
  · simp only [Array.size_append, List.size_toArray, Array.size_replicate, hlen, hN]; omega
  · rcases argT_get hF ht t s hs with ⟨q1, _⟩ | ⟨_, v, q2, q3⟩ | ⟨_, q2⟩
    · omega
    · have hlt : t < vs.length := by simpa using (List.getElem?_eq_some_iff.1 q2).1
      have : (vs.toArray ++ Array.replicate (fn.ntmps - vs.toArray.size) undef).getD t undef = v := by
        rw [Array.getD_eq_getD_getElem?, Array.getElem?_append_left (by simpa using hlt)]
        simp only [Nat.sub_zero] at q2
        simp [q2]
      rw [this]
      exact q3.mono (fun _ _ h => h) (fun b _ hb => (hno b hb).elim) (Chg.refl _ w)
    · rw [mk_get] at q2; cases q2
/-- The end of such a walk, where one value is returned. -/
theorem raw_end1 {C : Ctx} {F : Tr} {M : Mem} {ids : List Nat} {fn : Func} {R : Ending → World → Prop} {e : Ex} {r : ResultVar} {s : SV} (hr : fn.results = #[r]) (h1 : resV C.P F M r = some ([], s)) (he : e = .ret ∨ e = .normal) (h : ∀ U E a w v, St C F M U E a w → Rep E (trk C.T0 M E) w s v → R (.returned v) w) :
    Sat C (bodyPost C.P fn R) (.ext e F M ids []) := end_core he fun U E a w _ hst => by
  obtain ⟨v, q1, q2⟩ := resV_ok hst h1 trivial
  refine ⟨v, ?_, h U E a w v hst q1⟩
  unfold results
  rw [hr]
  exact mapM_run1 q2
/-- A block of counts. -/
def TabAt (w : World) (p : Nat) (ty : TypeId) (l : List Nat) (r : List SV) : Prop := ∃ cs, w.heap[p]? = some (.cells (List.toArray cs) ty (0, 0)) ∧ Items E0 (fun _ => False) w (cnt l r) cs
theorem TabAt.lt {w : World} {p : Nat} {ty : TypeId} {l : List Nat} {r : List SV} (h : TabAt w p ty l r) : p < w.heap.size := by
  obtain ⟨cs, h, _⟩ := h
  rcases Nat.lt_or_ge p w.heap.size with hlt | hge
  · exact hlt
  · rw [Array.getElem?_eq_none hge] at h; cases h
theorem rig_cl (l : List Nat) (r : List SV) (hr : V.rigid.rigids r = true) : V.rigid.rigids (cnt l r) = true := by
  simp only [V.rigid.rigids, Bool.and_eq_true]
  exact ⟨by first | rfl | simp [V.rigid], hr⟩
theorem TabAt.kept {w w' : World} {p : Nat} {ty : TypeId} {l : List Nat} {r : List SV} (hr : V.rigid.rigids r = true) (h : TabAt w p ty l r) (hb : w'.heap[p]? = w.heap[p]?) : TabAt w' p ty l r := by
  obtain ⟨cs, h1, h2⟩ := h
  exact ⟨cs, hb.trans h1, h2.rigid_ (rig_cl l r hr)⟩
theorem tab_next {w : World} {p : Nat} {ty : TypeId} {l : List Nat} {t : Nat} (h : TabAt w p ty l [.int .u64 (t : Int)]) : w.cell? ⟨p, 256, none⟩ = some (.int .u64 (t : Int)) := by
  obtain ⟨cs, h1, h2⟩ := h
  rw [cell_of_row w p 256 _ ty (0, 0) h1]
  cases h2 with
  | one _ _ _ _ h => cases h
  | arr n e _ c1 cs hr hl =>
    have := hr.arr_len
    cases hl with
    | one _ c _ _ _ hr hl =>
      cases hl
      cases hr
      simp only [List.getElem?_toArray]
      rw [List.getElem?_append_right (by omega), this]
      rfl
theorem Kp.refl (w : World) (S : Nat → Prop) : Kp w S w := ⟨rfl, rfl, rfl, Chg.refl _ w⟩
theorem Kp.drewN (w : World) (S : Nat → Prop) (k : Nat) : Kp w S (w.drewN k) := ⟨rfl, rfl, rfl, ⟨Nat.le_refl _, fun _ _ _ => rfl, fun _ _ => rfl⟩⟩
theorem counts0_call (p : Nat) (w : World) : Calls Tryd.prog 59 #[.pointer (some ⟨p, 0, none⟩)] w fun e w' => e = .returned (.tuple #[.pointer (some ⟨p, 0, none⟩), .int .u64 256]) ∧ w' = w := by
  go_enter Tryd.func59, Tryd.ntmps59
  go_wp2
  go_ret2
  exact ⟨rfl, rfl⟩
theorem counts1_call (p t : Nat) (w : World) (c1 : w.cell? ⟨p, 0 + 256, none⟩ = some (.int .u64 (t : Int))) : Calls Tryd.prog 61 #[.pointer (some ⟨p, 0, none⟩)] w fun e w' => e = .returned (.tuple #[.pointer (some ⟨p, 0, none⟩), .int .u64 (t : Int)]) ∧ ∃ k, w' = w.drewN k := by
  go_enter Tryd.func61, Tryd.ntmps61
  go_wp2
  go_quiet (fail)
  go_wp2
  go_ret2
  exact ⟨rfl, nq, rfl⟩
attribute [local irreducible] V.Sat in
theorem saw0_fun (v : Value) (c : Int) : Fun Tryd.prog [] 60 [.val v, .int .u8 c] (.tup []) := by
  refine Fun.mk 6 Tryd.func60 rfl Tryd.ntmps60 rfl rfl fun T w0 => ?_
  with_reducible apply Sat.run (X := XU)
  · exact rfl
  · trivial
  · exact Sat.end0 rfl (.inr rfl) (fun _ h => h)
theorem Kp.of_below {w w' : World} (h : Below w.heap.size w w') (S : Nat → Prop) : Kp w S w' := ⟨h.os, h.tape, h.output, Chg.of_below h⟩
theorem saw0_call (p : Nat) (c : UInt8) (w : World) : Calls Tryd.prog 60 #[.pointer (some ⟨p, 0, none⟩), .int .u8 (c.toNat : Int)] w fun e w' => e = .returned (.tuple #[]) ∧ Below w.heap.size w w' := by
  have hc := c.toNat_lt
  refine (saw0_fun _ _ (fun _ => False) w [.pointer (some ⟨p, 0, none⟩), .int .u8 (c.toNat : Int)] (fun _ h => h.elim) ⟨fun g e hg => by simp [gl] at hg, fun g e hg => by simp [gl] at hg⟩ (.cons _ _ _ _ (.val _) (.cons _ _ _ _ (.int _ _ (inR_u8' (by omega) (by omega))) .nil))).mono ?_
  rintro e w' ⟨v, rfl, hr, hb⟩
  refine ⟨?_, hb⟩
  cases hr with
  | tup _ vs h => cases h; rfl
theorem saw1_call (p : Nat) (q : List Nat) (t : Nat) (hp : Rc.Tab q t) (c : UInt8) (w : World) (h : TabAt w p 83 q [.int .u64 (t : Int)]) :
    Calls Tryd.prog 62 #[.pointer (some ⟨p, 0, none⟩), .int .u8 (c.toNat : Int)] w fun e w' => e = .returned (.tuple #[]) ∧ TabAt w' p 83 (Rc.sawT (q, t) c).1 [.int .u64 ((Rc.sawT (q, t) c).2 : Int)] ∧ Kp w (fun b => b = p) w' := by
  have hlt := h.lt
  obtain ⟨cs, h1, h2⟩ := h
  have hc := c.toNat_lt
  refine (saw_spec q t hp c (fun b => b = p) w [.int .u8 (c.toNat : Int)] p cs (fun k hk => by omega) rfl ⟨fun g e hg => by simp [gl] at hg, fun g e hg => by simp [gl] at hg⟩ h1 (h2.rigid_ (rig_cl q _ rfl)) (.cons _ _ _ _ (.int _ _ (inR_u8' (by omega) (by omega))) .nil)).mono ?_
  rintro e w' ⟨v, cs', rfl, hr, q1, q2, q3, q4, q5, q6, q7, q8⟩
  refine ⟨?_, ⟨cs', q1, q3.rigid_ (rig_cl _ _ rfl)⟩, q4, q5, q6, q7, fun b hb hn => q8 b hb hn, fun b hb => ?_⟩
  · cases hr with
    | tup _ vs h => cases h; rfl
  · by_cases hbp : b = p
    · subst hbp
      unfold World.shape?
      rw [q1, h1]
      simp [q2]
    · unfold World.shape?
      rw [q8 b hb hbp]
def I0 : Impl Tryd.prog Rc.M0 where
  t := 75
  fc := 59
  fs := 60
  mc := fun v w => by kernel_rfl
  ms := fun v w => by kernel_rfl
  cc := by kernel_rfl
  cs := by kernel_rfl
  ty := 80
  tl := fun _ => []
  rig := fun _ => rfl
  Own := fun w _ v S => ∃ p, v = .pointer (some ⟨p, 0, none⟩) ∧ TabAt w p 80 Rc.onesN [] ∧ ∀ b, S b ↔ b = p
  lt := fun ⟨p, _, h, hS⟩ b hb => by cases (hS b).1 hb; exact h.lt
  kept := fun ⟨p, h1, h2, h3⟩ hk => ⟨p, h1, h2.kept rfl (hk p ((h3 p).2 rfl)), h3⟩
  counts := fun {w s v S} _ ⟨p, h1, h2, h3⟩ => by
    subst h1
    refine (counts0_call p w).mono ?_
    rintro e w' ⟨rfl, rfl⟩
    obtain ⟨cs, q1, q2⟩ := h2
    exact ⟨p, cs, S, rfl, q1, q2, ⟨p, rfl, ⟨cs, q1, q2⟩, h3⟩, (h3 p).2 rfl, Kp.refl _ _, fun _ => .inl⟩
  saw := fun {w s v S} c _ ⟨p, h1, h2, h3⟩ => by
    subst h1
    refine (saw0_call p c w).mono ?_
    rintro e w' ⟨rfl, hb⟩
    exact ⟨rfl, S, ⟨p, rfl, h2.kept rfl (hb.block p h2.lt), h3⟩, Kp.of_below hb _, fun _ => .inl⟩
def I1 : Impl Tryd.prog Rc.M1 where
  t := 81
  fc := 61
  fs := 62
  mc := fun v w => by kernel_rfl
  ms := fun v w => by kernel_rfl
  cc := by kernel_rfl
  cs := by kernel_rfl
  ty := 83
  tl := fun s => [.int .u64 (s.2 : Int)]
  rig := fun _ => rfl
  Own := fun w s v S => ∃ p, v = .pointer (some ⟨p, 0, none⟩) ∧ TabAt w p 83 s.1 [.int .u64 (s.2 : Int)] ∧ ∀ b, S b ↔ b = p
  lt := fun ⟨p, _, h, hS⟩ b hb => by cases (hS b).1 hb; exact h.lt
  kept := fun ⟨p, h1, h2, h3⟩ hk => ⟨p, h1, h2.kept rfl (hk p ((h3 p).2 rfl)), h3⟩
  counts := fun {w s v S} _ ⟨p, h1, h2, h3⟩ => by
    subst h1
    refine (counts1_call p s.2 w (tab_next h2)).mono ?_
    rintro e w' ⟨rfl, k, rfl⟩
    have h2 : TabAt (w.drewN k) p 83 s.1 [.int .u64 (s.2 : Int)] := h2.kept rfl rfl
    obtain ⟨cs, q1, q2⟩ := h2
    exact ⟨p, cs, S, rfl, q1, q2, ⟨p, rfl, ⟨cs, q1, q2⟩, h3⟩, (h3 p).2 rfl, Kp.drewN _ _ _, fun _ => .inl⟩
  saw := fun {w s v S} c hs ⟨p, h1, h2, h3⟩ => by
    subst h1
    refine (saw1_call p s.1 s.2 hs c w h2).mono ?_
    rintro e w' ⟨rfl, q1, q2⟩
    exact ⟨rfl, S, ⟨p, rfl, q1, h3⟩, ⟨q2.os, q2.tape, q2.output, q2.chg.size, fun b hb hn => q2.chg.keep b hb fun e => hn ((h3 b).2 e), q2.chg.shape⟩, fun _ => .inl⟩
end Go.Proofs.YtcnpgmohnclojaaDoor
end
section
namespace Go.Proofs.YtcnpgmohnclojaaDoor
open Go.RowKit V
set_option maxRecDepth 100000
set_option maxHeartbeats 4000000
set_option linter.unusedSimpArgs false
/-- A nil interface value is compared with nil. -/
theorem V.Sat.eqnil {C : Ctx} {Q0 : Exit → Act → World → Prop} {F F' : Tr} {M : Mem} {ids : List Nat} {k : List Kont} {full rest : List Oper} {d : Option Tmp} {x : Operand} {t t' type : TypeId} {pos : String} {after : Array Edge} (hx : opd C.Γ F x = some .nili) (hu : ∃ m, C.P.underlying t = some (.interface m)) (hp : putD C.N F d (some (.bool true)) some = some F')
    (h : Sat C Q0 (.reg full rest F' M ids k)) : Sat C Q0 (.reg full (⟨d, .binOp .eql t x (.const .nilIface) t', type, pos, after, none⟩ :: rest) F M ids k) := by
  intro U E a w hsup hst
  obtain ⟨F1, h1, h2⟩ := putD_inv hp
  cases h1
  refine wpList_plain rfl fun K hK => ?_
  have hr := opd_rep hst.vw hx
  have hrun : (execOp a.eval ⟨d, .binOp .eql t x (.const .nilIface) t', type, pos, after, none⟩).run C.P w = .ok (.value (.bool true)) w := by
    have hv : a.eval x = .nilIface := by
      generalize a.eval x = v at hr
      cases hr
      rfl
    obtain ⟨m, hu⟩ := hu
    unfold execOp
    have h1 : (eqGuard .eql t x (.const .nilIface) (a.eval x) (a.eval (.const .nilIface))).run C.P w = .ok () w := by
      rw [hv]
      unfold eqGuard
      cases x <;> rfl
    have h2 : (binOp .eql t (a.eval x) (a.eval (.const .nilIface))).run C.P w = .ok (.bool true) w := by
      rw [hv]
      show ((do pure (.bool (← Op.equal t .nilIface .nilIface)) : Sem Value)).run C.P w = _
      have h3 : (Op.equal t .nilIface .nilIface).run C.P w = .ok true w := by
        show (Op.equalIn (_ + 1) t .nilIface .nilIface).run C.P w = _
        unfold Op.equalIn
        simp only [Sem.run_bind, run_underlying hu, Result.andThen_ok]
        rfl
      simp only [Sem.run_bind, h3, Result.andThen_ok, Sem.run_pure]
    simp only [Sem.run_bind, h1, h2, Result.andThen_ok, Sem.run_pure]
  unfold Oper.wp
  rw [hrun]
  exact hK _ _ (h U E _ w hsup (hst.putD h2 fun s' hs' => by cases hs'; exact .bool true))
attribute [local irreducible] V.Sat V.DSat
theorem ones_castW : castL Rc.onesN = List.replicate 256 1 := by
  unfold castL Rc.onesN
  rw [List.map_replicate]
  rfl
theorem begin0 : Begins I0 0 () := by
  intro w vs hv
  refine raw_mk 6 Tryd.func22 rfl Tryd.ntmps22 rfl rfl w vs (hv _ _ _) ?_
  repeat' (first
      | ((with_reducible apply Sat.run (X := X64)); exact rfl; (first | exact True.intro | (exact phi) | skip))
      | ((with_reducible apply Sat.drawn); kernel_rfl)
      | ((with_reducible apply DSat.run (X := X64)); exact rfl; (first | exact True.intro | (exact phi) | skip))
      | ((with_reducible apply DSat.fin); kernel_rfl)
      | ((with_reducible apply Sat.cond_t); exact rfl)
      | ((with_reducible apply Sat.cond_f); exact rfl)
      | ((with_reducible apply Sat.cond_pt); exact rfl; (try dsimp only [V.EV.sub, V.EV.len]); first | assumption | omega)
      | ((with_reducible apply Sat.cond_pf); exact rfl; (try dsimp only [V.EV.sub, V.EV.len]); first | assumption | omega)
      | ((with_reducible apply Sat.cond_p); exact rfl; all_goals (intro h; (try simp only [V.EV.sub, V.EV.len] at h)))
      | ((with_reducible apply Sat.cond); exact rfl; all_goals (intro h; (try simp only [V.EV.sub, V.EV.len, Bool.cond_true_left, Bool.cond_false_right, Bool.or_eq_true, Bool.and_eq_true, Bool.or_eq_false_iff, Bool.and_eq_false_iff, Bool.not_eq_true', Bool.not_eq_false', decide_eq_true_eq, decide_eq_false_iff_not, ne_eq] at h)))
      | ((with_reducible apply Sat.callR (ones_spec)); exact rfl; exact rfl; exact rfl; kernel_rfl; (exact cnv); exact rfl)
      | ((with_reducible apply DSat.callR (ones_spec)); exact rfl; exact rfl; exact rfl; kernel_rfl; (exact cnv); exact rfl) | fail)
  refine raw_end1 rfl rfl (.inl rfl) fun U E a w' v hst hr => ?_
  have hr : Rep E (trk (fun _ => False) [(0, .cells 80 _)] E) w' (.ifc 75 (.ptr 0 0)) v := hr
  cases hr with
  | ifc _ _ u hu =>
    cases hu with
    | ptr _ _ b hE =>
      obtain ⟨hlt, cs, h1, h2⟩ := hst.mem.at rfl hE
      have hb := hst.post (fun _ h => h)
      have hn : w.heap.size ≤ b := by
        rcases hst.own 0 b rfl hE with h | h
        · exact h
        · exact h.elim
      refine ⟨_, fun k => k = b, rfl, ⟨b, rfl, ⟨cs, h1, ?_⟩, fun _ => Iff.rfl⟩, hb, fun k hk => by omega⟩
      rw [cnt, ones_castW]
      exact h2.rigid_ rfl
theorem begin1 : Begins I1 1 Rc.T1 := by
  intro w vs hv
  refine raw_mk 6 Tryd.func22 rfl Tryd.ntmps22 rfl rfl w vs (hv _ _ _) ?_
  repeat' (first
      | ((with_reducible apply Sat.run (X := X64)); exact rfl; (first | exact True.intro | (exact phi) | skip))
      | ((with_reducible apply Sat.drawn); kernel_rfl)
      | ((with_reducible apply DSat.run (X := X64)); exact rfl; (first | exact True.intro | (exact phi) | skip))
      | ((with_reducible apply DSat.fin); kernel_rfl)
      | ((with_reducible apply Sat.cond_t); exact rfl)
      | ((with_reducible apply Sat.cond_f); exact rfl)
      | ((with_reducible apply Sat.cond_pt); exact rfl; (try dsimp only [V.EV.sub, V.EV.len]); first | assumption | omega)
      | ((with_reducible apply Sat.cond_pf); exact rfl; (try dsimp only [V.EV.sub, V.EV.len]); first | assumption | omega)
      | ((with_reducible apply Sat.cond_p); exact rfl; all_goals (intro h; (try simp only [V.EV.sub, V.EV.len] at h)))
      | ((with_reducible apply Sat.cond); exact rfl; all_goals (intro h; (try simp only [V.EV.sub, V.EV.len, Bool.cond_true_left, Bool.cond_false_right, Bool.or_eq_true, Bool.and_eq_true, Bool.or_eq_false_iff, Bool.and_eq_false_iff, Bool.not_eq_true', Bool.not_eq_false', decide_eq_true_eq, decide_eq_false_iff_not, ne_eq] at h)))
      | ((with_reducible apply Sat.callR (ones_spec)); exact rfl; exact rfl; exact rfl; kernel_rfl; (exact cnv); exact rfl)
      | ((with_reducible apply DSat.callR (ones_spec)); exact rfl; exact rfl; exact rfl; kernel_rfl; (exact cnv); exact rfl) | fail)
  refine raw_end1 rfl rfl (.inl rfl) fun U E a w' v hst hr => ?_
  have hr : Rep E (trk (fun _ => False) [(0, .cells 83 _)] E) w' (.ifc 81 (.ptr 0 0)) v := hr
  cases hr with
  | ifc _ _ u hu =>
    cases hu with
    | ptr _ _ b hE =>
      obtain ⟨hlt, cs, h1, h2⟩ := hst.mem.at rfl hE
      have hb := hst.post (fun _ h => h)
      have hn : w.heap.size ≤ b := by
        rcases hst.own 0 b rfl hE with h | h
        · exact h
        · exact h.elim
      refine ⟨_, fun k => k = b, rfl, ⟨b, rfl, ⟨cs, h1, ?_⟩, fun _ => Iff.rfl⟩, hb, fun k hk => by omega⟩
      show Items _ _ _ (cnt Rc.onesN _) _
      rw [cnt, ones_castW]
      exact h2.rigid_ rfl
theorem begin_nil (n : Int) (h0 : n ≠ 0) (h1 : n ≠ 1) (h2 : n ≠ 2) : Fun Tryd.prog [] 22 [.int .i64 n] .nili := by
  refine Fun.mkF 6 Tryd.func22 rfl Tryd.ntmps22 rfl rfl fun hf T w0 => ?_
  repeat' (first
      | ((with_reducible apply Sat.cond_p); exact rfl; (intro h; omega); (intro h; clear h))
      | ((with_reducible apply Sat.run (X := X64)); exact rfl; (first | exact True.intro | (exact phi) | skip))
      | ((with_reducible apply Sat.drawn); kernel_rfl)
      | ((with_reducible apply DSat.run (X := X64)); exact rfl; (first | exact True.intro | (exact phi) | skip))
      | ((with_reducible apply DSat.fin); kernel_rfl) | fail)
  (refine Sat.fin (Sat.end1 rfl rfl rfl True.intro (.refl _ pur) (by first | exact .inl rfl | exact .inr rfl) (fun _ h => h)) ?_; (rfl))
theorem enc_nil (n : Int) (h0 : n ≠ 0) (h1 : n ≠ 1) (h2 : n ≠ 2) (l : List UInt8) : Fun Tryd.prog [] 13 [.int .i64 n, .ro (.u8 l)] (.tup [.ro (.u8 []), .int .i64 130]) := by
  have hb := begin_nil n h0 h1 h2
  refine Fun.mkF 7 Tryd.func13 rfl Tryd.ntmps13 rfl rfl fun hf T w0 => ?_
  repeat' (first
      | ((with_reducible apply Sat.eqnil); exact rfl; exact ⟨_, rfl⟩; exact rfl)
      | ((with_reducible apply Sat.run (X := X64)); exact rfl; (first | exact True.intro | (exact phi) | skip))
      | ((with_reducible apply Sat.drawn); kernel_rfl)
      | ((with_reducible apply DSat.run (X := X64)); exact rfl; (first | exact True.intro | (exact phi) | skip))
      | ((with_reducible apply DSat.fin); kernel_rfl)
      | ((with_reducible apply Sat.callR (hb)); exact rfl; exact rfl; exact rfl; kernel_rfl; (exact cnv); exact rfl)
      | ((with_reducible apply DSat.callR (hb)); exact rfl; exact rfl; exact rfl; kernel_rfl; (exact cnv); exact rfl)
      | ((with_reducible apply Sat.cond_t); exact rfl)
      | ((with_reducible apply Sat.cond_f); exact rfl)
      | ((with_reducible apply Sat.cond_pt); exact rfl; (try dsimp only [V.EV.sub, V.EV.len]); first | assumption | omega)
      | ((with_reducible apply Sat.cond_pf); exact rfl; (try dsimp only [V.EV.sub, V.EV.len]); first | assumption | omega)
      | ((with_reducible apply Sat.cond_p); exact rfl; all_goals (intro h; (try simp only [V.EV.sub, V.EV.len] at h)))
      | ((with_reducible apply Sat.cond); exact rfl; all_goals (intro h; (try simp only [V.EV.sub, V.EV.len, Bool.cond_true_left, Bool.cond_false_right, Bool.or_eq_true, Bool.and_eq_true, Bool.or_eq_false_iff, Bool.and_eq_false_iff, Bool.not_eq_true', Bool.not_eq_false', decide_eq_true_eq, decide_eq_false_iff_not, ne_eq] at h))) | fail)
  refine Sat.fin (Sat.end2 rfl rfl rfl rfl True.intro True.intro (.nils _ rfl) (.refl _ trivial) (by first | exact .inl rfl | exact .inr rfl) (fun _ h => h)) rfl
theorem enc_big {M : Rc.Mdl} (I : Impl Tryd.prog M) (n : Int) (s0 : M.σ) (hb : Begins I n s0) (l : List UInt8) (hl : 65536 < l.length) : Fun Tryd.prog [] 13 [.int .i64 n, .ro (.u8 l)] (.tup [.ro (.u8 []), .int .i64 2]) := by
  refine Fun.mkF 7 Tryd.func13 rfl Tryd.ntmps13 rfl rfl fun hf T w0 => ?_
  refine Sat.top rfl rfl rfl fun top => ?_
  repeat' (first
      | ((with_reducible apply Sat.run (X := XU)); exact rfl; (first | exact True.intro | (fail) | skip))
      | ((with_reducible apply Sat.drawn); kernel_rfl)
      | ((with_reducible apply DSat.run (X := XU)); exact rfl; (first | exact True.intro | (fail) | skip))
      | ((with_reducible apply DSat.fin); kernel_rfl) | fail)
  refine Sat.begins (C := cx Tryd.prog 112 T w0) (I := I) (s := s0) (f := 22) (svs := [.int .i64 n]) top hb rfl rfl (by kernel_rfl) (fun _ => rfl) fun v W S Sm hat => ?_
  refine Sat.up top hat.over ?_
  repeat' (first
      | ((with_reducible apply Sat.cond_p); exact rfl; (intro h; clear h; rotate_left); (intro h; exact absurd (show (65536 : Int) < (l.length : Nat) by omega) h))
      | ((with_reducible apply Sat.cond_f); exact rfl)
      | ((with_reducible apply Sat.cond_t); exact rfl)
      | ((with_reducible apply Sat.run (X := XU)); exact rfl; (first | exact True.intro | (fail) | skip))
      | ((with_reducible apply Sat.drawn); kernel_rfl)
      | ((with_reducible apply DSat.run (X := XU)); exact rfl; (first | exact True.intro | (fail) | skip))
      | ((with_reducible apply DSat.fin); kernel_rfl) | fail)
  refine Sat.fin (Sat.end2 rfl rfl rfl rfl True.intro True.intro (.nils _ rfl) (.refl _ trivial) (by first | exact .inl rfl | exact .inr rfl) (fun _ h => h)) rfl
theorem size_spec (n : Int) (l : List UInt8) (c : List UInt8) (e : Int) (h : Fun Tryd.prog [] 13 [.int .i64 n, .ro (.u8 l)] (.tup [.ro (.u8 c), .int .i64 e])) : Fun Tryd.prog [] 14 [.int .i64 n, .ro (.u8 l)] (.tup [.int .i64 (c.length : Int), .int .i64 e]) := by
  refine Fun.mkF 6 Tryd.func14 rfl Tryd.ntmps14 rfl rfl fun hf T w0 => ?_
  repeat' (first
      | ((with_reducible apply Sat.run (X := X64)); exact rfl; (first | exact True.intro | (exact phi) | skip))
      | ((with_reducible apply Sat.drawn); kernel_rfl)
      | ((with_reducible apply DSat.run (X := X64)); exact rfl; (first | exact True.intro | (exact phi) | skip))
      | ((with_reducible apply DSat.fin); kernel_rfl)
      | ((with_reducible apply Sat.call (h)); exact rfl; exact rfl; kernel_rfl; (exact cnv); exact rfl)
      | ((with_reducible apply DSat.call (h)); exact rfl; exact rfl; kernel_rfl; (exact cnv); exact rfl) | fail)
  (refine Sat.fin (Sat.end2 rfl rfl rfl rfl True.intro True.intro (.refl _ pur) (.refl _ pur) (by first | exact .inl rfl | exact .inr rfl) (fun _ h => h)) ?_; (rfl))
end Go.Proofs.YtcnpgmohnclojaaDoor
end
section
namespace Go.Proofs.YtcnpgmohnclojaaDoor
open Go.RowKit V
set_option maxRecDepth 100000
set_option maxHeartbeats 8000000
set_option linter.unusedSimpArgs false
attribute [local irreducible] V.Sat V.DSat
/-- What is read of a code. -/
def decT (M : Rc.Mdl) (s0 : M.σ) (b : List UInt8) (len : Nat) : Option (List UInt8) :=
  match Rc.decL M b len s0 (Rc.wn b 4) 4294967295 4 [] with
  | none => none
  | some x => if Rc.code M s0 x = b then some x else none
def decR (M : Rc.Mdl) (s0 : M.σ) (b : List UInt8) (len : Nat) : List UInt8 := (decT M s0 b len).getD []
def decE (M : Rc.Mdl) (s0 : M.σ) (b : List UInt8) (len : Nat) : Int := if (decT M s0 b len).isSome then 0 else 130
theorem decT_none {M : Rc.Mdl} {s0 : M.σ} {b : List UInt8} {len : Nat} (h : decT M s0 b len = none) : decR M s0 b len = [] ∧ decE M s0 b len = 130 := by
  unfold decR decE
  rw [h]
  exact ⟨rfl, rfl⟩
theorem decT_some {M : Rc.Mdl} {s0 : M.σ} {b x : List UInt8} {len : Nat} (h : decT M s0 b len = some x) : decR M s0 b len = x ∧ decE M s0 b len = 0 := by
  unfold decR decE
  rw [h]
  exact ⟨rfl, rfl⟩
theorem drop_nil_of (b : List UInt8) (k : Nat) (h : b.length ≤ k) : b.drop k = [] := List.drop_eq_nil_of_le h
theorem next_spec (b : List UInt8) (k : Nat) : MFun Tryd.prog [] 25 [] 22 [.ro (.u8 (b.drop k))] [.ro (.u8 (b.drop (k + 1)))] (.int .u64 ((b.getD k 0).toNat : Int)) := by
  refine MFun.mk 6 Tryd.func25 rfl Tryd.ntmps25 rfl rfl fun hf hg T w bb hT hTb => ?_
  by_cases hk : b.length ≤ k
  · have e1 : b.drop k = [] := drop_nil_of b k hk
    have e2 : b.drop (k + 1) = [] := drop_nil_of b (k + 1) (by omega)
    have e3 : b.getD k 0 = 0 := by rw [List.getD_eq_getElem?_getD, List.getElem?_eq_none hk]; rfl
    rw [e1, e2, e3]
    repeat' (first
        | ((with_reducible apply Sat.run (X := XU)); exact rfl; (first | exact True.intro | (exact phi) | skip))
        | ((with_reducible apply Sat.drawn); kernel_rfl)
        | ((with_reducible apply DSat.run (X := XU)); exact rfl; (first | exact True.intro | (exact phi) | skip))
        | ((with_reducible apply DSat.fin); kernel_rfl)
        | ((with_reducible apply Sat.cond_t); exact rfl)
        | ((with_reducible apply Sat.cond_f); exact rfl)
        | ((with_reducible apply Sat.cond_pt); exact rfl; (try dsimp only [V.EV.sub, V.EV.len]); first | assumption | omega)
        | ((with_reducible apply Sat.cond_pf); exact rfl; (try dsimp only [V.EV.sub, V.EV.len]); first | assumption | omega)
        | ((with_reducible apply Sat.cond_p); exact rfl; all_goals (intro h; (try simp only [V.EV.sub, V.EV.len] at h)))
        | ((with_reducible apply Sat.cond); exact rfl; all_goals (intro h; (try simp only [V.EV.sub, V.EV.len, Bool.cond_true_left, Bool.cond_false_right, Bool.or_eq_true, Bool.and_eq_true, Bool.or_eq_false_iff, Bool.and_eq_false_iff, Bool.not_eq_true', Bool.not_eq_false', decide_eq_true_eq, decide_eq_false_iff_not, ne_eq] at h))) | fail)
    exact Sat.mfin (Sat.mend1 hT rfl rfl trivial rfl (.cons _ _ _ _ (.refl _ trivial) .nil) (.refl _ trivial) (.inl rfl) rfl) rfl rfl
  · have hl : 0 < (b.drop k).length := by rw [List.length_drop]; omega
    have h1 : (b.drop k).getD (Int.toNat 0) 0 = b.getD k 0 := by
      show (b.drop k).getD 0 0 = _
      simp only [List.getD_eq_getElem?_getD, List.getElem?_drop, Nat.add_zero]
    have h2 : List.take (((none : Option Nat)).getD (EV.u8 (List.drop k b)).len - (some (Int.toNat 1)).getD 0) (List.drop ((some (Int.toNat 1)).getD 0) (List.drop k b)) = b.drop (k + 1) := by
      show List.take ((b.drop k).length - 1) (List.drop 1 (List.drop k b)) = _
      rw [List.drop_drop, List.take_of_length_le (by rw [List.length_drop, List.length_drop]; omega)]
    repeat' (first
        | ((with_reducible apply Sat.run (X := XU)); exact rfl; (first | exact True.intro | (exact phi) | skip))
        | ((with_reducible apply Sat.drawn); kernel_rfl)
        | ((with_reducible apply DSat.run (X := XU)); exact rfl; (first | exact True.intro | (exact phi) | skip))
        | ((with_reducible apply DSat.fin); kernel_rfl)
        | ((with_reducible apply Sat.cond_t); exact rfl)
        | ((with_reducible apply Sat.cond_f); exact rfl)
        | ((with_reducible apply Sat.cond_pt); exact rfl; (try dsimp only [V.EV.sub, V.EV.len]); first | assumption | omega)
        | ((with_reducible apply Sat.cond_pf); exact rfl; (try dsimp only [V.EV.sub, V.EV.len]); first | assumption | omega)
        | ((with_reducible apply Sat.cond_p); exact rfl; all_goals (intro h; (try simp only [V.EV.sub, V.EV.len] at h)))
        | ((with_reducible apply Sat.cond); exact rfl; all_goals (intro h; (try simp only [V.EV.sub, V.EV.len, Bool.cond_true_left, Bool.cond_false_right, Bool.or_eq_true, Bool.and_eq_true, Bool.or_eq_false_iff, Bool.and_eq_false_iff, Bool.not_eq_true', Bool.not_eq_false', decide_eq_true_eq, decide_eq_false_iff_not, ne_eq] at h))) | fail)
    refine Sat.mfin (Sat.mend1 hT rfl rfl trivial rfl (.cons _ _ _ _ (.refl _ trivial) .nil) (.refl _ trivial) (.inl rfl) rfl) ?_ ?_
    · rw [h1]
    · rw [h2]
theorem dec_nil (n : Int) (h0 : n ≠ 0) (h1 : n ≠ 1) (h2 : n ≠ 2) (b : List UInt8) (len : Int) : Fun Tryd.prog [] 15 [.int .i64 n, .ro (.u8 b), .int .i64 len] (.tup [.ro (.u8 []), .int .i64 130]) := by
  have hb := begin_nil n h0 h1 h2
  refine Fun.mkF 7 Tryd.func15 rfl Tryd.ntmps15 rfl rfl fun hf T w0 => ?_
  repeat' (first
      | ((with_reducible apply Sat.eqnil); exact rfl; exact ⟨_, rfl⟩; exact rfl)
      | ((with_reducible apply Sat.run (X := X64)); exact rfl; (first | exact True.intro | (exact phi) | skip))
      | ((with_reducible apply Sat.drawn); kernel_rfl)
      | ((with_reducible apply DSat.run (X := X64)); exact rfl; (first | exact True.intro | (exact phi) | skip))
      | ((with_reducible apply DSat.fin); kernel_rfl)
      | ((with_reducible apply Sat.callR (hb)); exact rfl; exact rfl; exact rfl; kernel_rfl; (exact cnv); exact rfl)
      | ((with_reducible apply DSat.callR (hb)); exact rfl; exact rfl; exact rfl; kernel_rfl; (exact cnv); exact rfl)
      | ((with_reducible apply Sat.cond_t); exact rfl)
      | ((with_reducible apply Sat.cond_f); exact rfl)
      | ((with_reducible apply Sat.cond_pt); exact rfl; (try dsimp only [V.EV.sub, V.EV.len]); first | assumption | omega)
      | ((with_reducible apply Sat.cond_pf); exact rfl; (try dsimp only [V.EV.sub, V.EV.len]); first | assumption | omega)
      | ((with_reducible apply Sat.cond_p); exact rfl; all_goals (intro h; (try simp only [V.EV.sub, V.EV.len] at h)))
      | ((with_reducible apply Sat.cond); exact rfl; all_goals (intro h; (try simp only [V.EV.sub, V.EV.len, Bool.cond_true_left, Bool.cond_false_right, Bool.or_eq_true, Bool.and_eq_true, Bool.or_eq_false_iff, Bool.and_eq_false_iff, Bool.not_eq_true', Bool.not_eq_false', decide_eq_true_eq, decide_eq_false_iff_not, ne_eq] at h))) | fail)
  refine Sat.fin (Sat.end2 rfl rfl rfl rfl True.intro True.intro (.nils _ rfl) (.refl _ trivial) (by first | exact .inl rfl | exact .inr rfl) (fun _ h => h)) rfl
theorem bif_t {p q : Prop} [Decidable p] [Decidable q] (h : (bif decide p then decide q else false) = true) : p ∧ q := by
  by_cases hp : p
  · rw [decide_eq_true hp] at h
    exact ⟨hp, of_decide_eq_true h⟩
  · rw [decide_eq_false hp] at h
    cases h
theorem bif_f {p q : Prop} [Decidable p] [Decidable q] (h : (bif decide p then decide q else false) = false) : ¬ (p ∧ q) := fun ⟨h1, h2⟩ => by
  rw [decide_eq_true h1, decide_eq_true h2] at h
  cases h
theorem wn_lt (b : List UInt8) : ∀ k, Rc.wn b k < 256 ^ k
  | 0 => Nat.one_pos
  | k + 1 => by
    have h1 := wn_lt b k
    have h2 := (b.getD k 0).toNat_lt
    rw [Rc.wn, Nat.pow_succ]
    omega
theorem dec_spec0 {M : Rc.Mdl} (I : Impl Tryd.prog M) (hty : I.ty = 80) (hg : ∀ s, I.tl s = []) (n : Int) (s0 : M.σ) (hs0 : M.inv s0) (hb : Begins I n s0) (hE : ∀ x : List UInt8, x.length ≤ 65536 → Fun Tryd.prog [] 13 [.int .i64 n, .ro (.u8 x)] (.tup [.ro (.u8 (Rc.code M s0 x)), .int .i64 0])) (b : List UInt8) (len : Nat) (hlen : len ≤ 65536) :
    Fun Tryd.prog [] 15 [.int .i64 n, .ro (.u8 b), .int .i64 (len : Int)] (.tup [.ro (.u8 (decR M s0 b len)), .int .i64 (decE M s0 b len)]) := by
  refine Fun.mkF 8 Tryd.func15 rfl Tryd.ntmps15 rfl rfl fun hf T w0 => ?_
  refine Sat.top rfl rfl rfl fun top => ?_
  repeat' (first
      | ((with_reducible apply Sat.run (X := XU)); exact rfl; (first | exact True.intro | (fail) | skip))
      | ((with_reducible apply Sat.drawn); kernel_rfl)
      | ((with_reducible apply DSat.run (X := XU)); exact rfl; (first | exact True.intro | (fail) | skip))
      | ((with_reducible apply DSat.fin); kernel_rfl) | fail)
  refine Sat.begins (C := cx Tryd.prog 128 T w0) (I := I) (s := s0) (f := 22) (svs := [.int .i64 n]) top hb rfl rfl (by kernel_rfl) (fun _ => rfl) fun v W S Sm hat => ?_
  repeat' (first
      | ((with_reducible apply Sat.run (X := XU)); exact rfl; (first | exact True.intro | (exact phi) | skip))
      | ((with_reducible apply Sat.drawn); kernel_rfl)
      | ((with_reducible apply DSat.run (X := XU)); exact rfl; (first | exact True.intro | (exact phi) | skip))
      | ((with_reducible apply DSat.fin); kernel_rfl)
      | ((with_reducible apply Sat.cond_t); exact rfl)
      | ((with_reducible apply Sat.cond_f); exact rfl)
      | ((with_reducible apply Sat.cond_pt); exact rfl; (try dsimp only [V.EV.sub, V.EV.len]); first | assumption | omega)
      | ((with_reducible apply Sat.cond_pf); exact rfl; (try dsimp only [V.EV.sub, V.EV.len]); first | assumption | omega)
      | ((with_reducible apply Sat.cond_p); exact rfl; all_goals (intro h; (try simp only [V.EV.sub, V.EV.len] at h)))
      | ((with_reducible apply Sat.cond); exact rfl; all_goals (intro h; (try simp only [V.EV.sub, V.EV.len, Bool.cond_true_left, Bool.cond_false_right, Bool.or_eq_true, Bool.and_eq_true, Bool.or_eq_false_iff, Bool.and_eq_false_iff, Bool.not_eq_true', Bool.not_eq_false', decide_eq_true_eq, decide_eq_false_iff_not, ne_eq] at h))) | fail)
  apply Sat.loop (α := Nat) (fun x => x ≤ 4) (fun x => 4 - x) 0 (fun x => [(35, .int .i64 (x : Int)), (11, .int .u64 (Rc.wn b x : Int))]) (fun x => [(0, .cells 22 [.ro (.u8 (b.drop x))])]) [] [] 0
  · intro x; exact rfl
  · intro x; exact rfl
  · exact rfl
  · exact rfl
  · ((repeat' (first | exact AllP.nil | with_reducible refine AllP.cons ?_ ?_)) <;> first | exact rfl | exact trivial | exact Int.natCast_add_one _ | exact ⟨rfl, rfl⟩ | exact ⟨rfl, rfl, rfl⟩ | exact ⟨rfl, rfl, rfl, rfl⟩ | exact ⟨rfl, .inl rfl⟩ | exact ⟨rfl, .inr rfl⟩ | exact pur)
  · exact Nat.zero_le _
  intro x hx
  have hwl := wn_lt b x
  have hwl2 : Rc.wn b x < 4294967296 := Nat.lt_of_lt_of_le hwl (Nat.pow_le_pow_right (by decide) hx)
  repeat' (first
      | ((with_reducible apply Sat.run (X := XU)); exact rfl; (first | exact True.intro | (fail) | skip))
      | ((with_reducible apply Sat.drawn); kernel_rfl)
      | ((with_reducible apply DSat.run (X := XU)); exact rfl; (first | exact True.intro | (fail) | skip))
      | ((with_reducible apply DSat.fin); kernel_rfl) | fail)
  with_reducible apply Sat.cond_p
  · exact rfl
  · intro h
    have hnx := next_spec b x
    have hd := (b.getD x 0).toNat_lt
    have hwl3 : Rc.wn b x * 256 < 1099511627776 := by omega
    repeat' (first
        | ((with_reducible apply Sat.run (X := XU)); exact rfl; (first | exact True.intro | (fail) | skip))
        | ((with_reducible apply Sat.drawn); kernel_rfl)
        | ((with_reducible apply DSat.run (X := XU)); exact rfl; (first | exact True.intro | (fail) | skip))
        | ((with_reducible apply DSat.fin); kernel_rfl)
        | ((with_reducible apply Sat.mcall (hnx)); exact rfl; exact rfl; kernel_rfl; (exact cnv); exact rfl; exact pur; exact rfl; exact rfl)
        | ((with_reducible apply DSat.mcall (hnx)); exact rfl; exact rfl; kernel_rfl; (exact cnv); exact rfl; exact pur; exact rfl; exact rfl) | fail)
    · exact .cons (inR_u64 (by omega) (by omega)) .nil
    · exact .cons (inR_i64 (by omega) (by omega)) (.cons (inR_u64 (by omega) (by omega)) .nil)
    · refine Sat.back (x + 1) [] rfl ?_ ?_ ?_
      · ((repeat' (first | exact AllP.nil | with_reducible refine AllP.cons ?_ ?_)) <;> first | exact rfl | exact trivial | exact Int.natCast_add_one _ | exact ⟨rfl, rfl⟩ | exact ⟨rfl, rfl, rfl⟩ | exact ⟨rfl, rfl, rfl, rfl⟩ | exact ⟨rfl, .inl rfl⟩ | exact ⟨rfl, .inr rfl⟩ | exact pur | (show (Rc.wn b x : Int) * 256 + ((b.getD x 0).toNat : Int) = ((Rc.wn b x * 256 + (b.getD x 0).toNat : Nat) : Int); omega))
      · omega
      · omega
  intro h
  obtain rfl : x = 4 := by omega
  obtain ⟨D, hD⟩ : ∃ D, Rc.decL M b len s0 (Rc.wn b 4) 4294967295 4 [] = D := ⟨_, rfl⟩
  repeat' (first
      | ((with_reducible apply Sat.run (X := XU)); exact rfl; (first | exact True.intro | (fail) | skip))
      | ((with_reducible apply Sat.drawn); kernel_rfl)
      | ((with_reducible apply DSat.run (X := XU)); exact rfl; (first | exact True.intro | (fail) | skip))
      | ((with_reducible apply DSat.fin); kernel_rfl) | fail)
  · exact .cons ⟨by omega, by omega, by show (1 : Int) * (len : Int) ≤ 281474976710656; omega, by omega⟩ .nil
  refine Sat.kill [44] rfl ?_
  refine Sat.loopM (C := cx Tryd.prog 128 T w0) (I := I) (M := M) (α := Nat × M.σ × (Nat × Nat × Nat) × List UInt8) (fun x => x.2.1) (fun x => x.1 ≤ len ∧ M.inv x.2.1 ∧ Hd (Rc.decL M b (len - x.1) x.2.1 x.2.2.1.1 x.2.2.1.2.1 x.2.2.1.2.2 x.2.2.2 = D) ∧ x.2.2.1.1 < 4294967296 ∧ 16777216 ≤ x.2.2.1.2.1 ∧ x.2.2.1.2.1 < 4294967296 ∧ x.2.2.2.length = x.1) (fun x => len - x.1) (0, s0, (Rc.wn b 4, 4294967295, 4), [])
    (fun x => [(46, .int .i64 (x.1 : Int)), (13, .row 1 0 1 0 x.2.2.2.length), (11, .int .u64 (x.2.2.1.1 : Int)), (12, .int .u64 (x.2.2.1.2.1 : Int))]) (fun x => [(0, .cells 22 [.ro (.u8 (b.drop x.2.2.1.2.2))]), (1, .row 5 (.u8 x.2.2.2))]) [] [] 0 (fun x => rfl) (fun x => rfl) rfl rfl ?_ ?_ hat ?_
  · ((repeat' (first | exact AllP.nil | with_reducible refine AllP.cons ?_ ?_)) <;> first | exact rfl | exact trivial | exact Int.natCast_add_one _ | exact ⟨rfl, rfl⟩ | exact ⟨rfl, rfl, rfl⟩ | exact ⟨rfl, rfl, rfl, rfl⟩ | exact ⟨rfl, .inl rfl⟩ | exact ⟨rfl, .inr rfl⟩ | exact pur)
  · exact ⟨Nat.zero_le _, hs0, ⟨hD⟩, hwl2, by dsimp only; omega, by dsimp only; omega, rfl⟩
  rintro ⟨i, s, ⟨a, size, k⟩, out⟩ W S Sm ⟨hi, hs, hdl, ha, hlo, hhi, ho⟩ hat
  dsimp only at hi hs hdl ha hlo hhi ho hat
  have hT := M.tab s hs
  have ht1 := hT.tpos
  have ht2 := hT.big
  repeat' (first
      | ((with_reducible apply Sat.run (X := XU)); exact rfl; (first | exact True.intro | (fail) | skip))
      | ((with_reducible apply Sat.drawn); kernel_rfl)
      | ((with_reducible apply DSat.run (X := XU)); exact rfl; (first | exact True.intro | (fail) | skip))
      | ((with_reducible apply DSat.fin); kernel_rfl) | fail)
  with_reducible apply Sat.cond_p
  · exact rfl
  · intro hil
    dsimp only at hil
    have hil : i < len := by omega
    repeat' (first
        | ((with_reducible apply Sat.run (X := XU)); exact rfl; (first | exact True.intro | (fail) | skip))
        | ((with_reducible apply Sat.drawn); kernel_rfl)
        | ((with_reducible apply DSat.run (X := XU)); exact rfl; (first | exact True.intro | (fail) | skip))
        | ((with_reducible apply DSat.fin); kernel_rfl) | fail)
    refine Sat.counts (C := cx Tryd.prog 128 T w0) (I := I) top hs hat rfl rfl rfl (by omega) fun p W S Sm hat => ?_
    rw [hg, hty]
    dsimp only
    obtain ⟨L, hL⟩ : ∃ L, L = M.l s := ⟨_, rfl⟩
    obtain ⟨R, hR⟩ : ∃ R, R = size / M.t s := ⟨_, rfl⟩
    have hRi : Hd ((size : Int) / (M.t s : Int) = (R : Int)) := ⟨by rw [hR, Int.natCast_ediv]⟩
    repeat' (first
        | ((with_reducible apply Sat.run (X := XU)); exact rfl; (first | exact True.intro | (fail) | skip))
        | ((with_reducible apply Sat.drawn); kernel_rfl)
        | ((with_reducible apply DSat.run (X := XU)); exact rfl; (first | exact True.intro | (fail) | skip))
        | ((with_reducible apply DSat.fin); kernel_rfl) | fail)
    · exact .cons (⟨by omega, by omega⟩) .nil
    rw [hRi.h]
    apply Sat.loop (α := Nat) (fun c => c ≤ 255 ∧ Hd (Rc.findC (M.l s) R a c = Rc.findC (M.l s) R a 0) ∧ Hd (R * Rc.bef (M.l s) c ≤ a)) (fun c => 255 - c) 0 (fun c => [(17, .int .i64 (c : Int)), (18, .int .u64 (Rc.bef (M.l s) c : Int))]) (fun _ => []) [] [] 0
    · intro x; exact rfl
    · intro x; exact rfl
    · exact rfl
    · exact rfl
    · ((repeat' (first | exact AllP.nil | with_reducible refine AllP.cons ?_ ?_)) <;> first | exact rfl | exact trivial | exact Int.natCast_add_one _ | exact ⟨rfl, rfl⟩ | exact ⟨rfl, rfl, rfl⟩ | exact ⟨rfl, rfl, rfl, rfl⟩ | exact ⟨rfl, .inl rfl⟩ | exact ⟨rfl, .inr rfl⟩ | exact pur)
    · exact ⟨by omega, ⟨rfl⟩, ⟨by show R * 0 ≤ a; omega⟩⟩
    rintro c ⟨hc, hf1, hf2⟩
    have hlc : (castL (M.l s)).length = 256 := by rw [castL_len, hT.len]
    obtain ⟨NB, hNB⟩ : ∃ NB, NB = Rc.bef (M.l s) (c + 1) := ⟨_, rfl⟩
    have hbs : Rc.bef (M.l s) (c + 1) = Rc.bef (M.l s) c + (M.l s).getD c 0 := Rc.bef_succ _ _ (by rw [hT.len]; omega)
    have hcg : Hd ((castL (M.l s)).getD (c : Int).toNat 0 = ((M.l s).getD c 0 : Nat)) := ⟨by rw [Int.toNat_natCast]; exact castL_get _ _ (by rw [hT.len]; omega)⟩
    have hsum : Hd ((Rc.bef (M.l s) c : Int) + (castL (M.l s)).getD (c : Int).toNat 0 = (NB : Int)) := ⟨by rw [hcg.h, hNB, hbs]; omega⟩
    obtain ⟨RN, hRN⟩ : ∃ RN, RN = R * NB := ⟨_, rfl⟩
    have hmul : Hd ((R : Int) * (NB : Int) = (RN : Int)) := ⟨by rw [hRN, Int.natCast_mul]⟩
    have hNt : NB ≤ M.t s := by rw [hNB, hT.tot]; exact Rc.bef_le _ _
    have hRs : R * M.t s ≤ size := by rw [hR]; exact Nat.div_mul_le_self _ _
    have hRN2 : RN ≤ size := by rw [hRN]; exact Nat.le_trans (Nat.mul_le_mul_left _ hNt) hRs
    repeat' (first
        | ((with_reducible apply Sat.run (X := XU)); exact rfl; (first | exact True.intro | (fail) | skip))
        | ((with_reducible apply Sat.drawn); kernel_rfl)
        | ((with_reducible apply DSat.run (X := XU)); exact rfl; (first | exact True.intro | (fail) | skip))
        | ((with_reducible apply DSat.fin); kernel_rfl) | fail)
    · rw [hsum.h, hmul.h]
      dsimp only
      ((repeat' (first | exact AllP.nil | with_reducible refine AllP.cons ?_ ?_)) <;> first | exact rfl | exact trivial | exact Int.natCast_add_one _ | exact ⟨rfl, rfl⟩ | exact ⟨rfl, rfl, rfl⟩ | exact ⟨rfl, rfl, rfl, rfl⟩ | exact ⟨rfl, .inl rfl⟩ | exact ⟨rfl, .inr rfl⟩ | exact pur | exact id | (intro _; exact inR_u64 (by omega) (by omega)) | (intro _; show c < (castL (M.l s)).length; omega) | (intro _; exact ⟨by omega, by omega⟩))
    rw [hsum.h, hmul.h]
    with_reducible apply Sat.cond
    · exact rfl
    · intro h
      have h := bif_t h
      have h1 : c < 255 := by omega
      have h2 : RN ≤ a := by omega
      repeat' (first
          | ((with_reducible apply Sat.run (X := XU)); exact rfl; (first | exact True.intro | (fail) | skip))
          | ((with_reducible apply Sat.drawn); kernel_rfl)
          | ((with_reducible apply DSat.run (X := XU)); exact rfl; (first | exact True.intro | (fail) | skip))
          | ((with_reducible apply DSat.fin); kernel_rfl) | fail)
      · rw [hsum.h]
        exact .cons (inR_i64 (by omega) (by omega)) (.cons (inR_u64 (by omega) (by omega)) (.cons (by show c < (castL (M.l s)).length; omega) (.cons ⟨by omega, by omega⟩ .nil)))
      · rw [hsum.h]
        refine Sat.back (c + 1) [] rfl ?_ ⟨?_, ⟨?_⟩, ⟨?_⟩⟩ ?_
        · ((repeat' (first | exact AllP.nil | with_reducible refine AllP.cons ?_ ?_)) <;> first | exact rfl | exact trivial | exact Int.natCast_add_one _ | exact ⟨rfl, rfl⟩ | exact ⟨rfl, rfl, rfl⟩ | exact ⟨rfl, rfl, rfl, rfl⟩ | exact ⟨rfl, .inl rfl⟩ | exact ⟨rfl, .inr rfl⟩ | exact pur | (show ((NB : Nat) : Int) = ((Rc.bef (M.l s) (c + 1) : Nat) : Int); rw [hNB]))
        · omega
        · have q := hf1.h
          rw [Rc.findC, if_pos ⟨h1, by rw [← hNB, ← hRN]; exact h2⟩] at q
          exact q
        · rw [← hNB, ← hRN]; exact h2
        · omega
    · intro h
      have h := bif_f h
      have hcf : Rc.findC (M.l s) R a 0 = c := by
        rw [← hf1.h, Rc.findC, if_neg]
        rintro ⟨q1, q2⟩
        rw [← hNB, ← hRN] at q2
        exact h ⟨by omega, by omega⟩
      obtain ⟨RB, hRB⟩ : ∃ RB, RB = R * Rc.bef (M.l s) c := ⟨_, rfl⟩
      have hRBi : Hd ((R : Int) * (Rc.bef (M.l s) c : Int) = (RB : Int)) := ⟨by rw [hRB, Int.natCast_mul]⟩
      obtain ⟨RK, hRK⟩ : ∃ RK, RK = R * (M.l s).getD c 0 := ⟨_, rfl⟩
      have hRKi : Hd ((R : Int) * (castL (M.l s)).getD (c : Int).toNat 0 = (RK : Int)) := ⟨by rw [hcg.h, hRK, Int.natCast_mul]⟩
      have hRBa : RB ≤ a := by rw [hRB]; exact hf2.h
      have hBK : RB + RK ≤ size := by rw [hRB, hRK, ← Nat.mul_add, ← hbs, ← hNB, ← hRN]; exact hRN2
      have hun : len - i = (len - (i + 1)) + 1 := by omega
      have hdl2 := hdl.h
      rw [hun, Rc.decL, ← hR, hcf, ← hRB, ← hRK] at hdl2
      repeat' (first
          | ((with_reducible apply Sat.run (X := XU)); exact rfl; (first | exact True.intro | (fail) | skip))
          | ((with_reducible apply Sat.drawn); kernel_rfl)
          | ((with_reducible apply DSat.run (X := XU)); exact rfl; (first | exact True.intro | (fail) | skip))
          | ((with_reducible apply DSat.fin); kernel_rfl) | fail)
      · rw [hRBi.h, hRKi.h]
        ((repeat' (first | exact AllP.nil | with_reducible refine AllP.cons ?_ ?_)) <;> first | exact rfl | exact trivial | (show c < (castL (M.l s)).length; omega) | (apply inR_i64 <;> omega) | (apply inR_u64 <;> omega) | (apply inR_u32 <;> omega) | (apply inR_u8' <;> omega) | omega | (repeat' (with_reducible apply And.intro)) <;> (first | omega | exact rfl | decide))
      rw [hRBi.h, hRKi.h]
      with_reducible apply Sat.cond_p
      · exact rfl
      · intro hge
        rw [if_pos (by omega)] at hdl2
        have hdT : decT M s0 b len = none := by
          unfold decT
          rw [hD, ← hdl2]
        refine Sat.up top hat.over ?_
        rw [(decT_none hdT).1, (decT_none hdT).2]
        repeat' (first
            | ((with_reducible apply Sat.run (X := XU)); exact rfl; (first | exact True.intro | (fail) | skip))
            | ((with_reducible apply Sat.drawn); kernel_rfl)
            | ((with_reducible apply DSat.run (X := XU)); exact rfl; (first | exact True.intro | (fail) | skip))
            | ((with_reducible apply DSat.fin); kernel_rfl) | fail)
        refine Sat.fin (Sat.end2 rfl rfl rfl rfl True.intro True.intro (.nils _ rfl) (.refl _ trivial) (by first | exact .inl rfl | exact .inr rfl) (fun _ h => h)) rfl
      · intro hge
        rw [if_neg (by omega)] at hdl2
        rw [show ((a : Int) - (RB : Int)) = ((a - RB : Nat) : Int) by omega]
        repeat' (first
            | ((with_reducible apply Sat.run (X := XU)); exact rfl; (first | exact True.intro | (fail) | skip))
            | ((with_reducible apply Sat.drawn); kernel_rfl)
            | ((with_reducible apply DSat.run (X := XU)); exact rfl; (first | exact True.intro | (fail) | skip))
            | ((with_reducible apply DSat.fin); kernel_rfl) | fail)
        apply Sat.loop (α := Nat × Nat × Nat) (fun x => Hd (Rc.normD b x.1 x.2.1 x.2.2 = Rc.normD b (a - RB) RK k) ∧ x.1 < x.2.1 ∧ x.2.1 < 4294967296) (fun x => 16777216 - x.2.1) (a - RB, RK, k) (fun x => [(11, .int .u64 (x.1 : Int)), (12, .int .u64 (x.2.1 : Int))]) (fun x => [(0, .cells 22 [.ro (.u8 (b.drop x.2.2))])]) [] [] 0
        · intro x; exact rfl
        · intro x; exact rfl
        · exact rfl
        · exact rfl
        · ((repeat' (first | exact AllP.nil | with_reducible refine AllP.cons ?_ ?_)) <;> first | exact rfl | exact trivial | exact Int.natCast_add_one _ | exact ⟨rfl, rfl⟩ | exact ⟨rfl, rfl, rfl⟩ | exact ⟨rfl, rfl, rfl, rfl⟩ | exact ⟨rfl, .inl rfl⟩ | exact ⟨rfl, .inr rfl⟩ | exact pur)
        · exact ⟨⟨rfl⟩, by dsimp only; omega, by dsimp only; omega⟩
        rintro ⟨a1, sz1, k1⟩ ⟨z1, z2, z3⟩
        dsimp only at z1 z2 z3 ⊢
        have hnx := next_spec b k1
        have hd := (b.getD k1 0).toNat_lt
        repeat' (first
            | ((with_reducible apply Sat.run (X := XU)); exact rfl; (first | exact True.intro | (fail) | skip))
            | ((with_reducible apply Sat.drawn); kernel_rfl)
            | ((with_reducible apply DSat.run (X := XU)); exact rfl; (first | exact True.intro | (fail) | skip))
            | ((with_reducible apply DSat.fin); kernel_rfl) | fail)
        with_reducible apply Sat.cond_p
        · exact rfl
        · intro h
          repeat' (first
              | ((with_reducible apply Sat.run (X := XU)); exact rfl; (first | exact True.intro | (fail) | skip))
              | ((with_reducible apply Sat.drawn); kernel_rfl)
              | ((with_reducible apply DSat.run (X := XU)); exact rfl; (first | exact True.intro | (fail) | skip))
              | ((with_reducible apply DSat.fin); kernel_rfl)
              | ((with_reducible apply Sat.mcall (hnx)); exact rfl; exact rfl; kernel_rfl; (exact cnv); exact rfl; exact pur; exact rfl; exact rfl)
              | ((with_reducible apply DSat.mcall (hnx)); exact rfl; exact rfl; kernel_rfl; (exact cnv); exact rfl; exact pur; exact rfl; exact rfl) | fail)
          · exact .cons (inR_u64 (by omega) (by omega)) .nil
          · exact .cons (inR_u64 (by omega) (by omega)) (.cons (inR_u64 (by omega) (by omega)) .nil)
          · refine Sat.back (a1 * 256 + (b.getD k1 0).toNat, sz1 * 256, k1 + 1) [] rfl ?_ ⟨⟨?_⟩, ?_, ?_⟩ ?_
            · ((repeat' (first | exact AllP.nil | with_reducible refine AllP.cons ?_ ?_)) <;> first | exact rfl | exact trivial | exact Int.natCast_add_one _ | exact ⟨rfl, rfl⟩ | exact ⟨rfl, rfl, rfl⟩ | exact ⟨rfl, rfl, rfl, rfl⟩ | exact ⟨rfl, .inl rfl⟩ | exact ⟨rfl, .inr rfl⟩ | exact pur | (show (a1 : Int) * 256 + ((b.getD k1 0).toNat : Int) = ((a1 * 256 + (b.getD k1 0).toNat : Nat) : Int); omega) | (show (sz1 : Int) * 256 = ((sz1 * 256 : Nat) : Int); omega))
            · have q := z1.h
              rw [Rc.normD_more (size := sz1) ⟨by omega, by omega⟩] at q
              exact q
            · dsimp only; omega
            · dsimp only; omega
            · dsimp only; omega
        · intro h
          have hnd := z1.h
          rw [Rc.normD_end (size := sz1) (by omega)] at hnd
          rw [← hnd] at hdl2
          have hc8 : (UInt8.ofNat c).toNat = c := UInt8.toNat_ofNat_of_lt' (show c < 256 by omega)
          have hwc : UInt8.ofNat (IntKind.u8.wrap (c : Int)).toNat = UInt8.ofNat c := wrap_ofNat c
          have hwi : IntKind.u8.wrap (c : Int) = ((UInt8.ofNat c).toNat : Int) := by
            rw [hc8]
            simp [IntKind.wrap, IntKind.signed, IntKind.bits]
            omega
          repeat' (first
              | ((with_reducible apply Sat.run (X := XU)); exact rfl; (first | exact True.intro | (fail) | skip))
              | ((with_reducible apply Sat.drawn); kernel_rfl)
              | ((with_reducible apply DSat.run (X := XU)); exact rfl; (first | exact True.intro | (fail) | skip))
              | ((with_reducible apply DSat.fin); kernel_rfl) | fail)
          · exact .cons (Nat.le_refl 1) (.cons rfl (.cons (by show (out.length + 1) * (0 + 1) ≤ 140737488355328; omega) .nil))
          · rw [hwc, hwi]
            refine Sat.saws (C := cx Tryd.prog 128 T w0) (I := I) (M := M) (s := s) (c := UInt8.ofNat c) (id := 2) top hs hat rfl rfl (by rw [hg, hty]; rfl) rfl fun W S Sm hat => ?_
            repeat' (first
                | ((with_reducible apply Sat.run (X := XU)); exact rfl; (first | exact True.intro | (fail) | skip))
                | ((with_reducible apply Sat.drawn); kernel_rfl)
                | ((with_reducible apply DSat.run (X := XU)); exact rfl; (first | exact True.intro | (fail) | skip))
                | ((with_reducible apply DSat.fin); kernel_rfl) | fail)
            · exact .cons (inR_i64 (by omega) (by omega)) .nil
            refine Sat.backM (C := cx Tryd.prog 128 T w0) (I := I) ((i + 1, M.saw s (UInt8.ofNat c), (a1, sz1, k1), out ++ [UInt8.ofNat c]) : Nat × M.σ × (Nat × Nat × Nat) × List UInt8) [(1, some 4)] rfl ?_ hat ?_ ?_
            · ((repeat' (first | exact AllP.nil | with_reducible refine AllP.cons ?_ ?_)) <;> first | exact rfl | exact trivial | exact Int.natCast_add_one _ | exact ⟨rfl, rfl⟩ | exact ⟨rfl, rfl, rfl⟩ | exact ⟨rfl, rfl, rfl, rfl⟩ | exact ⟨rfl, .inl rfl⟩ | exact ⟨rfl, .inr rfl⟩ | exact pur | exact ⟨rfl, rfl, rfl, (by rw [List.length_append]; rfl)⟩)
            · dsimp only
              exact ⟨by omega, M.keep s _ hs, ⟨hdl2⟩, by omega, by omega, by omega, by rw [List.length_append, ho]; rfl⟩
            · dsimp only; omega
  · intro hil
    dsimp only at hil
    obtain rfl : i = len := by omega
    have hdl2 := hdl.h
    rw [Nat.sub_self, Rc.decL] at hdl2
    have hEo := hE out (by omega)
    refine Sat.up top hat.over ?_
    dsimp only
    repeat' (first
        | ((with_reducible apply Sat.run (X := XU)); exact rfl; (first | exact True.intro | (fail) | skip))
        | ((with_reducible apply Sat.drawn); kernel_rfl)
        | ((with_reducible apply DSat.run (X := XU)); exact rfl; (first | exact True.intro | (fail) | skip))
        | ((with_reducible apply DSat.fin); kernel_rfl)
        | ((with_reducible apply Sat.freeze true); exact rfl; exact rfl; exact rfl; ((repeat' (first | exact AllP.nil | with_reducible refine AllP.cons ?_ ?_)) <;> (first | exact rfl | exact trivial | exact ⟨rfl, rfl, rfl, rfl⟩ | exact .inl ⟨rfl, rfl, rfl⟩ | (exact .inl ⟨rfl, (by simp [V.EV.len]), rfl⟩) | (intro _; exact rfl) | (intro _; exact trivial))))
        | ((with_reducible apply Sat.call (hEo)); exact rfl; exact rfl; kernel_rfl; (exact cnv); exact rfl)
        | ((with_reducible apply DSat.call (hEo)); exact rfl; exact rfl; kernel_rfl; (exact cnv); exact rfl)
        | ((with_reducible apply Sat.callR ((eq_spec _ _))); exact rfl; exact rfl; exact rfl; kernel_rfl; (exact cnv); exact rfl)
        | ((with_reducible apply DSat.callR ((eq_spec _ _))); exact rfl; exact rfl; exact rfl; kernel_rfl; (exact cnv); exact rfl) | fail)
    by_cases hc : Rc.code M s0 out = b
    · have hdT : decT M s0 b i = some out := by
        unfold decT
        rw [hD, ← hdl2]
        dsimp only
        rw [if_pos hc]
      rw [decide_eq_true hc, (decT_some hdT).1, (decT_some hdT).2]
      repeat' (first
          | ((with_reducible apply Sat.cond_f); exact rfl)
          | ((with_reducible apply Sat.cond_t); exact rfl)
          | ((with_reducible apply Sat.run (X := XU)); exact rfl; (first | exact True.intro | (fail) | skip))
          | ((with_reducible apply Sat.drawn); kernel_rfl)
          | ((with_reducible apply DSat.run (X := XU)); exact rfl; (first | exact True.intro | (fail) | skip))
          | ((with_reducible apply DSat.fin); kernel_rfl) | fail)
      (refine Sat.fin (Sat.end2 rfl rfl rfl rfl True.intro True.intro (.refl _ pur) (.refl _ pur) (by first | exact .inl rfl | exact .inr rfl) (fun _ h => h)) ?_; (rfl))
    · have hdT : decT M s0 b i = none := by
        unfold decT
        rw [hD, ← hdl2]
        dsimp only
        rw [if_neg hc]
      rw [decide_eq_false hc, (decT_none hdT).1, (decT_none hdT).2]
      repeat' (first
          | ((with_reducible apply Sat.cond_f); exact rfl)
          | ((with_reducible apply Sat.cond_t); exact rfl)
          | ((with_reducible apply Sat.run (X := XU)); exact rfl; (first | exact True.intro | (fail) | skip))
          | ((with_reducible apply Sat.drawn); kernel_rfl)
          | ((with_reducible apply DSat.run (X := XU)); exact rfl; (first | exact True.intro | (fail) | skip))
          | ((with_reducible apply DSat.fin); kernel_rfl) | fail)
      refine Sat.fin (Sat.end2 rfl rfl rfl rfl True.intro True.intro (.nils _ rfl) (.refl _ trivial) (by first | exact .inl rfl | exact .inr rfl) (fun _ h => h)) rfl
theorem dec_spec1 {M : Rc.Mdl} (I : Impl Tryd.prog M) (hty : I.ty = 83) (g : M.σ → Int) (hg : ∀ s, I.tl s = [.int .u64 (g s)]) (n : Int) (s0 : M.σ) (hs0 : M.inv s0) (hb : Begins I n s0) (hE : ∀ x : List UInt8, x.length ≤ 65536 → Fun Tryd.prog [] 13 [.int .i64 n, .ro (.u8 x)] (.tup [.ro (.u8 (Rc.code M s0 x)), .int .i64 0])) (b : List UInt8) (len : Nat) (hlen : len ≤ 65536) :
    Fun Tryd.prog [] 15 [.int .i64 n, .ro (.u8 b), .int .i64 (len : Int)] (.tup [.ro (.u8 (decR M s0 b len)), .int .i64 (decE M s0 b len)]) := by
  refine Fun.mkF 8 Tryd.func15 rfl Tryd.ntmps15 rfl rfl fun hf T w0 => ?_
  refine Sat.top rfl rfl rfl fun top => ?_
  repeat' (first
      | ((with_reducible apply Sat.run (X := XU)); exact rfl; (first | exact True.intro | (fail) | skip))
      | ((with_reducible apply Sat.drawn); kernel_rfl)
      | ((with_reducible apply DSat.run (X := XU)); exact rfl; (first | exact True.intro | (fail) | skip))
      | ((with_reducible apply DSat.fin); kernel_rfl) | fail)
  refine Sat.begins (C := cx Tryd.prog 128 T w0) (I := I) (s := s0) (f := 22) (svs := [.int .i64 n]) top hb rfl rfl (by kernel_rfl) (fun _ => rfl) fun v W S Sm hat => ?_
  repeat' (first
      | ((with_reducible apply Sat.run (X := XU)); exact rfl; (first | exact True.intro | (exact phi) | skip))
      | ((with_reducible apply Sat.drawn); kernel_rfl)
      | ((with_reducible apply DSat.run (X := XU)); exact rfl; (first | exact True.intro | (exact phi) | skip))
      | ((with_reducible apply DSat.fin); kernel_rfl)
      | ((with_reducible apply Sat.cond_t); exact rfl)
      | ((with_reducible apply Sat.cond_f); exact rfl)
      | ((with_reducible apply Sat.cond_pt); exact rfl; (try dsimp only [V.EV.sub, V.EV.len]); first | assumption | omega)
      | ((with_reducible apply Sat.cond_pf); exact rfl; (try dsimp only [V.EV.sub, V.EV.len]); first | assumption | omega)
      | ((with_reducible apply Sat.cond_p); exact rfl; all_goals (intro h; (try simp only [V.EV.sub, V.EV.len] at h)))
      | ((with_reducible apply Sat.cond); exact rfl; all_goals (intro h; (try simp only [V.EV.sub, V.EV.len, Bool.cond_true_left, Bool.cond_false_right, Bool.or_eq_true, Bool.and_eq_true, Bool.or_eq_false_iff, Bool.and_eq_false_iff, Bool.not_eq_true', Bool.not_eq_false', decide_eq_true_eq, decide_eq_false_iff_not, ne_eq] at h))) | fail)
  apply Sat.loop (α := Nat) (fun x => x ≤ 4) (fun x => 4 - x) 0 (fun x => [(35, .int .i64 (x : Int)), (11, .int .u64 (Rc.wn b x : Int))]) (fun x => [(0, .cells 22 [.ro (.u8 (b.drop x))])]) [] [] 0
  · intro x; exact rfl
  · intro x; exact rfl
  · exact rfl
  · exact rfl
  · ((repeat' (first | exact AllP.nil | with_reducible refine AllP.cons ?_ ?_)) <;> first | exact rfl | exact trivial | exact Int.natCast_add_one _ | exact ⟨rfl, rfl⟩ | exact ⟨rfl, rfl, rfl⟩ | exact ⟨rfl, rfl, rfl, rfl⟩ | exact ⟨rfl, .inl rfl⟩ | exact ⟨rfl, .inr rfl⟩ | exact pur)
  · exact Nat.zero_le _
  intro x hx
  have hwl := wn_lt b x
  have hwl2 : Rc.wn b x < 4294967296 := Nat.lt_of_lt_of_le hwl (Nat.pow_le_pow_right (by decide) hx)
  repeat' (first
      | ((with_reducible apply Sat.run (X := XU)); exact rfl; (first | exact True.intro | (fail) | skip))
      | ((with_reducible apply Sat.drawn); kernel_rfl)
      | ((with_reducible apply DSat.run (X := XU)); exact rfl; (first | exact True.intro | (fail) | skip))
      | ((with_reducible apply DSat.fin); kernel_rfl) | fail)
  with_reducible apply Sat.cond_p
  · exact rfl
  · intro h
    have hnx := next_spec b x
    have hd := (b.getD x 0).toNat_lt
    have hwl3 : Rc.wn b x * 256 < 1099511627776 := by omega
    repeat' (first
        | ((with_reducible apply Sat.run (X := XU)); exact rfl; (first | exact True.intro | (fail) | skip))
        | ((with_reducible apply Sat.drawn); kernel_rfl)
        | ((with_reducible apply DSat.run (X := XU)); exact rfl; (first | exact True.intro | (fail) | skip))
        | ((with_reducible apply DSat.fin); kernel_rfl)
        | ((with_reducible apply Sat.mcall (hnx)); exact rfl; exact rfl; kernel_rfl; (exact cnv); exact rfl; exact pur; exact rfl; exact rfl)
        | ((with_reducible apply DSat.mcall (hnx)); exact rfl; exact rfl; kernel_rfl; (exact cnv); exact rfl; exact pur; exact rfl; exact rfl) | fail)
    · exact .cons (inR_u64 (by omega) (by omega)) .nil
    · exact .cons (inR_i64 (by omega) (by omega)) (.cons (inR_u64 (by omega) (by omega)) .nil)
    · refine Sat.back (x + 1) [] rfl ?_ ?_ ?_
      · ((repeat' (first | exact AllP.nil | with_reducible refine AllP.cons ?_ ?_)) <;> first | exact rfl | exact trivial | exact Int.natCast_add_one _ | exact ⟨rfl, rfl⟩ | exact ⟨rfl, rfl, rfl⟩ | exact ⟨rfl, rfl, rfl, rfl⟩ | exact ⟨rfl, .inl rfl⟩ | exact ⟨rfl, .inr rfl⟩ | exact pur | (show (Rc.wn b x : Int) * 256 + ((b.getD x 0).toNat : Int) = ((Rc.wn b x * 256 + (b.getD x 0).toNat : Nat) : Int); omega))
      · omega
      · omega
  intro h
  obtain rfl : x = 4 := by omega
  obtain ⟨D, hD⟩ : ∃ D, Rc.decL M b len s0 (Rc.wn b 4) 4294967295 4 [] = D := ⟨_, rfl⟩
  repeat' (first
      | ((with_reducible apply Sat.run (X := XU)); exact rfl; (first | exact True.intro | (fail) | skip))
      | ((with_reducible apply Sat.drawn); kernel_rfl)
      | ((with_reducible apply DSat.run (X := XU)); exact rfl; (first | exact True.intro | (fail) | skip))
      | ((with_reducible apply DSat.fin); kernel_rfl) | fail)
  · exact .cons ⟨by omega, by omega, by show (1 : Int) * (len : Int) ≤ 281474976710656; omega, by omega⟩ .nil
  refine Sat.kill [44] rfl ?_
  refine Sat.loopM (C := cx Tryd.prog 128 T w0) (I := I) (M := M) (α := Nat × M.σ × (Nat × Nat × Nat) × List UInt8) (fun x => x.2.1) (fun x => x.1 ≤ len ∧ M.inv x.2.1 ∧ Hd (Rc.decL M b (len - x.1) x.2.1 x.2.2.1.1 x.2.2.1.2.1 x.2.2.1.2.2 x.2.2.2 = D) ∧ x.2.2.1.1 < 4294967296 ∧ 16777216 ≤ x.2.2.1.2.1 ∧ x.2.2.1.2.1 < 4294967296 ∧ x.2.2.2.length = x.1) (fun x => len - x.1) (0, s0, (Rc.wn b 4, 4294967295, 4), [])
    (fun x => [(46, .int .i64 (x.1 : Int)), (13, .row 1 0 1 0 x.2.2.2.length), (11, .int .u64 (x.2.2.1.1 : Int)), (12, .int .u64 (x.2.2.1.2.1 : Int))]) (fun x => [(0, .cells 22 [.ro (.u8 (b.drop x.2.2.1.2.2))]), (1, .row 5 (.u8 x.2.2.2))]) [] [] 0 (fun x => rfl) (fun x => rfl) rfl rfl ?_ ?_ hat ?_
  · ((repeat' (first | exact AllP.nil | with_reducible refine AllP.cons ?_ ?_)) <;> first | exact rfl | exact trivial | exact Int.natCast_add_one _ | exact ⟨rfl, rfl⟩ | exact ⟨rfl, rfl, rfl⟩ | exact ⟨rfl, rfl, rfl, rfl⟩ | exact ⟨rfl, .inl rfl⟩ | exact ⟨rfl, .inr rfl⟩ | exact pur)
  · exact ⟨Nat.zero_le _, hs0, ⟨hD⟩, hwl2, by dsimp only; omega, by dsimp only; omega, rfl⟩
  rintro ⟨i, s, ⟨a, size, k⟩, out⟩ W S Sm ⟨hi, hs, hdl, ha, hlo, hhi, ho⟩ hat
  dsimp only at hi hs hdl ha hlo hhi ho hat
  have hT := M.tab s hs
  have ht1 := hT.tpos
  have ht2 := hT.big
  repeat' (first
      | ((with_reducible apply Sat.run (X := XU)); exact rfl; (first | exact True.intro | (fail) | skip))
      | ((with_reducible apply Sat.drawn); kernel_rfl)
      | ((with_reducible apply DSat.run (X := XU)); exact rfl; (first | exact True.intro | (fail) | skip))
      | ((with_reducible apply DSat.fin); kernel_rfl) | fail)
  with_reducible apply Sat.cond_p
  · exact rfl
  · intro hil
    dsimp only at hil
    have hil : i < len := by omega
    repeat' (first
        | ((with_reducible apply Sat.run (X := XU)); exact rfl; (first | exact True.intro | (fail) | skip))
        | ((with_reducible apply Sat.drawn); kernel_rfl)
        | ((with_reducible apply DSat.run (X := XU)); exact rfl; (first | exact True.intro | (fail) | skip))
        | ((with_reducible apply DSat.fin); kernel_rfl) | fail)
    refine Sat.counts (C := cx Tryd.prog 128 T w0) (I := I) top hs hat rfl rfl rfl (by omega) fun p W S Sm hat => ?_
    rw [hg, hty]
    dsimp only
    obtain ⟨L, hL⟩ : ∃ L, L = M.l s := ⟨_, rfl⟩
    obtain ⟨R, hR⟩ : ∃ R, R = size / M.t s := ⟨_, rfl⟩
    have hRi : Hd ((size : Int) / (M.t s : Int) = (R : Int)) := ⟨by rw [hR, Int.natCast_ediv]⟩
    repeat' (first
        | ((with_reducible apply Sat.run (X := XU)); exact rfl; (first | exact True.intro | (fail) | skip))
        | ((with_reducible apply Sat.drawn); kernel_rfl)
        | ((with_reducible apply DSat.run (X := XU)); exact rfl; (first | exact True.intro | (fail) | skip))
        | ((with_reducible apply DSat.fin); kernel_rfl) | fail)
    · exact .cons (⟨by omega, by omega⟩) .nil
    rw [hRi.h]
    apply Sat.loop (α := Nat) (fun c => c ≤ 255 ∧ Hd (Rc.findC (M.l s) R a c = Rc.findC (M.l s) R a 0) ∧ Hd (R * Rc.bef (M.l s) c ≤ a)) (fun c => 255 - c) 0 (fun c => [(17, .int .i64 (c : Int)), (18, .int .u64 (Rc.bef (M.l s) c : Int))]) (fun _ => []) [] [] 0
    · intro x; exact rfl
    · intro x; exact rfl
    · exact rfl
    · exact rfl
    · ((repeat' (first | exact AllP.nil | with_reducible refine AllP.cons ?_ ?_)) <;> first | exact rfl | exact trivial | exact Int.natCast_add_one _ | exact ⟨rfl, rfl⟩ | exact ⟨rfl, rfl, rfl⟩ | exact ⟨rfl, rfl, rfl, rfl⟩ | exact ⟨rfl, .inl rfl⟩ | exact ⟨rfl, .inr rfl⟩ | exact pur)
    · exact ⟨by omega, ⟨rfl⟩, ⟨by show R * 0 ≤ a; omega⟩⟩
    rintro c ⟨hc, hf1, hf2⟩
    have hlc : (castL (M.l s)).length = 256 := by rw [castL_len, hT.len]
    obtain ⟨NB, hNB⟩ : ∃ NB, NB = Rc.bef (M.l s) (c + 1) := ⟨_, rfl⟩
    have hbs : Rc.bef (M.l s) (c + 1) = Rc.bef (M.l s) c + (M.l s).getD c 0 := Rc.bef_succ _ _ (by rw [hT.len]; omega)
    have hcg : Hd ((castL (M.l s)).getD (c : Int).toNat 0 = ((M.l s).getD c 0 : Nat)) := ⟨by rw [Int.toNat_natCast]; exact castL_get _ _ (by rw [hT.len]; omega)⟩
    have hsum : Hd ((Rc.bef (M.l s) c : Int) + (castL (M.l s)).getD (c : Int).toNat 0 = (NB : Int)) := ⟨by rw [hcg.h, hNB, hbs]; omega⟩
    obtain ⟨RN, hRN⟩ : ∃ RN, RN = R * NB := ⟨_, rfl⟩
    have hmul : Hd ((R : Int) * (NB : Int) = (RN : Int)) := ⟨by rw [hRN, Int.natCast_mul]⟩
    have hNt : NB ≤ M.t s := by rw [hNB, hT.tot]; exact Rc.bef_le _ _
    have hRs : R * M.t s ≤ size := by rw [hR]; exact Nat.div_mul_le_self _ _
    have hRN2 : RN ≤ size := by rw [hRN]; exact Nat.le_trans (Nat.mul_le_mul_left _ hNt) hRs
    repeat' (first
        | ((with_reducible apply Sat.run (X := XU)); exact rfl; (first | exact True.intro | (fail) | skip))
        | ((with_reducible apply Sat.drawn); kernel_rfl)
        | ((with_reducible apply DSat.run (X := XU)); exact rfl; (first | exact True.intro | (fail) | skip))
        | ((with_reducible apply DSat.fin); kernel_rfl) | fail)
    · rw [hsum.h, hmul.h]
      dsimp only
      ((repeat' (first | exact AllP.nil | with_reducible refine AllP.cons ?_ ?_)) <;> first | exact rfl | exact trivial | exact Int.natCast_add_one _ | exact ⟨rfl, rfl⟩ | exact ⟨rfl, rfl, rfl⟩ | exact ⟨rfl, rfl, rfl, rfl⟩ | exact ⟨rfl, .inl rfl⟩ | exact ⟨rfl, .inr rfl⟩ | exact pur | exact id | (intro _; exact inR_u64 (by omega) (by omega)) | (intro _; show c < (castL (M.l s)).length; omega) | (intro _; exact ⟨by omega, by omega⟩))
    rw [hsum.h, hmul.h]
    with_reducible apply Sat.cond
    · exact rfl
    · intro h
      have h := bif_t h
      have h1 : c < 255 := by omega
      have h2 : RN ≤ a := by omega
      repeat' (first
          | ((with_reducible apply Sat.run (X := XU)); exact rfl; (first | exact True.intro | (fail) | skip))
          | ((with_reducible apply Sat.drawn); kernel_rfl)
          | ((with_reducible apply DSat.run (X := XU)); exact rfl; (first | exact True.intro | (fail) | skip))
          | ((with_reducible apply DSat.fin); kernel_rfl) | fail)
      · rw [hsum.h]
        exact .cons (inR_i64 (by omega) (by omega)) (.cons (inR_u64 (by omega) (by omega)) (.cons (by show c < (castL (M.l s)).length; omega) (.cons ⟨by omega, by omega⟩ .nil)))
      · rw [hsum.h]
        refine Sat.back (c + 1) [] rfl ?_ ⟨?_, ⟨?_⟩, ⟨?_⟩⟩ ?_
        · ((repeat' (first | exact AllP.nil | with_reducible refine AllP.cons ?_ ?_)) <;> first | exact rfl | exact trivial | exact Int.natCast_add_one _ | exact ⟨rfl, rfl⟩ | exact ⟨rfl, rfl, rfl⟩ | exact ⟨rfl, rfl, rfl, rfl⟩ | exact ⟨rfl, .inl rfl⟩ | exact ⟨rfl, .inr rfl⟩ | exact pur | (show ((NB : Nat) : Int) = ((Rc.bef (M.l s) (c + 1) : Nat) : Int); rw [hNB]))
        · omega
        · have q := hf1.h
          rw [Rc.findC, if_pos ⟨h1, by rw [← hNB, ← hRN]; exact h2⟩] at q
          exact q
        · rw [← hNB, ← hRN]; exact h2
        · omega
    · intro h
      have h := bif_f h
      have hcf : Rc.findC (M.l s) R a 0 = c := by
        rw [← hf1.h, Rc.findC, if_neg]
        rintro ⟨q1, q2⟩
        rw [← hNB, ← hRN] at q2
        exact h ⟨by omega, by omega⟩
      obtain ⟨RB, hRB⟩ : ∃ RB, RB = R * Rc.bef (M.l s) c := ⟨_, rfl⟩
      have hRBi : Hd ((R : Int) * (Rc.bef (M.l s) c : Int) = (RB : Int)) := ⟨by rw [hRB, Int.natCast_mul]⟩
      obtain ⟨RK, hRK⟩ : ∃ RK, RK = R * (M.l s).getD c 0 := ⟨_, rfl⟩
      have hRKi : Hd ((R : Int) * (castL (M.l s)).getD (c : Int).toNat 0 = (RK : Int)) := ⟨by rw [hcg.h, hRK, Int.natCast_mul]⟩
      have hRBa : RB ≤ a := by rw [hRB]; exact hf2.h
      have hBK : RB + RK ≤ size := by rw [hRB, hRK, ← Nat.mul_add, ← hbs, ← hNB, ← hRN]; exact hRN2
      have hun : len - i = (len - (i + 1)) + 1 := by omega
      have hdl2 := hdl.h
      rw [hun, Rc.decL, ← hR, hcf, ← hRB, ← hRK] at hdl2
      repeat' (first
          | ((with_reducible apply Sat.run (X := XU)); exact rfl; (first | exact True.intro | (fail) | skip))
          | ((with_reducible apply Sat.drawn); kernel_rfl)
          | ((with_reducible apply DSat.run (X := XU)); exact rfl; (first | exact True.intro | (fail) | skip))
          | ((with_reducible apply DSat.fin); kernel_rfl) | fail)
      · rw [hRBi.h, hRKi.h]
        ((repeat' (first | exact AllP.nil | with_reducible refine AllP.cons ?_ ?_)) <;> first | exact rfl | exact trivial | (show c < (castL (M.l s)).length; omega) | (apply inR_i64 <;> omega) | (apply inR_u64 <;> omega) | (apply inR_u32 <;> omega) | (apply inR_u8' <;> omega) | omega | (repeat' (with_reducible apply And.intro)) <;> (first | omega | exact rfl | decide))
      rw [hRBi.h, hRKi.h]
      with_reducible apply Sat.cond_p
      · exact rfl
      · intro hge
        rw [if_pos (by omega)] at hdl2
        have hdT : decT M s0 b len = none := by
          unfold decT
          rw [hD, ← hdl2]
        refine Sat.up top hat.over ?_
        rw [(decT_none hdT).1, (decT_none hdT).2]
        repeat' (first
            | ((with_reducible apply Sat.run (X := XU)); exact rfl; (first | exact True.intro | (fail) | skip))
            | ((with_reducible apply Sat.drawn); kernel_rfl)
            | ((with_reducible apply DSat.run (X := XU)); exact rfl; (first | exact True.intro | (fail) | skip))
            | ((with_reducible apply DSat.fin); kernel_rfl) | fail)
        refine Sat.fin (Sat.end2 rfl rfl rfl rfl True.intro True.intro (.nils _ rfl) (.refl _ trivial) (by first | exact .inl rfl | exact .inr rfl) (fun _ h => h)) rfl
      · intro hge
        rw [if_neg (by omega)] at hdl2
        rw [show ((a : Int) - (RB : Int)) = ((a - RB : Nat) : Int) by omega]
        repeat' (first
            | ((with_reducible apply Sat.run (X := XU)); exact rfl; (first | exact True.intro | (fail) | skip))
            | ((with_reducible apply Sat.drawn); kernel_rfl)
            | ((with_reducible apply DSat.run (X := XU)); exact rfl; (first | exact True.intro | (fail) | skip))
            | ((with_reducible apply DSat.fin); kernel_rfl) | fail)
        apply Sat.loop (α := Nat × Nat × Nat) (fun x => Hd (Rc.normD b x.1 x.2.1 x.2.2 = Rc.normD b (a - RB) RK k) ∧ x.1 < x.2.1 ∧ x.2.1 < 4294967296) (fun x => 16777216 - x.2.1) (a - RB, RK, k) (fun x => [(11, .int .u64 (x.1 : Int)), (12, .int .u64 (x.2.1 : Int))]) (fun x => [(0, .cells 22 [.ro (.u8 (b.drop x.2.2))])]) [] [] 0
        · intro x; exact rfl
        · intro x; exact rfl
        · exact rfl
        · exact rfl
        · ((repeat' (first | exact AllP.nil | with_reducible refine AllP.cons ?_ ?_)) <;> first | exact rfl | exact trivial | exact Int.natCast_add_one _ | exact ⟨rfl, rfl⟩ | exact ⟨rfl, rfl, rfl⟩ | exact ⟨rfl, rfl, rfl, rfl⟩ | exact ⟨rfl, .inl rfl⟩ | exact ⟨rfl, .inr rfl⟩ | exact pur)
        · exact ⟨⟨rfl⟩, by dsimp only; omega, by dsimp only; omega⟩
        rintro ⟨a1, sz1, k1⟩ ⟨z1, z2, z3⟩
        dsimp only at z1 z2 z3 ⊢
        have hnx := next_spec b k1
        have hd := (b.getD k1 0).toNat_lt
        repeat' (first
            | ((with_reducible apply Sat.run (X := XU)); exact rfl; (first | exact True.intro | (fail) | skip))
            | ((with_reducible apply Sat.drawn); kernel_rfl)
            | ((with_reducible apply DSat.run (X := XU)); exact rfl; (first | exact True.intro | (fail) | skip))
            | ((with_reducible apply DSat.fin); kernel_rfl) | fail)
        with_reducible apply Sat.cond_p
        · exact rfl
        · intro h
          repeat' (first
              | ((with_reducible apply Sat.run (X := XU)); exact rfl; (first | exact True.intro | (fail) | skip))
              | ((with_reducible apply Sat.drawn); kernel_rfl)
              | ((with_reducible apply DSat.run (X := XU)); exact rfl; (first | exact True.intro | (fail) | skip))
              | ((with_reducible apply DSat.fin); kernel_rfl)
              | ((with_reducible apply Sat.mcall (hnx)); exact rfl; exact rfl; kernel_rfl; (exact cnv); exact rfl; exact pur; exact rfl; exact rfl)
              | ((with_reducible apply DSat.mcall (hnx)); exact rfl; exact rfl; kernel_rfl; (exact cnv); exact rfl; exact pur; exact rfl; exact rfl) | fail)
          · exact .cons (inR_u64 (by omega) (by omega)) .nil
          · exact .cons (inR_u64 (by omega) (by omega)) (.cons (inR_u64 (by omega) (by omega)) .nil)
          · refine Sat.back (a1 * 256 + (b.getD k1 0).toNat, sz1 * 256, k1 + 1) [] rfl ?_ ⟨⟨?_⟩, ?_, ?_⟩ ?_
            · ((repeat' (first | exact AllP.nil | with_reducible refine AllP.cons ?_ ?_)) <;> first | exact rfl | exact trivial | exact Int.natCast_add_one _ | exact ⟨rfl, rfl⟩ | exact ⟨rfl, rfl, rfl⟩ | exact ⟨rfl, rfl, rfl, rfl⟩ | exact ⟨rfl, .inl rfl⟩ | exact ⟨rfl, .inr rfl⟩ | exact pur | (show (a1 : Int) * 256 + ((b.getD k1 0).toNat : Int) = ((a1 * 256 + (b.getD k1 0).toNat : Nat) : Int); omega) | (show (sz1 : Int) * 256 = ((sz1 * 256 : Nat) : Int); omega))
            · have q := z1.h
              rw [Rc.normD_more (size := sz1) ⟨by omega, by omega⟩] at q
              exact q
            · dsimp only; omega
            · dsimp only; omega
            · dsimp only; omega
        · intro h
          have hnd := z1.h
          rw [Rc.normD_end (size := sz1) (by omega)] at hnd
          rw [← hnd] at hdl2
          have hc8 : (UInt8.ofNat c).toNat = c := UInt8.toNat_ofNat_of_lt' (show c < 256 by omega)
          have hwc : UInt8.ofNat (IntKind.u8.wrap (c : Int)).toNat = UInt8.ofNat c := wrap_ofNat c
          have hwi : IntKind.u8.wrap (c : Int) = ((UInt8.ofNat c).toNat : Int) := by
            rw [hc8]
            simp [IntKind.wrap, IntKind.signed, IntKind.bits]
            omega
          repeat' (first
              | ((with_reducible apply Sat.run (X := XU)); exact rfl; (first | exact True.intro | (fail) | skip))
              | ((with_reducible apply Sat.drawn); kernel_rfl)
              | ((with_reducible apply DSat.run (X := XU)); exact rfl; (first | exact True.intro | (fail) | skip))
              | ((with_reducible apply DSat.fin); kernel_rfl) | fail)
          · exact .cons (Nat.le_refl 1) (.cons rfl (.cons (by show (out.length + 1) * (0 + 1) ≤ 140737488355328; omega) .nil))
          · rw [hwc, hwi]
            refine Sat.saws (C := cx Tryd.prog 128 T w0) (I := I) (M := M) (s := s) (c := UInt8.ofNat c) (id := 2) top hs hat rfl rfl (by rw [hg, hty]; rfl) rfl fun W S Sm hat => ?_
            repeat' (first
                | ((with_reducible apply Sat.run (X := XU)); exact rfl; (first | exact True.intro | (fail) | skip))
                | ((with_reducible apply Sat.drawn); kernel_rfl)
                | ((with_reducible apply DSat.run (X := XU)); exact rfl; (first | exact True.intro | (fail) | skip))
                | ((with_reducible apply DSat.fin); kernel_rfl) | fail)
            · exact .cons (inR_i64 (by omega) (by omega)) .nil
            refine Sat.backM (C := cx Tryd.prog 128 T w0) (I := I) ((i + 1, M.saw s (UInt8.ofNat c), (a1, sz1, k1), out ++ [UInt8.ofNat c]) : Nat × M.σ × (Nat × Nat × Nat) × List UInt8) [(1, some 4)] rfl ?_ hat ?_ ?_
            · ((repeat' (first | exact AllP.nil | with_reducible refine AllP.cons ?_ ?_)) <;> first | exact rfl | exact trivial | exact Int.natCast_add_one _ | exact ⟨rfl, rfl⟩ | exact ⟨rfl, rfl, rfl⟩ | exact ⟨rfl, rfl, rfl, rfl⟩ | exact ⟨rfl, .inl rfl⟩ | exact ⟨rfl, .inr rfl⟩ | exact pur | exact ⟨rfl, rfl, rfl, (by rw [List.length_append]; rfl)⟩)
            · dsimp only
              exact ⟨by omega, M.keep s _ hs, ⟨hdl2⟩, by omega, by omega, by omega, by rw [List.length_append, ho]; rfl⟩
            · dsimp only; omega
  · intro hil
    dsimp only at hil
    obtain rfl : i = len := by omega
    have hdl2 := hdl.h
    rw [Nat.sub_self, Rc.decL] at hdl2
    have hEo := hE out (by omega)
    refine Sat.up top hat.over ?_
    dsimp only
    repeat' (first
        | ((with_reducible apply Sat.run (X := XU)); exact rfl; (first | exact True.intro | (fail) | skip))
        | ((with_reducible apply Sat.drawn); kernel_rfl)
        | ((with_reducible apply DSat.run (X := XU)); exact rfl; (first | exact True.intro | (fail) | skip))
        | ((with_reducible apply DSat.fin); kernel_rfl)
        | ((with_reducible apply Sat.freeze true); exact rfl; exact rfl; exact rfl; ((repeat' (first | exact AllP.nil | with_reducible refine AllP.cons ?_ ?_)) <;> (first | exact rfl | exact trivial | exact ⟨rfl, rfl, rfl, rfl⟩ | exact .inl ⟨rfl, rfl, rfl⟩ | (exact .inl ⟨rfl, (by simp [V.EV.len]), rfl⟩) | (intro _; exact rfl) | (intro _; exact trivial))))
        | ((with_reducible apply Sat.call (hEo)); exact rfl; exact rfl; kernel_rfl; (exact cnv); exact rfl)
        | ((with_reducible apply DSat.call (hEo)); exact rfl; exact rfl; kernel_rfl; (exact cnv); exact rfl)
        | ((with_reducible apply Sat.callR ((eq_spec _ _))); exact rfl; exact rfl; exact rfl; kernel_rfl; (exact cnv); exact rfl)
        | ((with_reducible apply DSat.callR ((eq_spec _ _))); exact rfl; exact rfl; exact rfl; kernel_rfl; (exact cnv); exact rfl) | fail)
    by_cases hc : Rc.code M s0 out = b
    · have hdT : decT M s0 b i = some out := by
        unfold decT
        rw [hD, ← hdl2]
        dsimp only
        rw [if_pos hc]
      rw [decide_eq_true hc, (decT_some hdT).1, (decT_some hdT).2]
      repeat' (first
          | ((with_reducible apply Sat.cond_f); exact rfl)
          | ((with_reducible apply Sat.cond_t); exact rfl)
          | ((with_reducible apply Sat.run (X := XU)); exact rfl; (first | exact True.intro | (fail) | skip))
          | ((with_reducible apply Sat.drawn); kernel_rfl)
          | ((with_reducible apply DSat.run (X := XU)); exact rfl; (first | exact True.intro | (fail) | skip))
          | ((with_reducible apply DSat.fin); kernel_rfl) | fail)
      (refine Sat.fin (Sat.end2 rfl rfl rfl rfl True.intro True.intro (.refl _ pur) (.refl _ pur) (by first | exact .inl rfl | exact .inr rfl) (fun _ h => h)) ?_; (rfl))
    · have hdT : decT M s0 b i = none := by
        unfold decT
        rw [hD, ← hdl2]
        dsimp only
        rw [if_neg hc]
      rw [decide_eq_false hc, (decT_none hdT).1, (decT_none hdT).2]
      repeat' (first
          | ((with_reducible apply Sat.cond_f); exact rfl)
          | ((with_reducible apply Sat.cond_t); exact rfl)
          | ((with_reducible apply Sat.run (X := XU)); exact rfl; (first | exact True.intro | (fail) | skip))
          | ((with_reducible apply Sat.drawn); kernel_rfl)
          | ((with_reducible apply DSat.run (X := XU)); exact rfl; (first | exact True.intro | (fail) | skip))
          | ((with_reducible apply DSat.fin); kernel_rfl) | fail)
      refine Sat.fin (Sat.end2 rfl rfl rfl rfl True.intro True.intro (.nils _ rfl) (.refl _ trivial) (by first | exact .inl rfl | exact .inr rfl) (fun _ h => h)) rfl
theorem dec_big {M : Rc.Mdl} (I : Impl Tryd.prog M) (n : Int) (s0 : M.σ) (hb : Begins I n s0) (b : List UInt8) (len : Int) (hl : len < 0 ∨ 65536 < len) : Fun Tryd.prog [] 15 [.int .i64 n, .ro (.u8 b), .int .i64 len] (.tup [.ro (.u8 []), .int .i64 130]) := by
  refine Fun.mkF 7 Tryd.func15 rfl Tryd.ntmps15 rfl rfl fun hf T w0 => ?_
  refine Sat.top rfl rfl rfl fun top => ?_
  repeat' (first
      | ((with_reducible apply Sat.run (X := XU)); exact rfl; (first | exact True.intro | (fail) | skip))
      | ((with_reducible apply Sat.drawn); kernel_rfl)
      | ((with_reducible apply DSat.run (X := XU)); exact rfl; (first | exact True.intro | (fail) | skip))
      | ((with_reducible apply DSat.fin); kernel_rfl) | fail)
  refine Sat.begins (C := cx Tryd.prog 128 T w0) (I := I) (s := s0) (f := 22) (svs := [.int .i64 n]) top hb rfl rfl (by kernel_rfl) (fun _ => rfl) fun v W S Sm hat => ?_
  refine Sat.up top hat.over ?_
  by_cases h0 : len < 0
  · repeat' (first
        | ((with_reducible apply Sat.run (X := XU)); exact rfl; (first | exact True.intro | (exact phi) | skip))
        | ((with_reducible apply Sat.drawn); kernel_rfl)
        | ((with_reducible apply DSat.run (X := XU)); exact rfl; (first | exact True.intro | (exact phi) | skip))
        | ((with_reducible apply DSat.fin); kernel_rfl)
        | ((with_reducible apply Sat.cond_t); exact rfl)
        | ((with_reducible apply Sat.cond_f); exact rfl)
        | ((with_reducible apply Sat.cond_pt); exact rfl; (try dsimp only [V.EV.sub, V.EV.len]); first | assumption | omega)
        | ((with_reducible apply Sat.cond_pf); exact rfl; (try dsimp only [V.EV.sub, V.EV.len]); first | assumption | omega)
        | ((with_reducible apply Sat.cond_p); exact rfl; all_goals (intro h; (try simp only [V.EV.sub, V.EV.len] at h)))
        | ((with_reducible apply Sat.cond); exact rfl; all_goals (intro h; (try simp only [V.EV.sub, V.EV.len, Bool.cond_true_left, Bool.cond_false_right, Bool.or_eq_true, Bool.and_eq_true, Bool.or_eq_false_iff, Bool.and_eq_false_iff, Bool.not_eq_true', Bool.not_eq_false', decide_eq_true_eq, decide_eq_false_iff_not, ne_eq] at h))) | fail)
    · refine Sat.fin (Sat.end2 rfl rfl rfl rfl True.intro True.intro (.nils _ rfl) (.refl _ trivial) (by first | exact .inl rfl | exact .inr rfl) (fun _ h => h)) rfl
    · exact absurd h0 h.1.2
  · have h1 : 65536 < len := by omega
    repeat' (first
        | ((with_reducible apply Sat.run (X := XU)); exact rfl; (first | exact True.intro | (exact phi) | skip))
        | ((with_reducible apply Sat.drawn); kernel_rfl)
        | ((with_reducible apply DSat.run (X := XU)); exact rfl; (first | exact True.intro | (exact phi) | skip))
        | ((with_reducible apply DSat.fin); kernel_rfl)
        | ((with_reducible apply Sat.cond_t); exact rfl)
        | ((with_reducible apply Sat.cond_f); exact rfl)
        | ((with_reducible apply Sat.cond_pt); exact rfl; (try dsimp only [V.EV.sub, V.EV.len]); first | assumption | omega)
        | ((with_reducible apply Sat.cond_pf); exact rfl; (try dsimp only [V.EV.sub, V.EV.len]); first | assumption | omega)
        | ((with_reducible apply Sat.cond_p); exact rfl; all_goals (intro h; (try simp only [V.EV.sub, V.EV.len] at h)))
        | ((with_reducible apply Sat.cond); exact rfl; all_goals (intro h; (try simp only [V.EV.sub, V.EV.len, Bool.cond_true_left, Bool.cond_false_right, Bool.or_eq_true, Bool.and_eq_true, Bool.or_eq_false_iff, Bool.and_eq_false_iff, Bool.not_eq_true', Bool.not_eq_false', decide_eq_true_eq, decide_eq_false_iff_not, ne_eq] at h))) | fail)
    · refine Sat.fin (Sat.end2 rfl rfl rfl rfl True.intro True.intro (.nils _ rfl) (.refl _ trivial) (by first | exact .inl rfl | exact .inr rfl) (fun _ h => h)) rfl
    · exact absurd h1 h.2
end Go.Proofs.YtcnpgmohnclojaaDoor
end
section
namespace Go.Proofs.YtcnpgmohnclojaaDoor
open Go.RowKit Go.Maps V
set_option maxRecDepth 100000
set_option maxHeartbeats 4000000
/-- A pointer, read as its block's number. -/
def Rp : Value → Option (DataW Unit × List MemPlace)
  | .pointer none => some (.lit (.int .i64 (-1)), [])
  | .pointer (some ⟨b, 0, none⟩) => some (.lit (.int .i64 (b : Int)), [])
  | _ => none
def ptrV : Option Nat → Value
  | none => .pointer none
  | some b => .pointer (some ⟨b, 0, none⟩)
def litV : Option Nat → Int
  | none => -1
  | some b => (b : Int)
theorem Rp_ptr (o : Option Nat) : Rp (ptrV o) = some (.lit (.int .i64 (litV o)), []) := by cases o <;> rfl
theorem litV_inj {o o' : Option Nat} (h : litV o = litV o') : o = o' := by
  cases o <;> cases o' <;> simp [litV] at h ⊢ <;> omega
theorem Rp_inv {v : Value} {o : Option Nat} {ps : List MemPlace} (h : Rp v = some (.lit (.int .i64 (litV o)), ps)) : v = ptrV o := by
  unfold Rp at h
  split at h
  · simp only [Option.some.injEq, Prod.mk.injEq, DataW.lit.injEq, Lit.int.injEq, true_and] at h
    have : (none : Option Nat) = o := litV_inj h.1
    subst this
    rfl
  · rename_i b
    simp only [Option.some.injEq, Prod.mk.injEq, DataW.lit.injEq, Lit.int.injEq, true_and] at h
    have : some b = o := litV_inj h.1
    subst this
    rfl
  · cases h
def keyL (c : UInt8) : Lit := .int .u8 (c.toNat : Int)
theorem keyL_wf (c : UInt8) : (keyL c).wf = true := by
  have := c.toNat_lt
  unfold keyL Lit.wf
  simp [IntKind.min, IntKind.max, IntKind.signed, IntKind.bits]
  omega
theorem keyL_inj {c d : UInt8} (h : keyL c = keyL d) : c = d := by
  unfold keyL at h
  simp only [Lit.int.injEq, true_and] at h
  exact UInt8.toNat_inj.1 (Int.ofNat.inj h)
theorem law5 : Keyed Tryd.prog 5 := int_keyed Tryd.underlying5
theorem key5 (c : UInt8) : keyOf Tryd.prog 5 (.int .u8 (c.toNat : Int)) = some (keyL c) := keyOf_int_mk Tryd.underlying5 (keyL_wf c)
theorem zero81 (w : World) : (zeroValue 81).run Tryd.prog w = .ok (.pointer none) w := by kernel_rfl
/-- The block bm is a map of at most n entries: a byte leads to the block that g says. -/
def mapIs (w : World) (bm n : Nat) (g : UInt8 → Option Nat) : Prop :=
  ∃ D, w.ownsMap Tryd.prog 5 Rp bm n D ∧ IsMap D ∧ ∀ c, D.atKey (keyL c) (.lit (.int .i64 (-1))) = .lit (.int .i64 (litV (g c))) ∧ has D (keyL c) = (g c).isSome
theorem mapIs.kept {w w' : World} {bm n : Nat} {g : UInt8 → Option Nat} (h : mapIs w bm n g) (hb : w'.heap[bm]? = w.heap[bm]?) : mapIs w' bm n g := by
  obtain ⟨D, ⟨es, clock, h1, h2⟩, h3⟩ := h
  exact ⟨D, ⟨es, clock, hb.trans h1, h2⟩, h3⟩
theorem mapIs.lt {w : World} {bm n : Nat} {g : UInt8 → Option Nat} (h : mapIs w bm n g) : bm < w.heap.size := by
  obtain ⟨D, h1, _⟩ := h
  exact h1.lt
theorem mapIs_made (w : World) : mapIs (w.alloc (.map #[] 0)) w.heap.size 0 (fun _ => none) :=
  ⟨.map [], World.ownsMap_made w _ _ _, isMap_empty, fun _ => ⟨rfl, rfl⟩⟩
def setG (g : UInt8 → Option Nat) (c : UInt8) (b : Nat) : UInt8 → Option Nat := fun d => if d = c then some b else g d
section
variable {P : Program} (w : World) {ops : Array Oper} {rest : List Oper} {o : Oper} {a : Act} {Q : Exit → Act → World → Prop}
theorem look_ptr (hg : o.guard = none) (m x : Operand) (hop : o.op = Op.lookup 85 m x true) (bm n : Nat) (g : UInt8 → Option Nat) (h : mapIs w bm n g) (c : UInt8) (hm : a.eval m = .map (some bm)) (hx : a.eval x = .int .u8 (c.toNat : Int))
    (hK : wpList Tryd.prog ops Q rest (a.put o.dst (.tuple #[ptrV (g c), .bool (g c).isSome])) w) : wpList Tryd.prog ops Q (o :: rest) a w := by
  obtain ⟨D, h1, h2, h3⟩ := h
  refine wpList_lookup_own_ok w hg m x 85 hop 5 81 law5 Tryd.underlying85 Rp (zero81 w) (.lit (.int .i64 (-1))) [] rfl bm n D hm h1 _ _ hx (key5 c) fun v ps hv => ?_
  rw [(h3 c).1] at hv
  rw [Rp_inv hv, (h3 c).2]
  exact hK
theorem upd_ptr (hg : o.guard = none) (m x v : Operand) (hop : o.op = Op.mapUpdate 85 m x v) (bm n b : Nat) (g : UInt8 → Option Nat) (h : mapIs w bm n g) (hn : n < maxLen) (c : UInt8) (hm : a.eval m = .map (some bm)) (hx : a.eval x = .int .u8 (c.toNat : Int)) (hv : a.eval v = .pointer (some ⟨b, 0, none⟩))
    (hK : ∀ w', mapIs w' bm (n + 1) (setG g c b) → w.grownBy w' (some bm) → wpList Tryd.prog ops Q rest (a.put o.dst undef) w') : wpList Tryd.prog ops Q (o :: rest) a w := by
  obtain ⟨D, h1, h2, h3⟩ := h
  refine wpList_mapUpdate_own w hg m x v 85 hop 5 81 law5 Tryd.underlying85 Rp bm n D hm h1 hn _ _ _ hx hv (key5 c) _ _ (Rp_ptr (some b)) fun w' q1 q2 => hK w' ⟨_, q1, h2.put _ _, fun d => ?_⟩ q2
  have hk : WideAt.IsKeyLit (keyL c) := by first | exact True.intro | (unfold keyL; simp [WideAt.IsKeyLit])
  unfold setG
  by_cases hd : d = c
  · subst hd
    rw [if_pos rfl, atKey_put_same h2 hk, has_put_same h2 hk]
    exact ⟨rfl, rfl⟩
  · have hne : keyL d ≠ keyL c := fun e => hd (keyL_inj e)
    rw [if_neg hd, atKey_put_other hne, has_put_other hne]
    exact h3 d
end
/-- A region that draws its order and reads alone, up to the last operation, which waits for all the others. -/
theorem wp_region_quiet_last {P : Program} {id : Nat} {Q : Exit → Act → World → Prop} {a : Act} {w : World} {ops pre : List Oper} {last : Oper} (hm : P.follows .mixedOrders = true) (hs : splitL ops = some (pre, last)) (hB : endB ops pre.length = true) (hq : Region.lexB .any pre.toArray = true)
    (h : wpQuiet P pre.toArray (fun w' => ∃ n, w' = w.drewN n) (fun a' => ∀ w', (∃ n, w' = w.drewN n) → wpList P ops.toArray Q [last] a' w') pre a) : (Code.region id ⟨ops⟩ true).wp P Q a w := by
  have hops := splitL_eq hs
  subst hops
  refine wp_region_any hm ?_
  simp only [Region.lexB, Bool.and_eq_true] at hq
  have h1 := wpAnyQ_lex (C := fun w' => ∃ n, w' = w.drewN n) (md := .any) hq.1 pre 0 (Array.replicate pre.length false) a (by simp) (by simpa using hq.2) h
  have h2 : wpAny P .any pre.toArray (QL P Q (pre ++ [last]) last) pre.length (Array.replicate pre.length false) a w.drew := wpAny_of_quiet (C := fun w' => ∃ n, w' = w.drewN n) (Q := fun a' => ∀ w', (∃ n, w' = w.drewN n) → wpList P (pre ++ [last]).toArray Q [last] a' w') (fun _ w' hw' h => h w' hw') _ _ _ _ ⟨1, rfl⟩ h1
  have h3 := wpAny_pre hB pre.length (Array.replicate pre.length false) (Array.replicate (pre.length + 1) false) a w.drew (by simp) (by simp) (fun i hi => by rw [Array.getElem?_replicate, Array.getElem?_replicate, if_pos hi, if_pos (by omega)]) (by simp) (fun i o _ hl => by rw [getD_replicate_false'] at hl; cases hl) h2
  simpa using h3
theorem look_run {w : World} {bm n : Nat} {g : UInt8 → Option Nat} (h : mapIs w bm n g) (c : UInt8) (k : Nat) : (Instr.lookup 85 (.map (some bm)) (.int .u8 (c.toNat : Int)) true).run Tryd.prog (w.drewN k) = .ok (.tuple #[ptrV (g c), .bool (g c).isSome]) (w.drewN k) := by
  obtain ⟨D, h1, h2, h3⟩ := h.kept (w' := w.drewN k) rfl
  obtain ⟨v, ps, hrun, hv⟩ := h1.look_ok law5 Tryd.underlying85 (zero81 _) (zd := .lit (.int .i64 (-1))) (zp := []) rfl (key5 c)
  rw [(h3 c).1] at hv
  rw [hrun, Rp_inv hv, (h3 c).2]
theorem now_hit (pa bm n b : Nat) (g : UInt8 → Option Nat) (c : UInt8) (w : World) (c0 : w.cell? ⟨pa, 0, none⟩ = some (.map (some bm))) (c1 : w.cell? ⟨pa, 0 + 1, none⟩ = some (.int .u8 (c.toNat : Int))) (hm : mapIs w bm n g) (hg : g c = some b) :
    Calls Tryd.prog 65 #[.pointer (some ⟨pa, 0, none⟩)] w fun e w' => e = .returned (.pointer (some ⟨b, 0, none⟩)) ∧ ∃ k, w' = w.drewN k := by
  have hrun := look_run hm c
  rw [hg] at hrun
  dsimp only [ptrV, Option.isSome] at hrun
  go_enter Tryd.func65, Tryd.ntmps65
  go_wp2
  go_quiet (fail)
  go_wp2
  go_ret
  exact ⟨rfl, nq, rfl⟩
theorem ones_cast : castL Rc.onesN = List.replicate 256 1 := by
  unfold castL Rc.onesN
  rw [List.map_replicate]
  rfl
theorem ones_call (w : World) : Calls Tryd.prog 32 #[] w fun e w' => ∃ cs : List Value, e = .returned (.agg cs.toArray) ∧ Items E0 (fun _ => False) w' [.arr 256 (.ints .u32 (castL Rc.onesN))] cs ∧ Below w.heap.size w w' := by
  refine (ones_spec (fun _ => False) w [] (fun _ h => h.elim) ⟨fun g e h => by simp [gl] at h, fun g e h => by simp [gl] at h⟩ .nil).mono ?_
  rintro e w' ⟨v, rfl, hr, hb⟩
  rw [← ones_cast] at hr
  cases hr with
  | arr _ _ cs c hn hl he h1 hc hr =>
    refine ⟨cs, rfl, ?_, hb⟩
    have := Items.arr (E := E0) (T := fun _ => False) (w := w') 256 (.ints .u32 (castL Rc.onesN)) [] cs [] (.arr 256 _ cs c hn hl he h1 hc hr) .nil
    rwa [List.append_nil] at this
end Go.Proofs.YtcnpgmohnclojaaDoor
end
section
namespace Go.Proofs.YtcnpgmohnclojaaDoor
open Go.RowKit Go.Maps V
set_option maxRecDepth 100000
set_option maxHeartbeats 4000000
set_option linter.unusedSimpArgs false
theorem mapIs.shape {w : World} {bm n : Nat} {g : UInt8 → Option Nat} (h : mapIs w bm n g) : w.shape? bm = none := by
  obtain ⟨D, ⟨es, clock, h1, h2⟩, h3⟩ := h
  unfold World.shape?
  rw [h1]
theorem kp_grown {w w' : World} {bm n n' : Nat} {g g' : UInt8 → Option Nat} (h : mapIs w bm n g) (h' : mapIs w' bm n' g') (hg : w.grownBy w' (some bm)) : Kp w (fun k => k = bm) w' :=
  ⟨hg.os, hg.tape, hg.output, hg.size, fun b hb hn => hg.block b hb (fun e => hn (Option.some.inj e)), fun b hb => by
    by_cases e : b = bm
    · subst e; rw [h.shape, h'.shape]
    · unfold World.shape?; rw [hg.block b hb (fun q => e (Option.some.inj q))]⟩
/-- A walk begins in the middle of a function that is given a block. -/
theorem mstart {P : Program} {N : Nat} {T : Nat → Prop} {w : World} {b : Nat} {t : TypeId} {cl : List SV} {cs : List Value} {F : Tr} {a : Act} (hd : a.defers = []) (hs : a.tmps.size = N) (hT : ∀ k, T k → k < w.heap.size) (hTb : T b) (hbk : w.heap[b]? = some (.cells cs.toArray t (0, 0))) (hI : Items E0 T w cl cs)
    (hF : ∀ t s, F.get t = some s → Rep (pe0 b) T w s (a.tmps.getD t undef)) : St (mctx P [] N T w b) F [(0, .cells t cl)] (fun k => k ≠ 0) (pe0 b) a w := by
  have hE : pe0 b 0 = some (some b) := rfl
  have hne : ∀ i x, pe0 b i = some x → i = 0 ∧ x = some b := fun i x hx => by
    unfold pe0 at hx
    split at hx
    · rename_i e; cases hx; exact ⟨e, rfl⟩
    · cases hx
  have htr : ∀ k, trk (fun k => T k ∧ k ≠ b) [(0, .cells t cl)] (pe0 b) k → T k := fun k hk => by
    rcases hk with ⟨id, B, hf, hEk⟩ | h0
    · have := (hne _ _ hEk).2
      cases this
      exact hTb
    · exact h0.1
  have hup : ∀ i x, E0 i = some x → pe0 b i = some x := fun i x hx => by cases hx
  refine ⟨hd, hs, fun t' s hs => (hF t' s hs).mono (fun _ _ h => h) (fun k _ hk => htr k hk) (Chg.refl _ w), ⟨fun id B hf => ?_, fun id id' b' h1 h2 h3 h4 => ?_⟩, fun id b' hf hEk => .inr ?_, fun k hk => by simp [pe0, hk], ⟨rfl, rfl, rfl, Chg.refl _ w⟩, fun k hk => .inl ⟨hT k hk.1, hk.2⟩, ⟨fun g e hg => by simp [gl] at hg, fun g e hg => by simp [gl] at hg⟩, fun p hp id x hx => ?_, fun p hp t' s hs => ?_⟩
  · rw [find_cons] at hf
    split at hf
    · rename_i e
      cases hf
      subst e
      exact .inl ⟨b, hE, hT b hTb, cs, hbk, hI.mono hup (fun k _ hk => htr k hk) (Chg.refl _ w)⟩
    · simp [find] at hf
  · rw [(hne _ _ h3).1, (hne _ _ h4).1]
  · have := (hne _ _ hEk).2
    cases this
    rfl
  · simp only [List.mem_singleton] at hp
    subst hp
    have := hne _ _ hx
    rw [this.1]
    exact ⟨rfl, by rw [this.2]; rfl⟩
  · simp only [List.mem_singleton] at hp
    subst hp
    cases t' <;> simp [Tr.get] at hs
/-- The map is written: the walk goes on from there. -/
theorem V.Sat.mapUpd {T : Nat → Prop} {W : World} {b0 N : Nat} {Q0 : Exit → Act → World → Prop} {F : Tr} {M : Mem} {ids : List Nat} {k : List Kont} {full rest : List Oper} {m x v : Operand} {type : TypeId} {pos : String} {after : Array Edge} {bm n id : Nat} {g : UInt8 → Option Nat} {c : UInt8} (hm : mapIs W bm n g) (hbm : T bm) (hb0 : bm ≠ b0) (hn : n < maxLen)
    (hx1 : opd [] F m = some (.val (.map (some bm)))) (hx2 : opd [] F x = some (.int .u8 (c.toNat : Int))) (hx3 : opd [] F v = some (.ptr id 0)) (hid : (find M id).isSome = true) (hid0 : id ≠ 0) (hM0 : (find M 0).isSome = true)
    (h : ∀ b W' S', W.heap.size ≤ b → mapIs W' bm (n + 1) (setG g c b) → Kp W (fun k => k = b0 ∨ k = bm) W' → (∀ q, S' q → (q = b0 ∨ W.heap.size ≤ q) ∧ q ≠ bm) → Sat ((mctx Tryd.prog [] N T W b0).at W' S' (fun k => T k ∧ k ≠ b0) [(id, b), (0, b0)]) Q0 (.reg full rest F M ids k)) :
    Sat (mctx Tryd.prog [] N T W b0) Q0 (.reg full (⟨none, .mapUpdate 85 m x v, type, pos, after, none⟩ :: rest) F M ids k) := by
  intro U E a w hsup hst
  have hT := hst.hid_ rfl bm ⟨hbm, hb0⟩
  have hmw : mapIs w bm n g := hm.kept (hst.kp.chg.keep bm hT.1 hT.2)
  have e1 : a.eval m = .map (some bm) := by
    have := opd_rep hst.vw hx1
    generalize a.eval m = q at this
    cases this
    rfl
  have e2 : a.eval x = .int .u8 (c.toNat : Int) := by
    have := opd_rep hst.vw hx2
    generalize a.eval x = q at this
    cases this
    rfl
  obtain ⟨b, hE, e3⟩ : ∃ b, E id = some (some b) ∧ a.eval v = .pointer (some ⟨b, 0, none⟩) := by
    have := opd_rep hst.vw hx3
    generalize a.eval v = q at this
    cases this with
    | ptr _ _ b hE => exact ⟨b, hE, rfl⟩
  have hE0 : E 0 = some (some b0) := (hst.pin _ (List.mem_singleton.2 rfl) 0 (some b0) rfl).2
  have hWb : W.heap.size ≤ b := by
    rcases hst.own id b hid hE with q | q
    · exact q
    · exfalso
      have q : b = b0 := q
      subst q
      exact hid0 (hst.mem.inj id 0 b hid hM0 hE hE0)
  refine upd_ptr w rfl m x v rfl bm n b g hmw hn c e1 e2 e3 fun w' hm' hg => ?_
  have hkp : Kp w (fun k => k = bm) w' := kp_grown hmw hm' hg
  have hap := hst.apart rfl
  have hchg : Chg (trk (fun k => T k ∧ k ≠ b0) M E) w w' := ⟨hkp.chg.size, fun b hb hT => hkp.chg.keep b hb fun q => hT (.inr (by rw [q]; exact ⟨hbm, hb0⟩)), hkp.chg.shape⟩
  have hmem : MOk E (trk (fun k => T k ∧ k ≠ b0) M E) M w' := ⟨fun j B hf => by
    rcases hst.mem.blk j B hf with ⟨q, q1, q2, q3⟩ | q
    · exact .inl ⟨q, q1, Nat.lt_of_lt_of_le q2 hkp.chg.size, q3.mono (fun _ _ h => h) (fun _ _ h => h) hchg (hkp.chg.keep q q2 fun e => hap j q (by rw [hf]; rfl) q1 (by rw [e]; exact ⟨hbm, hb0⟩))⟩
    · exact .inr q, hst.mem.inj⟩
  have h3 := hst.anew (E' := E) (M' := M) (U' := U) (l := [(id, b), (0, b0)]) (fun _ _ h => h) hchg (fun k => T k ∧ k ≠ b0) (fun q hq => ⟨Nat.lt_of_lt_of_le (hst.lt rfl q (.inr hq)) hkp.chg.size, fun ⟨j, B, q1, q2⟩ => hap j q (by rw [q1]; rfl) q2 hq⟩) (fun _ _ h => h) hmem hst.fresh (fun p hp => by
    rcases List.mem_cons.1 hp with rfl | hp
    · exact hE
    · cases List.mem_singleton.1 hp; exact hE0)
  refine h b w' _ hWb hm' (Kp.trans (S1 := fun k => k = b0 ∨ k = bm) ⟨hst.kp.os, hst.kp.tape, hst.kp.output, hst.kp.chg.size, fun q hq hn => hst.kp.chg.keep q hq fun e => hn (.inl e), hst.kp.chg.shape⟩ ⟨hkp.os, hkp.tape, hkp.output, hkp.chg.size, fun q hq hn => hkp.chg.keep q hq fun e => hn (.inr e), hkp.chg.shape⟩ fun q hq => .inr hq) (fun q ⟨j, B, q1, q2⟩ => ⟨by rcases hst.own j q (by rw [q1]; rfl) q2 with z | z <;> first | exact .inr z | exact .inl z, fun e => hap j q (by rw [q1]; rfl) q2 (by rw [e]; exact ⟨hbm, hb0⟩)⟩) U E _ w' hsup h3
theorem put3 {F1 F2 F3 : Tr} {x y z : SV} (h1 : (Tr.mk 6).put 0 (some x) = some F1) (h2 : F1.put 3 (some y) = some F2) (h3 : F2.put 4 (some z) = some F3) (t : Nat) (s : SV) (h : F3.get t = some s) : (t = 0 ∧ s = x) ∨ (t = 3 ∧ s = y) ∨ (t = 4 ∧ s = z) := by
  rw [Tr.get_put _ _ _ _ h3] at h
  split at h
  · rename_i e; cases h; exact .inr (.inr ⟨e, rfl⟩)
  · rw [Tr.get_put _ _ _ _ h2] at h
    split at h
    · rename_i e; cases h; exact .inr (.inl ⟨e, rfl⟩)
    · rw [Tr.get_put _ _ _ _ h1] at h
      split at h
      · rename_i e; cases h; exact .inl ⟨e, rfl⟩
      · rw [mk_get] at h; cases h
theorem enter_mid {P : Program} {N : Nat} {T : Nat → Prop} {w : World} {b : Nat} {t : TypeId} {cl : List SV} {F : Tr} {a : Act} {c : Code} {Q0 : Exit → Act → World → Prop} (hst : St (mctx P [] N T w b) F [(0, .cells t cl)] (fun k => k ≠ 0) (pe0 b) a w) (h : Sat (mctx P [] N T w b) Q0 (.code c F [(0, .cells t cl)] ids1 [])) : c.wp P Q0 a w :=
  h _ _ a w (sup_ids (n := 1) (by decide) (fun k hk => by omega)) hst
def F65 : Tr := (((Tr.mk 6).put 0 (some (.ptr 0 0))).bind fun F => (F.put 3 (some .nilp)).bind fun F => F.put 4 (some (.bool false))).getD .e
attribute [local irreducible] V.Sat V.DSat
theorem now_miss (pa bm n : Nat) (g : UInt8 → Option Nat) (c : UInt8) (w : World) (hpa : w.heap[pa]? = some (.cells #[.map (some bm), .int .u8 (c.toNat : Int)] 87 (0, 0))) (hne : bm ≠ pa) (hm : mapIs w bm n g) (hn : n < 256) (hg : g c = none) :
    Calls Tryd.prog 65 #[.pointer (some ⟨pa, 0, none⟩)] w fun e w' => ∃ b, e = .returned (.pointer (some ⟨b, 0, none⟩)) ∧ w.heap.size ≤ b ∧ TabAt w' b 83 Rc.onesN [.int .u64 256] ∧ mapIs w' bm (n + 1) (setG g c b) ∧ w'.heap[pa]? = w.heap[pa]? ∧ Kp w (fun k => k = pa ∨ k = bm) w' := by
  have hrun := look_run hm c
  rw [hg] at hrun
  dsimp only [ptrV, Option.isSome] at hrun
  have c0 : w.cell? ⟨pa, 0, none⟩ = some (.map (some bm)) := cell_of_row w pa 0 _ 87 (0, 0) hpa
  have c1 : w.cell? ⟨pa, 0 + 1, none⟩ = some (.int .u8 (c.toNat : Int)) := cell_of_row w pa 1 _ 87 (0, 0) hpa
  have hc := c.toNat_lt
  have hlp : pa < w.heap.size := by
    rcases Nat.lt_or_ge pa w.heap.size with h | h
    · exact h
    · rw [Array.getElem?_eq_none h] at hpa; cases hpa
  have hlb := hm.lt
  go_enter Tryd.func65, Tryd.ntmps65
  go_wp2
  go_quiet (fail)
  rename_i K hK
  show K _ _
  refine hK _ _ ?_
  clear hK
  have hmk : mapIs (w.drewN nq) bm n g := hm.kept rfl
  refine enter_mid (N := 32) (b := pa) (F := F65) (mstart (F := F65) (N := 32) (T := fun k => k = pa ∨ k = bm) (w := w.drewN nq) (b := pa) (t := 87) (cl := [.val (.map (some bm)), .int .u8 (c.toNat : Int)]) rfl rfl (fun k hk => by
    rcases hk with rfl | rfl
    · exact hlp
    · exact hlb) (.inl rfl) hpa (.one _ _ _ _ rfl (.val _) (.one _ _ _ _ rfl (.int _ _ (inR_u8' (by omega) (by omega))) .nil)) fun t s hs => ?_) ?_
  · rcases put3 rfl rfl rfl t s hs with ⟨rfl, rfl⟩ | ⟨rfl, rfl⟩ | ⟨rfl, rfl⟩
    · exact .ptr 0 0 pa rfl
    · exact .nilp
    · exact .bool false
  repeat' (first
      | ((with_reducible apply Sat.drawnL); kernel_rfl; exact rfl; kernel_rfl)
      | ((with_reducible apply Sat.cond_t); exact rfl)
      | ((with_reducible apply Sat.run (X := XU)); exact rfl; (first | exact True.intro | (fail) | skip))
      | ((with_reducible apply Sat.drawn); kernel_rfl)
      | ((with_reducible apply DSat.run (X := XU)); exact rfl; (first | exact True.intro | (fail) | skip))
      | ((with_reducible apply DSat.fin); kernel_rfl)
      | ((with_reducible apply Sat.call0 (ones_spec)); exact rfl; exact rfl; kernel_rfl; exact rfl)
      | ((with_reducible apply DSat.call0 (ones_spec)); exact rfl; exact rfl; kernel_rfl; exact rfl)
      | ((with_reducible apply DSat.callM0 (ones_spec)); exact rfl; exact rfl; (first | exact rfl | assumption | (decide +kernel)); exact rfl; kernel_rfl; exact rfl)
      | (with_reducible apply Sat.lastD) | fail)
  refine Sat.mapUpd (c := c) (id := 1) hmk (.inr rfl) hne (Nat.lt_of_lt_of_le hn (by decide)) rfl rfl rfl rfl (by decide) rfl fun b W' S' hWb hm' hkp hS => ?_
  repeat' (first
      | ((with_reducible apply Sat.run (X := XU)); exact rfl; (first | exact True.intro | (fail) | skip))
      | ((with_reducible apply Sat.drawn); kernel_rfl)
      | ((with_reducible apply DSat.run (X := XU)); exact rfl; (first | exact True.intro | (fail) | skip))
      | ((with_reducible apply DSat.fin); kernel_rfl) | fail)
  refine raw_end1 rfl rfl (.inl rfl) fun U E a w2 v hst hr => ?_
  have hE : E 1 = some (some b) := (hst.pin _ (List.mem_cons_self ..) 1 (some b) rfl).2
  have hE0 : E 0 = some (some pa) := (hst.pin _ (List.mem_cons_of_mem _ (List.mem_cons_self ..)) 0 (some pa) rfl).2
  obtain ⟨_, cs0, g1, g2⟩ := hst.mem.at rfl hE0
  have g3 : cs0 = [.map (some bm), .int .u8 (c.toNat : Int)] := by
    cases g2 with
    | one _ _ _ _ _ r1 r2 =>
      cases r1
      cases r2 with
      | one _ _ _ _ _ r1 r2 =>
        cases r1
        cases r2
        rfl
  subst g3
  have hr : Rep E (trk (fun k => (k = pa ∨ k = bm) ∧ k ≠ pa) [(1, .cells 83 [.arr 256 (.ints .u32 (List.replicate 256 1)), .int .u64 256]), (0, .cells 87 [.val (.map (some bm)), .int .u8 (c.toNat : Int)])] E) w2 (.ptr 1 0) v := hr
  obtain ⟨hlt, cs, h1, h2⟩ := hst.mem.at rfl hE
  refine ⟨b, ?_, hWb, ⟨cs, h1, ?_⟩, hm'.kept (hst.kp.chg.keep bm hm'.lt fun q => (hS bm q).2 rfl), g1.trans hpa.symm, Kp.trans (S1 := S') (Kp.trans (Kp.drewN w (fun k => k = pa ∨ k = bm) nq) hkp fun q hq => .inr hq) hst.kp fun q hq => ?_⟩
  · cases hr with
    | ptr _ _ b' hE' =>
      rw [hE] at hE'
      cases hE'
      rfl
  · rw [cnt, ones_cast]
    exact h2.rigid_ rfl
  · rcases (hS q hq).1 with z | z
    · exact .inr (.inl z)
    · exact .inl z
end Go.Proofs.YtcnpgmohnclojaaDoor
end
section
namespace Go.Proofs.YtcnpgmohnclojaaDoor
open Go.RowKit Go.Maps V
set_option maxRecDepth 100000
set_option maxHeartbeats 4000000
set_option linter.unusedSimpArgs false
theorem filt_le {α : Type} {p q : α → Bool} (h : ∀ x, q x = true → p x = true) : ∀ l : List α, (l.filter q).length ≤ (l.filter p).length
  | [] => Nat.le_refl _
  | x :: r => by
    have ih := filt_le h r
    simp only [List.filter_cons]
    by_cases hq : q x = true
    · rw [if_pos hq, if_pos (h x hq)]
      simpa using ih
    · rw [if_neg hq]
      split
      · rw [List.length_cons]; omega
      · exact ih
theorem filt_lt {α : Type} {p q : α → Bool} (h : ∀ x, q x = true → p x = true) (a : α) (hp : p a = true) (hq : q a = false) : ∀ l : List α, a ∈ l → (l.filter q).length < (l.filter p).length
  | x :: r, hm => by
    simp only [List.filter_cons]
    rcases List.mem_cons.1 hm with rfl | hm
    · rw [if_neg (by rw [hq]; decide), if_pos hp, List.length_cons]
      have := filt_le h r
      omega
    · have ih := filt_lt h a hp hq r hm
      by_cases hqx : q x = true
      · rw [if_pos hqx, if_pos (h x hqx)]
        simpa using ih
      · rw [if_neg hqx]
        split
        · rw [List.length_cons]; omega
        · exact ih
def noneN (g : UInt8 → Option Nat) : Nat := ((List.range 256).filter fun i => (g (UInt8.ofNat i)).isNone).length
theorem u8_in (c : UInt8) : c.toNat ∈ List.range 256 := List.mem_range.2 c.toNat_lt
theorem noneN_set {g : UInt8 → Option Nat} {c : UInt8} (h : g c = none) (b : Nat) : noneN (setG g c b) < noneN g := by
  refine filt_lt (fun i hi => ?_) c.toNat ?_ ?_ _ (u8_in c)
  · unfold setG at hi
    split at hi
    · cases hi
    · exact hi
  · rw [UInt8.ofNat_toNat, h]; rfl
  · unfold setG
    rw [UInt8.ofNat_toNat, if_pos rfl]
    rfl
theorem noneN_pos {g : UInt8 → Option Nat} {c : UInt8} (h : g c = none) : 0 < noneN g := Nat.lt_of_le_of_lt (Nat.zero_le _) (noneN_set h 0)
theorem noneN_all : noneN (fun _ => none) = 256 := by
  show (List.filter (fun _ => true) (List.range 256)).length = 256
  rw [List.filter_eq_self.2 (fun _ _ => rfl), List.length_range]
/-- Model 2 stands in memory: g leads from a byte to its table. -/
structure Own2 (w : World) (s : Rc.M2.σ) (pa bm n : Nat) (g : UInt8 → Option Nat) : Prop where
  blk : w.heap[pa]? = some (.cells #[.map (some bm), .int .u8 (s.2.toNat : Int)] 87 (0, 0))
  map : mapIs w bm n g
  cnt : n + noneN g ≤ 256
  tab : ∀ c b, g c = some b → TabAt w b 83 (s.1 c).1 [.int .u64 ((s.1 c).2 : Int)]
  new : ∀ c, g c = none → s.1 c = Rc.T1
  inj : ∀ c c' b, g c = some b → g c' = some b → c = c'
section
variable {w w' : World} {s : Rc.M2.σ} {pa bm n : Nat} {g : UInt8 → Option Nat}
theorem Own2.lt (h : Own2 w s pa bm n g) : pa < w.heap.size := by
  rcases Nat.lt_or_ge pa w.heap.size with q | q
  · exact q
  · have := h.blk
    rw [Array.getElem?_eq_none q] at this; cases this
theorem Own2.ne (h : Own2 w s pa bm n g) : bm ≠ pa := by
  rintro rfl
  have h1 := h.map.shape
  unfold World.shape? at h1
  rw [h.blk] at h1
  cases h1
theorem Own2.ne_pa (h : Own2 w s pa bm n g) {c : UInt8} {b : Nat} (hb : g c = some b) : b ≠ pa := by
  rintro rfl
  obtain ⟨cs, h1, _⟩ := h.tab c b hb
  rw [h.blk] at h1
  injection h1 with h1
  injection h1 with _ h1
  cases h1
theorem Own2.ne_bm (h : Own2 w s pa bm n g) {c : UInt8} {b : Nat} (hb : g c = some b) : b ≠ bm := by
  rintro rfl
  have h1 := h.map.shape
  obtain ⟨cs, h2, _⟩ := h.tab c b hb
  unfold World.shape? at h1
  rw [h2] at h1
  cases h1
theorem Own2.kept (h : Own2 w s pa bm n g) (h1 : w'.heap[pa]? = w.heap[pa]?) (h2 : w'.heap[bm]? = w.heap[bm]?) (h3 : ∀ c b, g c = some b → w'.heap[b]? = w.heap[b]?) : Own2 w' s pa bm n g :=
  ⟨h1.trans h.blk, h.map.kept h2, h.cnt, fun c b hb => (h.tab c b hb).kept rfl (h3 c b hb), h.new, h.inj⟩
/-- The table in use. -/
theorem now_call (h : Own2 w s pa bm n g) : Calls Tryd.prog 65 #[.pointer (some ⟨pa, 0, none⟩)] w fun e w' => ∃ n' g' b, e = .returned (.pointer (some ⟨b, 0, none⟩)) ∧ g' s.2 = some b ∧ Own2 w' s pa bm n' g' ∧ Kp w (fun k => k = pa ∨ k = bm) w' ∧ ∀ c k, g' c = some k → g c = some k ∨ w.heap.size ≤ k := by
  cases hg : g s.2 with
  | some b =>
    have c0 : w.cell? ⟨pa, 0, none⟩ = some (.map (some bm)) := cell_of_row w pa 0 _ 87 (0, 0) h.blk
    have c1 : w.cell? ⟨pa, 0 + 1, none⟩ = some (.int .u8 (s.2.toNat : Int)) := cell_of_row w pa 1 _ 87 (0, 0) h.blk
    refine (now_hit pa bm n b g s.2 w c0 c1 h.map hg).mono ?_
    rintro e w' ⟨rfl, k, rfl⟩
    exact ⟨n, g, b, rfl, hg, h.kept rfl rfl fun _ _ _ => rfl, Kp.drewN _ _ _, fun _ _ h => .inl h⟩
  | none =>
    have hp := noneN_pos hg
    have hcn := h.cnt
    refine (now_miss pa bm n g s.2 w h.blk h.ne h.map (by omega) hg).mono ?_
    rintro e w' ⟨b, rfl, hb, ht, hm, hpa, hkp⟩
    refine ⟨n + 1, setG g s.2 b, b, rfl, by unfold setG; rw [if_pos rfl], ⟨hpa.trans h.blk, hm, ?_, fun c k hk => ?_, fun c hc => ?_, fun c c' k hk hk' => ?_⟩, hkp, fun c k hk => ?_⟩
    · have := noneN_set hg b
      omega
    · unfold setG at hk
      split at hk
      · rename_i e
        cases hk
        subst e
        rw [h.new _ hg]
        exact ht
      · have hlt := (h.tab c k hk).lt
        exact (h.tab c k hk).kept rfl (hkp.chg.keep k hlt fun q => q.elim (h.ne_pa hk) (h.ne_bm hk))
    · unfold setG at hc
      split at hc
      · cases hc
      · exact h.new c hc
    · unfold setG at hk hk'
      split at hk <;> split at hk'
      · rename_i e1 e2; rw [e1, e2]
      · cases hk
        have := (h.tab c' _ hk').lt
        omega
      · cases hk'
        have := (h.tab c _ hk).lt
        omega
      · exact h.inj c c' k hk hk'
    · unfold setG at hk
      split at hk
      · cases hk; exact .inr hb
      · exact .inl hk
/-- What now leaves. -/
structure NowR (w w' : World) (s : Rc.M2.σ) (pa bm : Nat) (g : UInt8 → Option Nat) (b : Nat) : Prop where
  ex : ∃ n' g', g' s.2 = some b ∧ Own2 w' s pa bm n' g' ∧ Kp w (fun k => k = pa ∨ k = bm) w' ∧ ∀ c k, g' c = some k → g c = some k ∨ w.heap.size ≤ k
structure HOwn (w : World) (s : Rc.M2.σ) (pa bm : Nat) (g : UInt8 → Option Nat) : Prop where
  ex : ∃ n, Own2 w s pa bm n g
theorem NowR.cell {b : Nat} (h : NowR w w' s pa bm g b) : w'.cell? ⟨b, 256, none⟩ = some (.int .u64 ((Rc.M2.t s : Nat) : Int)) := by
  obtain ⟨n', g', h1, h2, _⟩ := h.ex
  exact tab_next (h2.tab _ _ h1)
theorem NowR.tab {b : Nat} (h : NowR w w' s pa bm g b) (hs : Rc.M2.inv s) : TabAt w' b 83 (s.1 s.2).1 [.int .u64 ((s.1 s.2).2 : Int)] ∧ Rc.Tab (s.1 s.2).1 (s.1 s.2).2 := by
  obtain ⟨n', g', h1, h2, _⟩ := h.ex
  exact ⟨h2.tab _ _ h1, hs s.2⟩
theorem NowR.after {b : Nat} {w2 : World} (h : NowR w w' s pa bm g b) (hk : Kp w' (fun q => q = b) w2) : w2.cell? ⟨pa, 0 + 1, none⟩ = some (.int .u8 (s.2.toNat : Int)) ∧ w2.frozen? ⟨pa, 0 + 1, none⟩ = false := by
  obtain ⟨n', g', h1, h2, _⟩ := h.ex
  have hb : w2.heap[pa]? = some (.cells #[.map (some bm), .int .u8 (s.2.toNat : Int)] 87 (0, 0)) := (hk.chg.keep pa h2.lt fun e => h2.ne_pa h1 e.symm).trans h2.blk
  refine ⟨cell_of_row w2 pa 1 _ 87 (0, 0) hb, ?_⟩
  simp [World.frozen?, hb]
theorem now_call2 (h : HOwn w s pa bm g) : Calls Tryd.prog 65 #[.pointer (some ⟨pa, 0, none⟩)] w fun e w' => ∃ b, e = .returned (.pointer (some ⟨b, 0, none⟩)) ∧ NowR w w' s pa bm g b := by
  obtain ⟨n, h⟩ := h.ex
  refine (now_call h).mono ?_
  rintro e w' ⟨n1, g1, b1, rfl, q⟩
  exact ⟨b1, rfl, ⟨n1, g1, q⟩⟩
theorem counts2_call (h : HOwn w s pa bm g) : Calls Tryd.prog 63 #[.pointer (some ⟨pa, 0, none⟩)] w fun e w' => ∃ b w1 k, e = .returned (.tuple #[.pointer (some ⟨b, 0, none⟩), .int .u64 ((Rc.M2.t s : Nat) : Int)]) ∧ NowR w w1 s pa bm g b ∧ w' = w1.drewN k := by
  go_enter Tryd.func63, Tryd.ntmps63
  go_wp2_with fail
  refine (now_call2 h).mono ?_
  rintro e w1 ⟨b1, rfl, hn⟩
  go_wp2_with fail
  refine (counts1_call b1 (Rc.M2.t s) w1 hn.cell).mono ?_
  rintro e w2 ⟨rfl, k2, rfl⟩
  go_wp2_with fail
  go_ret2
  exact ⟨b1, w1, k2, rfl, hn, rfl⟩
theorem saw2_call (h : HOwn w s pa bm g) (hs : Rc.M2.inv s) (c : UInt8) : Calls Tryd.prog 64 #[.pointer (some ⟨pa, 0, none⟩), .int .u8 (c.toNat : Int)] w fun e w' => ∃ b w1 w2, e = .returned (.tuple #[]) ∧ NowR w w1 s pa bm g b ∧ TabAt w2 b 83 (Rc.sawT (s.1 s.2) c).1 [.int .u64 ((Rc.sawT (s.1 s.2) c).2 : Int)] ∧ Kp w1 (fun q => q = b) w2 ∧ w' = w2.setCell ⟨pa, 0 + 1, none⟩ (.int .u8 (c.toNat : Int)) := by
  go_enter Tryd.func64, Tryd.ntmps64
  go_wp2_with fail
  refine (now_call2 h).mono ?_
  rintro e w1 ⟨b1, rfl, hn⟩
  go_wp2_with fail
  obtain ⟨t1, t2⟩ := hn.tab hs
  refine (saw1_call b1 (s.1 s.2).1 (s.1 s.2).2 t2 c w1 t1).mono ?_
  rintro e w2 ⟨rfl, t3, t4⟩
  obtain ⟨f1, f2⟩ := hn.after t4
  clear t1 t2
  go_wp2_with fail
  exact ⟨rfl, _, results_none rfl _ _ _, b1, w1, w2, rfl, hn, t3, t4, rfl⟩
end
theorem far_cell (w : World) (pa i : Nat) (u : Value) (q : Nat) (h : q ≠ pa) : (w.setCell ⟨pa, i, none⟩ u).heap[q]? = w.heap[q]? := Below.heap_setCell w ⟨pa, i, none⟩ u q h
def I2 : Impl Tryd.prog Rc.M2 where
  t := 84
  fc := 63
  fs := 64
  mc := fun v w => by kernel_rfl
  ms := fun v w => by kernel_rfl
  cc := by kernel_rfl
  cs := by kernel_rfl
  ty := 83
  tl := fun s => [.int .u64 ((Rc.M2.t s : Nat) : Int)]
  rig := fun _ => rfl
  Own := fun w s v S => ∃ pa bm n g, v = .pointer (some ⟨pa, 0, none⟩) ∧ Own2 w s pa bm n g ∧ ∀ b, S b ↔ b = pa ∨ b = bm ∨ ∃ c, g c = some b
  lt := fun ⟨pa, bm, n, g, _, h, hS⟩ b hb => by
    rcases (hS b).1 hb with rfl | rfl | ⟨c, hc⟩
    · exact h.lt
    · exact h.map.lt
    · exact (h.tab c b hc).lt
  kept := fun ⟨pa, bm, n, g, h1, h, hS⟩ hk => ⟨pa, bm, n, g, h1, h.kept (hk pa ((hS pa).2 (.inl rfl))) (hk bm ((hS bm).2 (.inr (.inl rfl)))) fun c b hb => hk b ((hS b).2 (.inr (.inr ⟨c, hb⟩))), hS⟩
  counts := fun {w s v S} hs ⟨pa, bm, n, g, h1, h, hS⟩ => by
    subst h1
    refine (counts2_call ⟨n, h⟩).mono ?_
    rintro e w' ⟨b, w1, k, rfl, hn, rfl⟩
    obtain ⟨n', g', q1, q2, q3, q4⟩ := hn.ex
    have h2 : Own2 (w1.drewN k) s pa bm n' g' := q2.kept rfl rfl fun _ _ _ => rfl
    obtain ⟨cs, r1, r2⟩ := h2.tab _ _ q1
    refine ⟨b, cs, fun q => q = pa ∨ q = bm ∨ ∃ c, g' c = some q, rfl, r1, r2, ⟨pa, bm, n', g', rfl, h2, fun _ => Iff.rfl⟩, .inr (.inr ⟨_, q1⟩), Kp.trans (S1 := S) ⟨q3.os, q3.tape, q3.output, q3.chg.size, fun q hq hn => q3.chg.keep q hq fun z => hn ((hS q).2 (z.elim .inl fun z => .inr (.inl z))), q3.chg.shape⟩ (Kp.drewN _ _ _) fun _ => .inr, fun q hq => ?_⟩
    rcases hq with rfl | rfl | ⟨c, hc⟩
    · exact .inl ((hS _).2 (.inl rfl))
    · exact .inl ((hS _).2 (.inr (.inl rfl)))
    · exact (q4 c q hc).imp (fun z => (hS q).2 (.inr (.inr ⟨c, z⟩))) id
  saw := fun {w s v S} c hs ⟨pa, bm, n, g, h1, h, hS⟩ => by
    subst h1
    refine (saw2_call ⟨n, h⟩ hs c).mono ?_
    rintro e w' ⟨b, w1, w2, rfl, hn, ht, hk, rfl⟩
    obtain ⟨n', g', q1, q2, q3, q4⟩ := hn.ex
    have hpa : w2.heap[pa]? = w1.heap[pa]? := hk.chg.keep pa q2.lt fun e => q2.ne_pa q1 e.symm
    have hbm : w2.heap[bm]? = w1.heap[bm]? := hk.chg.keep bm q2.map.lt fun e => q2.ne_bm q1 e.symm
    have hblk : Blk w2 pa 87 #[.map (some bm), .int .u8 (s.2.toNat : Int)] := hpa.trans q2.blk
    refine ⟨rfl, fun q => q = pa ∨ q = bm ∨ ∃ c, g' c = some q, ⟨pa, bm, n', g', rfl, ⟨hblk.set_ 1 _, q2.map.kept ((far_cell w2 pa _ _ bm q2.ne).trans hbm), q2.cnt, fun c' k hk' => ?_, fun c' hc' => ?_, q2.inj⟩, fun _ => Iff.rfl⟩, ?_, fun q hq => ?_⟩
    · have hkpa : k ≠ pa := q2.ne_pa hk'
      show TabAt _ k 83 (if c' = s.2 then Rc.sawT (s.1 s.2) c else s.1 c').1 [.int .u64 ((if c' = s.2 then Rc.sawT (s.1 s.2) c else s.1 c').2 : Int)]
      by_cases hcs : c' = s.2
      · rw [if_pos hcs]
        subst hcs
        rw [q1] at hk'
        cases hk'
        exact ht.kept rfl (far_cell w2 pa _ _ _ hkpa)
      · rw [if_neg hcs]
        have hkb : k ≠ b := fun e => hcs (q2.inj _ _ k hk' (by rw [e]; exact q1))
        exact (q2.tab c' k hk').kept rfl ((far_cell w2 pa _ _ _ hkpa).trans (hk.chg.keep k (q2.tab c' k hk').lt hkb))
    · have hcs : c' ≠ s.2 := fun e => by rw [e, q1] at hc'; cases hc'
      show (if c' = s.2 then Rc.sawT (s.1 s.2) c else s.1 c') = Rc.T1
      rw [if_neg hcs]
      exact q2.new c' hc'
    · have k1 : Kp w S w1 := ⟨q3.os, q3.tape, q3.output, q3.chg.size, fun q hq hn => q3.chg.keep q hq fun z => hn ((hS q).2 (z.elim .inl fun z => .inr (.inl z))), q3.chg.shape⟩
      have k2 : Kp w S w2 := Kp.trans k1 hk fun q hq => by
        subst hq
        rcases q4 _ _ q1 with z | z
        · exact .inr ((hS _).2 (.inr (.inr ⟨_, z⟩)))
        · exact .inl z
      refine Kp.trans (S1 := fun q => q = pa) k2 ⟨rfl, rfl, rfl, ?_, fun q hq hn => far_cell w2 pa _ _ q hn, fun q hq => ?_⟩ fun q hq => .inr ((hS q).2 (.inl hq))
      · simp [World.setCell]
      · by_cases hqp : q = pa
        · subst hqp
          have a1 : (w2.setCell ⟨q, 0 + 1, none⟩ (.int .u8 (c.toNat : Int))).heap[q]? = _ := hblk.set_ 1 (.int .u8 (c.toNat : Int))
          have a2 : w2.heap[q]? = _ := hblk
          unfold World.shape?
          rw [a1, a2]
          rfl
        · unfold World.shape?
          rw [far_cell w2 pa _ _ q hqp]
    · rcases hq with rfl | rfl | ⟨c', hc'⟩
      · exact .inl ((hS _).2 (.inl rfl))
      · exact .inl ((hS _).2 (.inr (.inl rfl)))
      · exact (q4 c' q hc').imp (fun z => (hS q).2 (.inr (.inr ⟨c', z⟩))) id
end Go.Proofs.YtcnpgmohnclojaaDoor
end
section
namespace Go.Proofs.YtcnpgmohnclojaaDoor
open Go.RowKit Go.Maps V
set_option maxRecDepth 100000
set_option maxHeartbeats 4000000
set_option linter.unusedSimpArgs false
theorem begin2_call (w : World) : Calls Tryd.prog 22 #[.int .i64 2] w fun e w' => e = .returned (.iface 84 (.pointer (some ⟨w.heap.size + 1, 0, none⟩))) ∧ w' = (w.alloc (.map #[] 0)).alloc (.cells #[.map (some w.heap.size), .int .u8 0] 87) := by
  go_enter Tryd.func22, Tryd.ntmps22
  go_wp2_with fail
  rw [show (Instr.makeMap 85 none).run Tryd.prog w = .ok (.map (some w.heap.size)) (w.alloc (.map #[] 0)) from rfl]
  go_wp2_with fail
  go_ret
  exact ⟨rfl, rfl⟩
theorem begin2 : Begins I2 2 Rc.T2 := by
  intro w vs hv
  have hvs : vs = [.int .i64 2] := by
    cases hv E0 (fun _ => False) w with
    | cons _ _ _ _ h1 h2 =>
      cases h1
      cases h2
      rfl
  subst hvs
  refine (begin2_call w).mono ?_
  rintro e w' ⟨rfl, rfl⟩
  have hsz : (w.alloc (.map #[] 0)).heap.size = w.heap.size + 1 := by
    show (w.heap.push _).size = _
    exact Array.size_push ..
  have hb1 : Below w.heap.size w (w.alloc (.map #[] 0)) := (Below.refl _ w).alloc (Nat.le_refl _) _
  have hb2 : Below (w.alloc (.map #[] 0)).heap.size (w.alloc (.map #[] 0)) ((w.alloc (.map #[] 0)).alloc (.cells #[.map (some w.heap.size), .int .u8 0] 87)) := (Below.refl _ _).alloc (Nat.le_refl _) _
  have hb := Below.chain hb1 hb2 (by rw [hsz]; omega)
  have hblk := Blk.new (w.alloc (.map #[] 0)) 87 #[.map (some w.heap.size), .int .u8 0]
  rw [hsz] at hblk
  refine ⟨_, fun q => q = w.heap.size + 1 ∨ q = w.heap.size ∨ ∃ c : UInt8, (none : Option Nat) = some q, rfl, ⟨w.heap.size + 1, w.heap.size, 0, fun _ => none, rfl, ⟨hblk, (mapIs_made w).kept (hb2.block _ (by rw [hsz]; omega)), by rw [noneN_all]; exact Nat.le_refl _, fun c b h => (by cases h), fun _ _ => rfl, fun c c' b h => (by cases h)⟩, fun _ => Iff.rfl⟩, hb, fun q hq => ?_⟩
  rcases hq with rfl | rfl | ⟨_, h⟩
  · omega
  · exact Nat.le_refl _
  · cases h
/-! ### The three models as one -/
def cd : Nat → List UInt8 → List UInt8
  | 0 => Rc.code Rc.M0 ()
  | 1 => Rc.code Rc.M1 Rc.T1
  | _ => Rc.code Rc.M2 Rc.T2
def dt : Nat → List UInt8 → Nat → Option (List UInt8)
  | 0 => decT Rc.M0 ()
  | 1 => decT Rc.M1 Rc.T1
  | _ => decT Rc.M2 Rc.T2
theorem cd_is (m : Nat) : ∃ (M : Rc.Mdl) (s : M.σ), M.inv s ∧ cd m = Rc.code M s ∧ dt m = decT M s := by
  rcases m with _ | _ | m
  · exact ⟨Rc.M0, (), Rc.inv0, rfl, rfl⟩
  · exact ⟨Rc.M1, Rc.T1, Rc.inv1, rfl, rfl⟩
  · exact ⟨Rc.M2, Rc.T2, Rc.inv2, rfl, rfl⟩
def dR (m : Nat) (b : List UInt8) (len : Nat) : List UInt8 := (dt m b len).getD []
def dE (m : Nat) (b : List UInt8) (len : Nat) : Int := if (dt m b len).isSome then 0 else 130
/-- What Encode returns. -/
theorem enc_call (m : Nat) (hm : m < 3) (l : List UInt8) (hl : l.length ≤ 65536) : Fun Tryd.prog [] 13 [.int .i64 (m : Int), .ro (.u8 l)] (.tup [.ro (.u8 (cd m l)), .int .i64 0]) := by
  rcases m with _ | _ | _ | m
  · exact enc_spec0 I0 rfl (fun _ => rfl) 0 () Rc.inv0 begin0 l hl
  · exact enc_spec1 I1 rfl (fun s => (s.2 : Int)) (fun _ => rfl) 1 Rc.T1 Rc.inv1 begin1 l hl
  · exact enc_spec1 I2 rfl (fun s => ((Rc.M2.t s : Nat) : Int)) (fun _ => rfl) 2 Rc.T2 Rc.inv2 begin2 l hl
  · omega
/-- What Decode returns. -/
theorem dec_call (m : Nat) (hm : m < 3) (b : List UInt8) (len : Nat) (hl : len ≤ 65536) : Fun Tryd.prog [] 15 [.int .i64 (m : Int), .ro (.u8 b), .int .i64 (len : Int)] (.tup [.ro (.u8 (dR m b len)), .int .i64 (dE m b len)]) := by
  rcases m with _ | _ | _ | m
  · exact dec_spec0 I0 rfl (fun _ => rfl) 0 () Rc.inv0 begin0 (enc_call 0 (by decide)) b len hl
  · exact dec_spec1 I1 rfl (fun s => (s.2 : Int)) (fun _ => rfl) 1 Rc.T1 Rc.inv1 begin1 (enc_call 1 (by decide)) b len hl
  · exact dec_spec1 I2 rfl (fun s => ((Rc.M2.t s : Nat) : Int)) (fun _ => rfl) 2 Rc.T2 Rc.inv2 begin2 (enc_call 2 (by decide)) b len hl
  · omega
theorem size_call (m : Nat) (hm : m < 3) (l : List UInt8) (hl : l.length ≤ 65536) : Fun Tryd.prog [] 14 [.int .i64 (m : Int), .ro (.u8 l)] (.tup [.int .i64 ((cd m l).length : Int), .int .i64 0]) := size_spec _ _ _ _ (enc_call m hm l hl)
theorem enc_long (m : Nat) (hm : m < 3) (l : List UInt8) (hl : 65536 < l.length) : Fun Tryd.prog [] 13 [.int .i64 (m : Int), .ro (.u8 l)] (.tup [.ro (.u8 []), .int .i64 2]) := by
  rcases m with _ | _ | _ | m
  · exact enc_big I0 0 () begin0 l hl
  · exact enc_big I1 1 Rc.T1 begin1 l hl
  · exact enc_big I2 2 Rc.T2 begin2 l hl
  · omega
theorem dec_far (m : Nat) (hm : m < 3) (b : List UInt8) (len : Int) (hl : len < 0 ∨ 65536 < len) : Fun Tryd.prog [] 15 [.int .i64 (m : Int), .ro (.u8 b), .int .i64 len] (.tup [.ro (.u8 []), .int .i64 130]) := by
  rcases m with _ | _ | _ | m
  · exact dec_big I0 0 () begin0 b len hl
  · exact dec_big I1 1 Rc.T1 begin1 b len hl
  · exact dec_big I2 2 Rc.T2 begin2 b len hl
  · omega
/-! ### What is true of them -/
theorem cd_inj (m : Nat) (x y : List UInt8) (hl : x.length = y.length) (h : cd m x = cd m y) : x = y := by
  obtain ⟨M, s, hs, h1, _⟩ := cd_is m
  rw [h1] at h
  exact Rc.code_inj M s hs x y hl h
theorem dt_cd (m : Nat) (x : List UInt8) : dt m (cd m x) x.length = some x := by
  obtain ⟨M, s, hs, h1, h2⟩ := cd_is m
  rw [h1, h2]
  unfold decT
  rw [Rc.inverts M s hs x]
  dsimp only
  rw [if_pos rfl]
theorem decL_len (M : Rc.Mdl) (b : List UInt8) : ∀ (n : Nat) (s : M.σ) (a size k : Nat) (out x : List UInt8), Rc.decL M b n s a size k out = some x → x.length = out.length + n
  | 0, s, a, size, k, out, x, h => by
    rw [Rc.decL] at h
    cases h
    rfl
  | n + 1, s, a, size, k, out, x, h => by
    rw [Rc.decL] at h
    split at h
    · cases h
    · have := decL_len M b n _ _ _ _ _ _ h
      rw [List.length_append] at this
      rw [this]
      show out.length + 1 + n = _
      omega
theorem dt_some (m : Nat) (b : List UInt8) (len : Nat) (x : List UInt8) (h : dt m b len = some x) : cd m x = b ∧ x.length = len := by
  obtain ⟨M, s, hs, h1, h2⟩ := cd_is m
  rw [h2] at h
  rw [h1]
  unfold decT at h
  split at h
  · cases h
  · rename_i y hy
    split at h
    · rename_i hc
      cases h
      refine ⟨hc, ?_⟩
      have := decL_len M b len s _ _ _ _ _ hy
      simpa using this
    · cases h
theorem cd_zero (m n : Nat) : cd m (List.replicate n 0) = [] := by
  obtain ⟨M, s, hs, h1, _⟩ := cd_is m
  rw [h1]
  exact Rc.code_zero M s n
theorem cd_last (m : Nat) (x q : List UInt8) (b : UInt8) (h : cd m x = q ++ [b]) : b ≠ 0 := by
  obtain ⟨M, s, hs, h1, _⟩ := cd_is m
  rw [h1] at h
  exact Rc.code_last M s x q b h
theorem cd_nil (m : Nat) (x : List UInt8) (h : cd m x = []) : x = List.replicate x.length 0 :=
  cd_inj m _ _ (List.length_replicate ..).symm (h.trans (cd_zero m _).symm)
theorem enc_len (M : Rc.Mdl) : ∀ (x : List UInt8) (s : M.σ) (e : Rc.Enc), M.inv s → Rc.Ok e → (Rc.encS M s e x).out.length ≤ e.out.length + 4 * x.length
  | [], s, e, _, _ => Nat.le_refl _
  | c :: r, s, e, hs, h => by
    have T := M.tab s hs
    have hc : c.toNat < 256 := c.toNat_lt
    obtain ⟨q1, j, q2, q3, q4⟩ := Rc.step_ok T h c.toNat hc
    have ih := enc_len M r (M.saw s c) _ (M.keep s c hs) q1
    have h1 := q1.hi
    have hp : 1 ≤ e.size / M.t s * (M.l s).getD c.toNat 0 := Nat.mul_pos (Nat.div_pos (Nat.le_trans T.big (Nat.le_trans (by decide) h.lo)) T.tpos) (T.pos _ hc)
    have hj : j < 4 := by
      rcases Nat.lt_or_ge j 4 with q | q
      · exact q
      · exfalso
        have h2 : 256 ^ 4 ≤ 256 ^ j := Nat.pow_le_pow_right (by decide) q
        have h3 : 1 * 256 ^ j ≤ e.size / M.t s * (M.l s).getD c.toNat 0 * 256 ^ j := Nat.mul_le_mul_right _ hp
        rw [← q4] at h3
        omega
    show (Rc.encS M (M.saw s c) (Rc.stepE (M.l s) (M.t s) e c.toNat) r).out.length ≤ _
    rw [List.length_cons]
    omega
theorem cd_len (m : Nat) (x : List UInt8) : (cd m x).length ≤ 4 * x.length + 4 := by
  obtain ⟨M, s, hs, h1, _⟩ := cd_is m
  rw [h1]
  refine Nat.le_trans (Rc.trim_len _) ?_
  rw [Rc.full_len]
  have := enc_len M x s Rc.e0 hs Rc.e0_ok
  have h0 : Rc.e0.out.length = 0 := rfl
  omega
theorem cd_end (m : Nat) (x : List UInt8) (h : 0 < (cd m x).length) : (cd m x).getD ((cd m x).length - 1) 0 ≠ 0 := by
  rcases Rc.snoc_cases (cd m x) with e | ⟨q, b, e⟩
  · rw [e] at h; simp at h
  · have := cd_last m x q b e
    rw [e, List.length_append, show q.length + [b].length - 1 = q.length from rfl, List.getD_eq_getElem?_getD, List.getElem?_append_right (Nat.le_refl _), Nat.sub_self]
    exact this
theorem dR_cd (m : Nat) (x : List UInt8) : dR m (cd m x) x.length = x ∧ dE m (cd m x) x.length = 0 := by
  unfold dR dE
  rw [dt_cd]
  exact ⟨rfl, rfl⟩
theorem dE_cases (m : Nat) (b : List UInt8) (len : Nat) : (dt m b len = none ∧ dR m b len = [] ∧ dE m b len = 130) ∨ ∃ x, dt m b len = some x ∧ dR m b len = x ∧ dE m b len = 0 := by
  unfold dR dE
  cases h : dt m b len with
  | none => exact .inl ⟨rfl, rfl, rfl⟩
  | some x => exact .inr ⟨x, rfl, rfl, rfl⟩
end Go.Proofs.YtcnpgmohnclojaaDoor
end
section
namespace Go.Proofs.YtcnpgmohnclojaaDoor
open Go.RowKit V
--PURE: (intro _ _; simp [pureL, pureS, pureE]; done)
set_option maxRecDepth 100000
set_option maxHeartbeats 4000000
set_option linter.unusedSimpArgs false
structure EdL where
  p : UInt8
  q : UInt8
def ed0 : EdL := ⟨0, 0⟩
@[reducible] def edE (l : List EdL) : EV := .g l.length 2 fun i => [.int .u8 ((l.getD i ed0).p.toNat : Int), .int .u8 ((l.getD i ed0).q.toNat : Int)]
def editN (b : List UInt8) (l : List EdL) : Nat → List UInt8
  | 0 => b
  | x + 1 => (editN b l x).set ((l.getD x ed0).p.toNat % b.length) (l.getD x ed0).q
theorem editN_len (b : List UInt8) (l : List EdL) : ∀ x, (editN b l x).length = b.length
  | 0 => rfl
  | x + 1 => by rw [editN, List.length_set, editN_len b l x]
def editB (b : List UInt8) (l : List EdL) : List UInt8 := editN b l (if b.length = 0 then 0 else min l.length 20)
attribute [local irreducible] V.Sat V.DSat
theorem limited_spec (l : List UInt8) (n : Int) (h0 : 0 ≤ n) : Fun Tryd.prog [] 11 [.ro (.u8 l), .int .i64 n] (.ro (.u8 (l.take n.toNat))) := by
  refine Fun.mk 6 Tryd.func11 rfl Tryd.ntmps11 rfl rfl fun T w0 => ?_
  repeat' (first
      | ((with_reducible apply Sat.run (X := X64)); exact rfl; (first | exact True.intro | (exact phi) | skip))
      | ((with_reducible apply Sat.drawn); kernel_rfl)
      | ((with_reducible apply DSat.run (X := X64)); exact rfl; (first | exact True.intro | (exact phi) | skip))
      | ((with_reducible apply DSat.fin); kernel_rfl) | fail)
  with_reducible apply Sat.cond_p
  · exact rfl
  · intro h
    have h : n < (l.length : Int) := h
    repeat' (first
        | ((with_reducible apply Sat.run (X := X64)); exact rfl; (first | exact True.intro | (exact phi) | skip))
        | ((with_reducible apply Sat.drawn); kernel_rfl)
        | ((with_reducible apply DSat.run (X := X64)); exact rfl; (first | exact True.intro | (exact phi) | skip))
        | ((with_reducible apply DSat.fin); kernel_rfl) | fail)
    (refine Sat.fin (Sat.end1 rfl rfl rfl True.intro (.refl _ purX) (by first | exact .inl rfl | exact .inr rfl) (fun _ h => h)) ?_; (refine congrArg (fun z => SV.ro (EV.u8 z)) ?_; show _ = List.take (n.toNat - 0) (List.drop 0 l); rw [Nat.sub_zero, List.drop_zero]))
  · intro h
    have h : ¬ n < (l.length : Int) := h
    repeat' (first
        | ((with_reducible apply Sat.run (X := X64)); exact rfl; (first | exact True.intro | (exact phi) | skip))
        | ((with_reducible apply Sat.drawn); kernel_rfl)
        | ((with_reducible apply DSat.run (X := X64)); exact rfl; (first | exact True.intro | (exact phi) | skip))
        | ((with_reducible apply DSat.fin); kernel_rfl) | fail)
    (refine Sat.fin (Sat.end1 rfl rfl rfl True.intro (.refl _ purX) (by first | exact .inl rfl | exact .inr rfl) (fun _ h => h)) ?_; (rw [List.take_of_length_le (by omega)]))
theorem edited_spec (b : List UInt8) (hb : b.length ≤ 100000) (l : List EdL) : Fun Tryd.prog [] 17 [.ro (.u8 b), .ro (edE l)] (.ro (.u8 (editB b l))) := by
  refine Fun.mkF 6 Tryd.func17 rfl Tryd.ntmps17 rfl rfl fun hf T w0 => ?_
  obtain ⟨⟨hl, _⟩, ⟨hl2, _⟩, _⟩ := hf
  have hl : b.length ≤ 9223372036854775807 := hl
  have hl2 : l.length ≤ 9223372036854775807 := hl2
  have hq : (0 + (EV.u8 b).len) * (0 + 1) ≤ 140737488355328 := by show (0 + b.length) * (0 + 1) ≤ 140737488355328; omega
  repeat' (first
      | ((with_reducible apply Sat.run (X := X64)); exact rfl; (first | exact True.intro | (exact phi) | skip))
      | ((with_reducible apply Sat.drawn); kernel_rfl)
      | ((with_reducible apply DSat.run (X := X64)); exact rfl; (first | exact True.intro | (exact phi) | skip))
      | ((with_reducible apply DSat.fin); kernel_rfl) | fail)
  refine Sat.kill [7] rfl ?_
  apply Sat.loop (α := Nat) (fun x => x ≤ (if b.length = 0 then 0 else min l.length 20)) (fun x => l.length - x) 0 (fun x => [(6, .int .i64 (x : Int))]) (fun x => [(1, .row 5 (.u8 (editN b l x)))]) [] [] 0
  · intro x; exact rfl
  · intro x; exact rfl
  · exact rfl
  · exact rfl
  · (repeat' (first | exact AllP.nil | with_reducible refine AllP.cons ?_ ?_)) <;> first | exact rfl | exact trivial | exact purX | exact ⟨rfl, rfl, rfl, by simp [EV.len]⟩ | simp [EV.len]
  · exact Nat.zero_le _
  rintro x x1
  by_cases hi : (x < l.length ∧ x < 20) ∧ 0 < b.length
  · obtain ⟨⟨hi1, hi2⟩, hi3⟩ := hi
    have hcc : (x : Int) < ((edE l).len : Int) := by show (x : Int) < (l.length : Int); omega
    have hlen := editN_len b l x
    have ht : ((l.getD ((x : Int).toNat) ed0).p.toNat : Int).tmod ((EV.u8 b).len : Int) = (((l.getD x ed0).p.toNat % b.length : Nat) : Int) := rfl
    have hm : (l.getD x ed0).p.toNat % b.length < b.length := Nat.mod_lt _ hi3
    have m1 : 0 + (((l.getD ((x : Int).toNat) ed0).p.toNat : Int).tmod ((EV.u8 b).len : Int)).toNat < (EV.u8 (editN b l x)).len := by rw [ht]; show 0 + ((((l.getD x ed0).p.toNat % b.length : Nat) : Int)).toNat < (editN b l x).length; omega
    have m2 : 0 ≤ ((l.getD ((x : Int).toNat) ed0).p.toNat : Int).tmod ((EV.u8 b).len : Int) ∧ ((l.getD ((x : Int).toNat) ed0).p.toNat : Int).tmod ((EV.u8 b).len : Int) < ((0 + (EV.u8 b).len : Nat) : Int) := by rw [ht]; show _ ∧ _ < ((0 + b.length : Nat) : Int); omega
    have hst : EV.u8 ((editN b l x).set (0 + (((l.getD ((x : Int).toNat) ed0).p.toNat : Int).tmod ((EV.u8 b).len : Int)).toNat) (UInt8.ofNat (((l.getD ((x : Int).toNat) ed0).q.toNat : Int)).toNat)) = EV.u8 (editN b l (x + 1)) := by
      rw [ht, Int.toNat_natCast, Int.toNat_natCast, Int.toNat_natCast, Nat.zero_add, UInt8.ofNat_toNat]
      rfl
    repeat' (first
        | ((with_reducible apply Sat.run (X := X64)); exact rfl; (first | exact True.intro | (exact phi) | skip))
        | ((with_reducible apply Sat.drawn); kernel_rfl)
        | ((with_reducible apply DSat.run (X := X64)); exact rfl; (first | exact True.intro | (exact phi) | skip))
        | ((with_reducible apply DSat.fin); kernel_rfl) | fail)
    with_reducible apply Sat.cond
    · exact rfl
    · intro h
      clear h
      repeat' (first
          | ((with_reducible apply Sat.run (X := X64)); exact rfl; (first | exact True.intro | (exact phi) | skip))
          | ((with_reducible apply Sat.drawn); kernel_rfl)
          | ((with_reducible apply DSat.run (X := X64)); exact rfl; (first | exact True.intro | (exact phi) | skip))
          | ((with_reducible apply DSat.fin); kernel_rfl) | fail)
      refine Sat.back (x + 1) [] rfl ?_ ?_ ?_
      · (repeat' (first | exact AllP.nil | with_reducible refine AllP.cons ?_ ?_)) <;> first | exact rfl | exact trivial | exact Int.natCast_add_one _ | exact ⟨rfl, rfl, rfl, by simp [EV.len, editN_len]⟩ | (simp [EV.len, editN_len]; done) | exact hst | exact purX
      · split <;> omega
      · omega
    · intro h
      exfalso
      have hq : decide ((x : Int) < ((edE l).len : Int)) = true := decide_eq_true hcc
      have hq2 : decide ((x : Int) < 20) = true := decide_eq_true (by omega)
      have hq3 : decide (0 < ((EV.u8 b).len : Int)) = true := decide_eq_true (by show 0 < (b.length : Int); omega)
      rw [hq, hq2, hq3] at h
      cases h
  · have he : x = (if b.length = 0 then 0 else min l.length 20) := by split at x1 <;> (split <;> omega)
    repeat' (first
        | ((with_reducible apply Sat.run (X := X64)); exact rfl; (first | exact True.intro | (exact phi) | skip))
        | ((with_reducible apply Sat.drawn); kernel_rfl)
        | ((with_reducible apply DSat.run (X := X64)); exact rfl; (first | exact True.intro | (exact phi) | skip))
        | ((with_reducible apply DSat.fin); kernel_rfl) | fail)
    with_reducible apply Sat.cond
    · exact rfl
    · intro h
      exfalso
      rcases (by omega : 20 ≤ x ∨ l.length ≤ x ∨ b.length = 0) with he | he | he
      · rw [decide_eq_false (show ¬ (x : Int) < 20 by omega)] at h
        revert h
        cases decide ((x : Int) < ((edE l).len : Int)) <;> exact fun h => (by cases h)
      · rw [decide_eq_false (show ¬ (x : Int) < ((edE l).len : Int) by show ¬ (x : Int) < (l.length : Int); omega)] at h
        cases h
      · rw [decide_eq_false (show ¬ 0 < ((EV.u8 b).len : Int) by show ¬ 0 < (b.length : Int); omega)] at h
        revert h
        cases decide ((x : Int) < ((edE l).len : Int)) <;> cases decide ((x : Int) < 20) <;> exact fun h => (by cases h)
    intro h
    clear h
    repeat' (first
        | ((with_reducible apply Sat.run (X := X64)); exact rfl; (first | exact True.intro | (exact phi) | skip))
        | ((with_reducible apply Sat.drawn); kernel_rfl)
        | ((with_reducible apply DSat.run (X := X64)); exact rfl; (first | exact True.intro | (exact phi) | skip))
        | ((with_reducible apply DSat.fin); kernel_rfl) | fail)
    have hr : editN b l x = editB b l := by rw [he]; rfl
    rw [hr]
    refine Sat.fin (Sat.end1 rfl rfl rfl True.intro (.all _ _ _ _ _ (by first | rfl | (rw [← hr]; simp [EV.len, EV.sz, EV.sub, editN_len]; done) | (trace_state; fail)) (by first | rfl | (rw [← hr]; simp [EV.len, EV.sz, EV.sub, editN_len]; done) | (trace_state; fail)) (by first | rfl | (rw [← hr]; simp [EV.len, EV.sz, EV.sub, editN_len]; done) | (trace_state; fail)) (by simp [pureL, pureS, pureE])) (by first | exact .inl rfl | exact .inr rfl) (fun _ h => h)) rfl
end Go.Proofs.YtcnpgmohnclojaaDoor
end
section
namespace Go.Proofs.YtcnpgmohnclojaaDoor
open Go.RowKit Go.ChangeShapes Go.WideShapes V
set_option maxRecDepth 100000
set_option maxHeartbeats 4000000
theorem own : ownKnob Tryd.prog.godebug = none := by kernel_rfl
theorem laidOut : laidOutB Tryd.prog = true := by kernel_rfl
def tabs_laid : List (String × DataW Unit) := [("unicode/utf8.acceptRanges", Rows.laid_unicode_utf8_acceptRanges), ("unicode/utf8.first", Rows.laid_unicode_utf8_first)]
theorem tabs_glob (W : World) (_h : laidMetH Tryd.prog tabs_laid W) : GOk [] (fun _ => False) W := ⟨fun g e hg => by simp [gl] at hg, fun g e hg => by simp [gl] at hg⟩
theorem door_met (os : Os) (args : Array Value) : laidMetH Tryd.prog tabs_laid ((World.laidAll Tryd.prog os tabs_laid).forCall (fun _ _ => 0) ⟨#[], args, []⟩).memory := by
  rw [MakeChecks.laidMetH_plain _ _ _ (by kernel_rfl)]
  exact laidMet_laidAll _ (by kernel_rfl) (by kernel_rfl)
section
variable {H : Type}
theorem map_nthD {α : Type} (f : DataW H → α) : ∀ (l : List (DataW H)) (i : Nat), (l.map f).getD i (f .nil) = f (nthD l i)
  | [], _ => rfl
  | _ :: _, 0 => rfl
  | _ :: l, i + 1 => map_nthD f l i
theorem nthD_out : ∀ (l : List (DataW H)) (i : Nat), l.length ≤ i → nthD l i = .nil
  | [], _, _ => rfl
  | x :: l, 0, h => by simp at h
  | x :: l, i + 1, h => nthD_out l i (by simpa using h)
theorem u8Of_i (x : DataW H) (h : inR .u8 (iOf x)) : iOf x = ((u8Of x).toNat : Int) := by
  have h1 := u8_iff h
  unfold u8Of
  have h2 : (iOf x).toNat < 256 := by omega
  rw [UInt8.toNat_ofNat_of_lt' h2]
  omega
@[reducible] def edsSV (l : List (DataW H)) : EV := .g l.length 2 fun i => [.int .u8 (iOf (nthD (ptsD (nthD l i)) 0)), .int .u8 (iOf (nthD (ptsD (nthD l i)) 1))]
def edD (d : DataW H) : EdL := ⟨u8Of (nthD (ptsD d) 0), u8Of (nthD (ptsD d) 1)⟩
theorem edsSV_eq (l : List (DataW H)) (h : factsE (edsSV l)) : edsSV l = edE (l.map edD) := by
  show EV.g _ _ _ = EV.g _ _ _
  rw [List.length_map]
  congr 1
  funext i
  have e : (l.map edD).getD i ed0 = edD (nthD l i) := map_nthD edD l i
  rw [e]
  by_cases hi : i < l.length
  · obtain ⟨h1, h2, _⟩ := h i hi
    show [SV.int .u8 _, SV.int .u8 _] = [SV.int .u8 ((u8Of (nthD (ptsD (nthD l i)) 0)).toNat : Int), SV.int .u8 ((u8Of (nthD (ptsD (nthD l i)) 1)).toNat : Int)]
    rw [← u8Of_i _ h1, ← u8Of_i _ h2]
  · rw [nthD_out l i (by omega)]
    rfl
theorem nat_i (x : DataW H) (h : inR .u16 (iOf x)) : iOf x = ((iOf x).toNat : Int) := by
  have h1 : 0 ≤ iOf x := h.1
  omega
end
end Go.Proofs.YtcnpgmohnclojaaDoor
end
section
namespace Go.Proofs.YtcnpgmohnclojaaDoor.V
open Go.RowKit
section
variable {C : Ctx} {Q0 : Exit → Act → World → Prop} {F F' G : Tr} {M M' : Mem} {ids : List Nat} {k : List Kont} {a b c : Code} {φ : List Prop}
/-- The first of two pieces is walked alone; the walk stands where it ends. -/
theorem Sat.holdC (h : Sat C Q0 (.code a F M ids (.lp (fun a w => b.wp C.P (Kq C.P Q0 k) a w) :: k))) : Sat C Q0 (.code (.seq a b) F M ids k) := fun U E a w hs hst => wp_seq (h U E a w hs hst)
theorem Sat.goC (h : Sat C Q0 (.code b F M ids k)) : Sat C Q0 (.ext .normal F M ids (.lp (fun a w => b.wp C.P (Kq C.P Q0 k) a w) :: k)) := fun U E a w hs hst => h U E a w hs hst
theorem Sat.nextC (h : Sat C Q0 (.code b F M ids k)) : Sat C Q0 (.ext .normal F M ids (.seq b :: k)) := fun U E a w hs hst => h U E a w hs hst
theorem Sat.skipC (h : Sat C Q0 (.ext .normal F M ids k)) : Sat C Q0 (.code .skip F M ids k) := fun U E a w hs hst => wp_skip (h U E a w hs hst)
theorem Sat.freezeC (wh : Bool) (id : Nat) (hz : frz C.wide C.pins ids wh id F M = some ⟨F', M', φ⟩) (hφ : AllP φ) (hn : Sat C Q0 (.code c F' M' ids k)) : Sat C Q0 (.code c F M ids k) := by
  intro U E a w _ hst
  obtain ⟨U', E', h1, h2⟩ := frz_ok hz hφ hst
  exact hn U' E' a w h1 h2
end
end Go.Proofs.YtcnpgmohnclojaaDoor.V
end
section
namespace Go.Proofs.YtcnpgmohnclojaaDoor
open Go.RowKit V
set_option maxRecDepth 100000
set_option maxHeartbeats 4000000
set_option linter.unusedSimpArgs false
attribute [local irreducible] V.Sat V.DSat
theorem dec_self {Γ : Glob} (m : Nat) (hm : m < 3) (x : List UInt8) (hl : x.length ≤ 65536) : Fun Tryd.prog Γ 15 [.int .i64 (m : Int), .ro (.u8 (cd m x)), .int .i64 (x.length : Int)] (.tup [.ro (.u8 x), .int .i64 0]) := by
  have := (dec_call m hm (cd m x) x.length hl).weak (Γ := Γ)
  have e := dR_cd m x
  rwa [e.1, e.2] at this
theorem code1 : cd 0 [1] = [0, 255, 255, 255] := by
  show Rc.trim (Rc.full (Rc.stepE Rc.onesN 256 Rc.e0 1)) = _
  have hb : Rc.bef Rc.onesN 1 = 1 := by
    rw [Rc.bef_succ Rc.onesN 0 (by rw [Rc.tab_ones.len]; decide), Rc.ones_at 0 (by decide)]
    rfl
  have h1 : Rc.stepE Rc.onesN 256 Rc.e0 1 = ⟨4294967040, 4294967040, [0]⟩ := by
    unfold Rc.stepE
    rw [hb, Rc.ones_at 1 (by decide), show Rc.e0.low + Rc.e0.size / 256 * 1 = 16777215 from rfl, show Rc.e0.size / 256 * 1 = 16777215 from rfl]
    rw [show Rc.cut 16777215 Rc.e0.out = (16777215, []) from by unfold Rc.cut; rw [if_neg (by decide)]; rfl]
    rw [Rc.norm_more ⟨by decide, by decide⟩, Rc.norm_end (by decide)]
    rfl
  rw [h1]
  rfl
theorem sanity_law {Γ : Glob} : Fun Tryd.prog Γ 10 [] (.bool true) := by
  have h1 : Fun Tryd.prog Γ 13 [.int .i64 0, .ro (.u8 [1])] (.tup [.ro (.u8 [0, 255, 255, 255]), .int .i64 0]) := by
    have := (enc_call 0 (by decide) [1] (by decide)).weak (Γ := Γ)
    rwa [code1] at this
  have h2 : Fun Tryd.prog Γ 13 [.int .i64 1, .ro (.u8 [0, 0, 0])] (.tup [.ro (.u8 []), .int .i64 0]) := by
    have := (enc_call 1 (by decide) (List.replicate 3 0) (by decide)).weak (Γ := Γ)
    rwa [cd_zero] at this
  have h3 : Fun Tryd.prog Γ 15 [.int .i64 0, .ro (.u8 [0, 255, 255, 255]), .int .i64 1] (.tup [.ro (.u8 [1]), .int .i64 0]) := by
    have := dec_self (Γ := Γ) 0 (by decide) [1] (by decide)
    rwa [code1] at this
  have h4 : Fun Tryd.prog Γ 15 [.int .i64 2, .ro (.u8 []), .int .i64 3] (.tup [.ro (.u8 [0, 0, 0]), .int .i64 0]) := by
    have := dec_self (Γ := Γ) 2 (by decide) (List.replicate 3 0) (by decide)
    rwa [cd_zero] at this
  have h5 : Fun Tryd.prog Γ 13 [.int .i64 3, .ro (.u8 [])] _ := (enc_nil 3 (by decide) (by decide) (by decide) []).weak
  have h6 : Fun Tryd.prog Γ 15 [.int .i64 0, .ro (.u8 [0]), .int .i64 0] (.tup [.ro (.u8 []), .int .i64 130]) := by
    have hz : dt 0 [0] 0 = none := by
      cases h : dt 0 [0] 0 with
      | none => rfl
      | some t => exact absurd rfl (cd_last 0 t [] 0 (dt_some 0 _ _ t h).1)
    have h := (dec_call 0 (by decide) [0] 0 (by decide)).weak (Γ := Γ)
    unfold dR dE at h
    rw [hz] at h
    exact h
  have h7 : Fun Tryd.prog Γ 15 [.int .i64 0, .ro (.u8 []), .int .i64 (-1)] _ := (dec_far 0 (by decide) [] (-1) (.inl (by decide))).weak
  obtain ⟨N, hN⟩ : ∃ N : Nat, N = 65537 := ⟨_, rfl⟩
  have h8 : Fun Tryd.prog Γ 13 [.int .i64 0, .ro (.u8 (List.replicate N 0))] _ := (enc_long 0 (by decide) (List.replicate N 0) (by rw [List.length_replicate]; omega)).weak
  have h9 : Fun Tryd.prog Γ 14 [.int .i64 0, .ro (.u8 [1])] (.tup [.int .i64 4, .int .i64 0]) := by
    have := (size_call 0 (by decide) [1] (by decide)).weak (Γ := Γ)
    rwa [code1] at this
  refine Fun.mkF 7 Tryd.func10 rfl Tryd.ntmps10 rfl rfl fun hf T w0 => ?_
  refine Sat.holdC ?_
  repeat' (first
      | ((with_reducible apply Sat.run (X := X64)); exact rfl; (first | exact True.intro | (exact phi) | skip))
      | ((with_reducible apply Sat.drawn); kernel_rfl)
      | ((with_reducible apply DSat.run (X := X64)); exact rfl; (first | exact True.intro | (exact phi) | skip))
      | ((with_reducible apply DSat.fin); kernel_rfl) | fail)
  refine Sat.goC (Sat.holdC ?_)
  repeat' (first
      | ((with_reducible apply Sat.run (X := X64)); exact rfl; (first | exact True.intro | (exact phi) | skip))
      | ((with_reducible apply Sat.drawn); kernel_rfl)
      | ((with_reducible apply DSat.run (X := X64)); exact rfl; (first | exact True.intro | (exact phi) | skip))
      | ((with_reducible apply DSat.fin); kernel_rfl)
      | ((with_reducible apply Sat.freeze true); exact rfl; exact rfl; exact rfl; ((repeat' (first | exact AllP.nil | with_reducible refine AllP.cons ?_ ?_)) <;> (first | exact rfl | exact trivial | exact ⟨rfl, rfl, rfl, rfl⟩ | exact .inl ⟨rfl, rfl, rfl⟩ | (exact .inl ⟨rfl, (by simp [V.EV.len]), rfl⟩) | (intro _; exact rfl) | (intro _; exact trivial))))
      | ((with_reducible apply Sat.call (h1)); exact rfl; exact rfl; kernel_rfl; (exact cnv); exact rfl)
      | ((with_reducible apply DSat.call (h1)); exact rfl; exact rfl; kernel_rfl; (exact cnv); exact rfl) | fail)
  refine Sat.goC (Sat.holdC ?_)
  repeat' (first
      | ((with_reducible apply Sat.run (X := X64)); exact rfl; (first | exact True.intro | (exact phi) | skip))
      | ((with_reducible apply Sat.drawn); kernel_rfl)
      | ((with_reducible apply DSat.run (X := X64)); exact rfl; (first | exact True.intro | (exact phi) | skip))
      | ((with_reducible apply DSat.fin); kernel_rfl)
      | ((with_reducible apply Sat.freeze true); exact rfl; exact rfl; exact rfl; ((repeat' (first | exact AllP.nil | with_reducible refine AllP.cons ?_ ?_)) <;> (first | exact rfl | exact trivial | exact ⟨rfl, rfl, rfl, rfl⟩ | exact .inl ⟨rfl, rfl, rfl⟩ | (exact .inl ⟨rfl, (by simp [V.EV.len]), rfl⟩) | (intro _; exact rfl) | (intro _; exact trivial))))
      | ((with_reducible apply Sat.call (h2)); exact rfl; exact rfl; kernel_rfl; (exact cnv); exact rfl)
      | ((with_reducible apply DSat.call (h2)); exact rfl; exact rfl; kernel_rfl; (exact cnv); exact rfl) | fail)
  refine Sat.goC (Sat.holdC ?_)
  repeat' (first
      | ((with_reducible apply Sat.run (X := X64)); exact rfl; (first | exact True.intro | (exact phi) | skip))
      | ((with_reducible apply Sat.drawn); kernel_rfl)
      | ((with_reducible apply DSat.run (X := X64)); exact rfl; (first | exact True.intro | (exact phi) | skip))
      | ((with_reducible apply DSat.fin); kernel_rfl)
      | ((with_reducible apply Sat.freeze true); exact rfl; exact rfl; exact rfl; ((repeat' (first | exact AllP.nil | with_reducible refine AllP.cons ?_ ?_)) <;> (first | exact rfl | exact trivial | exact ⟨rfl, rfl, rfl, rfl⟩ | exact .inl ⟨rfl, rfl, rfl⟩ | (exact .inl ⟨rfl, (by simp [V.EV.len]), rfl⟩) | (intro _; exact rfl) | (intro _; exact trivial))))
      | ((with_reducible apply Sat.call (h3)); exact rfl; exact rfl; kernel_rfl; (exact cnv); exact rfl)
      | ((with_reducible apply DSat.call (h3)); exact rfl; exact rfl; kernel_rfl; (exact cnv); exact rfl) | fail)
  refine Sat.goC (Sat.holdC ?_)
  repeat' (first
      | ((with_reducible apply Sat.run (X := X64)); exact rfl; (first | exact True.intro | (exact phi) | skip))
      | ((with_reducible apply Sat.drawn); kernel_rfl)
      | ((with_reducible apply DSat.run (X := X64)); exact rfl; (first | exact True.intro | (exact phi) | skip))
      | ((with_reducible apply DSat.fin); kernel_rfl)
      | ((with_reducible apply Sat.freeze true); exact rfl; exact rfl; exact rfl; ((repeat' (first | exact AllP.nil | with_reducible refine AllP.cons ?_ ?_)) <;> (first | exact rfl | exact trivial | exact ⟨rfl, rfl, rfl, rfl⟩ | exact .inl ⟨rfl, rfl, rfl⟩ | (exact .inl ⟨rfl, (by simp [V.EV.len]), rfl⟩) | (intro _; exact rfl) | (intro _; exact trivial))))
      | ((with_reducible apply Sat.call (h4)); exact rfl; exact rfl; kernel_rfl; (exact cnv); exact rfl)
      | ((with_reducible apply DSat.call (h4)); exact rfl; exact rfl; kernel_rfl; (exact cnv); exact rfl) | fail)
  refine Sat.goC (Sat.holdC ?_)
  repeat' (first
      | ((with_reducible apply Sat.run (X := X64)); exact rfl; (first | exact True.intro | (exact phi) | skip))
      | ((with_reducible apply Sat.drawn); kernel_rfl)
      | ((with_reducible apply DSat.run (X := X64)); exact rfl; (first | exact True.intro | (exact phi) | skip))
      | ((with_reducible apply DSat.fin); kernel_rfl)
      | ((with_reducible apply Sat.freeze true); exact rfl; exact rfl; exact rfl; ((repeat' (first | exact AllP.nil | with_reducible refine AllP.cons ?_ ?_)) <;> (first | exact rfl | exact trivial | exact ⟨rfl, rfl, rfl, rfl⟩ | exact .inl ⟨rfl, rfl, rfl⟩ | (exact .inl ⟨rfl, (by simp [V.EV.len]), rfl⟩) | (intro _; exact rfl) | (intro _; exact trivial))))
      | ((with_reducible apply Sat.call (h5)); exact rfl; exact rfl; kernel_rfl; (exact cnv); exact rfl)
      | ((with_reducible apply DSat.call (h5)); exact rfl; exact rfl; kernel_rfl; (exact cnv); exact rfl) | fail)
  refine Sat.goC (Sat.holdC ?_)
  repeat' (first
      | ((with_reducible apply Sat.run (X := X64)); exact rfl; (first | exact True.intro | (exact phi) | skip))
      | ((with_reducible apply Sat.drawn); kernel_rfl)
      | ((with_reducible apply DSat.run (X := X64)); exact rfl; (first | exact True.intro | (exact phi) | skip))
      | ((with_reducible apply DSat.fin); kernel_rfl)
      | ((with_reducible apply Sat.freeze true); exact rfl; exact rfl; exact rfl; ((repeat' (first | exact AllP.nil | with_reducible refine AllP.cons ?_ ?_)) <;> (first | exact rfl | exact trivial | exact ⟨rfl, rfl, rfl, rfl⟩ | exact .inl ⟨rfl, rfl, rfl⟩ | (exact .inl ⟨rfl, (by simp [V.EV.len]), rfl⟩) | (intro _; exact rfl) | (intro _; exact trivial))))
      | ((with_reducible apply Sat.call (h6)); exact rfl; exact rfl; kernel_rfl; (exact cnv); exact rfl)
      | ((with_reducible apply DSat.call (h6)); exact rfl; exact rfl; kernel_rfl; (exact cnv); exact rfl) | fail)
  refine Sat.goC (Sat.holdC ?_)
  repeat' (first
      | ((with_reducible apply Sat.run (X := X64)); exact rfl; (first | exact True.intro | (exact phi) | skip))
      | ((with_reducible apply Sat.drawn); kernel_rfl)
      | ((with_reducible apply DSat.run (X := X64)); exact rfl; (first | exact True.intro | (exact phi) | skip))
      | ((with_reducible apply DSat.fin); kernel_rfl)
      | ((with_reducible apply Sat.freeze true); exact rfl; exact rfl; exact rfl; ((repeat' (first | exact AllP.nil | with_reducible refine AllP.cons ?_ ?_)) <;> (first | exact rfl | exact trivial | exact ⟨rfl, rfl, rfl, rfl⟩ | exact .inl ⟨rfl, rfl, rfl⟩ | (exact .inl ⟨rfl, (by simp [V.EV.len]), rfl⟩) | (intro _; exact rfl) | (intro _; exact trivial))))
      | ((with_reducible apply Sat.call (h7)); exact rfl; exact rfl; kernel_rfl; (exact cnv); exact rfl)
      | ((with_reducible apply DSat.call (h7)); exact rfl; exact rfl; kernel_rfl; (exact cnv); exact rfl) | fail)
  refine Sat.goC (Sat.holdC ?_)
  repeat' (first
      | ((with_reducible apply Sat.run (X := X64)); exact rfl; (first | exact True.intro | (fail) | skip))
      | ((with_reducible apply Sat.drawn); kernel_rfl)
      | ((with_reducible apply DSat.run (X := X64)); exact rfl; (first | exact True.intro | (fail) | skip))
      | ((with_reducible apply DSat.fin); kernel_rfl) | fail)
  · exact .cons ⟨by decide, by decide, by show (1 : Int) * 65537 ≤ 281474976710656; decide, by decide⟩ .nil
  rw [show Int.toNat 65537 = N from hN.symm]
  with_reducible apply Sat.freeze true
  · exact rfl
  · exact rfl
  · exact rfl
  · ((repeat' (first | exact AllP.nil | with_reducible refine AllP.cons ?_ ?_)) <;> first | exact rfl | exact trivial | exact Int.natCast_add_one _ | exact ⟨rfl, rfl⟩ | exact ⟨rfl, rfl, rfl⟩ | exact ⟨rfl, rfl, rfl, rfl⟩ | exact ⟨rfl, .inl rfl⟩ | exact ⟨rfl, .inr rfl⟩ | exact pur | (intro _; exact rfl) | (intro _; exact trivial) | (intro _; exact pur) | exact .inl ⟨rfl, (List.length_replicate ..).symm, rfl⟩)
  repeat' (first
      | ((with_reducible apply Sat.run (X := X64)); exact rfl; (first | exact True.intro | (fail) | skip))
      | ((with_reducible apply Sat.drawn); kernel_rfl)
      | ((with_reducible apply DSat.run (X := X64)); exact rfl; (first | exact True.intro | (fail) | skip))
      | ((with_reducible apply DSat.fin); kernel_rfl)
      | ((with_reducible apply Sat.call (h8)); exact rfl; exact rfl; kernel_rfl; (exact cnv); exact rfl)
      | ((with_reducible apply DSat.call (h8)); exact rfl; exact rfl; kernel_rfl; (exact cnv); exact rfl) | fail)
  refine Sat.goC ?_
  refine Sat.kill [53] rfl ?_
  clear h8 hN
  repeat' (first
      | ((with_reducible apply Sat.run (X := X64)); exact rfl; (first | exact True.intro | (exact phi) | skip))
      | ((with_reducible apply Sat.drawn); kernel_rfl)
      | ((with_reducible apply DSat.run (X := X64)); exact rfl; (first | exact True.intro | (exact phi) | skip))
      | ((with_reducible apply DSat.fin); kernel_rfl)
      | ((with_reducible apply Sat.freeze true); exact rfl; exact rfl; exact rfl; ((repeat' (first | exact AllP.nil | with_reducible refine AllP.cons ?_ ?_)) <;> (first | exact rfl | exact trivial | exact ⟨rfl, rfl, rfl, rfl⟩ | exact .inl ⟨rfl, rfl, rfl⟩ | (exact .inl ⟨rfl, (by simp [V.EV.len]), rfl⟩) | (intro _; exact rfl) | (intro _; exact trivial))))
      | ((with_reducible apply Sat.callR (h9)); exact rfl; exact rfl; exact rfl; kernel_rfl; (exact cnv); exact rfl)
      | ((with_reducible apply DSat.callR (h9)); exact rfl; exact rfl; exact rfl; kernel_rfl; (exact cnv); exact rfl)
      | ((with_reducible apply Sat.gon); exact rfl; first | exact rfl | (decide +kernel)) | fail)
  · ((repeat' (first | exact AllP.nil | with_reducible refine AllP.cons ?_ ?_)) <;> (first | exact trivial | exact rfl | (intro _; exact rfl) | (intro _; show _ ≤ _; decide) | (show _ ≤ _; decide) | (intro h; first | exact h | exact fun h2 => ⟨h, h2⟩ | (refine inR_i64 ?_ ?_ <;> first | omega | (simp [EV.len]; omega)) | exact pur | (intro h2; exact pur) | (simp [EV.len] at h ⊢; omega) | (simp [EV.len] at h; constructor <;> first | omega | (simp [EV.len]; omega)) | (intro h2; exact h))))
  · ((repeat' (first | exact AllP.nil | with_reducible refine AllP.cons ?_ ?_)) <;> (first | exact trivial | exact rfl | (intro _; exact rfl) | (intro _; show _ ≤ _; decide) | (show _ ≤ _; decide) | (intro h; first | exact h | exact fun h2 => ⟨h, h2⟩ | (refine inR_i64 ?_ ?_ <;> first | omega | (simp [EV.len]; omega)) | exact pur | (intro h2; exact pur) | (simp [EV.len] at h ⊢; omega) | (simp [EV.len] at h; constructor <;> first | omega | (simp [EV.len]; omega)) | (intro h2; exact h))))
  · ((repeat' (first | exact AllP.nil | with_reducible refine AllP.cons ?_ ?_)) <;> (first | exact trivial | exact rfl | (intro _; exact rfl) | (intro _; show _ ≤ _; decide) | (show _ ≤ _; decide) | (intro h; first | exact h | exact fun h2 => ⟨h, h2⟩ | (refine inR_i64 ?_ ?_ <;> first | omega | (simp [EV.len]; omega)) | exact pur | (intro h2; exact pur) | (simp [EV.len] at h ⊢; omega) | (simp [EV.len] at h; constructor <;> first | omega | (simp [EV.len]; omega)) | (intro h2; exact h))))
  · (refine Sat.fin (Sat.end1 rfl rfl rfl True.intro (.refl _ pur) (by first | exact .inl rfl | exact .inr rfl) (fun _ h => h)) ?_; (exact congrArg SV.bool (by decide +kernel)))
end Go.Proofs.YtcnpgmohnclojaaDoor
end
section
namespace Go.Proofs.YtcnpgmohnclojaaDoor
open Go.RowKit V
set_option maxRecDepth 100000
set_option maxHeartbeats 4000000
set_option linter.unusedSimpArgs false
attribute [local irreducible] V.Sat V.DSat
theorem take_le (b : List UInt8) (n : Nat) : (b.take n).length ≤ n := by rw [List.length_take]; omega
theorem sizes_law {Γ : Glob} (hs : Fun Tryd.prog Γ 10 [] (.bool true)) (b : List UInt8) : Fun Tryd.prog Γ 7 [.ro (.u8 b)] (.bool true) := by
  have hlim : Fun Tryd.prog Γ 11 [.ro (.u8 b), .int .i64 1000] (.ro (.u8 (b.take 1000))) := (limited_spec b 1000 (by decide)).weak
  have hx := take_le b 1000
  generalize b.take 1000 = x at hlim hx
  refine Fun.mkF 7 Tryd.func7 rfl Tryd.ntmps7 rfl rfl fun hf T w0 => ?_
  repeat' (first
      | ((with_reducible apply Sat.run (X := X64)); exact rfl; (first | exact True.intro | (exact phi) | skip))
      | ((with_reducible apply Sat.drawn); kernel_rfl)
      | ((with_reducible apply DSat.run (X := X64)); exact rfl; (first | exact True.intro | (exact phi) | skip))
      | ((with_reducible apply DSat.fin); kernel_rfl)
      | ((with_reducible apply Sat.call0 (hs)); exact rfl; exact rfl; kernel_rfl; exact rfl)
      | ((with_reducible apply DSat.call0 (hs)); exact rfl; exact rfl; kernel_rfl; exact rfl)
      | ((with_reducible apply DSat.callM0 (hs)); exact rfl; exact rfl; (first | exact rfl | assumption | (decide +kernel)); exact rfl; kernel_rfl; exact rfl)
      | ((with_reducible apply Sat.call (hlim)); exact rfl; exact rfl; kernel_rfl; (exact cnv); exact rfl)
      | ((with_reducible apply DSat.call (hlim)); exact rfl; exact rfl; kernel_rfl; (exact cnv); exact rfl) | fail)
  apply Sat.loop (α := Nat) (fun m => m ≤ 3) (fun m => 3 - m) 0 (fun m => [(5, .int .i64 (m : Int))]) (fun _ => []) [] [] 0
  · intro x; exact rfl
  · intro x; exact rfl
  · exact rfl
  · exact rfl
  · ((repeat' (first | exact AllP.nil | with_reducible refine AllP.cons ?_ ?_)) <;> first | exact rfl | exact trivial | exact Int.natCast_add_one _ | exact ⟨rfl, rfl⟩ | exact ⟨rfl, rfl, rfl⟩ | exact ⟨rfl, rfl, rfl, rfl⟩ | exact ⟨rfl, .inl rfl⟩ | exact ⟨rfl, .inr rfl⟩ | exact pur | (intro _; exact rfl) | (intro _; exact trivial) | (intro _; exact pur))
  · exact Nat.zero_le _
  intro m hm
  by_cases hm3 : m < 3
  · have he : Fun Tryd.prog Γ 13 _ _ := (enc_call m hm3 x (by omega)).weak
    have hz : Fun Tryd.prog Γ 14 _ _ := (size_call m hm3 x (by omega)).weak
    have hmi : (m : Int) < 3 := by omega
    have hcl := cd_len m x
    repeat' (first
        | ((with_reducible apply Sat.cond_pt); exact rfl; exact hmi)
        | ((with_reducible apply Sat.run (X := X64)); exact rfl; (first | exact True.intro | (fail) | skip))
        | ((with_reducible apply Sat.drawn); kernel_rfl)
        | ((with_reducible apply DSat.run (X := X64)); exact rfl; (first | exact True.intro | (fail) | skip))
        | ((with_reducible apply DSat.fin); kernel_rfl)
        | ((with_reducible apply Sat.call (he)); exact rfl; exact rfl; kernel_rfl; (exact cnv); exact rfl)
        | ((with_reducible apply DSat.call (he)); exact rfl; exact rfl; kernel_rfl; (exact cnv); exact rfl)
        | ((with_reducible apply Sat.callR (hz)); exact rfl; exact rfl; exact rfl; kernel_rfl; (exact cnv); exact rfl)
        | ((with_reducible apply DSat.callR (hz)); exact rfl; exact rfl; exact rfl; kernel_rfl; (exact cnv); exact rfl) | fail)
    · ((repeat' (first | exact AllP.nil | with_reducible refine AllP.cons ?_ ?_)) <;> (first | exact trivial | exact rfl | (intro h; first | exact h | exact fun h2 => ⟨h, h2⟩ | (refine inR_i64 ?_ ?_ <;> first | omega | (simp [EV.len]; omega)) | exact pur | (intro h2; exact pur) | (simp [EV.len] at h ⊢; omega) | (simp [EV.len] at h; constructor <;> first | omega | (simp [EV.len]; omega)) | (intro h2; exact h))))
    with_reducible apply Sat.cond
    · exact rfl
    · intro h
      exfalso
      simp [EV.len] at h
      rcases h with ⟨h1, h2⟩ | ⟨h1, h2⟩
      · have := cd_end m x h1
        rw [List.getD_eq_getElem?_getD] at this
        exact this (UInt8.toNat_inj.1 h2)
      · subst h1
        have := Rc.code0_len x
        have h2 := of_decide_eq_true h2
        have e : cd 0 x = Rc.code Rc.M0 () x := rfl
        rw [e] at h2
        omega
    · intro h
      clear h
      repeat' (first
          | ((with_reducible apply Sat.run (X := X64)); exact rfl; (first | exact True.intro | (fail) | skip))
          | ((with_reducible apply Sat.drawn); kernel_rfl)
          | ((with_reducible apply DSat.run (X := X64)); exact rfl; (first | exact True.intro | (fail) | skip))
          | ((with_reducible apply DSat.fin); kernel_rfl) | fail)
      · ((repeat' (first | exact AllP.nil | with_reducible refine AllP.cons ?_ ?_)) <;> first | exact rfl | exact trivial | (apply inR_i64 <;> omega) | (apply inR_u64 <;> omega) | (apply inR_u32 <;> omega) | (apply inR_u8' <;> omega) | omega | (repeat' (with_reducible apply And.intro)) <;> (first | omega | exact rfl | decide))
      · refine Sat.back (m + 1) [] rfl ?_ ?_ ?_
        · ((repeat' (first | exact AllP.nil | with_reducible refine AllP.cons ?_ ?_)) <;> first | exact rfl | exact trivial | exact Int.natCast_add_one _ | exact ⟨rfl, rfl⟩ | exact ⟨rfl, rfl, rfl⟩ | exact ⟨rfl, rfl, rfl, rfl⟩ | exact ⟨rfl, .inl rfl⟩ | exact ⟨rfl, .inr rfl⟩ | exact pur | (intro _; exact rfl) | (intro _; exact trivial) | (intro _; exact pur))
        · omega
        · omega
  · obtain rfl : m = 3 := by omega
    repeat' (first
        | ((with_reducible apply Sat.run (X := X64)); exact rfl; (first | exact True.intro | (exact phi) | skip))
        | ((with_reducible apply Sat.drawn); kernel_rfl)
        | ((with_reducible apply DSat.run (X := X64)); exact rfl; (first | exact True.intro | (exact phi) | skip))
        | ((with_reducible apply DSat.fin); kernel_rfl)
        | ((with_reducible apply Sat.cond_t); exact rfl)
        | ((with_reducible apply Sat.cond_f); exact rfl)
        | ((with_reducible apply Sat.cond_pt); exact rfl; (try dsimp only [V.EV.sub, V.EV.len]); first | assumption | omega)
        | ((with_reducible apply Sat.cond_pf); exact rfl; (try dsimp only [V.EV.sub, V.EV.len]); first | assumption | omega)
        | ((with_reducible apply Sat.cond_p); exact rfl; all_goals intro h)
        | ((with_reducible apply Sat.cond); exact rfl; all_goals intro h) | fail)
    (refine Sat.fin (Sat.end1 rfl rfl rfl True.intro (.refl _ pur) (by first | exact .inl rfl | exact .inr rfl) (fun _ h => h)) ?_; (rfl))
theorem zeros_law {Γ : Glob} (hs : Fun Tryd.prog Γ 10 [] (.bool true)) (n at_ : Nat) (c : UInt8) : Fun Tryd.prog Γ 8 [.int .u16 (n : Int), .int .u16 (at_ : Int), .int .u8 (c.toNat : Int)] (.bool true) := by
  refine Fun.mkF 7 Tryd.func8 rfl Tryd.ntmps8 rfl rfl fun hf T w0 => ?_
  obtain ⟨N, hNN⟩ : ∃ N, N = n % 1001 := ⟨_, rfl⟩
  have hN : Int.tmod (n : Int) 1001 = (N : Int) := by rw [hNN]; rfl
  have hN1 : N ≤ 1000 := by omega
  repeat' (first
      | ((with_reducible apply Sat.run (X := X64)); exact rfl; (first | exact True.intro | (fail) | skip))
      | ((with_reducible apply Sat.drawn); kernel_rfl)
      | ((with_reducible apply DSat.run (X := X64)); exact rfl; (first | exact True.intro | (fail) | skip))
      | ((with_reducible apply DSat.fin); kernel_rfl)
      | ((with_reducible apply Sat.call0 (hs)); exact rfl; exact rfl; kernel_rfl; exact rfl)
      | ((with_reducible apply DSat.call0 (hs)); exact rfl; exact rfl; kernel_rfl; exact rfl)
      | ((with_reducible apply DSat.callM0 (hs)); exact rfl; exact rfl; (first | exact rfl | assumption | (decide +kernel)); exact rfl; kernel_rfl; exact rfl) | fail)
  · rw [hN]
    exact .cons ⟨by omega, by omega, by show (1 : Int) * (N : Int) ≤ 281474976710656; omega, by omega⟩ (.cons (by decide) .nil)
  rw [hN, Int.toNat_natCast]
  refine Sat.kill [18, 19, 20, 21] rfl ?_
  have hxl : (List.replicate N (0 : UInt8)).length = N := List.length_replicate ..
  obtain ⟨x, hx⟩ : ∃ x, x = List.replicate N (0 : UInt8) := ⟨_, rfl⟩
  rw [← hx] at hxl ⊢
  apply Sat.loop (α := Nat) (fun m => m ≤ 3) (fun m => 3 - m) 0 (fun m => [(9, .int .i64 (m : Int)), (8, .ro (.u8 x))]) (fun _ => []) [0] [] 0
  · intro x; exact rfl
  · intro x; exact rfl
  · exact rfl
  · exact rfl
  · ((repeat' (first | exact AllP.nil | with_reducible refine AllP.cons ?_ ?_)) <;> first | exact rfl | exact trivial | exact Int.natCast_add_one _ | exact ⟨rfl, rfl⟩ | exact ⟨rfl, rfl, rfl⟩ | exact ⟨rfl, rfl, rfl, rfl⟩ | exact ⟨rfl, .inl rfl⟩ | exact ⟨rfl, .inr rfl⟩ | exact pur | (intro _; exact rfl) | (intro _; exact trivial) | (intro _; exact pur) | exact .inl ⟨rfl, hxl.symm, rfl⟩)
  · exact Nat.zero_le _
  intro m hm
  by_cases hm3 : m < 3
  · have hcd0 : cd m x = [] := by rw [hx]; exact cd_zero m N
    have he : Fun Tryd.prog Γ 13 [.int .i64 (m : Int), .ro (.u8 x)] (.tup [.ro (.u8 []), .int .i64 0]) := by
      have := (enc_call m hm3 x (by omega)).weak (Γ := Γ)
      rwa [hcd0] at this
    have hd : Fun Tryd.prog Γ 15 [.int .i64 (m : Int), .ro (.u8 []), .int .i64 (x.length : Int)] (.tup [.ro (.u8 x), .int .i64 0]) := by
      have := (dec_call m hm3 [] x.length (by omega)).weak (Γ := Γ)
      have e := dR_cd m x
      rw [hcd0] at e
      rwa [e.1, e.2] at this
    have hmi : (m : Int) < 3 := by omega
    repeat' (first
        | ((with_reducible apply Sat.cond_pt); exact rfl; exact hmi)
        | ((with_reducible apply Sat.run (X := X64)); exact rfl; (first | exact True.intro | (fail) | skip))
        | ((with_reducible apply Sat.drawn); kernel_rfl)
        | ((with_reducible apply DSat.run (X := X64)); exact rfl; (first | exact True.intro | (fail) | skip))
        | ((with_reducible apply DSat.fin); kernel_rfl)
        | ((with_reducible apply Sat.call (he)); exact rfl; exact rfl; kernel_rfl; (exact cnv); exact rfl)
        | ((with_reducible apply DSat.call (he)); exact rfl; exact rfl; kernel_rfl; (exact cnv); exact rfl)
        | ((with_reducible apply Sat.call (hd)); exact rfl; exact rfl; kernel_rfl; (exact cnv); exact rfl)
        | ((with_reducible apply DSat.call (hd)); exact rfl; exact rfl; kernel_rfl; (exact cnv); exact rfl) | fail)
    · ((repeat' (first | exact AllP.nil | with_reducible refine AllP.cons ?_ ?_)) <;> (first | exact trivial | exact rfl | (intro h; first | exact h | exact fun h2 => ⟨h, h2⟩ | (refine inR_i64 ?_ ?_ <;> first | omega | (simp [EV.len]; omega)) | exact pur | (intro h2; exact pur) | (simp [EV.len] at h ⊢; omega) | (simp [EV.len] at h; constructor <;> first | omega | (simp [EV.len]; omega)) | (intro h2; exact h))))
    with_reducible apply Sat.cond
    · exact rfl
    · intro h
      exfalso
      simp [EV.len] at h
    · intro h
      clear h
      repeat' (first
          | ((with_reducible apply Sat.run (X := X64)); exact rfl; (first | exact True.intro | (fail) | skip))
          | ((with_reducible apply Sat.drawn); kernel_rfl)
          | ((with_reducible apply DSat.run (X := X64)); exact rfl; (first | exact True.intro | (fail) | skip))
          | ((with_reducible apply DSat.fin); kernel_rfl) | fail)
      · ((repeat' (first | exact AllP.nil | with_reducible refine AllP.cons ?_ ?_)) <;> (first | exact trivial | exact rfl | (intro h; first | exact h | exact fun h2 => ⟨h, h2⟩ | (refine inR_i64 ?_ ?_ <;> first | omega | (simp [EV.len]; omega)) | exact pur | (intro h2; exact pur) | (simp [EV.len] at h ⊢; omega) | (simp [EV.len] at h; constructor <;> first | omega | (simp [EV.len]; omega)) | (intro h2; exact h))))
      with_reducible apply Sat.cond
      · exact rfl
      · intro h
        clear h
        repeat' (first
            | ((with_reducible apply Sat.run (X := X64)); exact rfl; (first | exact True.intro | (fail) | skip))
            | ((with_reducible apply Sat.drawn); kernel_rfl)
            | ((with_reducible apply DSat.run (X := X64)); exact rfl; (first | exact True.intro | (fail) | skip))
            | ((with_reducible apply DSat.fin); kernel_rfl) | fail)
        · ((repeat' (first | exact AllP.nil | with_reducible refine AllP.cons ?_ ?_)) <;> first | exact rfl | exact trivial | (apply inR_i64 <;> omega) | (apply inR_u64 <;> omega) | (apply inR_u32 <;> omega) | (apply inR_u8' <;> omega) | omega | (repeat' (with_reducible apply And.intro)) <;> (first | omega | exact rfl | decide))
        · refine Sat.back (m + 1) [] rfl ?_ ?_ ?_
          · ((repeat' (first | exact AllP.nil | with_reducible refine AllP.cons ?_ ?_)) <;> first | exact rfl | exact trivial | exact Int.natCast_add_one _ | exact ⟨rfl, rfl⟩ | exact ⟨rfl, rfl, rfl⟩ | exact ⟨rfl, rfl, rfl, rfl⟩ | exact ⟨rfl, .inl rfl⟩ | exact ⟨rfl, .inr rfl⟩ | exact pur | (intro _; exact rfl) | (intro _; exact trivial) | (intro _; exact pur))
          · omega
          · omega
      · intro h
        have hc0 : c ≠ 0 ∧ 0 < x.length := by
          simp [EV.len] at h
          refine ⟨fun e => h.2 (by rw [e]; rfl), ?_⟩
          rcases Nat.eq_zero_or_pos x.length with q | q
          · exact absurd (List.eq_nil_of_length_eq_zero q) h.1
          · exact q
        obtain ⟨I, hI⟩ : ∃ I, I = at_ % x.length := ⟨_, rfl⟩
        have hIl : I < x.length := by rw [hI]; exact Nat.mod_lt _ hc0.2
        have hIi : (at_ : Int) % ((EV.u8 x).len : Int) = (I : Int) := by
          show (at_ : Int) % (x.length : Int) = _
          rw [hI, Int.natCast_emod]
        have hst : ([] ++ x).set (0 + (I : Int).toNat) (UInt8.ofNat ((c.toNat : Int)).toNat) = x.set I c := by
          rw [List.nil_append, Nat.zero_add, Int.toNat_natCast, Int.toNat_natCast, UInt8.ofNat_toNat]
        have hne : x.set I c ≠ List.replicate (x.set I c).length 0 := fun e => by
          have h1 : (x.set I c).getD I 0 = c := by
            rw [List.getD_eq_getElem?_getD, List.getElem?_set_self hIl]; rfl
          rw [e, List.getD_eq_getElem?_getD, List.getElem?_replicate, if_pos (by rw [List.length_set]; exact hIl)] at h1
          exact hc0.1 h1.symm
        have hol : (x.set I c).length = x.length := List.length_set ..
        have heo : Fun Tryd.prog Γ 13 _ _ := (enc_call m hm3 (x.set I c) (by omega)).weak
        have hcne : (cd m (x.set I c)).length ≠ 0 := fun e => hne (cd_nil m _ (List.eq_nil_of_length_eq_zero e))
        repeat' (first
            | ((with_reducible apply Sat.run (X := X64)); exact rfl; (first | exact True.intro | (fail) | skip))
            | ((with_reducible apply Sat.drawn); kernel_rfl)
            | ((with_reducible apply DSat.run (X := X64)); exact rfl; (first | exact True.intro | (fail) | skip))
            | ((with_reducible apply DSat.fin); kernel_rfl) | fail)
        · rw [hIi]
          exact .cons (by show 0 + (I : Int).toNat < ([] ++ x).length; rw [List.nil_append]; omega) (.cons ⟨by omega, by show (I : Int) < ((0 + x.length : Nat) : Int); omega⟩ (.cons ⟨by omega, by show (0 : Int) < (x.length : Int); omega⟩ (.cons rfl (.cons (by show (0 + x.length) * (0 + 1) ≤ 140737488355328; omega) .nil))))
        rw [hIi, hst]
        refine killR [64, 74] rfl ?_
        generalize x.set I c = x2 at *
        with_reducible apply Sat.freeze true
        · exact rfl
        · exact rfl
        · exact rfl
        · ((repeat' (first | exact AllP.nil | with_reducible refine AllP.cons ?_ ?_)) <;> first | exact rfl | exact trivial | exact Int.natCast_add_one _ | exact ⟨rfl, rfl⟩ | exact ⟨rfl, rfl, rfl⟩ | exact ⟨rfl, rfl, rfl, rfl⟩ | exact ⟨rfl, .inl rfl⟩ | exact ⟨rfl, .inr rfl⟩ | exact pur | (intro _; exact rfl) | (intro _; exact trivial) | (intro _; exact pur) | exact .inl ⟨rfl, (by show 0 + x.length = x2.length; omega), rfl⟩)
        repeat' (first
            | ((with_reducible apply Sat.run (X := X64)); exact rfl; (first | exact True.intro | (fail) | skip))
            | ((with_reducible apply Sat.drawn); kernel_rfl)
            | ((with_reducible apply DSat.run (X := X64)); exact rfl; (first | exact True.intro | (fail) | skip))
            | ((with_reducible apply DSat.fin); kernel_rfl)
            | ((with_reducible apply Sat.call (heo)); exact rfl; exact rfl; kernel_rfl; (exact cnv); exact rfl)
            | ((with_reducible apply DSat.call (heo)); exact rfl; exact rfl; kernel_rfl; (exact cnv); exact rfl) | fail)
        · ((repeat' (first | exact AllP.nil | with_reducible refine AllP.cons ?_ ?_)) <;> (first | exact trivial | exact rfl | (intro h; first | exact h | exact fun h2 => ⟨h, h2⟩ | (refine inR_i64 ?_ ?_ <;> first | omega | (simp [EV.len]; omega)) | exact pur | (intro h2; exact pur) | (simp [EV.len] at h ⊢; omega) | (simp [EV.len] at h; constructor <;> first | omega | (simp [EV.len]; omega)) | (intro h2; exact h))))
        with_reducible apply Sat.cond
        · exact rfl
        · intro h
          exfalso
          simp [EV.len] at h
          exact hcne (by rw [h]; rfl)
        · intro h
          clear h
          repeat' (first
              | ((with_reducible apply Sat.run (X := X64)); exact rfl; (first | exact True.intro | (fail) | skip))
              | ((with_reducible apply Sat.drawn); kernel_rfl)
              | ((with_reducible apply DSat.run (X := X64)); exact rfl; (first | exact True.intro | (fail) | skip))
              | ((with_reducible apply DSat.fin); kernel_rfl) | fail)
          · ((repeat' (first | exact AllP.nil | with_reducible refine AllP.cons ?_ ?_)) <;> first | exact rfl | exact trivial | (apply inR_i64 <;> omega) | (apply inR_u64 <;> omega) | (apply inR_u32 <;> omega) | (apply inR_u8' <;> omega) | omega | (repeat' (with_reducible apply And.intro)) <;> (first | omega | exact rfl | decide))
          · refine Sat.back (m + 1) [] rfl ?_ ?_ ?_
            · ((repeat' (first | exact AllP.nil | with_reducible refine AllP.cons ?_ ?_)) <;> first | exact rfl | exact trivial | exact Int.natCast_add_one _ | exact ⟨rfl, rfl⟩ | exact ⟨rfl, rfl, rfl⟩ | exact ⟨rfl, rfl, rfl, rfl⟩ | exact ⟨rfl, .inl rfl⟩ | exact ⟨rfl, .inr rfl⟩ | exact pur | (intro _; exact rfl) | (intro _; exact trivial) | (intro _; exact pur))
            · omega
            · omega
  · obtain rfl : m = 3 := by omega
    repeat' (first
        | ((with_reducible apply Sat.run (X := X64)); exact rfl; (first | exact True.intro | (exact phi) | skip))
        | ((with_reducible apply Sat.drawn); kernel_rfl)
        | ((with_reducible apply DSat.run (X := X64)); exact rfl; (first | exact True.intro | (exact phi) | skip))
        | ((with_reducible apply DSat.fin); kernel_rfl)
        | ((with_reducible apply Sat.cond_t); exact rfl)
        | ((with_reducible apply Sat.cond_f); exact rfl)
        | ((with_reducible apply Sat.cond_pt); exact rfl; (try dsimp only [V.EV.sub, V.EV.len]); first | assumption | omega)
        | ((with_reducible apply Sat.cond_pf); exact rfl; (try dsimp only [V.EV.sub, V.EV.len]); first | assumption | omega)
        | ((with_reducible apply Sat.cond_p); exact rfl; all_goals intro h)
        | ((with_reducible apply Sat.cond); exact rfl; all_goals intro h) | fail)
    (refine Sat.fin (Sat.end1 rfl rfl rfl True.intro (.refl _ pur) (by first | exact .inl rfl | exact .inr rfl) (fun _ h => h)) ?_; (rfl))
end Go.Proofs.YtcnpgmohnclojaaDoor
end
