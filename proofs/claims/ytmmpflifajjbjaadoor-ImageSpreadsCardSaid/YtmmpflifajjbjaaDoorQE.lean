/-
  Joined texts: Bk: A region that draws its order, of which the last operation waits for all the others: it is walked alone, in the end.
  IS: Image: Print.
  Bl: The nil interface compared with nil; what a table's cell holds.
  IU: Image: a number of a text.
  IV: Image: a line of a text.
  IW: Image: Parse.
  Bm: A region of which one operation is a round of a range over a function (a call of yield): the operations ahead of it are walked as everywhere.
  IX: Image: the ranges at which two lists of bytes differ, one after the other (changes, an iterator).
  IY: Image: Changed.
  Bn: A literal's row that the run-time marks ([]byte of a constant text): it is given up, and read alone from here on.
  IZ: Image: the fixed examples.
  IJp: Image, plain: the sections that Made gives lie one after the other.
  IQ: Image: the law Finds, given what sanity returns.
  IZb: Image: what the rows list, as the door lays it; a law's step where the tables are those of the world.
  IZc: Image: what the laws' arguments read as.
  ICp: Image, plain: ranges in order; what Spread makes of them; the ranges at which two lists differ.
  ICx: Image: the law Changes.
  IDp: Image, plain: what the law Spreads asks of ranges.
  Bo: Contracts whose result is new; an append behind which the old slice is still used.
  IMn: Image: Spread, its result new.
  Bp: An append behind which the old slice is still used: what it gives goes at once to a call that fails.
-/
import Derived.Test.YtmmpflifajjbjaaDoorQD
import Derived.Test.YtmmpflifajjbjaaDoorQC
import Derived.WideLaws
import Derived.Lib.AtoiErrMem
import Derived.RangeFuncNested
import Derived.RangeFuncBound
import Derived.RangeFuncCalls
import Derived.RangeFuncLeaves
import Derived.Shelf.Abstract
import Derived.WalkKit
import Derived.OwnWalkIn
import Derived.TacticsInMore
import Derived.LoopNIn
import Derived.LoopIn
import Derived.Maps.AppendAt
import Derived.Test.YtmmpflifajjbjaaDoorCards
import Derived.Test.YtmmpflifajjbjaaDoorTie
import Derived.Lib.LaidTab
import Derived.MakeChecks
import Derived.Stop.LaidErr
import Derived.Shelf.Vars
import Derived.Lay
section
namespace Go.Proofs.YtmmpflifajjbjaaDoor.V
open Go.RowKit
def splitL : List Oper → Option (List Oper × Oper)
  | [] => none
  | [o] => some ([], o)
  | o :: r => match splitL r with
    | some (p, l) => some (o :: p, l)
    | none => none
theorem splitL_eq : ∀ {l p : List Oper} {o : Oper}, splitL l = some (p, o) → l = p ++ [o]
  | [], _, _, h => by cases h
  | [x], _, _, h => by cases h; rfl
  | x :: y :: r, p, o, h => by
    simp only [splitL] at h
    split at h
    · rename_i p' l' hs
      cases h
      rw [splitL_eq hs]
      rfl
    · cases h
/-- The last one, at place n, waits for all the others; no guard looks at it. -/
def endB (full : List Oper) (n : Nat) : Bool :=
  waitB full (pmsOf full []) full.length && subB (List.range n) ((pmsOf full []).getD n []) && full.all fun o => match o.guard with
    | some (g, _) => Nat.blt g n
    | none => true
/-- What is to hold where all but the last one have come up. -/
def QL (P : Program) (Q : Exit → Act → World → Prop) (full : List Oper) (last : Oper) : Exit → Act → World → Prop
  | .normal, a, w => wpList P full.toArray Q [last] a w
  | e, a, w => Q e a w
theorem Oper.wp_QL {P : Program} {Q : Exit → Act → World → Prop} {full : List Oper} {last o : Oper} {a : Act} {w : World} {K : Act → World → Prop} (h : o.wp P a w K (QL P Q full last)) : o.wp P a w K Q := by
  have hl : LetsOut (QL P Q full last) → LetsOut Q := fun ⟨a, w, h⟩ => ⟨a, w, h⟩
  unfold Oper.wp at *
  generalize (execOp a.eval o).run P w = r at *
  cases r with
  | ok n w' =>
    cases n <;> simp only [Oper.upon] at h ⊢ <;>
      first
        | exact h
        | exact Calls.mono h (fun e w'' he => by cases e <;> first | exact he | exact hl he)
  | halt x w' => cases x <;> simp only [Oper.upon] at h ⊢ <;> exact h
section
variable {P : Program} {Q : Exit → Act → World → Prop} {pre : List Oper} {last : Oper}
theorem pre_at {i : Nat} (hi : i < pre.length) : (pre ++ [last]).toArray[i]? = pre.toArray[i]? := by
  simp [List.getElem?_append_left hi]
theorem wpOp_pre {i : Nat} (hi : i < pre.length) (hg : ∀ o, pre[i]? = some o → ∀ g b, o.guard = some (g, b) → g < pre.length) {K : Act → World → Prop} {a : Act} {w : World}
    (h : wpOp P pre.toArray (QL P Q (pre ++ [last]) last) i K a w) : wpOp P (pre ++ [last]).toArray Q i K a w := by
  have hl : LetsOut (QL P Q (pre ++ [last]) last) → LetsOut Q := fun ⟨a, w, h⟩ => ⟨a, w, h⟩
  unfold wpOp at *
  rw [pre_at hi]
  cases ho : pre.toArray[i]? with
  | none => rw [ho] at h; exact h
  | some o =>
    rw [ho] at h
    have ho' : pre[i]? = some o := by simpa using ho
    have hw : Region.wanted o (yielded (pre ++ [last]).toArray a.tmps) = Region.wanted o (yielded pre.toArray a.tmps) := by
      unfold Region.wanted
      cases hgd : o.guard with
      | none => rfl
      | some p =>
        obtain ⟨g, b⟩ := p
        simp only [yielded, pre_at (last := last) (hg o ho' g b hgd)]
    have h : if Region.wanted o (yielded pre.toArray a.tmps) then o.wp P a w K (QL P Q (pre ++ [last]) last) ∨ (o.asks P a w ∧ LetsOut (QL P Q (pre ++ [last]) last)) else K (a.put o.dst undef) w := h
    show if Region.wanted o (yielded (pre ++ [last]).toArray a.tmps) then o.wp P a w K Q ∨ (o.asks P a w ∧ LetsOut Q) else K (a.put o.dst undef) w
    rw [hw]
    split
    · rename_i hq
      rw [if_pos hq] at h
      exact h.imp Oper.wp_QL fun ⟨x, y⟩ => ⟨x, hl y⟩
    · rename_i hq
      rw [if_neg hq] at h
      exact h
theorem wpOp_last {a : Act} {w : World} (h : wpList P (pre ++ [last]).toArray Q [last] a w) : wpOp P (pre ++ [last]).toArray Q pre.length (Q .normal) a w := by
  unfold wpOp
  simp only [List.getElem?_toArray, List.getElem?_concat_length]
  exact h
theorem wpAny_pre (hB : endB (pre ++ [last]) pre.length = true) : ∀ (fuel : Nat) (listed listed' : Array Bool) (a : Act) (w : World), listed.size = pre.length → listed'.size = pre.length + 1 → (∀ i, i < pre.length → listed'[i]? = listed[i]?) → listed'[pre.length]? = some false →
    (∀ i o, pre[i]? = some o → listed.getD i false = true → ∀ e ∈ o.after, Region.binds .any e = true → listed.getD e.on false = true) →
    wpAny P .any pre.toArray (QL P Q (pre ++ [last]) last) fuel listed a w → wpAny P .any (pre ++ [last]).toArray Q (fuel + 1) listed' a w := by
  simp only [endB, Bool.and_eq_true] at hB
  obtain ⟨⟨hW, hS⟩, hG⟩ := hB
  have hlen : (pre ++ [last]).length = pre.length + 1 := by simp
  have hgd : ∀ (i : Nat) (o : Oper), (pre ++ [last])[i]? = some o → ∀ (g : Nat) (b : Bool), o.guard = some (g, b) → g < pre.length := fun i o ho g b hgb => by
    have := List.all_eq_true.1 hG o (List.mem_of_getElem? ho)
    simp only [hgb] at this
    simpa using this
  have hat : ∀ i o, i < pre.length → pre[i]? = some o → (pre ++ [last])[i]? = some o := fun i o hi h => by rw [List.getElem?_append_left hi]; exact h
  -- where none of the others is ready, all have come up
  have hstop : ∀ (listed : Array Bool), listed.size = pre.length → Region.ready .any pre.toArray listed = [] → ∀ i, i < pre.length → listed.getD i false = true := by
    intro listed hsz hr i
    induction i using Nat.strongRecOn with
    | _ i ih =>
      intro hi
      cases hl : listed.getD i false with
      | true => rfl
      | false =>
        exfalso
        obtain ⟨o, m, ho, hm, h1, _⟩ := waitB_at hW i (by omega)
        rw [List.getElem?_append_left hi] at ho
        have : i ∈ Region.ready .any pre.toArray listed := mem_ready.2 ⟨by
          rw [Array.getD_eq_getD_getElem?] at hl ⊢
          rw [Array.getElem?_eq_getElem (by omega)] at hl ⊢
          simpa using hl, o, by simpa using ho, fun e he hb => ih e.on (h1 e he hb) (by have := h1 e he hb; omega)⟩
        rw [hr] at this
        cases this
  have hget : ∀ (listed listed' : Array Bool), (∀ i, i < pre.length → listed'[i]? = listed[i]?) → ∀ i b, i < pre.length → listed'.getD i b = listed.getD i b := fun listed listed' h i b hi => by
    rw [Array.getD_eq_getD_getElem?, Array.getD_eq_getD_getElem?, h i hi]
  -- the last one comes up
  have hlast : ∀ (f : Nat) (listed listed' : Array Bool) (a : Act) (w : World), listed.size = pre.length → listed'.size = pre.length + 1 → (∀ i, i < pre.length → listed'[i]? = listed[i]?) → (∀ i, i < pre.length → listed.getD i false = true) → QL P Q (pre ++ [last]) last .normal a w →
      wpOp P (pre ++ [last]).toArray Q pre.length (wpAny P .any (pre ++ [last]).toArray Q f (listed'.setIfInBounds pre.length true)) a w := by
    intro f listed listed' a w hsz hsz' hsm hall hq
    have hr : Region.ready .any (pre ++ [last]).toArray (listed'.setIfInBounds pre.length true) = [] := by
      rw [List.eq_nil_iff_forall_not_mem]
      intro i hi
      obtain ⟨h1, o, ho, _⟩ := mem_ready.1 hi
      have hilt : i < pre.length + 1 := by have := (Array.getElem?_eq_some_iff.1 ho).1; simpa using this
      rw [Array.getD_eq_getD_getElem?, Array.getElem?_setIfInBounds] at h1
      split at h1
      · rw [hsz'] at h1
        simp at h1
      · have h2 := hall i (by omega)
        rw [← hget listed listed' hsm i false (by omega), Array.getD_eq_getD_getElem?] at h2
        rw [Array.getElem?_eq_getElem (by omega)] at h1 h2
        simp at h1 h2
        rw [h1] at h2
        cases h2
    refine wpOp_mono (fun a w h => ?_) (wpOp_last hq)
    cases f with
    | zero => exact ⟨hr, h⟩
    | succ f => exact ⟨fun _ => h, fun i hi => by rw [hr] at hi; cases hi⟩
  have hnr : ∀ (listed listed' : Array Bool), listed.size = pre.length → listed'.size = pre.length + 1 → (∀ i, i < pre.length → listed'[i]? = listed[i]?) → listed'[pre.length]? = some false → (∀ i, i < pre.length → listed.getD i false = true) → pre.length ∈ Region.ready .any (pre ++ [last]).toArray listed' := by
    intro listed listed' hsz hsz' hsm hno hall
    obtain ⟨o, m, ho, hm, h1, _⟩ := waitB_at hW pre.length (by omega)
    refine mem_ready.2 ⟨by rw [Array.getD_eq_getD_getElem?, hno]; rfl, o, by simpa using ho, fun e he hb => ?_⟩
    rw [hget listed listed' hsm e.on false (h1 e he hb)]
    exact hall e.on (h1 e he hb)
  have hin : ∀ (listed listed' : Array Bool), (∀ i, i < pre.length → listed'[i]? = listed[i]?) → ∀ i, i < pre.length → (i ∈ Region.ready .any (pre ++ [last]).toArray listed' ↔ i ∈ Region.ready .any pre.toArray listed) := by
    intro listed listed' hsm i hi
    simp only [mem_ready, hget listed listed' hsm i true hi, pre_at hi]
    obtain ⟨o, m, ho, hm, h1, _⟩ := waitB_at hW i (by omega)
    have ho2 : pre.toArray[i]? = some o := by rw [← pre_at (last := last) hi]; simpa using ho
    rw [ho2]
    constructor
    · rintro ⟨q1, o', q2, q3⟩
      cases q2
      exact ⟨q1, o, rfl, fun e he hb => by rw [← hget listed listed' hsm e.on false (by have := h1 e he hb; omega)]; exact q3 e he hb⟩
    · rintro ⟨q1, o', q2, q3⟩
      cases q2
      exact ⟨q1, o, rfl, fun e he hb => by rw [hget listed listed' hsm e.on false (by have := h1 e he hb; omega)]; exact q3 e he hb⟩
  -- where the last one is ready, all have come up
  have hready : ∀ (listed listed' : Array Bool), (∀ i, i < pre.length → listed'[i]? = listed[i]?) → (∀ i o, pre[i]? = some o → listed.getD i false = true → ∀ e ∈ o.after, Region.binds .any e = true → listed.getD e.on false = true) →
      pre.length ∈ Region.ready .any (pre ++ [last]).toArray listed' → ∀ i, i < pre.length → listed.getD i false = true := by
    intro listed listed' hsm hcl hr i hi
    have hdown : ∀ j, j < pre.length + 1 → (∀ oj, (pre ++ [last])[j]? = some oj → ∀ e ∈ oj.after, Region.binds .any e = true → listed.getD e.on false = true) → ∀ t ∈ (pmsOf (pre ++ [last]) []).getD j [], listed.getD t false = true := by
      intro j
      induction j using Nat.strongRecOn with
      | _ j ihj =>
        intro hj hd t ht
        obtain ⟨oj, m, hoj, hm, h1, h2⟩ := waitB_at hW j (by omega)
        rw [getD_of hm] at ht
        obtain ⟨e, he, hb, hq⟩ := h2 t ht
        have h3 := hd oj hoj e he hb
        rcases hq with rfl | hq
        · exact h3
        · have h4 := h1 e he hb
          refine ihj e.on h4 (by omega) (fun o2 ho2 => ?_) t hq
          rw [List.getElem?_append_left (by omega)] at ho2
          exact hcl e.on o2 ho2 h3
    obtain ⟨_, o, ho, hd⟩ := mem_ready.1 hr
    refine hdown pre.length (by omega) (fun oj hoj e he hb => ?_) i (subB_mem hS i (List.mem_range.2 hi))
    obtain ⟨o2, m, ho2, hm, h1, _⟩ := waitB_at hW pre.length (by omega)
    have : o = oj := by
      have : (pre ++ [last])[pre.length]? = some o := by simpa using ho
      rw [hoj] at this
      cases this
      rfl
    subst this
    rw [hoj] at ho2
    cases ho2
    rw [← hget listed listed' hsm e.on false (h1 e he hb)]
    exact hd e he hb
  intro fuel
  induction fuel with
  | zero =>
    intro listed listed' a w hsz hsz' hsm hno hcl h
    have hall := hstop listed hsz h.1
    refine ⟨fun hr => ?_, fun i hi => ?_⟩
    · have := hnr listed listed' hsz hsz' hsm hno hall
      rw [hr] at this
      cases this
    · have hilt : i < pre.length + 1 := by obtain ⟨_, o, ho, _⟩ := mem_ready.1 hi; have := (Array.getElem?_eq_some_iff.1 ho).1; simpa using this
      by_cases hin' : i = pre.length
      · subst hin'
        exact hlast 0 listed listed' a w hsz hsz' hsm hall h.2
      · have := (hin listed listed' hsm i (by omega)).1 hi
        rw [h.1] at this
        cases this
  | succ fuel ih =>
    intro listed listed' a w hsz hsz' hsm hno hcl h
    obtain ⟨h1, h2⟩ := h
    refine ⟨fun hr => ?_, fun i hi => ?_⟩
    · have hr' : Region.ready .any pre.toArray listed = [] := by
        rw [List.eq_nil_iff_forall_not_mem]
        intro i hi
        have hilt : i < pre.length := by obtain ⟨_, o, ho, _⟩ := mem_ready.1 hi; have := (Array.getElem?_eq_some_iff.1 ho).1; simpa using this
        have := (hin listed listed' hsm i hilt).2 hi
        rw [hr] at this
        cases this
      have := hnr listed listed' hsz hsz' hsm hno (hstop listed hsz hr')
      rw [hr] at this
      cases this
    · have hilt : i < pre.length + 1 := by obtain ⟨_, o, ho, _⟩ := mem_ready.1 hi; have := (Array.getElem?_eq_some_iff.1 ho).1; simpa using this
      by_cases hin' : i = pre.length
      · subst hin'
        have hall := hready listed listed' hsm hcl hi
        refine hlast _ listed listed' a w hsz hsz' hsm hall (h1 ?_)
        rw [List.eq_nil_iff_forall_not_mem]
        intro j hj
        obtain ⟨q1, o, ho, _⟩ := mem_ready.1 hj
        have hjlt : j < pre.length := by have := (Array.getElem?_eq_some_iff.1 ho).1; simpa using this
        have q2 := hall j hjlt
        rw [Array.getD_eq_getD_getElem?, Array.getElem?_eq_getElem (by omega)] at q1 q2
        simp at q1 q2
        rw [q1] at q2
        cases q2
      · have hi' : i < pre.length := by omega
        have hir := (hin listed listed' hsm i hi').1 hi
        obtain ⟨_, o, ho, hdep⟩ := mem_ready.1 hir
        have ho' : pre[i]? = some o := by simpa using ho
        refine wpOp_pre hi' (fun o ho g b hgb => hgd i o (hat i o hi' ho) g b hgb) (wpOp_mono (fun a w h => ?_) (h2 i hir))
        refine ih _ _ a w (by simp [hsz]) (by simp [hsz']) (fun j hj => ?_) ?_ (fun j oj hoj hl e he hb => ?_) h
        · rw [Array.getElem?_setIfInBounds, Array.getElem?_setIfInBounds, hsm j hj, hsz, hsz']
          by_cases hij : i = j
          · subst hij
            simp [hi', hilt]
          · simp [hij]
        · rw [Array.getElem?_setIfInBounds, if_neg hin']
          exact hno
        · have hmono : ∀ t, listed.getD t false = true → (listed.setIfInBounds i true).getD t false = true := fun t ht => by
            rw [Array.getD_eq_getD_getElem?] at ht ⊢
            rw [Array.getElem?_setIfInBounds]
            split
            · rw [if_pos (by omega)]; rfl
            · exact ht
          by_cases hij : i = j
          · subst hij
            rw [ho'] at hoj
            cases hoj
            exact hmono _ (hdep e he hb)
          · refine hmono _ (hcl j oj hoj ?_ e he hb)
            rw [Array.getD_eq_getD_getElem?, Array.getElem?_setIfInBounds, if_neg hij] at hl
            rw [Array.getD_eq_getD_getElem?]
            exact hl
end
section
variable {C : Ctx} {Q0 : Exit → Act → World → Prop} {F : Tr} {M : Mem} {ids : List Nat} {k : List Kont}
/-- A region that draws its order: all but the last operation. -/
theorem Sat.drawnL {id : Nat} {ops pre : List Oper} {last : Oper} (hm : C.P.follows .mixedOrders = true) (hs : splitL ops = some (pre, last)) (hB : endB ops pre.length = true)
    (h : DSat C (QL C.P (Kq C.P Q0 k) ops last) [] pre F M ids 0 [] pre F M ids) : Sat C Q0 (.code (.region id ⟨ops⟩ true) F M ids k) := by
  intro U E a w hsup hst
  have hops := splitL_eq hs
  subst hops
  have := h ⟨.nil, rfl, fun j => by simp, fun t => rfl, fun id => rfl, rfl⟩ U E a w.drew hsup hst.drew
  refine wp_region_any hm ?_
  have h2 := wpAny_pre hB pre.length (Array.replicate pre.length false) (Array.replicate (pre.length + 1) false) a w.drew (by simp) (by simp) (fun i hi => by rw [Array.getElem?_replicate, Array.getElem?_replicate, if_pos hi, if_pos (by omega)]) (by simp) (fun i o _ hl => by rw [getD_replicate_false'] at hl; cases hl) this
  simpa using h2
/-- The last operation, alone. -/
theorem Sat.lastD {ops : List Oper} {last : Oper} (h : Sat C Q0 (.reg ops [last] F M ids k)) : Sat C (QL C.P (Kq C.P Q0 k) ops last) (.ext .normal F M ids []) :=
  fun U E a w hsup hst => h U E a w hsup hst
/-- A loop whose first round is walked by itself, from where the walk stands. -/
theorem Sat.loop1 {α : Type} {body : Code} {ids' : List Nat} {Fh : α → Tr} {Mh : α → Mem} (Cx : α → Prop) (m : α → Nat) (x0 : α) (fr : α → List (Nat × SV)) (mr : α → List (Nat × Blk)) (dm : List Nat) (n : Nat)
    (_hF : ∀ x, headT F body (fr x) = some (Fh x)) (_hM : ∀ x, headM M dm (mr x) = some (Mh x)) (_hi : dropN ids n = some ids')
    (first : Sat C Q0 (.code body F M ids (.lp (BackI C ids' Fh Mh Cx m x0) :: k)))
    (step : ∀ x, Cx x → Sat C Q0 (.code body (Fh x) (Mh x) ids' (.lp (BackI C ids' Fh Mh Cx m x) :: k))) : Sat C Q0 (.code (.loop body) F M ids k) := by
  intro U E a w hsup hst
  refine wp_loop_ghost (fun n a w => (m x0 = n ∧ ∃ U E, Sup ids U ∧ St C F M U E a w) ∨ ∃ x, Cx x ∧ m x = n ∧ ∃ U E, Sup ids' U ∧ St C (Fh x) (Mh x) U E a w) (m x0) (.inl ⟨rfl, U, E, hsup, hst⟩) ?_
  rintro n a w (⟨rfl, U, E, hs, hst⟩ | ⟨x, hx, rfl, U, E, hs, hst⟩)
  · refine wp_mono (first U E a w hs hst) ?_
    intro e a' w' hq
    cases e with
    | normal =>
      obtain ⟨x', q1, q2, U2, E2, q3, q4⟩ := hq
      exact ⟨m x', q2, .inr ⟨x', q1, rfl, U2, E2, q3, q4⟩⟩
    | exit id => exact hq
    | goto l => exact hq
    | ret => exact hq
    | panic v => exact hq
    | outgrown => exact hq
  · refine wp_mono (step x hx U E a w hs hst) ?_
    intro e a' w' hq
    cases e with
    | normal =>
      obtain ⟨x', q1, q2, U2, E2, q3, q4⟩ := hq
      exact ⟨m x', q2, .inr ⟨x', q1, rfl, U2, E2, q3, q4⟩⟩
    | exit id => exact hq
    | goto l => exact hq
    | ret => exact hq
    | panic v => exact hq
    | outgrown => exact hq
end
end Go.Proofs.YtmmpflifajjbjaaDoor.V
end
section
namespace Go.Proofs.YtmmpflifajjbjaaDoor
open Go.RowKit V
--PURE: (intro _ _; simp [pureL, pureS, pureE]; done)
set_option maxRecDepth 100000
set_option maxHeartbeats 4000000
set_option linter.unusedSimpArgs false
theorem printS_succ (l : List SecL) (x : Nat) (hx : x < l.length) : printS (l.take (x + 1)) = printS (l.take x) ++ lineS (l.getD x sec0) := by
  have e : l.take (x + 1) = l.take x ++ [l.getD x sec0] := by
    rw [List.take_add_one, List.getD_eq_getElem?_getD, List.getElem?_eq_getElem hx]
    rfl
  rw [e, printS_app]
  show printS (l.take x) ++ (lineS (l.getD x sec0) ++ []) = _
  rw [List.append_nil]
theorem printS_ne (l : List SecL) (h : l ≠ []) : printS l ≠ [] := by
  cases l with
  | nil => exact absurd rfl h
  | cons x l => rw [printS]; intro e; exact bodyS_ne x (List.append_eq_nil_iff.1 e).1
theorem line_t (out : List UInt8) (X : SecL) (h : X.code = true) : out ++ (X.name ++ [32] ++ Lib.itoa X.fr ++ [32] ++ Lib.itoa X.to) ++ [32, 99, 111, 100, 101] ++ [10] = out ++ lineS X := by simp [lineS, bodyS, h, sufC]
theorem line_f (out : List UInt8) (X : SecL) (h : X.code = false) : out ++ (X.name ++ [32] ++ Lib.itoa X.fr ++ [32] ++ Lib.itoa X.to) ++ [10] = out ++ lineS X := by simp [lineS, bodyS, h]
structure SecOk (x : SecL) : Prop where
  name : x.name.length ≤ 1000
  fr : -9223372036854775808 ≤ x.fr ∧ x.fr ≤ 9223372036854775807
  to : -9223372036854775808 ≤ x.to ∧ x.to ≤ 9223372036854775807
theorem SecOk.lens {x : SecL} (h : SecOk x) : x.name.length ≤ 1000 ∧ (Lib.itoa x.fr).length ≤ 21 ∧ (Lib.itoa x.to).length ≤ 21 ∧ (lineS x).length ≤ 2000 := by
  have h1 := h.name
  have h2 := Lib.itoa_length_le x.fr h.fr.1 h.fr.2
  have h3 := Lib.itoa_length_le x.to h.to.1 h.to.2
  refine ⟨h1, h2, h3, ?_⟩
  unfold lineS bodyS
  cases x.code <;> simp [sufC] <;> omega
attribute [local irreducible] V.Sat V.DSat
theorem print_spec (l : List SecL) (hl : l.length ≤ 1000) (hn : ∀ x ∈ l, SecOk x) : Fun Tryd.prog Γp 13 [.ro (secE l)] (.str (printS l)) := by
  refine Fun.mkG 6 Tryd.func13 rfl Tryd.ntmps13 rfl rfl fun hf T w0 hG => ?_
  have hat : ∀ i, i < l.length → SecOk (l.getD i sec0) := fun i hi => hn _ (by rw [List.getD_eq_getElem?_getD, List.getElem?_eq_getElem hi]; exact List.getElem_mem hi)
  by_cases hpos : 0 < l.length
  · have hz : (0 : Int) < ((secE l).len : Int) := by show (0 : Int) < (l.length : Int); omega
    obtain ⟨hnm, hi1, hi2, hi3⟩ : (l.getD ((0 : Int).toNat) sec0).name.length ≤ 1000 ∧ (Lib.itoa (l.getD ((0 : Int).toNat) sec0).fr).length ≤ 21 ∧ (Lib.itoa (l.getD ((0 : Int).toNat) sec0).to).length ≤ 21 ∧ (lineS (l.getD ((0 : Int).toNat) sec0)).length ≤ 2000 := (hat 0 hpos).lens
    repeat' (first
        | ((with_reducible apply Sat.run (X := X64)); exact rfl; (first | exact True.intro | (exact phi) | skip))
        | ((with_reducible apply Sat.drawn); kernel_rfl)
        | ((with_reducible apply DSat.run (X := X64)); exact rfl; (first | exact True.intro | (exact phi) | skip))
        | ((with_reducible apply DSat.fin); kernel_rfl) | fail)
    apply Sat.loop1 (α := Nat × List UInt8) (fun x => 1 ≤ x.1 ∧ x.1 ≤ l.length ∧ Hid (x.2 = printS (l.take x.1)) ∧ x.2.length ≤ 2000 * x.1) (fun x => l.length - x.1) (0, []) (fun x => [(8, .int .i64 (x.1 : Int))]) (fun x => [(0, .cells 71 [.ptr 0 0, .row 1 0 1 0 x.2.length]), (1, .row 5 (.u8 x.2))]) [] 1
    · intro x; exact rfl
    · intro x; exact rfl
    · exact rfl
    · repeat' (first
          | ((with_reducible apply Sat.drawnL); kernel_rfl; exact rfl; kernel_rfl)
          | ((with_reducible apply Sat.run (X := X64)); exact rfl; (first | exact True.intro | (exact phi) | skip))
          | ((with_reducible apply Sat.drawn); kernel_rfl)
          | ((with_reducible apply DSat.run (X := X64)); exact rfl; (first | exact True.intro | (exact phi) | skip))
          | ((with_reducible apply DSat.fin); kernel_rfl)
          | ((with_reducible apply Sat.cond_t); exact rfl)
          | ((with_reducible apply Sat.cond_f); exact rfl)
          | ((with_reducible apply Sat.cond_pt); exact rfl; (try dsimp only [V.EV.sub, V.EV.len]); first | assumption | omega)
          | ((with_reducible apply Sat.cond_pf); exact rfl; (try dsimp only [V.EV.sub, V.EV.len]); first | assumption | omega)
          | ((with_reducible apply Sat.cond_p); exact rfl; all_goals intro h)
          | ((with_reducible apply Sat.cond); exact rfl; all_goals intro h)
          | ((with_reducible apply Sat.callR (itoa_spec _)); exact rfl; exact rfl; exact rfl; kernel_rfl; (exact cnvX); exact rfl)
          | ((with_reducible apply DSat.callR (itoa_spec _)); exact rfl; exact rfl; exact rfl; kernel_rfl; (exact cnvX); exact rfl)
          | ((with_reducible apply Sat.inl 7 [] Tryd.func32 Tryd.ntmps32); exact rfl; exact rfl; kernel_rfl; exact rfl; exact rfl; exact rfl; exact rfl; ((repeat' (first | exact AllP.nil | with_reducible refine AllP.cons ?_ ?_)) <;> (first | exact True.intro | exact purX)); intro _ _)
          | ((with_reducible apply Sat.inl 7 [] Tryd.func34 Tryd.ntmps34); exact rfl; exact rfl; kernel_rfl; exact rfl; exact rfl; exact rfl; exact rfl; ((repeat' (first | exact AllP.nil | with_reducible refine AllP.cons ?_ ?_)) <;> (first | exact True.intro | exact purX)); intro _ _)
          | (with_reducible apply Sat.lastD)
          | ((with_reducible apply Sat.checkF bld_check); exact rfl; kernel_rfl; exact rfl; exact rfl; exact rfl; exact rfl)
          | ((with_reducible apply Sat.checkU bld_check); exact rfl; kernel_rfl; exact rfl; exact rfl)
          | ((with_reducible apply Sat.out1 (C := ⟨_, _, _, _, _, _, _, _, _⟩)); exact rfl; (first | exact .inl rfl | exact .inr rfl); exact rfl; (exact phi); exact rfl)
          | ((with_reducible apply Sat.out0 (C := ⟨_, _, _, _, _, _, _, _, _⟩)); exact rfl; (first | exact .inl rfl | exact .inr rfl); exact rfl)
          | ((with_reducible apply Sat.out2 (C := ⟨_, _, _, _, _, _, _, _, _⟩)); exact rfl; (first | exact .inl rfl | exact .inr rfl); exact rfl; (exact phi); exact rfl; (exact phi); exact rfl) | fail)
      · ((repeat' (first | exact AllP.nil | with_reducible refine AllP.cons ?_ ?_)) <;> (unfold okLen; simp only [List.length_append, List.length_cons, List.length_nil]; omega))
      · ((repeat' (first | exact AllP.nil | with_reducible refine AllP.cons ?_ ?_)) <;> (unfold okLen; simp only [List.length_append, List.length_cons, List.length_nil]; omega))
      · ((repeat' (first | exact AllP.nil | with_reducible refine AllP.cons ?_ ?_)) <;> (unfold okLen; simp only [List.length_append, List.length_cons, List.length_nil]; omega))
      · have hk : (l.getD 0 sec0).code = true := h
        have k1 := line_t [] (l.getD 0 sec0) hk
        have k2 := printS_succ l 0 hpos
        have k3 : List.replicate 0 0 ++ ((l.getD 0 sec0).name ++ [32] ++ Lib.itoa (l.getD 0 sec0).fr ++ [32] ++ Lib.itoa (l.getD 0 sec0).to) ++ [32, 99, 111, 100, 101] ++ [10] = printS (l.take 1) := k1.trans k2.symm
        have k4 := congrArg List.length k3
        have k5 : (printS (l.take 1)).length = 0 + (lineS (l.getD 0 sec0)).length := by rw [k2]; simp [printS]
        have hi3 : (lineS (l.getD 0 sec0)).length ≤ 2000 := hi3
        refine Sat.back (1, printS (l.take 1)) [(1, some 5)] rfl ?_ ?_ ?_
        · (repeat' (first | exact AllP.nil | with_reducible refine AllP.cons ?_ ?_)) <;> first | exact rfl | exact trivial | exact congrArg EV.u8 k3 | exact Int.natCast_add_one _ | (refine ⟨rfl, rfl, rfl, ?_⟩; show _ = (printS _).length; rw [← k4]; simp only [V.EV.len, V.EV.sub, List.length_append, List.length_cons, List.length_nil, List.length_replicate, List.length_take, List.length_drop, Int.toNat_zero, Int.toNat_natCast]; first | rfl | omega) | exact purX
        · exact ⟨Nat.le_refl _, hpos, rfl, by dsimp only; omega⟩
        · dsimp only; omega
      · have hk : (l.getD 0 sec0).code = false := h
        have k1 := line_f [] (l.getD 0 sec0) hk
        have k2 := printS_succ l 0 hpos
        have k3 : List.replicate 0 0 ++ ((l.getD 0 sec0).name ++ [32] ++ Lib.itoa (l.getD 0 sec0).fr ++ [32] ++ Lib.itoa (l.getD 0 sec0).to) ++ [10] = printS (l.take 1) := k1.trans k2.symm
        have k4 := congrArg List.length k3
        have k5 : (printS (l.take 1)).length = 0 + (lineS (l.getD 0 sec0)).length := by rw [k2]; simp [printS]
        have hi3 : (lineS (l.getD 0 sec0)).length ≤ 2000 := hi3
        refine Sat.back (1, printS (l.take 1)) [(1, some 4)] rfl ?_ ?_ ?_
        · (repeat' (first | exact AllP.nil | with_reducible refine AllP.cons ?_ ?_)) <;> first | exact rfl | exact trivial | exact congrArg EV.u8 k3 | exact Int.natCast_add_one _ | (refine ⟨rfl, rfl, rfl, ?_⟩; show _ = (printS _).length; rw [← k4]; simp only [V.EV.len, V.EV.sub, List.length_append, List.length_cons, List.length_nil, List.length_replicate, List.length_take, List.length_drop, Int.toNat_zero, Int.toNat_natCast]; first | rfl | omega) | exact purX
        · exact ⟨Nat.le_refl _, hpos, rfl, by dsimp only; omega⟩
        · dsimp only; omega
    · rintro ⟨x, out⟩ ⟨x1, x2, x3, x4⟩
      dsimp only at x1 x2 x3 x4 ⊢
      by_cases hx : x < l.length
      · have hcc : (x : Int) < ((secE l).len : Int) := by show (x : Int) < (l.length : Int); omega
        obtain ⟨hnm, hi1, hi2, hi3⟩ : (l.getD ((x : Int).toNat) sec0).name.length ≤ 1000 ∧ (Lib.itoa (l.getD ((x : Int).toNat) sec0).fr).length ≤ 21 ∧ (Lib.itoa (l.getD ((x : Int).toNat) sec0).to).length ≤ 21 ∧ (lineS (l.getD ((x : Int).toNat) sec0)).length ≤ 2000 := (hat x hx).lens
        repeat' (first
            | ((with_reducible apply Sat.drawnL); kernel_rfl; exact rfl; kernel_rfl)
            | ((with_reducible apply Sat.run (X := X64)); exact rfl; (first | exact True.intro | (exact phi) | skip))
            | ((with_reducible apply Sat.drawn); kernel_rfl)
            | ((with_reducible apply DSat.run (X := X64)); exact rfl; (first | exact True.intro | (exact phi) | skip))
            | ((with_reducible apply DSat.fin); kernel_rfl)
            | ((with_reducible apply Sat.cond_t); exact rfl)
            | ((with_reducible apply Sat.cond_f); exact rfl)
            | ((with_reducible apply Sat.cond_pt); exact rfl; (try dsimp only [V.EV.sub, V.EV.len]); first | assumption | omega)
            | ((with_reducible apply Sat.cond_pf); exact rfl; (try dsimp only [V.EV.sub, V.EV.len]); first | assumption | omega)
            | ((with_reducible apply Sat.cond_p); exact rfl; all_goals intro h)
            | ((with_reducible apply Sat.cond); exact rfl; all_goals intro h)
            | ((with_reducible apply Sat.callR (itoa_spec _)); exact rfl; exact rfl; exact rfl; kernel_rfl; (exact cnvX); exact rfl)
            | ((with_reducible apply DSat.callR (itoa_spec _)); exact rfl; exact rfl; exact rfl; kernel_rfl; (exact cnvX); exact rfl)
            | ((with_reducible apply Sat.inl 7 [] Tryd.func32 Tryd.ntmps32); exact rfl; exact rfl; kernel_rfl; exact rfl; exact rfl; exact rfl; exact rfl; ((repeat' (first | exact AllP.nil | with_reducible refine AllP.cons ?_ ?_)) <;> (first | exact True.intro | exact purX)); intro _ _)
            | ((with_reducible apply Sat.inl 7 [] Tryd.func34 Tryd.ntmps34); exact rfl; exact rfl; kernel_rfl; exact rfl; exact rfl; exact rfl; exact rfl; ((repeat' (first | exact AllP.nil | with_reducible refine AllP.cons ?_ ?_)) <;> (first | exact True.intro | exact purX)); intro _ _)
            | (with_reducible apply Sat.lastD)
            | ((with_reducible apply Sat.checkF bld_check); exact rfl; kernel_rfl; exact rfl; exact rfl; exact rfl; exact rfl)
            | ((with_reducible apply Sat.checkU bld_check); exact rfl; kernel_rfl; exact rfl; exact rfl)
            | ((with_reducible apply Sat.out1 (C := ⟨_, _, _, _, _, _, _, _, _⟩)); exact rfl; (first | exact .inl rfl | exact .inr rfl); exact rfl; (exact phi); exact rfl)
            | ((with_reducible apply Sat.out0 (C := ⟨_, _, _, _, _, _, _, _, _⟩)); exact rfl; (first | exact .inl rfl | exact .inr rfl); exact rfl)
            | ((with_reducible apply Sat.out2 (C := ⟨_, _, _, _, _, _, _, _, _⟩)); exact rfl; (first | exact .inl rfl | exact .inr rfl); exact rfl; (exact phi); exact rfl; (exact phi); exact rfl) | fail)
        · ((repeat' (first | exact AllP.nil | with_reducible refine AllP.cons ?_ ?_)) <;> (unfold okLen; simp only [List.length_append, List.length_cons, List.length_nil]; omega))
        · ((repeat' (first | exact AllP.nil | with_reducible refine AllP.cons ?_ ?_)) <;> (unfold okLen; simp only [List.length_append, List.length_cons, List.length_nil]; omega))
        · ((repeat' (first | exact AllP.nil | with_reducible refine AllP.cons ?_ ?_)) <;> (unfold okLen; simp only [List.length_append, List.length_cons, List.length_nil]; omega))
        · have hk : (l.getD x sec0).code = true := h
          have x3 : out = printS (l.take x) := x3
          have k1 := line_t out (l.getD x sec0) hk
          have k2 := printS_succ l x hx
          have k3 : out ++ ((l.getD x sec0).name ++ [32] ++ Lib.itoa (l.getD x sec0).fr ++ [32] ++ Lib.itoa (l.getD x sec0).to) ++ [32, 99, 111, 100, 101] ++ [10] = printS (l.take (x + 1)) := by rw [k2, ← x3]; exact k1
          have k4 := congrArg List.length k3
          have k5 : (printS (l.take (x + 1))).length = out.length + (lineS (l.getD x sec0)).length := by rw [k2, ← x3, List.length_append]
          have hi3 : (lineS (l.getD x sec0)).length ≤ 2000 := hi3
          clear x3
          refine Sat.back (x + 1, printS (l.take (x + 1))) [(1, some 6)] rfl ?_ ?_ ?_
          · (repeat' (first | exact AllP.nil | with_reducible refine AllP.cons ?_ ?_)) <;> first | exact rfl | exact trivial | exact congrArg EV.u8 k3 | exact Int.natCast_add_one _ | (refine ⟨rfl, rfl, rfl, ?_⟩; show _ = (printS _).length; rw [← k4]; simp only [V.EV.len, V.EV.sub, List.length_append, List.length_cons, List.length_nil, List.length_replicate, List.length_take, List.length_drop, Int.toNat_zero, Int.toNat_natCast]; first | rfl | omega) | exact purX
          · exact ⟨by dsimp only; omega, hx, rfl, by dsimp only; omega⟩
          · dsimp only; omega
        · have hk : (l.getD x sec0).code = false := h
          have x3 : out = printS (l.take x) := x3
          have k1 := line_f out (l.getD x sec0) hk
          have k2 := printS_succ l x hx
          have k3 : out ++ ((l.getD x sec0).name ++ [32] ++ Lib.itoa (l.getD x sec0).fr ++ [32] ++ Lib.itoa (l.getD x sec0).to) ++ [10] = printS (l.take (x + 1)) := by rw [k2, ← x3]; exact k1
          have k4 := congrArg List.length k3
          have k5 : (printS (l.take (x + 1))).length = out.length + (lineS (l.getD x sec0)).length := by rw [k2, ← x3, List.length_append]
          have hi3 : (lineS (l.getD x sec0)).length ≤ 2000 := hi3
          clear x3
          refine Sat.back (x + 1, printS (l.take (x + 1))) [(1, some 5)] rfl ?_ ?_ ?_
          · (repeat' (first | exact AllP.nil | with_reducible refine AllP.cons ?_ ?_)) <;> first | exact rfl | exact trivial | exact congrArg EV.u8 k3 | exact Int.natCast_add_one _ | (refine ⟨rfl, rfl, rfl, ?_⟩; show _ = (printS _).length; rw [← k4]; simp only [V.EV.len, V.EV.sub, List.length_append, List.length_cons, List.length_nil, List.length_replicate, List.length_take, List.length_drop, Int.toNat_zero, Int.toNat_natCast]; first | rfl | omega) | exact purX
          · exact ⟨by dsimp only; omega, hx, rfl, by dsimp only; omega⟩
          · dsimp only; omega
      · obtain rfl : x = l.length := by omega
        repeat' (first
            | ((with_reducible apply Sat.run (X := X64)); exact rfl; (first | exact True.intro | (exact phi) | skip))
            | ((with_reducible apply Sat.drawn); kernel_rfl)
            | ((with_reducible apply DSat.run (X := X64)); exact rfl; (first | exact True.intro | (exact phi) | skip))
            | ((with_reducible apply DSat.fin); kernel_rfl) | fail)
        with_reducible apply Sat.cond_pf
        · exact rfl
        · show ¬ (l.length : Int) < (l.length : Int); omega
        repeat' (first
            | ((with_reducible apply Sat.run (X := X64)); exact rfl; (first | exact True.intro | (exact phi) | skip))
            | ((with_reducible apply Sat.drawn); kernel_rfl)
            | ((with_reducible apply DSat.run (X := X64)); exact rfl; (first | exact True.intro | (exact phi) | skip))
            | ((with_reducible apply DSat.fin); kernel_rfl) | fail)
        have x3 : out = printS (l.take l.length) := x3
        rw [List.take_length] at x3
        subst x3
        have hne := printS_ne l (by intro e; rw [e] at hpos; simp at hpos)
        with_reducible apply Sat.bstr 6 bld_text
        · exact rfl
        · kernel_rfl
        · exact rfl
        · exact rfl
        · exact rfl
        · exact rfl
        · exact hG
        · exact fun _ h => h
        · exact rfl
        · exact rfl
        · exact hne
        repeat' (first
            | ((with_reducible apply Sat.run (X := X64)); exact rfl; (first | exact True.intro | (exact phi) | skip))
            | ((with_reducible apply Sat.drawn); kernel_rfl)
            | ((with_reducible apply DSat.run (X := X64)); exact rfl; (first | exact True.intro | (exact phi) | skip))
            | ((with_reducible apply DSat.fin); kernel_rfl) | fail)
        (refine Sat.fin (Sat.end1 rfl rfl rfl True.intro (.refl _ purX) (by first | exact .inl rfl | exact .inr rfl) (fun _ h => h)) ?_; rfl)
  · have hl0 : l = [] := List.eq_nil_of_length_eq_zero (by omega)
    subst hl0
    repeat' (first
        | ((with_reducible apply Sat.run (X := X64)); exact rfl; (first | exact True.intro | (exact phi) | skip))
        | ((with_reducible apply Sat.drawn); kernel_rfl)
        | ((with_reducible apply DSat.run (X := X64)); exact rfl; (first | exact True.intro | (exact phi) | skip))
        | ((with_reducible apply DSat.fin); kernel_rfl)
        | ((with_reducible apply Sat.cond_t); exact rfl)
        | ((with_reducible apply Sat.cond_f); exact rfl)
        | ((with_reducible apply Sat.cond_pt); exact rfl; (try dsimp only [V.EV.sub, V.EV.len]); first | assumption | omega)
        | ((with_reducible apply Sat.cond_pf); exact rfl; (try dsimp only [V.EV.sub, V.EV.len]); first | assumption | omega)
        | ((with_reducible apply Sat.cond_p); exact rfl; all_goals intro h)
        | ((with_reducible apply Sat.cond); exact rfl; all_goals intro h)
        | (with_reducible apply Sat.unroll 40)
        | (with_reducible apply Sat.again) | fail)
    with_reducible apply Sat.bstr0 6 bld_text
    · exact rfl
    · kernel_rfl
    · exact rfl
    · exact rfl
    · exact hG
    · exact fun _ h => h
    · exact rfl
    repeat' (first
        | ((with_reducible apply Sat.run (X := X64)); exact rfl; (first | exact True.intro | (exact phi) | skip))
        | ((with_reducible apply Sat.drawn); kernel_rfl)
        | ((with_reducible apply DSat.run (X := X64)); exact rfl; (first | exact True.intro | (exact phi) | skip))
        | ((with_reducible apply DSat.fin); kernel_rfl) | fail)
    (refine Sat.fin (Sat.end1 rfl rfl rfl True.intro (.refl _ purX) (by first | exact .inl rfl | exact .inr rfl) (fun _ h => h)) ?_; rfl)
end Go.Proofs.YtmmpflifajjbjaaDoor
end
section
namespace Go.Proofs.YtmmpflifajjbjaaDoor.V
open Go.RowKit
section
variable {C : Ctx} {Q0 : Exit → Act → World → Prop} {F F1 : Tr} {M : Mem} {ids : List Nat} {k : List Kont} {full rest : List Oper}
theorem Sat.eqNN {d : Option Tmp} {x : Operand} {t t' : TypeId} {type : TypeId} {pos : String} {after : Array Edge}
    (hu : C.P.underlying t = some (.interface (C.P.methodsAt t))) (hx : opd C.Γ F x = some .nili) (hp : putD C.N F d (some (.bool true)) some = some F1) (h : Sat C Q0 (.reg full rest F1 M ids k)) :
    Sat C Q0 (.reg full (⟨d, .binOp .eql t x (.const .nilIface) t', type, pos, after, none⟩ :: rest) F M ids k) := by
  intro U E a w hsup hst
  obtain ⟨G1, e1, e2⟩ := putD_inv hp
  cases e1
  refine wpList_plain rfl fun K hK => ?_
  unfold Oper.wp
  have hr := opd_rep hst.vw hx
  generalize hv : a.eval x = v at hr
  cases hr
  have hc : a.eval (.const .nilIface) = .nilIface := rfl
  have q2 : ∀ w' : World, (eqGuard .eql t x (.const .nilIface) .nilIface .nilIface).run C.P w' = .ok () w' := fun w' => by unfold eqGuard; cases x <;> rfl
  have hrun : (execOp a.eval ⟨d, .binOp .eql t x (.const .nilIface) t', type, pos, after, none⟩).run C.P w = .ok (.value (.bool true)) w := by
    unfold execOp
    simp only [hv, hc, Sem.run_bind, q2, Result.andThen_ok, run_eql_nil_nil _ t hu, Sem.run_pure]
  rw [hrun]
  exact hK _ _ (h U E _ _ hsup (hst.putD e2 fun s' hs' => by cases hs'; exact .bool _))
end
/-- What one cell of a table holds. -/
theorem GOk.one {Γ : Glob} {T : Nat → Prop} {w : World} (h : GOk Γ T w) {g : Nat} {s : SV} (hg : gl Γ g = some (.g 1 1 fun _ => [s])) (h1 : s.one = true) : ∃ v, w.cell? ⟨g, 0, none⟩ = some v ∧ Rep E0 T w s v := by
  have hr := h.rep g _ hg
  generalize hv : Value.pointer (some ⟨g, 0, none⟩) = v at hr
  cases hr with
  | rop e i j b o c hT hn hc hr hi hj hb =>
    simp at hv
    obtain ⟨rfl, rfl⟩ := hv
    have hI := hr 0 (Nat.lt_succ_self 0)
    simp only [EV.items] at hI
    obtain ⟨cc, r, e1, hr1, _⟩ := hI.head h1
    have := hc 0 0 cc (Nat.lt_succ_self 0) (by simp [e1])
    exact ⟨cc, by simpa [EV.sz] using this, hr1⟩
end Go.Proofs.YtmmpflifajjbjaaDoor.V
end
section
namespace Go.Proofs.YtmmpflifajjbjaaDoor
open Go.RowKit V
set_option maxRecDepth 100000
set_option maxHeartbeats 8000000
/-- The tables, and the two errors of strconv. -/
@[reducible] def Γq (a b : TypeId) (p q : Value) : Glob := [(1, .ints .u64 Lib.pow10Tab), (0, .g 1 1 fun _ => [.anyi .i64]), (2, .g 1 1 fun _ => [.ifc a (.val p)]), (3, .g 1 1 fun _ => [.ifc b (.val q)])]
theorem sub_p {a b : TypeId} {p q : Value} {T : Nat → Prop} {w : World} (h : GOk (Γq a b p q) T w) : GOk Γp T w := by
  have key : ∀ g e, gl Γp g = some e → gl (Γq a b p q) g = some e := by
    intro g e hg
    simp only [gl] at hg ⊢
    split at hg
    · exact hg
    · split at hg
      · rename_i h1; exact hg
      · cases hg
  exact ⟨fun g e hg => h.rep g e (key g e hg), fun g e hg => h.shp g e (key g e hg)⟩
theorem Fun.toq {f : FuncId} {args : List SV} {res : SV} (h : Fun Tryd.prog Γp f args res) (a b : TypeId) (p q : Value) : Fun Tryd.prog (Γq a b p q) f args res :=
  fun T w vs hT hG ht => h T w vs hT (sub_p hG) ht
theorem atoi_rng {s : List UInt8} {v : Int} (h : Lib.atoiAll s = .ok v) : inR .i64 v := by
  unfold Lib.atoiAll at h
  split at h
  · cases h
  · dsimp only at h
    split at h
    · cases h
    · cases h
    · rename_i u hu
      split at h
      · cases h
      · split at h
        · cases h
        · rename_i h1 h2
          simp only [Lib.NumEnd.ok.injEq] at h
          subst h
          split
          · rename_i hn
            exact inR_i64 (by have : ¬ 9223372036854775808 < u := fun e => h2 ⟨hn, e⟩; omega) (by omega)
          · rename_i hn
            exact inR_i64 (by omega) (by have : ¬ 9223372036854775808 ≤ u := fun e => h1 ⟨hn, e⟩; omega)
theorem atoi_ok (Γ : Glob) (s : List UInt8) (hs : s.length ≤ 1000000) (v : Int) (h : Lib.atoiAll s = .ok v) (hv : inR .i64 v) : Fun Tryd.prog Γ 57 [.str s] (.tup [.int .i64 v, .nili]) := by
  intro T w vs hT hG ht
  cases ht with
  | cons s0 v0 l vs1 hr hl =>
  cases hl
  cases hr with
  | str _ hok =>
  refine (Tryd.strconv_Atoi_ok ⟨s.toArray⟩ (by show s.toArray.size ≤ _; simp; omega) v h w).mono ?_
  rintro e w' ⟨rfl, hw⟩
  refine ⟨_, rfl, .tup _ [_, _] (.cons _ _ _ _ (.int _ _ hv) (.cons _ _ _ _ .nili .nil)), ?_⟩
  rcases hw with rfl | ⟨t, rfl⟩
  · exact Below.refl _ _
  · exact Lib.bytesWorld_below w 5 t
@[reducible] def errV : SV := .ifc 127 (.rop (.g 1 1 fun _ => [.str [65, 116, 111, 105]]) 0 0)
theorem err_rep {T : Nat → Prop} {w w' : World} {N : Nat} {x y : Value} (hT : ∀ b, T b → b < w.heap.size) (hN : w.heap.size ≤ N) (hh : w'.heap[N]? = some (.cells #[.string ⟨#[65, 116, 111, 105]⟩, x, y] 135 (0, 0))) : Rep E0 T w' errV (.iface 127 (.pointer (some ⟨N, 0, none⟩))) := by
  refine .ifc _ _ _ (.rop _ 0 0 N 0 (fun _ => [.string ⟨#[65, 116, 111, 105]⟩]) (fun h => by have := hT N h; omega) (fun i hi => rfl) (fun i j v hi hj => ?_) (fun i hi => ?_) (by decide) (by decide) (Array.getElem?_eq_some_iff.1 hh).1)
  · have hi0 : i = 0 := by have : i < 1 := hi; omega
    subst hi0
    cases j with
    | zero =>
      simp only [List.getElem?_cons_zero, Option.some.injEq] at hj
      subst hj
      simp [World.cell?, hh]
    | succ j => simp at hj
  · exact .one _ _ _ _ rfl (.str _ (by unfold okLen; simp)) .nil
theorem atoi_bad (a b : TypeId) (p q : Value) (s : List UInt8) (hs : s.length ≤ 1000000) (h : ∀ v, Lib.atoiAll s ≠ .ok v) : Fun Tryd.prog (Γq a b p q) 57 [.str s] (.tup [.int .i64 (numV s), errV]) := by
  intro T w vs hT hG ht
  cases ht with
  | cons s0 v0 l vs1 hr hl =>
  cases hl
  cases hr with
  | str _ hok =>
  obtain ⟨x2, hc2, hr2⟩ := hG.one (g := 2) (s := .ifc a (.val p)) rfl rfl
  obtain ⟨x3, hc3, hr3⟩ := hG.one (g := 3) (s := .ifc b (.val q)) rfl rfl
  cases hr2 with
  | ifc _ _ p2 hp2 =>
  cases hr3 with
  | ifc _ _ q3 hq3 =>
  unfold numV
  cases hq : Lib.atoiAll s
  · exact absurd hq (h _)
  · refine (Any.strconv_Atoi_syntax Tryd.laysC172 ⟨s.toArray⟩ (by show s.toArray.size ≤ _; simp; omega) hq _ w hc2 (.inr ⟨_, _, rfl⟩)).mono ?_
    rintro e w' ⟨N, rfl, hN, hh, hb⟩
    exact ⟨_, rfl, .tup _ [_, _] (.cons _ _ _ _ (.int _ 0 (inR_i64 (by decide) (by decide))) (.cons _ _ _ _ (err_rep hT hN hh) .nil)), hb⟩
  · refine (Tryd.strconv_Atoi_range ⟨s.toArray⟩ (by show s.toArray.size ≤ _; simp; omega) hq _ w hc3 (.inr ⟨_, _, rfl⟩)).mono ?_
    rintro e w' ⟨N, rfl, hN, hh, hb⟩
    refine ⟨_, rfl, .tup _ [_, _] (.cons _ _ _ _ (.int _ _ ?_) (.cons _ _ _ _ (err_rep hT hN hh) .nil)), hb⟩
    show inR .i64 (Lib.atoiSat s)
    unfold Lib.atoiSat
    split <;> exact inR_i64 (by decide) (by decide)
attribute [local irreducible] V.Sat V.DSat
theorem number_spec (a b : TypeId) (p q : Value) (s : List UInt8) (hs : s.length ≤ 1000000) : Fun Tryd.prog (Γq a b p q) 49 [.str s] (.tup [.int .i64 (numV s), .bool (numB s)]) := by
  by_cases h : ∃ v, Lib.atoiAll s = .ok v
  · obtain ⟨v, hv⟩ := h
    have hr : inR .i64 v := atoi_rng hv
    have h1 := atoi_ok (Γq a b p q) s hs v hv hr
    have h2 : numV s = v := by unfold numV; rw [hv]
    have h3 : numB s = bif bif decide ((s.length : Int) ≤ 5) then decide (Lib.itoa v = s) else false then decide (0 ≤ v) else false := by unfold numB; rw [hv]
    rw [h2, h3]
    refine Fun.mkF 6 Tryd.func49 rfl Tryd.ntmps49 rfl rfl fun hf T w0 => ?_
    repeat' (first
        | ((with_reducible apply Sat.run (X := X64)); exact rfl; (first | exact True.intro | (exact phi) | skip))
        | ((with_reducible apply Sat.drawn); kernel_rfl)
        | ((with_reducible apply DSat.run (X := X64)); exact rfl; (first | exact True.intro | (exact phi) | skip))
        | ((with_reducible apply DSat.fin); kernel_rfl)
        | ((with_reducible apply Sat.cond_t); exact rfl)
        | ((with_reducible apply Sat.cond_f); exact rfl)
        | ((with_reducible apply Sat.cond_pt); exact rfl; (try dsimp only [V.EV.sub, V.EV.len]); first | assumption | omega)
        | ((with_reducible apply Sat.cond_pf); exact rfl; (try dsimp only [V.EV.sub, V.EV.len]); first | assumption | omega)
        | ((with_reducible apply Sat.cond_p); exact rfl; all_goals intro h)
        | ((with_reducible apply Sat.cond); exact rfl; all_goals intro h)
        | ((with_reducible apply Sat.callR (h1)); exact rfl; exact rfl; exact rfl; kernel_rfl; (exact cnv); exact rfl)
        | ((with_reducible apply DSat.callR (h1)); exact rfl; exact rfl; exact rfl; kernel_rfl; (exact cnv); exact rfl)
        | ((with_reducible apply Sat.callG1 ((Fun.toq (itoa_spec _) a b p q))); exact rfl; exact rfl; exact rfl; exact rfl; kernel_rfl; (intro hG; (exact cnv)); exact rfl)
        | ((with_reducible apply DSat.callG1 ((Fun.toq (itoa_spec _) a b p q))); exact rfl; exact rfl; exact rfl; exact rfl; kernel_rfl; (intro hG; (exact cnv)); exact rfl)
        | ((with_reducible apply Sat.eqNN); kernel_rfl; exact rfl; exact rfl) | fail)
    (refine Sat.fin (Sat.end2 rfl rfl rfl rfl True.intro True.intro (.refl _ pur) (.refl _ pur) (by first | exact .inl rfl | exact .inr rfl) (fun _ h => h)) ?_; rfl)
  · have h1 := atoi_bad a b p q s hs fun v hv => h ⟨v, hv⟩
    have h3 : numB s = false := by
      unfold numB
      split
      · rename_i v hv; exact absurd ⟨v, hv⟩ h
      · rfl
    rw [h3]
    refine Fun.mkF 6 Tryd.func49 rfl Tryd.ntmps49 rfl rfl fun hf T w0 => ?_
    repeat' (first
        | ((with_reducible apply Sat.run (X := X64)); exact rfl; (first | exact True.intro | (exact phi) | skip))
        | ((with_reducible apply Sat.drawn); kernel_rfl)
        | ((with_reducible apply DSat.run (X := X64)); exact rfl; (first | exact True.intro | (exact phi) | skip))
        | ((with_reducible apply DSat.fin); kernel_rfl)
        | ((with_reducible apply Sat.cond_t); exact rfl)
        | ((with_reducible apply Sat.cond_f); exact rfl)
        | ((with_reducible apply Sat.cond_pt); exact rfl; (try dsimp only [V.EV.sub, V.EV.len]); first | assumption | omega)
        | ((with_reducible apply Sat.cond_pf); exact rfl; (try dsimp only [V.EV.sub, V.EV.len]); first | assumption | omega)
        | ((with_reducible apply Sat.cond_p); exact rfl; all_goals intro h)
        | ((with_reducible apply Sat.cond); exact rfl; all_goals intro h)
        | ((with_reducible apply Sat.call (h1)); exact rfl; exact rfl; kernel_rfl; (exact cnv); exact rfl)
        | ((with_reducible apply DSat.call (h1)); exact rfl; exact rfl; kernel_rfl; (exact cnv); exact rfl)
        | ((with_reducible apply Sat.callG1 ((Fun.toq (itoa_spec _) a b p q))); exact rfl; exact rfl; exact rfl; exact rfl; kernel_rfl; (intro hG; (exact cnv)); exact rfl)
        | ((with_reducible apply DSat.callG1 ((Fun.toq (itoa_spec _) a b p q))); exact rfl; exact rfl; exact rfl; exact rfl; kernel_rfl; (intro hG; (exact cnv)); exact rfl) | fail)
    (refine Sat.fin (Sat.end2 rfl rfl rfl rfl True.intro True.intro (.refl _ pur) (.refl _ pur) (by first | exact .inl rfl | exact .inr rfl) (fun _ h => h)) ?_; rfl)
end Go.Proofs.YtmmpflifajjbjaaDoor
end
section
namespace Go.Proofs.YtmmpflifajjbjaaDoor
open Go.RowKit V
--PURE: (intro _ _; simp [pureL, pureS, pureE]; done)
set_option maxRecDepth 100000
set_option maxHeartbeats 8000000
theorem spl_len (c : UInt8) : ∀ s : List UInt8, (spl c s).length ≤ s.length + 1 ∧ ∀ x ∈ spl c s, x.length ≤ s.length
  | [] => by simp [spl]
  | b :: r => by
    obtain ⟨h1, h2⟩ := spl_len c r
    rw [spl]
    split
    · refine ⟨by simp only [List.length_cons]; omega, fun x hx => ?_⟩
      rcases List.mem_cons.1 hx with rfl | hx
      · simp
      · have := h2 x hx
        simp only [List.length_cons]
        omega
    · split
      · exact ⟨by simp, fun x hx => by simp only [List.mem_singleton] at hx; subst hx; simp⟩
      · rename_i x y hy
        rw [hy] at h1 h2
        refine ⟨by simp only [List.length_cons] at h1 ⊢; omega, fun z hz => ?_⟩
        rcases List.mem_cons.1 hz with rfl | hz
        · have := h2 x (List.mem_cons_self ..)
          simp only [List.length_cons]
          omega
        · have := h2 z (List.mem_cons_of_mem _ hz)
          simp only [List.length_cons]
          omega
theorem spl_get (c : UInt8) (s : List UInt8) (i : Nat) : ((spl c s).getD i []).length ≤ s.length := by
  rw [List.getD_eq_getElem?_getD]
  cases h : (spl c s)[i]? with
  | none => simp
  | some x => exact (spl_len c s).2 x (List.mem_of_getElem? h)
theorem trim_len (s p : List UInt8) : (Lib.trimSuffix s p).length ≤ s.length := by
  unfold Lib.trimSuffix
  split
  · rw [List.length_take]; omega
  · exact Nat.le_refl _
theorem cut_len (s p : List UInt8) : (Lib.cut s p).1.length ≤ s.length ∧ (Lib.cut s p).2.1.length ≤ s.length := by
  unfold Lib.cut
  split
  · exact ⟨by rw [List.length_take]; omega, by rw [List.length_drop]; omega⟩
  · exact ⟨Nat.le_refl _, Nat.zero_le _⟩
theorem lineX_eq (s : List UInt8) : lineX s = bif bif decide (((spl 32 (Lib.trimSuffix s sufC)).length : Int) ≠ 3) then true else decide ((spl 32 (Lib.trimSuffix s sufC)).getD 0 [] = []) then (sec0, false) else
    (⟨(spl 32 (Lib.trimSuffix s sufC)).getD 0 [], numV ((spl 32 (Lib.trimSuffix s sufC)).getD 1 []), numV ((spl 32 (Lib.trimSuffix s sufC)).getD 2 []), Lib.hasSuffix s sufC⟩, bif numB ((spl 32 (Lib.trimSuffix s sufC)).getD 1 []) then numB ((spl 32 (Lib.trimSuffix s sufC)).getD 2 []) else false) := by
  unfold lineX
  generalize spl 32 (Lib.trimSuffix s sufC) = L
  rcases L with _ | ⟨a, _ | ⟨b, _ | ⟨d, _ | ⟨e, L⟩⟩⟩⟩
  · rfl
  · rfl
  · rfl
  · rfl
  · have h : (((a :: b :: d :: e :: L).length : Int) ≠ 3) := by simp only [List.length_cons]; omega
    rw [decide_eq_true h]
    rfl
theorem suffix_spec (Γ : Glob) (s : List UInt8) (hs : s.length ≤ 1000000) : Fun Tryd.prog Γ 47 [.str s, .str sufC] (.tup [.str (Lib.trimSuffix s sufC), .bool (Lib.hasSuffix s sufC)]) := by
  intro T w vs hT hG ht
  cases ht with
  | cons s0 v0 l vs1 hr hl =>
  cases hl with
  | cons s1 v1 l1 vs2 hr1 hl1 =>
  cases hl1
  cases hr
  cases hr1
  refine (Tryd.strings_CutSuffix ⟨s.toArray⟩ ⟨sufC.toArray⟩ w (by show s.toArray.size ≤ _; simp; omega)).mono ?_
  rintro e w' ⟨rfl, rfl⟩
  have := trim_len s sufC
  exact ⟨_, rfl, .tup _ [_, _] (.cons _ _ _ _ (.str _ (by unfold okLen; omega)) (.cons _ _ _ _ (.bool _) .nil)), Below.refl _ _⟩
theorem cut_spec (a b : TypeId) (p q : Value) (s : List UInt8) (hs : s.length ≤ 1000000) : Fun Tryd.prog (Γq a b p q) 36 [.str s, .str [10]] (.tup [.str (Lib.cut s [10]).1, .str (Lib.cut s [10]).2.1, .bool (Lib.cut s [10]).2.2]) := by
  intro T w vs hT hG ht
  obtain ⟨x0, hc0, hr0⟩ := hG.one (g := 0) (s := .anyi .i64) rfl rfl
  cases hr0 with
  | anyi _ m =>
  cases ht with
  | cons s0 v0 l vs1 hr hl =>
  cases hl with
  | cons s1 v1 l1 vs2 hr1 hl1 =>
  cases hl1
  cases hr
  cases hr1
  refine (Tryd.strings_Cut ⟨s.toArray⟩ ⟨#[10]⟩ m w (by show s.toArray.size < _; simp; omega) hc0).mono ?_
  rintro e w' ⟨rfl, n, rfl⟩
  obtain ⟨h1, h2⟩ := cut_len s [10]
  exact ⟨_, rfl, .tup _ [_, _, _] (.cons _ _ _ _ (.str _ (by unfold okLen; omega)) (.cons _ _ _ _ (.str _ (by unfold okLen; omega)) (.cons _ _ _ _ (.bool _) .nil))), ⟨rfl, rfl, rfl, Nat.le_refl _, fun _ _ => rfl⟩⟩
@[reducible] def strE (l : List (List UInt8)) : EV := .g l.length 1 fun i => [.str (l.getD i [])]
theorem split_spec (a b : TypeId) (p q : Value) (s : List UInt8) (hs : s.length ≤ 1000000) : Fun Tryd.prog (Γq a b p q) 48 [.str s, .str [32]] (.ro (strE (spl 32 s))) := by
  intro T w vs hT hG ht
  obtain ⟨x0, hc0, hr0⟩ := hG.one (g := 0) (s := .anyi .i64) rfl rfl
  cases hr0 with
  | anyi _ m =>
  cases ht with
  | cons s0 v0 l vs1 hr hl =>
  cases hl with
  | cons s1 v1 l1 vs2 hr1 hl1 =>
  cases hl1
  cases hr
  cases hr1
  refine (Tryd.strings_Split ⟨s.toArray⟩ ⟨#[32]⟩ m w (by show s.toArray.size < _; simp; omega) hc0 (by decide)).mono ?_
  rintro e w' ⟨rfl, rfl⟩
  have hd : (Lib.splitB ⟨#[32]⟩ 0 (Lib.countB ⟨s.toArray⟩ ⟨#[32]⟩) ⟨s.toArray⟩).map (·.data.toList) = spl 32 s := (Lib.splitB_data _ _ _ _).trans (split_spl 32 s.length s (Nat.le_refl _))
  generalize hL : Lib.splitB ⟨#[32]⟩ 0 (Lib.countB ⟨s.toArray⟩ ⟨#[32]⟩) ⟨s.toArray⟩ = L at hd
  have hlen : L.length = Lib.countB ⟨s.toArray⟩ ⟨#[32]⟩ + 1 := by rw [← hL]; exact Lib.splitB_all ⟨#[32]⟩ (by decide) 0 _ _ rfl
  have hlen2 : L.length = (spl 32 s).length := by rw [← hd, List.length_map]
  have hle := (spl_len 32 s).1
  have hget : ∀ i, i < (spl 32 s).length → (L.map Value.string)[i]? = some (.string ⟨((spl 32 s).getD i []).toArray⟩) := fun i hi => by
    rw [List.getElem?_map, ← hd, List.getD_eq_getElem?_getD, List.getElem?_map]
    rw [List.getElem?_eq_getElem (by omega)]
    rfl
  refine ⟨_, rfl, ?_, (Below.refl _ w).alloc (Nat.le_refl _) _⟩
  rw [← hlen, hlen2]
  refine .ro (strE (spl 32 s)) w.heap.size 0 _ _ (fun i => [.string ⟨((spl 32 s).getD i []).toArray⟩]) (fun h => by have := hT _ h; omega) (fun i hi => rfl) (fun i j v hi hj => ?_) (fun i hi => ?_) rfl (Nat.le_refl _) (by unfold okLen; omega) (by simp)
  · cases j with
    | zero =>
      simp only [List.getElem?_cons_zero, Option.some.injEq] at hj
      subst hj
      have h1 : (w.alloc (.cells (L.map Value.string).toArray 9)).heap[w.heap.size]? = some (.cells (L.map Value.string).toArray 9 (0, 0)) := heap_alloc_new w _
      have e : 0 + i * (strE (spl 32 s)).sz + 0 = i := by show 0 + i * 1 + 0 = i; omega
      rw [e]
      simp only [World.cell?, h1]
      have := hget i hi
      simpa using this
    | succ j => simp at hj
  · have := spl_get 32 s i
    exact .one _ _ _ _ rfl (.str _ (by unfold okLen; omega)) .nil
theorem len3 {L : List (List UInt8)} (h : (bif decide ((L.length : Int) ≠ 3) then true else decide (L.getD 0 [] = [])) = false) : L.length = 3 := by
  cases h1 : decide ((L.length : Int) ≠ 3) <;> rw [h1] at h
  · have := Decidable.of_not_not (of_decide_eq_false h1)
    omega
  · cases h
attribute [local irreducible] V.Sat V.DSat
theorem line_spec (a b : TypeId) (p q : Value) (s : List UInt8) (hs : s.length ≤ 1000000) : Fun Tryd.prog (Γq a b p q) 37 [.str s] (.tup [(lineX s).1.v, .bool (lineX s).2]) := by
  have ht := trim_len s sufC
  have h1 := suffix_spec (Γq a b p q) s hs
  have h2 := split_spec a b p q (Lib.trimSuffix s sufC) (by omega)
  have hg := spl_get 32 (Lib.trimSuffix s sufC)
  have hn1 := number_spec a b p q ((spl 32 (Lib.trimSuffix s sufC)).getD 1 []) (by have := hg 1; omega)
  have hn2 := number_spec a b p q ((spl 32 (Lib.trimSuffix s sufC)).getD 2 []) (by have := hg 2; omega)
  rw [lineX_eq]
  generalize spl 32 (Lib.trimSuffix s sufC) = L at h2 hn1 hn2
  refine Fun.mkF 6 Tryd.func37 rfl Tryd.ntmps37 rfl rfl fun hf T w0 => ?_
  repeat' (first
      | ((with_reducible apply Sat.run (X := X64)); exact rfl; (first | exact True.intro | (exact phi) | skip))
      | ((with_reducible apply Sat.drawn); kernel_rfl)
      | ((with_reducible apply DSat.run (X := X64)); exact rfl; (first | exact True.intro | (exact phi) | skip))
      | ((with_reducible apply DSat.fin); kernel_rfl)
      | ((with_reducible apply Sat.cond_t); exact rfl)
      | ((with_reducible apply Sat.cond_f); exact rfl)
      | ((with_reducible apply Sat.cond_pt); exact rfl; (try dsimp only [V.EV.sub, V.EV.len]); first | assumption | omega)
      | ((with_reducible apply Sat.cond_pf); exact rfl; (try dsimp only [V.EV.sub, V.EV.len]); first | assumption | omega)
      | ((with_reducible apply Sat.cond_p); exact rfl; all_goals intro h)
      | ((with_reducible apply Sat.cond); exact rfl; all_goals intro h)
      | ((with_reducible apply Sat.callR (h1)); exact rfl; exact rfl; exact rfl; kernel_rfl; (exact cnvX); exact rfl)
      | ((with_reducible apply DSat.callR (h1)); exact rfl; exact rfl; exact rfl; kernel_rfl; (exact cnvX); exact rfl)
      | ((with_reducible apply Sat.call (h2)); exact rfl; exact rfl; kernel_rfl; (exact cnvX); exact rfl)
      | ((with_reducible apply DSat.call (h2)); exact rfl; exact rfl; kernel_rfl; (exact cnvX); exact rfl)
      | ((with_reducible apply Sat.callR (hn1)); exact rfl; exact rfl; exact rfl; kernel_rfl; (exact cnvX); exact rfl)
      | ((with_reducible apply DSat.callR (hn1)); exact rfl; exact rfl; exact rfl; kernel_rfl; (exact cnvX); exact rfl)
      | ((with_reducible apply Sat.callR (hn2)); exact rfl; exact rfl; exact rfl; kernel_rfl; (exact cnvX); exact rfl)
      | ((with_reducible apply DSat.callR (hn2)); exact rfl; exact rfl; exact rfl; kernel_rfl; (exact cnvX); exact rfl) | fail)
  · (repeat' (first | exact AllP.nil | with_reducible refine AllP.cons ?_ ?_)) <;> (intro hh; first | exact hh | (have h3 : (L.length : Int) = 3 := Decidable.of_not_not (of_decide_eq_false hh); simp only [V.EV.len]; omega))
  · have h : (bif decide ((L.length : Int) ≠ 3) then true else decide (L.getD 0 [] = [])) = true := h
    rw [h]
    (refine Sat.fin (Sat.end2 rfl rfl rfl rfl True.intro True.intro (.refl _ purX) (.refl _ purX) (by first | exact .inl rfl | exact .inr rfl) (fun _ h => h)) ?_; rfl)
  · have h3 := len3 (show (bif decide ((L.length : Int) ≠ 3) then true else decide (L.getD 0 [] = [])) = false from h)
    refine .cons ⟨by omega, ?_⟩ .nil
    show (1 : Int) < (L.length : Int)
    omega
  · have h3 := len3 (show (bif decide ((L.length : Int) ≠ 3) then true else decide (L.getD 0 [] = [])) = false from h)
    refine .cons ⟨by omega, ?_⟩ .nil
    show (2 : Int) < (L.length : Int)
    omega
  · have h3 := len3 (show (bif decide ((L.length : Int) ≠ 3) then true else decide (L.getD 0 [] = [])) = false from h)
    refine .cons (fun h => h) (.cons ⟨by omega, ?_⟩ .nil)
    show (0 : Int) < (L.length : Int)
    omega
  · have h : (bif decide ((L.length : Int) ≠ 3) then true else decide (L.getD 0 [] = [])) = false := h
    rw [h]
    (refine Sat.fin (Sat.end2 rfl rfl rfl rfl True.intro True.intro (.refl _ purX) (.refl _ purX) (by first | exact .inl rfl | exact .inr rfl) (fun _ h => h)) ?_; rfl)
end Go.Proofs.YtmmpflifajjbjaaDoor
end
section
namespace Go.Proofs.YtmmpflifajjbjaaDoor
open Go.RowKit V
--PURE: (intro _ _; simp [pureL, pureS, pureE]; done)
set_option maxRecDepth 100000
set_option maxHeartbeats 8000000
set_option linter.unusedSimpArgs false
/-- What Parse returns. -/
def parseR (s : List UInt8) : Option (List SecL) := parseK s.length s
def parV (s : List UInt8) : SV := .tup [.ro (secE (match parseR s with | some l => bif validB l 65536 then l else [] | none => [])), .int .i64 (match parseR s with | some l => bif validB l 65536 then 0 else 10 | none => 3)]
theorem cut_short (b : UInt8) (s : List UInt8) (h : (Lib.cut (b :: s) [10]).2.2 = true) : (Lib.cut (b :: s) [10]).2.1.length ≤ s.length := by
  rcases at_first 10 (b :: s) with h1 | ⟨p, r, h1, h2⟩
  · rw [cut_miss 10 _ h1] at h; cases h
  · rw [h2, cut_hit 10 p r h1]
    have := congrArg List.length h2
    simp only [List.length_append, List.length_cons] at this
    show r.length ≤ s.length
    omega
theorem parse_fuel : ∀ (n m : Nat) (s : List UInt8), s.length ≤ n → s.length ≤ m → parseK n s = parseK m s
  | n, m, [], _, _ => by cases n <;> cases m <;> rfl
  | 0, m, b :: s, h, _ => by simp at h
  | n + 1, 0, b :: s, _, h => by simp at h
  | n + 1, m + 1, b :: s, h1, h2 => by
    simp only [parseK]
    cases h3 : (bif !(lineX (Lib.cut (b :: s) [10]).1).2 then true else !(Lib.cut (b :: s) [10]).2.2) with
    | true => rfl
    | false =>
      simp only [cond_false]
      have h4 : (Lib.cut (b :: s) [10]).2.2 = true := by
        cases h5 : (Lib.cut (b :: s) [10]).2.2 <;> rw [h5] at h3
        · cases h6 : (lineX (Lib.cut (b :: s) [10]).1).2 <;> rw [h6] at h3 <;> cases h3
      have := cut_short b s h4
      simp only [List.length_cons] at h1 h2
      rw [parse_fuel n m _ (by omega) (by omega)]
theorem parse_step (s : List UInt8) (h : s ≠ []) : parseR s = bif bif !(lineX (Lib.cut s [10]).1).2 then true else !(Lib.cut s [10]).2.2 then none else (parseR (Lib.cut s [10]).2.1).map ((lineX (Lib.cut s [10]).1).1 :: ·) := by
  cases s with
  | nil => exact absurd rfl h
  | cons b s =>
    unfold parseR
    rw [List.length_cons, parseK]
    cases h3 : (bif !(lineX (Lib.cut (b :: s) [10]).1).2 then true else !(Lib.cut (b :: s) [10]).2.2) with
    | true => rfl
    | false =>
      simp only [cond_false]
      have h4 : (Lib.cut (b :: s) [10]).2.2 = true := by
        cases h5 : (Lib.cut (b :: s) [10]).2.2 <;> rw [h5] at h3
        · cases h6 : (lineX (Lib.cut (b :: s) [10]).1).2 <;> rw [h6] at h3 <;> cases h3
      have := cut_short b s h4
      rw [parse_fuel s.length _ _ this (Nat.le_refl _)]
theorem cut_sh (s : List UInt8) (hs : s ≠ []) (h : (bif !(lineX (Lib.cut s [10]).1).2 then true else !(Lib.cut s [10]).2.2) = false) : (Lib.cut s [10]).2.1.length < s.length := by
  cases s with
  | nil => exact absurd rfl hs
  | cons b s =>
    have h4 : (Lib.cut (b :: s) [10]).2.2 = true := by
      cases h5 : (Lib.cut (b :: s) [10]).2.2 <;> rw [h5] at h
      · cases h6 : (lineX (Lib.cut (b :: s) [10]).1).2 <;> rw [h6] at h <;> cases h
    have := cut_short b s h4
    simp only [List.length_cons]
    omega
attribute [local irreducible] V.Sat V.DSat
theorem parse_spec (a b : TypeId) (p q : Value) (s : List UInt8) (hs : s.length ≤ 100000) : Fun Tryd.prog (Γq a b p q) 14 [.str s] (parV s) := by
  refine Fun.mkF 6 Tryd.func14 rfl Tryd.ntmps14 rfl rfl fun hf T w0 => ?_
  by_cases hs0 : s = []
  · subst hs0
    have hv := Fun.weak (Γ := Γq a b p q) (valid_spec [] 65536)
    repeat' (first
        | ((with_reducible apply Sat.run (X := X64)); exact rfl; (first | exact True.intro | (exact phi) | skip))
        | ((with_reducible apply Sat.drawn); kernel_rfl)
        | ((with_reducible apply DSat.run (X := X64)); exact rfl; (first | exact True.intro | (exact phi) | skip))
        | ((with_reducible apply DSat.fin); kernel_rfl)
        | ((with_reducible apply Sat.cond_t); exact rfl)
        | ((with_reducible apply Sat.cond_f); exact rfl)
        | ((with_reducible apply Sat.cond_pt); exact rfl; (try dsimp only [V.EV.sub, V.EV.len]); first | assumption | omega)
        | ((with_reducible apply Sat.cond_pf); exact rfl; (try dsimp only [V.EV.sub, V.EV.len]); first | assumption | omega)
        | ((with_reducible apply Sat.cond_p); exact rfl; all_goals intro h)
        | ((with_reducible apply Sat.cond); exact rfl; all_goals intro h)
        | (with_reducible apply Sat.unroll 40)
        | (with_reducible apply Sat.again)
        | ((with_reducible apply Sat.callR (hv)); exact rfl; exact rfl; exact rfl; kernel_rfl; (exact cnvX); exact rfl)
        | ((with_reducible apply DSat.callR (hv)); exact rfl; exact rfl; exact rfl; kernel_rfl; (exact cnvX); exact rfl) | fail)
    refine Sat.fin (Sat.end2 rfl rfl rfl rfl True.intro True.intro (.nils _ rfl) (.refl _ trivial) (by first | exact .inl rfl | exact .inr rfl) (fun _ h => h)) rfl
  · have hc := cut_spec a b p q s (by omega)
    have hcl := cut_len s [10]
    have hl := line_spec a b p q (Lib.cut s [10]).1 (by omega)
    repeat' (first
        | ((with_reducible apply Sat.run (X := X64)); exact rfl; (first | exact True.intro | (exact phi) | skip))
        | ((with_reducible apply Sat.drawn); kernel_rfl)
        | ((with_reducible apply DSat.run (X := X64)); exact rfl; (first | exact True.intro | (exact phi) | skip))
        | ((with_reducible apply DSat.fin); kernel_rfl) | fail)
    apply Sat.loop1 (α := List UInt8 × List SecL) (fun x => Hid (parseR s = (parseR x.1).map (x.2 ++ ·)) ∧ x.2.length + x.1.length ≤ s.length) (fun x => x.1.length) (s, []) (fun x => [(0, .str x.1), (4, .row 0 0 4 0 x.2.length)]) (fun x => [(0, .row 28 (secE x.2))]) [] 1
    · intro x; exact rfl
    · intro x; exact rfl
    · exact rfl
    · repeat' (first
          | ((with_reducible apply Sat.run (X := X64)); exact rfl; (first | exact True.intro | (exact phi) | skip))
          | ((with_reducible apply Sat.drawn); kernel_rfl)
          | ((with_reducible apply DSat.run (X := X64)); exact rfl; (first | exact True.intro | (exact phi) | skip))
          | ((with_reducible apply DSat.fin); kernel_rfl) | fail)
      with_reducible apply Sat.cond_pt
      · exact rfl
      · exact hs0
      repeat' (first
          | ((with_reducible apply Sat.run (X := X64)); exact rfl; (first | exact True.intro | (exact phi) | skip))
          | ((with_reducible apply Sat.drawn); kernel_rfl)
          | ((with_reducible apply DSat.run (X := X64)); exact rfl; (first | exact True.intro | (exact phi) | skip))
          | ((with_reducible apply DSat.fin); kernel_rfl)
          | ((with_reducible apply Sat.cond_t); exact rfl)
          | ((with_reducible apply Sat.cond_f); exact rfl)
          | ((with_reducible apply Sat.cond_pt); exact rfl; (try dsimp only [V.EV.sub, V.EV.len]); first | assumption | omega)
          | ((with_reducible apply Sat.cond_pf); exact rfl; (try dsimp only [V.EV.sub, V.EV.len]); first | assumption | omega)
          | ((with_reducible apply Sat.cond_p); exact rfl; all_goals intro h)
          | ((with_reducible apply Sat.cond); exact rfl; all_goals intro h)
          | ((with_reducible apply Sat.callR (hc)); exact rfl; exact rfl; exact rfl; kernel_rfl; (exact cnvX); exact rfl)
          | ((with_reducible apply DSat.callR (hc)); exact rfl; exact rfl; exact rfl; kernel_rfl; (exact cnvX); exact rfl)
          | ((with_reducible apply Sat.callR (hl)); exact rfl; exact rfl; exact rfl; kernel_rfl; (exact cnvX); exact rfl)
          | ((with_reducible apply DSat.callR (hl)); exact rfl; exact rfl; exact rfl; kernel_rfl; (exact cnvX); exact rfl) | fail)
      · have h : (bif !(lineX (Lib.cut s [10]).1).2 then true else !(Lib.cut s [10]).2.2) = true := h
        have hR : parseR s = none := by rw [parse_step s hs0, h]; rfl
        unfold parV
        rw [hR]
        refine Sat.fin (Sat.end2 rfl rfl rfl rfl True.intro True.intro (.nils _ rfl) (.refl _ trivial) (by first | exact .inl rfl | exact .inr rfl) (fun _ h => h)) rfl
      · have h : (bif !(lineX (Lib.cut s [10]).1).2 then true else !(Lib.cut s [10]).2.2) = false := h
        have hsh := cut_sh s hs0 h
        refine Sat.back ((Lib.cut s [10]).2.1, ([] : List SecL) ++ [(lineX (Lib.cut s [10]).1).1]) [(0, some 2)] rfl ?_ ?_ ?_
        · (repeat' (first | exact AllP.nil | with_reducible refine AllP.cons ?_ ?_)) <;> first | with_reducible exact rfl | exact Int.natCast_add_one _ | exact rfl | exact trivial | exact ⟨rfl, rfl, rfl, by simp [EV.len, EV.sub]⟩ | (show ([] : List SecL).length + 1 = (([] : List SecL) ++ [(lineX (Lib.cut s [10]).1).1]).length; simp; done) | (intro z hz; exact row_snoc2 (fun x : SecL => [.str x.name, .int .i64 x.fr, .int .i64 x.to, .bool x.code]) ([] : List SecL) (lineX (Lib.cut s [10]).1).1 sec0 z hz) | exact purX | (intro _ _; exact rfl) | (intro _ _; dsimp only; split <;> first | (simp [pureL, pureS, pureE]; done) | exact pure_nth1 _ (by simp [pureL, pureS, pureE]) _) | (intro _ _; exact pure_nth1 _ (by simp [pureL, pureS, pureE]) _)
        · refine ⟨?_, by simp only [List.length_append, List.length_cons, List.length_nil]; omega⟩
          show parseR s = _
          rw [parse_step s hs0, h]
          simp only [cond_false, Option.map_map]
          rfl
        · exact hsh
    · rintro ⟨s1, acc⟩ ⟨x1, x2⟩
      dsimp only at x1 x2 ⊢
      by_cases hs0 : s1 = []
      · subst hs0
        have hR : parseR s = some acc := by
          rw [show parseR s = (parseR []).map (acc ++ ·) from x1]
          show some (acc ++ []) = _
          rw [List.append_nil]
        have hv := Fun.weak (Γ := Γq a b p q) (valid_spec acc 65536)
        unfold parV
        rw [hR]
        repeat' (first
            | ((with_reducible apply Sat.run (X := X64)); exact rfl; (first | exact True.intro | (exact phi) | skip))
            | ((with_reducible apply Sat.drawn); kernel_rfl)
            | ((with_reducible apply DSat.run (X := X64)); exact rfl; (first | exact True.intro | (exact phi) | skip))
            | ((with_reducible apply DSat.fin); kernel_rfl)
            | ((with_reducible apply Sat.cond_t); exact rfl)
            | ((with_reducible apply Sat.cond_f); exact rfl)
            | ((with_reducible apply Sat.cond_pt); exact rfl; (try dsimp only [V.EV.sub, V.EV.len]); first | assumption | omega)
            | ((with_reducible apply Sat.cond_pf); exact rfl; (try dsimp only [V.EV.sub, V.EV.len]); first | assumption | omega)
            | ((with_reducible apply Sat.cond_p); exact rfl; all_goals intro h)
            | ((with_reducible apply Sat.cond); exact rfl; all_goals intro h)
            | ((with_reducible apply Sat.callR (hv)); exact rfl; exact rfl; exact rfl; kernel_rfl; (refine Convs.cons _ _ _ _ (.all _ _ _ _ _ rfl rfl rfl (by intro _ _; simp [pureL, pureS, pureE])) (Convs.cons _ _ _ _ (.refl _ trivial) .nil)); exact rfl) | fail)
        · have h : validB acc 65536 = false := by simpa using h
          dsimp only
          rw [h]
          refine Sat.fin (Sat.end2 rfl rfl rfl rfl True.intro True.intro (.nils _ rfl) (.refl _ trivial) (by first | exact .inl rfl | exact .inr rfl) (fun _ h => h)) rfl
        · have h : validB acc 65536 = true := by simpa using h
          dsimp only
          rw [h]
          refine Sat.fin (Sat.end2 rfl rfl rfl rfl True.intro True.intro (.all _ _ _ _ _ rfl rfl rfl (by intro _ _; simp [pureL, pureS, pureE])) (.refl _ trivial) (by first | exact .inl rfl | exact .inr rfl) (fun _ h => h)) rfl
      · have hc := cut_spec a b p q s1 (by omega)
        have hcl := cut_len s1 [10]
        have hl := line_spec a b p q (Lib.cut s1 [10]).1 (by omega)
        repeat' (first
            | ((with_reducible apply Sat.run (X := X64)); exact rfl; (first | exact True.intro | (exact phi) | skip))
            | ((with_reducible apply Sat.drawn); kernel_rfl)
            | ((with_reducible apply DSat.run (X := X64)); exact rfl; (first | exact True.intro | (exact phi) | skip))
            | ((with_reducible apply DSat.fin); kernel_rfl) | fail)
        with_reducible apply Sat.cond_pt
        · exact rfl
        · exact hs0
        repeat' (first
            | ((with_reducible apply Sat.run (X := X64)); exact rfl; (first | exact True.intro | (exact phi) | skip))
            | ((with_reducible apply Sat.drawn); kernel_rfl)
            | ((with_reducible apply DSat.run (X := X64)); exact rfl; (first | exact True.intro | (exact phi) | skip))
            | ((with_reducible apply DSat.fin); kernel_rfl)
            | ((with_reducible apply Sat.cond_t); exact rfl)
            | ((with_reducible apply Sat.cond_f); exact rfl)
            | ((with_reducible apply Sat.cond_pt); exact rfl; (try dsimp only [V.EV.sub, V.EV.len]); first | assumption | omega)
            | ((with_reducible apply Sat.cond_pf); exact rfl; (try dsimp only [V.EV.sub, V.EV.len]); first | assumption | omega)
            | ((with_reducible apply Sat.cond_p); exact rfl; all_goals intro h)
            | ((with_reducible apply Sat.cond); exact rfl; all_goals intro h)
            | ((with_reducible apply Sat.callR (hc)); exact rfl; exact rfl; exact rfl; kernel_rfl; (exact cnvX); exact rfl)
            | ((with_reducible apply DSat.callR (hc)); exact rfl; exact rfl; exact rfl; kernel_rfl; (exact cnvX); exact rfl)
            | ((with_reducible apply Sat.callR (hl)); exact rfl; exact rfl; exact rfl; kernel_rfl; (exact cnvX); exact rfl)
            | ((with_reducible apply DSat.callR (hl)); exact rfl; exact rfl; exact rfl; kernel_rfl; (exact cnvX); exact rfl) | fail)
        · have h : (bif !(lineX (Lib.cut s1 [10]).1).2 then true else !(Lib.cut s1 [10]).2.2) = true := h
          have hR : parseR s = none := by rw [show parseR s = (parseR s1).map (acc ++ ·) from x1, parse_step s1 hs0, h]; rfl
          unfold parV
          rw [hR]
          refine Sat.fin (Sat.end2 rfl rfl rfl rfl True.intro True.intro (.nils _ rfl) (.refl _ trivial) (by first | exact .inl rfl | exact .inr rfl) (fun _ h => h)) rfl
        · have h : (bif !(lineX (Lib.cut s1 [10]).1).2 then true else !(Lib.cut s1 [10]).2.2) = false := h
          have hsh := cut_sh s1 hs0 h
          refine Sat.back ((Lib.cut s1 [10]).2.1, acc ++ [(lineX (Lib.cut s1 [10]).1).1]) [(0, some 3)] rfl ?_ ?_ ?_
          · (repeat' (first | exact AllP.nil | with_reducible refine AllP.cons ?_ ?_)) <;> first | with_reducible exact rfl | exact Int.natCast_add_one _ | exact rfl | exact trivial | exact ⟨rfl, rfl, rfl, by simp [EV.len, EV.sub]⟩ | (show acc.length + 1 = (acc ++ [(lineX (Lib.cut s1 [10]).1).1]).length; simp; done) | (intro z hz; exact row_snoc2 (fun x : SecL => [.str x.name, .int .i64 x.fr, .int .i64 x.to, .bool x.code]) acc (lineX (Lib.cut s1 [10]).1).1 sec0 z hz) | exact purX | (intro _ _; exact rfl) | (intro _ _; dsimp only; split <;> first | (simp [pureL, pureS, pureE]; done) | exact pure_nth1 _ (by simp [pureL, pureS, pureE]) _) | (intro _ _; exact pure_nth1 _ (by simp [pureL, pureS, pureE]) _)
          · refine ⟨?_, by simp only [List.length_append, List.length_cons, List.length_nil]; omega⟩
            show parseR s = _
            rw [show parseR s = (parseR s1).map (acc ++ ·) from x1, parse_step s1 hs0, h]
            simp only [cond_false, Option.map_map]
            congr 1
            funext l
            simp
          · exact hsh
end Go.Proofs.YtmmpflifajjbjaaDoor
end
section
namespace Go.Proofs.YtmmpflifajjbjaaDoor.V
open Go.RowKit
theorem rowsIn_wide {n : Nat} {P : Program} {row : String} {args : Array Value} {w : World} {R : Value → World → Prop} (h : Rows P row args w R) : RowsIn Fence.wide n P row args w R :=
  fun c cs _ => let ⟨v, w', r, s⟩ := h c cs; ⟨v, w', r, stepsIn_wide.2 s⟩
/-- The fence that lets everything in; and that in a round. -/
def wideAt : Option Nat → Fence
  | none => Fence.wide
  | some l => Fence.wide.inRound l
def noDefer : Op → Bool
  | .defer _ => false
  | _ => true
theorem sem_at (r : Option Nat) (ρ : Operand → Value) (o : Oper) (h : noDefer o.op = true) : Oper.semAt (wideAt r).round ρ o = execOp ρ o := by
  cases r with
  | none => rfl
  | some l => exact Oper.semAt_some l ρ o fun c e => by rw [e] at h; cases h
theorem opIn_wide {r : Option Nat} {n : Nat} {P : Program} {Q : Exit → Act → World → Prop} {o : Oper} {a : Act} {w : World} {K : Act → World → Prop} (hd : noDefer o.op = true) (h : o.wp P a w K Q) : o.wpIn (wideAt r) n P a w K Q := by
  unfold Oper.wp at h
  unfold Oper.wpIn
  rw [sem_at r _ _ hd]
  have hfn : ∀ f, (wideAt r).fn f := fun f => by cases r <;> trivial
  refine ⟨fun f _ => hfn f, ?_⟩
  have hdep : ¬ (wideAt r).depth.isSome = true := by cases r <;> (intro h; cases h)
  have hc : ∀ f args w R, Calls P f args w R → CallsIn (wideAt r) (n - 1) P f args w R := fun f args w R h => by
    cases r with
    | none => exact callsIn_wide.2 h
    | some l => exact CallsIn.inRound l (callsIn_wide.2 h)
  have hrw : ∀ row args w R, Rows P row args w R → RowsIn (wideAt r) (n - 1) P row args w R := fun f args w R h => by
    cases r with
    | none => exact rowsIn_wide h
    | some l => exact rowsIn_wide h
  generalize (execOp a.eval o).run P w = x at h
  cases x with
  | ok x w' =>
    cases x <;> simp only [Oper.upon] at h <;> simp only [Oper.uponIn] <;>
      first
        | exact h
        | exact ⟨fun h => (hdep h).elim, hc _ _ _ _ h⟩
        | exact ⟨fun h => (hdep h).elim, hrw _ _ _ _ h⟩
        | exact h.elim
  | halt x w' => cases x <;> simp only [Oper.upon] at h <;> simp only [Oper.uponIn] <;> first | exact h | exact h.elim
def noDefers : List Oper → Bool
  | [] => true
  | o :: r => noDefer o.op && noDefers r
/-- The operations ahead, then the others. -/
theorem listIn_app {r : Option Nat} {n : Nat} {P : Program} {Q Qm : Exit → Act → World → Prop} {ops : Array Oper} {rest : List Oper} (hno : ¬ LetsOut Qm) (hq : ∀ e a w, e ≠ .normal → Qm e a w → Q e a w) (hm : ∀ a w, Qm .normal a w → wpListIn (wideAt r) n P ops Q rest a w) :
    ∀ (pre : List Oper) (a : Act) (w : World), noDefers pre = true → wpList P ops Qm pre a w → wpListIn (wideAt r) n P ops Q (pre ++ rest) a w
  | [], a, w, _, h => hm a w h
  | o :: pre, a, w, hd, h => by
    simp only [noDefers, Bool.and_eq_true] at hd
    have hfn : ∀ f, (wideAt r).fn f := fun f => by cases r <;> trivial
    show if Region.wanted o (yielded ops a.tmps) then o.wpIn (wideAt r) n P a w (wpListIn (wideAt r) n P ops Q (pre ++ rest)) Q else (∀ f, o.about P w a.eval = some f → (wideAt r).fn f) ∧ wpListIn (wideAt r) n P ops Q (pre ++ rest) (a.put o.dst undef) w
    have h : if Region.wanted o (yielded ops a.tmps) then o.wp P a w (wpList P ops Qm pre) Qm ∨ (o.asks P a w ∧ LetsOut Qm) else wpList P ops Qm pre (a.put o.dst undef) w := h
    split
    · rename_i hw
      rw [if_pos hw] at h
      rcases h with h | h
      · refine opIn_wide hd.1 ?_
        have h2 : o.wp P a w (wpListIn (wideAt r) n P ops Q (pre ++ rest)) Qm := Oper.wp_mono (fun a w h => listIn_app hno hq hm pre a w hd.2 h) h
        unfold Oper.wp at h2 ⊢
        generalize (execOp a.eval o).run P w = x at h2
        have hl : LetsOut Qm → LetsOut Q := fun h => (hno h).elim
        cases x with
        | ok x w' =>
          cases x <;> simp only [Oper.upon] at h2 ⊢ <;>
            first
              | exact h2
              | exact Calls.mono h2 (fun e w'' he => by cases e <;> first | exact he | exact hl he | exact hq _ _ _ (by simp) he)
              | exact h2.elim
        | halt x w' => cases x <;> simp only [Oper.upon] at h2 ⊢ <;> first | exact hq _ _ _ (by simp) h2 | exact h2
      · exact (hno h.2).elim
    · rename_i hw
      rw [if_neg hw] at h
      exact ⟨fun f _ => hfn f, listIn_app hno hq hm pre _ w hd.2 h⟩
theorem listIn_of {r : Option Nat} {n : Nat} {P : Program} {Q : Exit → Act → World → Prop} {ops : Array Oper} (hno : ¬ LetsOut Q) {l : List Oper} {a : Act} {w : World} (hd : noDefers l = true) (h : wpList P ops Q l a w) : wpListIn (wideAt r) n P ops Q l a w := by
  have := listIn_app (r := r) (n := n) (rest := []) hno (fun _ _ _ _ h => h) (fun _ _ h => h) l a w hd h
  rwa [List.append_nil] at this
/-- What is to hold where the operations ahead have come. -/
def RQ (P : Program) (Q : Exit → Act → World → Prop) (full rest : List Oper) : Exit → Act → World → Prop
  | .normal, a, w => wpListIn Fence.wide 0 P full.toArray Q rest a w
  | e, a, w => Q e a w
theorem letsOut_k {P : Program} {Q0 : Exit → Act → World → Prop} (h : ¬ LetsOut Q0) : ∀ k : List Kont, ¬ LetsOut (Kq P Q0 k)
  | [] => h
  | .seq _ :: k => fun ⟨a, w, q⟩ => letsOut_k h k ⟨a, w, q⟩
  | .blk _ :: k => fun ⟨a, w, q⟩ => letsOut_k h k ⟨a, w, q⟩
  | .lp _ :: k => fun ⟨a, w, q⟩ => letsOut_k h k ⟨a, w, q⟩
section
variable {C : Ctx} {Q0 : Exit → Act → World → Prop} {F : Tr} {M : Mem} {ids : List Nat} {k : List Kont}
theorem Sat.roundR {id : Nat} {full pre rest : List Oper} (hno : ¬ LetsOut Q0) (hs : full = pre ++ rest) (hd : noDefers pre = true) (h : Sat C (RQ C.P (Kq C.P Q0 k) full rest) (.reg full pre F M ids [])) : Sat C Q0 (.code (.region id ⟨full⟩ false) F M ids k) := by
  intro U E a w hsup hst
  have h1 := h U E a w hsup hst
  refine wpIn_wide.1 (wpIn_region_lit (n := 0) ?_)
  have hq : ¬ LetsOut (RQ C.P (Kq C.P Q0 k) full rest) := fun ⟨a, w, q⟩ => letsOut_k hno k ⟨a, w, q⟩
  have := listIn_app (r := none) (n := 0) (ops := full.toArray) (Q := Kq C.P Q0 k) (rest := rest) hq (fun e a w he h => by cases e <;> first | exact absurd rfl he | exact h) (fun a w h => h) pre a w hd h1
  rw [← hs] at this
  exact this
theorem Sat.ofCode {c : Code} (h : ∀ U E a w, Sup ids U → St C F M U E a w → c.wp C.P (Kq C.P Q0 k) a w) : Sat C Q0 (.code c F M ids k) := h
theorem Sat.toCode {c : Code} {U : Nat → Prop} {E : Env} {a : Act} {w : World} (hsup : Sup ids U) (hst : St C F M U E a w) (h : Sat C Q0 (.code c F M ids k)) : c.wp C.P (Kq C.P Q0 k) a w := h U E a w hsup hst
theorem Sat.ofExt {e : Ex} (h : ∀ U E a w, Sup ids U → St C F M U E a w → Kq C.P Q0 k e.out a w) : Sat C Q0 (.ext e F M ids k) := h
theorem Sat.toReg {full rest : List Oper} {U : Nat → Prop} {E : Env} {a : Act} {w : World} (hsup : Sup ids U) (hst : St C F M U E a w) (h : Sat C Q0 (.reg full rest F M ids k)) : wpList C.P full.toArray (Kq C.P Q0 k) rest a w := h U E a w hsup hst
end
theorem execOp_call_yield {a : Act} {dst : Option Tmp} {s : Operand} {l : Nat} {xs : Array Operand} {first cap : Array Value} {ats : Array TypeId} {ty : TypeId} {pos : String} {after : Array Edge} {guard : Option (Nat × Bool)} (hs : a.eval s = .func (.yield l) first cap) :
    execOp a.eval ⟨dst, .call ⟨.value s, xs, ats⟩, ty, pos, after, guard⟩ = Instr.yield l (first ++ xs.map a.eval) := by
  unfold execOp resolve
  simp only [hs, Deferred.ofValue]
  rfl
/-- A call of yield: the round, by what is promised of it. -/
theorem yieldOp {P : Program} {Q : Exit → Act → World → Prop} {full post : List Oper} {j : Nat} {d : Option Tmp} {s x : Operand} {ats : Array TypeId} {ty : TypeId} {pos : String} {after : Array Edge} {a : Act} {w : World} {l : Nat} {v : Value} {R : Ending → World → Prop}
    (hg : yielded full.toArray a.tmps j = some true) (hs : a.eval s = .func (.yield l) #[] #[]) (hx : a.eval x = v) (hY : YieldAt Fence.wide 0 P l #[v] w R) (hR : ∀ e w', R e w' → ∃ u, e = .returned u ∧ wpListIn Fence.wide 0 P full.toArray Q post (a.put d u) w') :
    wpListIn Fence.wide 0 P full.toArray Q (⟨d, .call ⟨.value s, #[x], ats⟩, ty, pos, after, some (j, true)⟩ :: post) a w := by
  obtain ⟨fn, tmps, assign, body, hy, hr⟩ := hY
  have hw : Region.wanted ⟨d, .call ⟨.value s, #[x], ats⟩, ty, pos, after, some (j, true)⟩ (yielded full.toArray a.tmps) = true := by simp [Region.wanted, hg]
  show if Region.wanted _ (yielded full.toArray a.tmps) then _ else _
  rw [if_pos hw]
  refine ⟨fun f _ => trivial, ?_⟩
  have he : (execOp a.eval ⟨d, .call ⟨.value s, #[x], ats⟩, ty, pos, after, some (j, true)⟩).run P w = .ok (.round l fn tmps assign body) w := by
    rw [execOp_call_yield hs]
    simpa [hx] using hy
  have he' : (Oper.semAt Fence.wide.round a.eval ⟨d, .call ⟨.value s, #[x], ats⟩, ty, pos, after, some (j, true)⟩).run P w = .ok (.round l fn tmps assign body) w := he
  rw [he', Oper.uponIn_round]
  refine ⟨fun h => (by cases h), hr.mono fun e w' h => ?_⟩
  obtain ⟨u, rfl, h2⟩ := hR e w' h
  exact h2
theorem sup0 : Sup ids0 fun _ => True := by
  have : ∀ (l : List Nat) (n : Nat) (U : Nat → Prop), (∀ i, i < l.length → l[i]? = some (n + i)) → (∀ k, n ≤ k → U k) → Sup l U := by
    intro l
    induction l with
    | nil => intro n _ _ _; trivial
    | cons i r ih =>
      intro n U hl hU
      have hi : i = n := by simpa using hl 0 (by simp)
      refine ⟨hU i (by omega), ih (n + 1) _ (fun j hj => ?_) fun k hk => ⟨hU k (by omega), by omega⟩⟩
      have := hl (j + 1) (by simpa using hj)
      simpa [Nat.add_assoc, Nat.add_comm 1 j] using this
  exact this ids0 0 _ (by decide) fun _ _ => trivial
theorem putL_get : ∀ {l : List (Nat × SV)} {F G : Tr}, putL l F = some G → ∀ t s, G.get t = some s → (t, s) ∈ l ∨ F.get t = some s
  | [], F, G, h, t, s, hs => by
    simp only [putL, Option.some.injEq] at h
    subst h
    exact .inr hs
  | (d, x) :: r, F, G, h, t, s, hs => by
    simp only [putL] at h
    obtain ⟨F1, h1, h2⟩ := Tr.putK_eq F d (some x) _ G h
    rcases putL_get h2 t s hs with h3 | h3
    · exact .inl (List.mem_cons_of_mem _ h3)
    · rw [Tr.get_put F F1 d (some x) h1] at h3
      split at h3
      · rename_i e
        cases h3
        subst e
        exact .inl (List.mem_cons_self ..)
      · exact .inr h3
/-! ### A function that reads alone, beside others that write: V: the blocks that stand -/
def KeepV (V : Nat → Prop) (W W' : World) : Prop := W.heap.size ≤ W'.heap.size ∧ ∀ x, V x → W'.heap[x]? = W.heap[x]?
theorem KeepV.trans {V : Nat → Prop} {A B C : World} (h : KeepV V A B) (h2 : KeepV V B C) : KeepV V A C := ⟨Nat.le_trans h.1 h2.1, fun x hx => (h2.2 x hx).trans (h.2 x hx)⟩
theorem rep_keep {V : Nat → Prop} {W W' : World} {s : SV} {v : Value} (h : KeepV V W W') (hr : Rep E0 (fun x => ¬ V x) W s v) : Rep E0 (fun x => ¬ V x) W' s v :=
  hr.monoW (fun _ _ h => h) (fun _ _ h => h) h.1 (fun b _ hb => h.2 b (Classical.not_not.1 hb)) (fun i b x hE _ => by cases hE)
@[reducible] def ctxR (P : Program) (N : Nat) (V : Nat → Prop) (w : World) : Ctx := ⟨P, w, fun _ => False, fun x => ¬ V x, [], N, [], [], true⟩
theorem st_of {P : Program} {N d : Nat} {V : Nat → Prop} {act : Act} {w : World} (L : List (Nat × SV)) {F : Tr} (hF : putL L (Tr.mk d) = some F) (hd : act.defers = []) (hs : act.tmps.size = N) (hL : ∀ t s, (t, s) ∈ L → Rep E0 (fun x => ¬ V x) w s (act.tmps.getD t undef)) :
    St (ctxR P N V w) F [] (fun _ => True) E0 act w where
  defers := hd
  size := hs
  slots := fun t s hs => by
    have ht : ∀ x, trk (ctxR P N V w).T0 [] E0 x → ¬ V x := fun x hx => by
      rcases hx with ⟨id, B, hf, _⟩ | h0
      · simp [find] at hf
      · exact h0
    rcases putL_get hF t s hs with hm | hm
    · exact (hL t s hm).mono (fun _ _ h => h) (fun b _ hb => ht b hb) (Chg.refl _ w)
    · rw [mk_get] at hm; cases hm
  mem := ⟨fun id B hf => by simp [find] at hf, fun id id' b hf => by simp [find] at hf⟩
  own := fun id b hf => by simp [find] at hf
  fresh := fun _ _ => rfl
  kp := ⟨rfl, rfl, rfl, Chg.refl _ w⟩
  hid := fun _ _ => .inr rfl
  glob := ⟨fun g e h => by simp [gl] at h, fun g e h => by simp [gl] at h⟩
  pin := fun p hp => by cases hp
  held := fun p hp => by cases hp
/-- What is read through no number of one's own is read so everywhere. -/
theorem rep_free {P : Program} {N : Nat} {V : Nat → Prop} {E : Env} {w w' : World} {s : SV} {v : Value} (hs : keepS (fun _ => false) s) (h : Rep E (trk (ctxR P N V w).T0 [] E) w' s v) : Rep E0 (fun x => ¬ V x) w' s v := by
  have h1 := Rep.keep (p := fun _ => false) h hs
  have e : pinE (fun _ => false) E = E0 := by funext i; simp [pinE, E0]
  rw [e] at h1
  exact h1.mono (fun _ _ h => h) (fun b _ hb => .inr hb) (Chg.refl _ w')
theorem keep_kp {V : Nat → Prop} {W w : World} (h : Kp W (fun _ => False) w) (hV : ∀ x, V x → x < W.heap.size) : KeepV V W w := ⟨h.chg.size, fun x hx => h.chg.keep x (hV x hx) id⟩
theorem abide_kp {β : Type} {B : Nat} {J : β → World → Prop} (hJ : AbidesFrom B J) {s : β} {W w : World} (h : Kp W (fun _ => False) w) (hj : J s W) : J s w :=
  hJ s W w none hj ⟨h.os, h.tape, h.output, h.chg.size, fun k hk _ => h.chg.keep k hk id⟩ (fun r e => by cases e)
end Go.Proofs.YtmmpflifajjbjaaDoor.V
end
section
namespace Go.Proofs.YtmmpflifajjbjaaDoor
open Go.RowKit V
--PURE: (intro _ _; simp [pureL, pureS, pureE]; done)
set_option maxRecDepth 100000
set_option maxHeartbeats 8000000
set_option linter.unusedSimpArgs false
/-- Where a run of different bytes ends. -/
def run (a b : List UInt8) (i : Nat) : Nat := if i < a.length ∧ a.getD i 0 ≠ b.getD i 0 then run a b (i + 1) else i
termination_by a.length - i
theorem run_ge (a b : List UInt8) : ∀ (n i : Nat), a.length - i ≤ n → i ≤ run a b i ∧ (i ≤ a.length → run a b i ≤ a.length)
  | 0, i, h => by
    rw [run, if_neg (by omega)]
    exact ⟨Nat.le_refl _, fun h => h⟩
  | n + 1, i, h => by
    rw [run]
    split
    · rename_i hc
      obtain ⟨h1, h2⟩ := run_ge a b n (i + 1) (by omega)
      exact ⟨by omega, fun _ => h2 (by omega)⟩
    · exact ⟨Nat.le_refl _, fun h => h⟩
/-- The ranges of different bytes, from place i on. -/
def chg (a b : List UInt8) (i : Nat) : List RngL := if i < a.length then (if i < run a b i then [⟨i, run a b i⟩] else []) ++ chg a b (run a b i + 1) else []
termination_by a.length - i
decreasing_by
  have := (run_ge a b _ i (Nat.le_refl _)).1
  omega
@[reducible] def boxE (a : List UInt8) : SV := .rop (.g 1 1 fun _ => [.ro (.u8 a)]) 0 0
def encR (x : RngL) : Array Value := #[.agg #[.int .i64 x.lo, .int .i64 x.hi]]
/-- Where the loop stands. -/
structure HInv (a b : List UInt8) (V : Nat → Prop) (l i : Nat) (act : Act) (w : World) : Prop where
  defers : act.defers = []
  size : act.tmps.size = 41
  y : act.tmps.getD 0 undef = .func (.yield l) #[] #[]
  ra : Rep E0 (fun x => ¬ V x) w (boxE a) (act.tmps.getD 1 undef)
  rb : Rep E0 (fun x => ¬ V x) w (boxE b) (act.tmps.getD 2 undef)
  i : act.tmps.getD 4 undef = .int .i64 i
theorem HInv.slots {a b : List UInt8} {V : Nat → Prop} {l i : Nat} {act : Act} {w : World} (h : HInv a b V l i act w) (hi : i ≤ 1000001) : ∀ t s, (t, s) ∈ [(0, .val (.func (.yield l) #[] #[])), (1, boxE a), (2, boxE b), (4, SV.int .i64 (i : Int))] → Rep E0 (fun x => ¬ V x) w s (act.tmps.getD t undef) := by
  intro t s hm
  simp only [List.mem_cons, Prod.mk.injEq, List.not_mem_nil, or_false] at hm
  rcases hm with ⟨rfl, rfl⟩ | ⟨rfl, rfl⟩ | ⟨rfl, rfl⟩ | ⟨rfl, rfl⟩
  · rw [h.y]; exact .val _
  · exact h.ra
  · exact h.rb
  · rw [h.i]; exact .int _ _ (inR_i64 (by omega) (by omega))
theorem HInv.of {P : Program} {a b : List UInt8} {V : Nat → Prop} {l i : Nat} {act : Act} {w1 w : World} {F : Tr} {U : Nat → Prop} {E : Env} (h : St (ctxR P 41 V w1) F [] U E act w) (h0 : F.get 0 = some (.val (.func (.yield l) #[] #[]))) (h1 : F.get 1 = some (boxE a)) (h2 : F.get 2 = some (boxE b)) (h4 : F.get 4 = some (.int .i64 (i : Int))) : HInv a b V l i act w where
  defers := h.defers
  size := h.size
  y := by
    have := h.slots 0 _ h0
    generalize act.tmps.getD 0 undef = v at this
    cases this
    rfl
  ra := rep_free (by simp [keepS, pureE, pureL, pureS]) (h.slots 1 _ h1)
  rb := rep_free (by simp [keepS, pureE, pureL, pureS]) (h.slots 2 _ h2)
  i := by
    have := h.slots 4 _ h4
    generalize act.tmps.getD 4 undef = v at this
    cases this
    rfl
theorem args_at (vs : Array Value) (k t : Nat) (v : Value) (h : vs[t]? = some v) : (vs ++ Array.replicate k undef).getD t undef = v := by
  have hlt := (Array.getElem?_eq_some_iff.1 h).1
  rw [Array.getD_eq_getD_getElem?, Array.getElem?_append_left hlt, h]
  rfl
theorem cond_iff (a b : List UInt8) (x : Nat) : (bif decide ((x : Int) < (a.length : Int)) then decide (((a.getD ((x : Int).toNat) 0).toNat : Int) ≠ ((b.getD ((x : Int).toNat) 0).toNat : Int)) else false) = true ↔ x < a.length ∧ a.getD x 0 ≠ b.getD x 0 := by
  rw [Int.toNat_natCast]
  cases h : decide ((x : Int) < (a.length : Int)) with
  | false =>
    have := of_decide_eq_false h
    constructor
    · intro h; cases h
    · intro h; omega
  | true =>
    have := of_decide_eq_true h
    rw [cond_true, decide_eq_true_eq]
    constructor
    · intro h; exact ⟨by omega, fun e => h (by rw [e])⟩
    · intro h e; exact h.2 (UInt8.toNat_inj.1 (by omega))
theorem run_step (a b : List UInt8) (x : Nat) (h1 : x < a.length) (h2 : a.getD x 0 ≠ b.getD x 0) : run a b x = run a b (x + 1) := by
  rw [run, if_pos ⟨h1, h2⟩]
theorem bool_of {E : Env} {T : Nat → Prop} {w : World} {b : Bool} {v : Value} (h : Rep E T w (.bool b) v) (hb : b = true) : v = .bool true := by
  cases h; rw [hb]
theorem val_of {E : Env} {T : Nat → Prop} {w : World} {g : Prop} {x v : Value} (h : Rep E T w (.may g (.val x)) v) (hg : g) : v = x := by
  cases h with
  | may1 _ _ _ _ hr => cases hr; rfl
  | may0 _ _ hn => exact absurd hg hn
theorem rng_of {E : Env} {T : Nat → Prop} {w : World} {g : Prop} {p q : Int} {v : Value} (h : Rep E T w (.may g (.agg [.int .i64 p, .int .i64 q])) v) (hg : g) : v = .agg #[.int .i64 p, .int .i64 q] := by
  cases h with
  | may0 _ _ hn => exact absurd hg hn
  | may1 _ _ _ _ hr =>
    cases hr with
    | agg _ cs hI =>
      cases hI with
      | one _ c _ cs1 h1 hr1 hI1 =>
        cases hI1 with
        | one _ c2 _ cs2 h2 hr2 hI2 =>
          cases hI2
          cases hr1
          cases hr2
          rfl
attribute [local irreducible] V.Sat V.DSat
theorem changes_stops (a b : List UInt8) (hab : a.length ≤ b.length) (hl : b.length ≤ 1000000) (V : Nat → Prop) (w0 : World) (pa pb : Value) (ha : Rep E0 (fun x => ¬ V x) w0 (boxE a) pa) (hb : Rep E0 (fun x => ¬ V x) w0 (boxE b) pb) (hV : ∀ x, V x → x < w0.heap.size) :
    SeqStopsK Fence.wide 0 Tryd.prog 50 #[pa, pb] encR (KeepV V) (fun xs => xs = chg a b 0) (fun _ => True) (chg a b 0).length w0 := by
  intro l J Jx W hW hJ hJx hY h0
  have hkW : KeepV V w0 W := ⟨hW.size, fun x hx => hW.block x (hV x hx)⟩
  have hVW : ∀ w, KeepV V w0 w → ∀ x, V x → x < w.heap.size := fun w hw x hx => Nat.lt_of_lt_of_le (hV x hx) hw.1
  have hno : ¬ LetsOut (bodyPost Tryd.prog Tryd.f50 fun e W' => (∃ v, e = Ending.returned v) ∧ ((∃ xs, xs = chg a b 0 ∧ J xs W') ∨ ∃ pre, True ∧ Jx pre W')) := by
    rintro ⟨x, w, ⟨v, hv⟩, _⟩
    cases hv
  refine callsIn_wide.2 (calls_of_wp Tryd.func50 rfl ?_)
  obtain ⟨Q0, hQ⟩ : ∃ Q0 : Exit → Act → World → Prop, Q0 = bodyPost Tryd.prog Tryd.f50 fun e W' => (∃ v, e = Ending.returned v) ∧ ((∃ xs, xs = chg a b 0 ∧ J xs W') ∨ ∃ pre, True ∧ Jx pre W') := ⟨_, rfl⟩
  rw [← hQ] at hno ⊢
  have hst0 := st_of (P := Tryd.prog) (N := 41) (V := V) (w := W) (act := { tmps := #[Value.func (.yield l) #[] #[]] ++ #[pa, pb] ++ Array.replicate (Tryd.f50.ntmps - (#[Value.func (.yield l) #[] #[]] ++ #[pa, pb]).size) undef, defers := [] }) (d := 6) [(0, .val (.func (.yield l) #[] #[])), (1, boxE a), (2, boxE b)] rfl rfl (by simp [Tryd.ntmps50]) (by
    intro t s hm
    simp only [List.mem_cons, Prod.mk.injEq, List.not_mem_nil, or_false] at hm
    rcases hm with ⟨rfl, rfl⟩ | ⟨rfl, rfl⟩ | ⟨rfl, rfl⟩
    · rw [args_at _ _ 0 (.func (.yield l) #[] #[]) rfl]; exact .val _
    · rw [args_at _ _ 1 pa rfl]; exact rep_keep hkW ha
    · rw [args_at _ _ 2 pb rfl]; exact rep_keep hkW hb)
  refine Sat.toCode (C := ctxR Tryd.prog 41 V W) (Q0 := Q0) (k := []) sup0 hst0 ?_
  repeat' (first
      | ((with_reducible apply Sat.run (X := X64)); exact rfl; (first | exact True.intro | (exact phi) | skip))
      | ((with_reducible apply Sat.drawn); kernel_rfl)
      | ((with_reducible apply DSat.run (X := X64)); exact rfl; (first | exact True.intro | (exact phi) | skip))
      | ((with_reducible apply DSat.fin); kernel_rfl) | fail)
  apply Sat.ofCode
  intro U E act w hsup hst
  refine wp_loop_ghost (fun n act w => ∃ i pre, n = a.length + 2 - i ∧ i ≤ a.length + 1 ∧ HInv a b V l i act w ∧ KeepV V w0 w ∧ J pre w ∧ pre ++ chg a b i = chg a b 0) (a.length + 2)
    ⟨0, [], by omega, by omega, HInv.of hst rfl rfl rfl rfl, hkW.trans (keep_kp hst.kp (hVW W hkW)), abide_kp hJ hst.kp h0, rfl⟩ ?_
  rintro n act1 w1 ⟨i, pre, rfl, hi, hH, hk, hj, hp⟩
  clear hst hsup
  refine wp_mono (Sat.toCode (C := ctxR Tryd.prog 41 V w1) (Q0 := Q0) (k := [.lp fun act' w' => ∃ n', n' < a.length + 2 - i ∧ ∃ i pre, n' = a.length + 2 - i ∧ i ≤ a.length + 1 ∧ HInv a b V l i act' w' ∧ KeepV V w0 w' ∧ J pre w' ∧ pre ++ chg a b i = chg a b 0, .blk 0]) sup0 (st_of (d := 6) _ rfl hH.defers hH.size (hH.slots (by omega))) ?_) ?_
  rotate_left
  · intro e a' w' hq
    cases e <;> exact hq
  by_cases hin : i < a.length
  · have hc1 : (i : Int) < ((EV.u8 a).len : Int) := by show (i : Int) < (a.length : Int); omega
    repeat' (first
        | ((with_reducible apply Sat.run (X := X64)); exact rfl; (first | exact True.intro | (exact phi) | skip))
        | ((with_reducible apply Sat.drawn); kernel_rfl)
        | ((with_reducible apply DSat.run (X := X64)); exact rfl; (first | exact True.intro | (exact phi) | skip))
        | ((with_reducible apply DSat.fin); kernel_rfl)
        | ((with_reducible apply Sat.cond_t); exact rfl)
        | ((with_reducible apply Sat.cond_f); exact rfl)
        | ((with_reducible apply Sat.cond_pt); exact rfl; (try dsimp only [V.EV.sub, V.EV.len]); first | assumption | omega)
        | ((with_reducible apply Sat.cond_pf); exact rfl; (try dsimp only [V.EV.sub, V.EV.len]); first | assumption | omega)
        | ((with_reducible apply Sat.cond_p); exact rfl; all_goals intro h)
        | ((with_reducible apply Sat.cond); exact rfl; all_goals intro h) | fail)
    apply Sat.loop (α := Nat) (fun x => i ≤ x ∧ x ≤ a.length ∧ run a b x = run a b i) (fun x => a.length - x) i (fun x => [(4, .int .i64 (x : Int))]) (fun _ => []) [] [(999, none)] 0
    · intro x; exact rfl
    · intro x; exact rfl
    · exact rfl
    · exact rfl
    · (repeat' (first | exact AllP.nil | with_reducible refine AllP.cons ?_ ?_)) <;> first | exact rfl | exact trivial | exact ⟨rfl, rfl, rfl, rfl⟩ | exact purX
    · exact ⟨Nat.le_refl _, by omega, rfl⟩
    rintro x ⟨x1, x2, x3⟩
    repeat' (first
        | ((with_reducible apply Sat.run (X := X64)); exact rfl; (first | exact True.intro | (exact phi) | skip))
        | ((with_reducible apply Sat.drawn); kernel_rfl)
        | ((with_reducible apply DSat.run (X := X64)); exact rfl; (first | exact True.intro | (exact phi) | skip))
        | ((with_reducible apply DSat.fin); kernel_rfl) | fail)
    · (repeat' (first | exact AllP.nil | with_reducible refine AllP.cons ?_ ?_)) <;> (intro hh; first | exact hh | (have h3 : (x : Int) < (a.length : Int) := of_decide_eq_true hh; exact ⟨by omega, show (x : Int) < (a.length : Int) from h3⟩) | (have h3 : (x : Int) < (a.length : Int) := of_decide_eq_true hh; exact ⟨by omega, show (x : Int) < (b.length : Int) by omega⟩))
    with_reducible apply Sat.cond
    · exact rfl
    · intro h
      obtain ⟨h1, h2⟩ := (cond_iff a b x).1 h
      repeat' (first
          | ((with_reducible apply Sat.run (X := X64)); exact rfl; (first | exact True.intro | (exact phi) | skip))
          | ((with_reducible apply Sat.drawn); kernel_rfl)
          | ((with_reducible apply DSat.run (X := X64)); exact rfl; (first | exact True.intro | (exact phi) | skip))
          | ((with_reducible apply DSat.fin); kernel_rfl) | fail)
      have hr := run_step a b x h1 h2
      refine Sat.back (x + 1) [(999, none)] rfl ?_ ?_ ?_
      · (repeat' (first | exact AllP.nil | with_reducible refine AllP.cons ?_ ?_)) <;> first | exact rfl | exact trivial | exact Int.natCast_add_one _ | exact ⟨rfl, rfl, rfl, rfl⟩ | exact purX
      · exact ⟨by omega, by omega, hr.symm.trans x3⟩
      · omega
    · intro h
      have hrx : run a b i = x := by
        rw [← x3, run, if_neg]
        intro hc
        have := (cond_iff a b x).2 hc
        rw [show (bif decide ((x : Int) < (a.length : Int)) then decide (((a.getD ((x : Int).toNat) 0).toNat : Int) ≠ ((b.getD ((x : Int).toNat) 0).toNat : Int)) else false) = false from h] at this
        cases this
      have hch : chg a b i = (if i < x then [⟨i, x⟩] else []) ++ chg a b (x + 1) := by
        rw [chg, if_pos hin, hrx]
      by_cases hlt : i < x
      · rw [if_pos hlt] at hch
        have hdl : (i : Int) < (x : Int) := by omega
        refine Sat.runN (X := X64) 6 rfl (by first | exact True.intro | exact phi) ?_
        refine Sat.roundR (pre := _) (rest := _) hno (List.take_append_drop 8 _).symm rfl ?_
        repeat' (first
            | ((with_reducible apply Sat.run (X := X64)); exact rfl; (first | exact True.intro | (exact phi) | skip))
            | ((with_reducible apply Sat.drawn); kernel_rfl)
            | ((with_reducible apply DSat.run (X := X64)); exact rfl; (first | exact True.intro | (exact phi) | skip))
            | ((with_reducible apply DSat.fin); kernel_rfl) | fail)
        apply Sat.ofExt
        intro U E act2 w2 hsup hst
        have hH2 : HInv a b V l x act2 w2 := HInv.of hst rfl rfl rfl rfl
        have hk2 := hk.trans (keep_kp hst.kp (hVW w1 hk))
        have hj2 := abide_kp hJ hst.kp hj
        have h33 : act2.tmps.getD 33 undef = .bool true := bool_of (hst.slots 33 _ rfl) (decide_eq_true hdl)
        have h34 := hst.slots 34 _ rfl
        have h37 := hst.slots 37 _ rfl
        refine yieldOp (l := l) (v := .agg #[.int .i64 (i : Int), .int .i64 (x : Int)]) ?_ (val_of h34 (decide_eq_true hdl)) (rng_of h37 (decide_eq_true hdl)) (hY pre ⟨i, x⟩ w2 hj2 ?_) ?_
        · exact beq_iff_eq.1 ((guardH_ok hst rfl).2 (decide_eq_true hdl))
        · rw [← hp, hch]; simp
        rintro e w3 (⟨rfl, hj3, hk3⟩ | ⟨rfl, hj3⟩)
        · refine ⟨_, rfl, listIn_of (r := none) (letsOut_k hno _) rfl (Sat.toReg (C := ctxR Tryd.prog 41 V w3) (Q0 := Q0) sup0 (st_of (d := 6) [(0, .val (.func (.yield l) #[] #[])), (1, boxE a), (2, boxE b), (4, .int .i64 (x : Int)), (33, .bool true), (38, .bool true)] rfl hH2.defers (by simp [Act.put, hH2.size]) ?_) ?_)⟩
          · intro t s hm
            simp only [List.mem_cons, Prod.mk.injEq, List.not_mem_nil, or_false] at hm
            rw [getD_put (C := ctxR Tryd.prog 41 V w2) hH2.size (show 38 < 41 by decide)]
            rcases hm with ⟨rfl, rfl⟩ | ⟨rfl, rfl⟩ | ⟨rfl, rfl⟩ | ⟨rfl, rfl⟩ | ⟨rfl, rfl⟩ | ⟨rfl, rfl⟩
            · rw [if_neg (by decide), hH2.y]; exact .val _
            · rw [if_neg (by decide)]; exact rep_keep hk3 hH2.ra
            · rw [if_neg (by decide)]; exact rep_keep hk3 hH2.rb
            · rw [if_neg (by decide), hH2.i]; exact .int _ _ (inR_i64 (by omega) (by omega))
            · rw [if_neg (by decide), h33]; exact .bool _
            · rw [if_pos rfl]; exact .bool _
          repeat' (first
              | ((with_reducible apply Sat.run (X := X64)); exact rfl; (first | exact True.intro | (exact phi) | skip))
              | ((with_reducible apply Sat.drawn); kernel_rfl)
              | ((with_reducible apply DSat.run (X := X64)); exact rfl; (first | exact True.intro | (exact phi) | skip))
              | ((with_reducible apply DSat.fin); kernel_rfl)
              | ((with_reducible apply Sat.cond_t); exact rfl)
              | ((with_reducible apply Sat.cond_f); exact rfl)
              | ((with_reducible apply Sat.cond_pt); exact rfl; (try dsimp only [V.EV.sub, V.EV.len]); first | assumption | omega)
              | ((with_reducible apply Sat.cond_pf); exact rfl; (try dsimp only [V.EV.sub, V.EV.len]); first | assumption | omega)
              | ((with_reducible apply Sat.cond_p); exact rfl; all_goals intro h)
              | ((with_reducible apply Sat.cond); exact rfl; all_goals intro h) | fail)
          apply Sat.ofExt
          intro U E act4 w4 hsup4 hst4
          have hk4 := (hk2.trans hk3).trans (keep_kp hst4.kp (hVW w3 (hk2.trans hk3)))
          exact ⟨a.length + 2 - (x + 1), by omega, x + 1, pre ++ [⟨i, x⟩], rfl, by omega, HInv.of hst4 rfl rfl rfl (congrArg (fun z => some (SV.int .i64 z)) (Int.natCast_add_one x).symm), hk4, abide_kp hJ hst4.kp hj3, by rw [← hp, hch, List.append_assoc]⟩
        · refine ⟨_, rfl, listIn_of (r := none) (letsOut_k hno _) rfl (Sat.toReg (C := ctxR Tryd.prog 41 V w3) (Q0 := Q0) sup0 (st_of (d := 6) [(33, .bool true), (38, .bool false)] rfl hH2.defers (by simp [Act.put, hH2.size]) ?_) ?_)⟩
          · intro t s hm
            simp only [List.mem_cons, Prod.mk.injEq, List.not_mem_nil, or_false] at hm
            rw [getD_put (C := ctxR Tryd.prog 41 V w2) hH2.size (show 38 < 41 by decide)]
            rcases hm with ⟨rfl, rfl⟩ | ⟨rfl, rfl⟩
            · rw [if_neg (by decide), h33]; exact .bool _
            · rw [if_pos rfl]; exact .bool _
          repeat' (first
              | ((with_reducible apply Sat.run (X := X64)); exact rfl; (first | exact True.intro | (exact phi) | skip))
              | ((with_reducible apply Sat.drawn); kernel_rfl)
              | ((with_reducible apply DSat.run (X := X64)); exact rfl; (first | exact True.intro | (exact phi) | skip))
              | ((with_reducible apply DSat.fin); kernel_rfl)
              | ((with_reducible apply Sat.cond_t); exact rfl)
              | ((with_reducible apply Sat.cond_f); exact rfl)
              | ((with_reducible apply Sat.cond_pt); exact rfl; (try dsimp only [V.EV.sub, V.EV.len]); first | assumption | omega)
              | ((with_reducible apply Sat.cond_pf); exact rfl; (try dsimp only [V.EV.sub, V.EV.len]); first | assumption | omega)
              | ((with_reducible apply Sat.cond_p); exact rfl; all_goals intro h)
              | ((with_reducible apply Sat.cond); exact rfl; all_goals intro h) | fail)
          apply Sat.ofExt
          intro U E act4 w4 hsup4 hst4
          rw [hQ]
          exact ⟨hst4.defers, _, results_none rfl _ _ _, ⟨_, rfl⟩, .inr ⟨_, trivial, abide_kp hJx hst4.kp hj3⟩⟩
      · have hix : x = i := by omega
        subst hix
        rw [if_neg hlt, List.nil_append] at hch
        have hnn : ¬ (decide ((x : Int) < (x : Int)) = true) := fun h => by have := of_decide_eq_true h; omega
        repeat' (first
            | ((with_reducible apply Sat.run (X := X64)); exact rfl; (first | exact True.intro | (exact phi) | skip))
            | ((with_reducible apply Sat.drawn); kernel_rfl)
            | ((with_reducible apply DSat.run (X := X64)); exact rfl; (first | exact True.intro | (exact phi) | skip))
            | ((with_reducible apply DSat.fin); kernel_rfl)
            | ((with_reducible apply Sat.goffM ((.bool true))); exact rfl; (first | (decide +kernel) | assumption); exact rfl)
            | ((with_reducible apply DSat.goffM ((.bool true))); exact rfl; (first | (decide +kernel) | assumption); exact rfl) | fail)
        with_reducible apply Sat.cond
        · exact rfl
        · intro h
          exfalso
          have h : (bif decide ((x : Int) < (x : Int)) then !true else false) = true := h
          cases hd : decide ((x : Int) < (x : Int)) <;> rw [hd] at h <;> cases h
        · intro h
          repeat' (first
              | ((with_reducible apply Sat.run (X := X64)); exact rfl; (first | exact True.intro | (exact phi) | skip))
              | ((with_reducible apply Sat.drawn); kernel_rfl)
              | ((with_reducible apply DSat.run (X := X64)); exact rfl; (first | exact True.intro | (exact phi) | skip))
              | ((with_reducible apply DSat.fin); kernel_rfl) | fail)
          apply Sat.ofExt
          intro U E act4 w4 hsup4 hst4
          have hk4 := hk.trans (keep_kp hst4.kp (hVW w1 hk))
          exact ⟨a.length + 2 - (x + 1), by omega, x + 1, pre, rfl, by omega, HInv.of hst4 rfl rfl rfl (congrArg (fun z => some (SV.int .i64 z)) (Int.natCast_add_one x).symm), hk4, abide_kp hJ hst4.kp hj, by rw [← hp, hch]⟩
  · have hc1 : ¬ (i : Int) < ((EV.u8 a).len : Int) := by show ¬ (i : Int) < (a.length : Int); omega
    repeat' (first
        | ((with_reducible apply Sat.run (X := X64)); exact rfl; (first | exact True.intro | (exact phi) | skip))
        | ((with_reducible apply Sat.drawn); kernel_rfl)
        | ((with_reducible apply DSat.run (X := X64)); exact rfl; (first | exact True.intro | (exact phi) | skip))
        | ((with_reducible apply DSat.fin); kernel_rfl)
        | ((with_reducible apply Sat.cond_t); exact rfl)
        | ((with_reducible apply Sat.cond_f); exact rfl)
        | ((with_reducible apply Sat.cond_pt); exact rfl; (try dsimp only [V.EV.sub, V.EV.len]); first | assumption | omega)
        | ((with_reducible apply Sat.cond_pf); exact rfl; (try dsimp only [V.EV.sub, V.EV.len]); first | assumption | omega)
        | ((with_reducible apply Sat.cond_p); exact rfl; all_goals intro h)
        | ((with_reducible apply Sat.cond); exact rfl; all_goals intro h) | fail)
    apply Sat.ofExt
    intro U E act' w' hsup hst
    have hk1 := keep_kp hst.kp (hVW w1 hk)
    have hc0 : chg a b i = [] := by rw [chg, if_neg hin]
    rw [hc0, List.append_nil] at hp
    rw [hQ]
    exact ⟨hst.defers, _, results_none rfl _ _ _, ⟨_, rfl⟩, .inl ⟨pre, hp, abide_kp hJ hst.kp hj⟩⟩
end Go.Proofs.YtmmpflifajjbjaaDoor
end
section
namespace Go.Proofs.YtmmpflifajjbjaaDoor
open Go.RowKit Go.Shelf V
attribute [local go_sem] Oper.semAt_some
set_option maxRecDepth 100000
set_option maxHeartbeats 1000000
theorem changes_mk (p q : Option Addr) (n m c d : Nat) (w : World) :
    Calls Tryd.prog 40 #[.slice p n c, .slice q m d] w fun e w' => e = .returned (.func (.func 50) #[] #[.pointer (some ⟨w.heap.size, 0, none⟩), .pointer (some ⟨w.heap.size + 1, 0, none⟩)]) ∧ w' = (w.alloc (.cells #[.slice p n c] 43)).alloc (.cells #[.slice q m d] 43) := by
  go_enter Tryd.func40, Tryd.ntmps40
  go_wp2
  go_ret
  exact ⟨by simp, rfl⟩
/-- The box of the loop's variable. -/
def Box2 (W : World) (B : Nat) (x : RngL) : Prop := W.heap[B]? = some (.cells #[.int .i64 x.lo, .int .i64 x.hi] 51 (0, 0))
def flat (l : List RngL) : List Value := l.flatMap fun x => [.int .i64 x.lo, .int .i64 x.hi]
theorem flat_snoc (l : List RngL) (x : RngL) : flat (l ++ [x]) = flat l ++ [.int .i64 x.lo, .int .i64 x.hi] := by simp [flat]
theorem rng_info : (Tryd.prog.info? 51).map (fun i => (i.zero, i.size, i.bytes)) = some (some (.agg #[.int .i64 0, .int .i64 0]), 2, 16) := by kernel_rfl
theorem box_rep {T : Nat → Prop} {w W1 : World} {a : List UInt8} {v : Value} {B : Nat} (hb : Below w.heap.size w W1) (ha : Rep E0 T w (.ro (.u8 a)) v) (hc : W1.cell? ⟨B, 0, none⟩ = some v) (h1 : w.heap.size < B) (hsz : W1.heap.size = w.heap.size + 3) (h2 : B < w.heap.size + 3) :
    Rep E0 (fun x => ¬ (x < W1.heap.size ∧ x ≠ w.heap.size)) W1 (boxE a) (.pointer (some ⟨B, 0, none⟩)) := by
  refine .rop _ 0 0 B 0 (fun _ => [v]) (fun h => h ⟨by omega, by omega⟩) (fun i hi => rfl) (fun i j u hi hj => ?_) (fun i hi => ?_) (Nat.lt_succ_self 0) (Nat.lt_succ_self 0) (by omega)
  · have hi0 : i = 0 := by have : i < 1 := hi; omega
    subst hi0
    cases j with
    | zero =>
      simp only [List.getElem?_cons_zero, Option.some.injEq] at hj
      subst hj
      exact hc
    | succ j => simp at hj
  · exact .one _ _ _ _ rfl (ha.mono (fun _ _ h => h) (fun b hb hn => (hn ⟨by omega, by omega⟩).elim) (Chg.of_below hb)) .nil
theorem chg_len (a b : List UInt8) : (chg a b 0).length ≤ a.length := by
  have key : ∀ (n i : Nat), a.length - i ≤ n → (chg a b i).length ≤ a.length - i := by
    intro n
    induction n with
    | zero => intro i h; rw [chg, if_neg (by omega)]; simp
    | succ n ih =>
      intro i h
      rw [chg]
      split
      · rename_i hi
        have hge := (run_ge a b _ i (Nat.le_refl _)).1
        have := ih (run a b i + 1) (by omega)
        rw [List.length_append]
        split
        · simp only [List.length_cons, List.length_nil]; omega
        · simp only [List.length_nil]; omega
      · simp
  exact key _ 0 (Nat.le_refl _)
theorem cell_two_new (w : World) (x y : Value) (t : TypeId) : ∀ j u, [x, y][j]? = some u → (w.alloc (.cells #[x, y] t)).cell? ((⟨w.heap.size, 0, none⟩ : Addr).add j) = some u := by
  intro j u hj
  have hh : (w.alloc (.cells #[x, y] t)).heap[w.heap.size]? = some (.cells #[x, y] t (0, 0)) := heap_alloc_new w _
  have ha : (⟨w.heap.size, 0, none⟩ : Addr).add j = ⟨w.heap.size, 0 + j, none⟩ := Lib.add_plain _ _ _
  rw [ha]
  match j, hj with
  | 0, hj => simp only [List.getElem?_cons_zero, Option.some.injEq] at hj; subst hj; unfold World.cell?; rw [hh]; simp
  | 1, hj => simp only [List.getElem?_cons_succ, List.getElem?_cons_zero, Option.some.injEq] at hj; subst hj; unfold World.cell?; rw [hh]; simp
theorem own_mono {W : World} {n₀ n₁ : Nat} {e : TypeId} {size : Nat} {v : Value} {k : Nat} {xs : List Value} (h : W.ownsRow n₁ e size v k xs) (hle : n₀ ≤ n₁) : W.ownsRow n₀ e size v k xs :=
  ⟨h.1, h.2.imp id fun ⟨g, cap, cur, h1, h2, h3⟩ => ⟨g, cap, cur, h1, Nat.le_trans hle h2, h3⟩⟩
theorem appended2 {W w1 : World} {n₁ B : Nat} {t e : TypeId} {size : Nat} {v v' : Value} {k m : Nat} {xs ys : List Value} {tmp : Obj} (hv : Boxed W B t v) (hte : t ≠ e) (hrow : W.ownsRow n₁ e size v k xs) (hn : n₁ ≤ W.heap.size) (hown' : w1.ownsRow n₁ e size v' m ys) (hgrow : (W.alloc tmp).grownBy w1 v.ownBlock) :
    Boxed w1 B t v ∧ Boxed (w1.setCell ⟨B, 0, none⟩ v') B t v' ∧ (w1.setCell ⟨B, 0, none⟩ v').ownsRow n₁ e size v' m ys ∧ KeepsOthers W (w1.setCell ⟨B, 0, none⟩ v') ∧ (∀ x, x < n₁ → x ≠ B → (w1.setCell ⟨B, 0, none⟩ v').heap[x]? = W.heap[x]?) ∧ W.heap.size ≤ (w1.setCell ⟨B, 0, none⟩ v').heap.size ∧ (∀ n₀, n₀ ≤ n₁ → n₀ ≤ B → Below n₀ W (w1.setCell ⟨B, 0, none⟩ v')) := by
  have hv1 : Boxed w1 B t v := (hv.alloc tmp).kept hgrow (hv.not_row hte hrow)
  have hkeep : ∀ x, x < n₁ → x ≠ B → (w1.setCell ⟨B, 0, none⟩ v').heap[x]? = W.heap[x]? := fun x hx hne => by
    refine (Below.heap_setCell w1 ⟨B, 0, none⟩ v' x hne).trans ((hgrow.block x (by simp; omega) ?_).trans (Below.heap_alloc W tmp x (by omega)))
    rcases hrow.2 with ⟨rfl, _⟩ | ⟨g, cap, cur, rfl, hg, _⟩
    · simp [Value.ownBlock]
    · intro e
      obtain rfl : x = g := by simpa [Value.ownBlock] using e
      omega
  have hsz : W.heap.size ≤ (w1.setCell ⟨B, 0, none⟩ v').heap.size := Nat.le_trans (by simp) (Nat.le_trans hgrow.size (grownBy_setCell' w1 B v').size)
  refine ⟨hv1, hv1.set v', hown'.kept (grownBy_setCell' w1 B v') (.inr (hv1.not_row hte hown').symm), ?_, hkeep, hsz, fun n₀ h1 h2 => ⟨hgrow.os, hgrow.tape, hgrow.output, hsz, fun x hx => hkeep x (by omega) (by omega)⟩⟩
  refine ((KeepsOthers.alloc W tmp).trans (KeepsOthers.of_grownBy hgrow fun j o ej hj => ?_)).trans (KeepsOthers.setCell _ _ _)
  rcases (hrow.alloc tmp).2 with ⟨rfl, _⟩ | ⟨g, cap, cur, rfl, _, hgb, _⟩
  · simp [Value.ownBlock] at ej
  · obtain rfl : g = j := by simpa [Value.ownBlock] using ej
    rw [hgb] at hj; cases hj; rfl
theorem changed_in (a b : List UInt8) (hab : a.length ≤ b.length) (hl : b.length ≤ 1000000) (p q : Option Addr) (n m c d : Nat) (T : Nat → Prop) (w : World) (ha : Rep E0 T w (.ro (.u8 a)) (.slice p n c)) (hb : Rep E0 T w (.ro (.u8 b)) (.slice q m d)) :
    Calls Tryd.prog 19 #[.slice p n c, .slice q m d] w fun e w' => ∃ v, e = .returned v ∧ w'.ownsRow w.heap.size 51 2 v (chg a b 0).length (flat (chg a b 0)) ∧ Below w.heap.size w w' := by
  obtain ⟨i0, hi, hz0, hz1, hz2⟩ := info_parts rng_info
  refine (callsIn_wide (n := 1)).1 ?_
  refine callsIn_of_wp_marks Tryd.func19 rfl trivial ?_ rfl
  simp only [Tryd.ntmps19, List.size_toArray, List.length_cons, List.length_nil, Nat.reduceAdd, Nat.reduceSub, Array.replicate_succ, Array.replicate_zero, List.push_toArray, List.append_toArray, List.nil_append, List.cons_append]
  gi_wp2_with (refine ⟨trivial, ?_⟩; gi_at_call 40; refine (callsIn_wide.2 (changes_mk _ _ _ _ _ _ _)).mono ?_; rintro e w' ⟨rfl, rfl⟩)
  have bO := Boxed.new w 47 (.slice none 0 0)
  have hB0 : Below w.heap.size w (((w.alloc (.cells #[.slice none 0 0] 47)).alloc (.cells #[.slice p n c] 43)).alloc (.cells #[.slice q m d] 43)) := (((Below.refl _ w).alloc (Nat.le_refl _) _).alloc (by simp) _).alloc (by simp; omega) _
  have hsz : (((w.alloc (.cells #[.slice none 0 0] 47)).alloc (.cells #[.slice p n c] 43)).alloc (.cells #[.slice q m d] 43)).heap.size = w.heap.size + 3 := by simp
  have cA : (((w.alloc (.cells #[.slice none 0 0] 47)).alloc (.cells #[.slice p n c] 43)).alloc (.cells #[.slice q m d] 43)).cell? ⟨w.heap.size + 1, 0, none⟩ = some (.slice p n c) := by
    have := (Boxed.new (w.alloc (.cells #[.slice none 0 0] 47)) 43 (.slice p n c)).alloc (.cells #[.slice q m d] 43)
    rw [World.size_alloc] at this
    exact this.cell
  have cB : (((w.alloc (.cells #[.slice none 0 0] 47)).alloc (.cells #[.slice p n c] 43)).alloc (.cells #[.slice q m d] 43)).cell? ⟨w.heap.size + 1 + 1, 0, none⟩ = some (.slice q m d) := by
    have := Boxed.new ((w.alloc (.cells #[.slice none 0 0] 47)).alloc (.cells #[.slice p n c] 43)) 43 (.slice q m d)
    rw [World.size_alloc, World.size_alloc] at this
    exact this.cell
  have bO1 : Boxed (((w.alloc (.cells #[.slice none 0 0] 47)).alloc (.cells #[.slice p n c] 43)).alloc (.cells #[.slice q m d] 43)) w.heap.size 47 (.slice none 0 0) := (bO.alloc _).alloc _
  generalize ((w.alloc (.cells #[.slice none 0 0] 47)).alloc (.cells #[.slice p n c] 43)).alloc (.cells #[.slice q m d] 43) = W1 at *
  have rA : Rep E0 (fun x => ¬ (x < W1.heap.size ∧ x ≠ w.heap.size)) W1 (boxE a) (.pointer (some ⟨w.heap.size + 1, 0, none⟩)) := box_rep (T := T) hB0 ha cA (by omega) hsz (by omega)
  have rB : Rep E0 (fun x => ¬ (x < W1.heap.size ∧ x ≠ w.heap.size)) W1 (boxE b) (.pointer (some ⟨w.heap.size + 1 + 1, 0, none⟩)) := box_rep (T := T) hB0 hb cB (by omega) hsz (by omega)
  have hseq := changes_stops a b hab hl (fun x => x < W1.heap.size ∧ x ≠ w.heap.size) W1 _ _ rA rB (fun x hx => hx.1)
  have hlen := chg_len a b
  refine wpIn_rangeFunc_ownH rfl (Nat.le_refl 1) (gf := 50) (lb := #[.pointer (some ⟨w.heap.size + 1, 0, none⟩), .pointer (some ⟨w.heap.size + 1 + 1, 0, none⟩)]) rfl trivial (enters_of Tryd.func50 (by kernel_rfl) rfl)
    hseq (fun h k => h.trans k) (fun W l o o' hle _ _ _ => ⟨by simp, fun x hx => World.putObj_heap_other (by omega)⟩) (Below.refl _ _) (fun _ => rfl)
    (fun pre W => ((∃ v, Boxed W w.heap.size 47 v ∧ W.ownsRow W1.heap.size 51 2 v pre.length (flat pre) ∧ True) ∧ Below w.heap.size w W) ∧ W1.heap.size ≤ W.heap.size)
    (fun _ _ _ => False)
    (OwnFrom.and (OwnFrom.and (Own.from (holdsRow_own W1.heap.size w.heap.size 47 51 2 (fun pre : List RngL => pre.length) flat (fun _ _ => True)) _) (ownFrom_below (Nat.le_refl _) (by omega))) (fun _ _ _ _ hs hg _ => Nat.le_trans hs hg.size))
    (fun _ _ _ _ _ hs _ _ => hs)
    ⟨⟨⟨_, bO1, World.ownsRow_nil _ _ _ _, trivial⟩, hB0⟩, Nat.le_refl _⟩
    (fun x a' W => ∃ Bx, w.heap.size + 2 < Bx ∧ Box2 W Bx x ∧ a' = { tmps := #[.slice p n c, .slice q m d, undef, undef, .slice none 0 0, .pointer (some ⟨w.heap.size, 0, none⟩), .pointer (some ⟨Bx, 0, none⟩), .slice p n c, .slice q m d, .func (.func 50) #[] #[.pointer (some ⟨w.heap.size + 1, 0, none⟩), .pointer (some ⟨w.heap.size + 1 + 1, 0, none⟩)], .agg #[.int .i64 x.lo, .int .i64 x.hi], undef, undef, undef, undef, undef], defers := [] })
    ?hAx ?assign ?body ?done ?stop
  case hAx =>
    rintro x a' _ X Y row ⟨Bx, h1, h2, h3⟩ hg hr
    refine ⟨Bx, h1, ?_, h3⟩
    have h2' : X.heap[Bx]? = some (.cells #[.int .i64 x.lo, .int .i64 x.hi] 51 (0, 0)) := h2
    exact (hg.block Bx (Array.getElem?_eq_some_iff.1 h2').1 (fun e => by obtain ⟨_, o, ho, hc⟩ := hr Bx e.symm; rw [h2'] at ho; cases ho; cases hc)).trans h2'
  case assign =>
    rintro l pre x W K ⟨⟨⟨v, hv, hrow, _⟩, hB⟩, hS⟩ hK
    simp only [encR]
    gi_wp2
    exact hK _ _ ((KeepsOthers.alloc _ _).from _) ⟨by simp, fun x hx => Below.heap_alloc W _ x (by have := hx.1; omega)⟩ ⟨⟨⟨v, hv.alloc _, hrow.alloc _, trivial⟩, hB.alloc hB.size _⟩, by simp; omega⟩ ⟨W.heap.size, by omega, heap_alloc_new W _, rfl⟩
  case body =>
    rintro l pre x a' W hl' hr ⟨⟨⟨v, hv, hrow, _⟩, hB⟩, hS⟩ ⟨Bx, hBx, bX, rfl⟩ hlt
    have hc := hv.cell
    have hx0 : W.cell? ⟨Bx, 0, none⟩ = some (.int .i64 x.lo) := by simp [World.cell?, show W.heap[Bx]? = _ from bX]
    have hx1 : W.cell? ⟨Bx, 1, none⟩ = some (.int .i64 x.hi) := by simp [World.cell?, show W.heap[Bx]? = _ from bX]
    gi_wp2_with (gi_at_builtin; refine wpListIn_append_own _ rfl _ _ 47 rfl W1.heap.size 51 i0 (.agg #[.int .i64 0, .int .i64 0]) 2 16 Tryd.underlying47 hi hz0 hz1 hz2 rfl (by decide) _ _ _ rfl (hrow.alloc _) ⟨W.heap.size, 0, none⟩ 1 1 [.int .i64 x.lo, .int .i64 x.hi] rfl rfl (cell_two_new _ _ _ _) (by simp [Value.oneCell']) (by unfold maxLen; omega) (by omega) (by simp; omega) ?_; intro v' w1 hown' hgrow _; obtain ⟨g', cap', rfl⟩ := ownsRow_succ hown'; obtain ⟨hv1, hv2, hr2, hk2, hkv, hsz2, hb2⟩ := appended2 hv (by decide) hrow hS hown' hgrow; have hc1 := hv1.cell; have hf1 := hv1.frozen)
    exact ⟨hk2.from _, ⟨hsz2, fun x hx => hkv x hx.1 hx.2⟩, ⟨⟨_, hv2, by rw [flat_snoc, List.length_append]; exact hr2, trivial⟩, hB.trans (hb2 _ (by omega) (Nat.le_refl _))⟩, Nat.le_trans hS hsz2⟩
  case done =>
    rintro D ys W hD rfl ⟨⟨⟨v, hv, hrow, _⟩, hB⟩, hS⟩ hK
    have hc := hv.cell
    gi_wp2
    refine ⟨by simp, .inl ⟨_, _, rfl, run_takeDeferred hK, ?_⟩⟩
    exact ⟨_, results_tmp rfl _ _ _, v, rfl, ownsRow_putObj (own_mono hrow (by omega)) _ hK rfl, hB.trans (belowK_b (w := w) (Nat.le_refl _) W D _ _ (by omega) hK rfl rfl)⟩
  case stop =>
    rintro D c pre W _ _ h _
    exact h.elim
theorem chg_mem (a b : List UInt8) : ∀ (n i : Nat), a.length - i ≤ n → ∀ r ∈ chg a b i, (i : Int) ≤ r.lo ∧ r.lo < r.hi ∧ r.hi ≤ (a.length : Int)
  | 0, i, h, r, hr => by rw [chg, if_neg (by omega)] at hr; cases hr
  | n + 1, i, h, r, hr => by
    rw [chg] at hr
    split at hr
    · rename_i hi
      obtain ⟨h1, h2⟩ := run_ge a b _ i (Nat.le_refl _)
      rcases List.mem_append.1 hr with hr | hr
      · split at hr
        · simp only [List.mem_singleton] at hr
          subst hr
          have := h2 (by omega)
          refine ⟨Int.le_refl _, ?_, ?_⟩ <;> (dsimp only; omega)
        · cases hr
      · obtain ⟨q1, q2, q3⟩ := chg_mem a b n (run a b i + 1) (by omega) r hr
        exact ⟨by omega, q2, q3⟩
    · cases hr
theorem flat_get (d : RngL) : ∀ (l : List RngL) (i : Nat), i < l.length → (flat l)[i * 2]? = some (.int .i64 (l.getD i d).lo) ∧ (flat l)[i * 2 + 1]? = some (.int .i64 (l.getD i d).hi)
  | [], i, h => by simp at h
  | x :: l, 0, _ => by simp [flat]
  | x :: l, i + 1, h => by
    obtain ⟨h1, h2⟩ := flat_get d l i (by simpa using h)
    have e : flat (x :: l) = .int .i64 x.lo :: .int .i64 x.hi :: flat l := rfl
    rw [e, show (i + 1) * 2 = i * 2 + 1 + 1 by omega]
    simp only [List.getElem?_cons_succ]
    exact ⟨h1, h2⟩
theorem changed_spec (Γ : Glob) (a b : List UInt8) (hab : a.length ≤ b.length) (hl : b.length ≤ 1000000) : Fun Tryd.prog Γ 19 [.ro (.u8 a), .ro (.u8 b)] (.ro (rngE (chg a b 0))) := by
  intro T w vs hT hG ht
  cases ht with
  | cons s0 va l vs1 hra hla =>
  cases hla with
  | cons s1 vb l1 vs2 hrb hlb =>
  cases hlb
  obtain ⟨p, n, c, rfl⟩ : ∃ p n c, va = .slice p n c := by cases hra <;> exact ⟨_, _, _, rfl⟩
  obtain ⟨q, m, d, rfl⟩ : ∃ p n c, vb = .slice p n c := by cases hrb <;> exact ⟨_, _, _, rfl⟩
  refine (changed_in a b hab hl p q n m c d T w hra hrb).mono ?_
  rintro e w' ⟨v, rfl, hrow, hb⟩
  refine ⟨v, rfl, ?_, hb⟩
  have hlen := chg_len a b
  have hrng : ∀ i, i < (chg a b 0).length → inR .i64 ((chg a b 0).getD i rng0).lo ∧ inR .i64 ((chg a b 0).getD i rng0).hi := fun i hi => by
    have hm : (chg a b 0).getD i rng0 ∈ chg a b 0 := by rw [List.getD_eq_getElem?_getD, List.getElem?_eq_getElem hi]; exact List.getElem_mem hi
    obtain ⟨h1, h2, h3⟩ := chg_mem a b _ 0 (Nat.le_refl _) _ hm
    exact ⟨inR_i64 (by omega) (by omega), inR_i64 (by omega) (by omega)⟩
  rcases hrow.2 with ⟨rfl, h0⟩ | ⟨g, cap, cur, rfl, hg, hgb, h1, h2, h3, h4⟩
  · exact .ro0 _ h0
  · refine .ro (rngE (chg a b 0)) g 0 _ cap (fun i => [.int .i64 ((chg a b 0).getD i rng0).lo, .int .i64 ((chg a b 0).getD i rng0).hi]) (fun h => by have := hT _ h; omega) (fun i hi => rfl) (fun i j u hi hj => ?_) (fun i hi => ?_) rfl h1 (by unfold okLen; unfold maxLen at h2; omega) (Array.getElem?_eq_some_iff.1 hgb).1
    · have hi' : i < (chg a b 0).length := hi
      obtain ⟨f1, f2⟩ := flat_get rng0 (chg a b 0) i hi'
      have hcell : ∀ k x, k < (chg a b 0).length * 2 → (flat (chg a b 0))[k]? = some x → w'.cell? ⟨g, k, none⟩ = some x := fun k x hk hx => by
        rw [← h4, List.getElem?_take_of_lt hk] at hx
        unfold World.cell?
        rw [hgb]
        simpa using hx
      have hsz : (rngE (chg a b 0)).sz = 2 := rfl
      rw [hsz, Nat.zero_add]
      match j, hj with
      | 0, hj =>
        simp only [List.getElem?_cons_zero, Option.some.injEq] at hj
        subst hj
        exact hcell _ _ (by omega) f1
      | 1, hj =>
        simp only [List.getElem?_cons_succ, List.getElem?_cons_zero, Option.some.injEq] at hj
        subst hj
        exact hcell _ _ (by omega) f2
    · obtain ⟨r1, r2⟩ := hrng i hi
      exact .one _ _ _ _ rfl (.int _ _ r1) (.one _ _ _ _ rfl (.int _ _ r2) .nil)
end Go.Proofs.YtmmpflifajjbjaaDoor
end
section
namespace Go.Proofs.YtmmpflifajjbjaaDoor.V
open Go.RowKit
section
variable {E : Env} {T : Nat → Prop} {w w' : World}
mutual
/-- How a reading lasts, where all cells read as they did. -/
theorem Rep.cells (hk : ∀ a, w'.cell? a = w.cell? a) (hs : ∀ b, w'.shape? b = w.shape? b) (hz : w'.heap.size = w.heap.size) :
    ∀ {s : SV} {v : Value}, Rep E T w s v → Rep E T w' s v
  | _, _, .bool b => .bool b
  | _, _, .int k n h => .int k n h
  | _, _, .str l h => .str l h
  | _, _, .nilp => .nilp
  | _, _, .ptr id off b h => .ptr id off b h
  | _, _, .pel id base sz i j b h => .pel id base sz i j b h
  | _, _, .rop e i j b o c hT hn hc hr hi hj hb =>
    .rop e i j b o c hT hn (fun i j v hi hj => (hk _).trans (hc i j v hi hj)) (fun i hi => Items.cells hk hs hz (hr i hi)) hi hj (by rw [hz]; exact hb)
  | _, _, .nils => .nils
  | _, _, .row id base sz sub len b o c n t h hs' ho hl ok => .row id base sz sub len b o c n t h ((hs b).trans hs') ho hl ok
  | _, _, .row0 id base sz sub len h hl => .row0 id base sz sub len h hl
  | _, _, .ro0 e h => .ro0 e h
  | _, _, .ro1 e a h => .ro1 e a h
  | _, _, .ro e b o n k c hT hn hc hr he hl ok hb =>
    .ro e b o n k c hT hn (fun i j v hi hj => (hk _).trans (hc i j v hi hj)) (fun i hi => Items.cells hk hs hz (hr i hi)) he hl ok (by rw [hz]; exact hb)
  | _, _, .agg l cs h => .agg l cs (Items.cells hk hs hz h)
  | _, _, .arr n e cs c hn hl he h1 hc hr => .arr n e cs c hn hl he h1 hc (fun i hi => Items.cells hk hs hz (hr i hi))
  | _, _, .tup l vs h => .tup l vs (Tup.cells hk hs hz h)
  | _, _, .fn f l vs h => .fn f l vs (Tup.cells hk hs hz h)
  | _, _, .mv f l vs h => .mv f l vs (Tup.cells hk hs hz h)
  | _, _, .ifc t s v h => .ifc t s v (Rep.cells hk hs hz h)
  | _, _, .nili => .nili
  | _, _, .nilf => .nilf
  | _, _, .may1 g s v h hr => .may1 g s v h (Rep.cells hk hs hz hr)
  | _, _, .may0 g s h => .may0 g s h
  | _, _, .bsl id len b n t h hs' hl ok => .bsl id len b n t h ((hs b).trans hs') hl ok
  | _, _, .bsl0 id len h hl => .bsl0 id len h hl
  | _, _, .anyi k n => .anyi k n
  | _, _, .val x => .val x
theorem Items.cells (hk : ∀ a, w'.cell? a = w.cell? a) (hs : ∀ b, w'.shape? b = w.shape? b) (hz : w'.heap.size = w.heap.size) :
    ∀ {l : List SV} {cs : List Value}, Items E T w l cs → Items E T w' l cs
  | _, _, .nil => .nil
  | _, _, .one s c l cs h hr hl => .one s c l cs h (Rep.cells hk hs hz hr) (Items.cells hk hs hz hl)
  | _, _, .arr n e l c1 cs hr hl => .arr n e l c1 cs (Rep.cells hk hs hz hr) (Items.cells hk hs hz hl)
theorem Tup.cells (hk : ∀ a, w'.cell? a = w.cell? a) (hs : ∀ b, w'.shape? b = w.shape? b) (hz : w'.heap.size = w.heap.size) :
    ∀ {l : List SV} {vs : List Value}, Tup E T w l vs → Tup E T w' l vs
  | _, _, .nil => .nil
  | _, _, .cons s v l vs hr hl => .cons s v l vs (Rep.cells hk hs hz hr) (Tup.cells hk hs hz hl)
end
end
section
variable (w : World) (b n : Nat)
theorem freeze_heap (x : Nat) : (w.freeze ⟨b, n, none⟩ 1).heap[x]? = if b = x then (w.heap[x]?).map (fun
      | .cells c elem (lo, hi) => .cells c elem (if lo == hi then (n, n + 1) else (min lo n, max hi (n + 1)))
      | o => o) else w.heap[x]? := by
  unfold World.freeze
  rw [if_neg (by decide)]
  show (w.heap.modify b _)[x]? = _
  rw [Array.getElem?_modify]
  split <;> rfl
theorem freeze_size : (w.freeze ⟨b, n, none⟩ 1).heap.size = w.heap.size := by
  unfold World.freeze
  rw [if_neg (by decide)]
  show (w.heap.modify b _).size = _
  rw [Array.size_modify]
theorem freeze_other (x : Nat) (h : x ≠ b) : (w.freeze ⟨b, n, none⟩ 1).heap[x]? = w.heap[x]? := by
  rw [freeze_heap, if_neg (Ne.symm h)]
theorem freeze_cell (a : Addr) : (w.freeze ⟨b, n, none⟩ 1).cell? a = w.cell? a := by
  unfold World.cell?
  rw [freeze_heap]
  by_cases hb : b = a.block
  · rw [if_pos hb]
    cases h : w.heap[a.block]? with
    | none => rfl
    | some o => cases o <;> rfl
  · rw [if_neg hb]
theorem freeze_shape (x : Nat) : (w.freeze ⟨b, n, none⟩ 1).shape? x = w.shape? x := by
  unfold World.shape?
  rw [freeze_heap]
  by_cases hb : b = x
  · rw [if_pos hb]
    cases h : w.heap[x]? with
    | none => rfl
    | some o => cases o <;> rfl
  · rw [if_neg hb]
end
section
variable {C : Ctx} {Q0 : Exit → Act → World → Prop} {F F1 F' : Tr} {M M1 : Mem} {ids : List Nat} {k : List Kont} {full rest : List Oper}
theorem St.marked {U : Nat → Prop} {E : Env} {a : Act} {w : World} {b n : Nat} (hst : St C F M U E a w) (hb : C.W0.heap.size ≤ b) (hm : ¬ mine M E b) : St C F M U E a (w.freeze ⟨b, n, none⟩ 1) := by
  have hk := freeze_cell w b n
  have hs := freeze_shape w b n
  have hz := freeze_size w b n
  refine ⟨hst.defers, hst.size, fun t s h => (hst.slots t s h).cells hk hs hz, ⟨fun id B hf => ?_, hst.mem.inj⟩, hst.own, hst.fresh, ⟨hst.kp.os, hst.kp.tape, hst.kp.output, ⟨by rw [hz]; exact hst.kp.chg.size, fun x hx hn => (freeze_other w b n x (by omega)).trans (hst.kp.chg.keep x hx hn), fun x hx => (hs x).trans (hst.kp.chg.shape x hx)⟩⟩, hst.hid, ⟨fun g e h => (hst.glob.rep g e h).cells hk hs hz, fun g e h => ?_⟩, hst.pin, fun p hp t s h => (hst.held p hp t s h).cells hk hs hz⟩
  · rcases hst.mem.blk id B hf with ⟨c, h1, h2, h3⟩ | h1
    · have hne : c ≠ b := fun e => hm ⟨id, B, hf, by rw [h1, e]⟩
      have ho := freeze_other w b n c hne
      refine .inl ⟨c, h1, by rw [hz]; exact h2, ?_⟩
      cases B with
      | cells t l =>
        obtain ⟨cs, q1, q2⟩ := h3
        exact ⟨cs, ho.trans q1, q2.cells hk hs hz⟩
      | row t e =>
        obtain ⟨cs, cc, q1, q2, q3, q4, q5⟩ := h3
        exact ⟨cs, cc, ho.trans q1, q2, q3, q4, fun i hi => (q5 i hi).cells hk hs hz⟩
      | obj o => exact ho.trans h3
    · exact .inr h1
  · obtain ⟨t, ht⟩ := hst.glob.shp g e h
    exact ⟨t, (hs g).trans ht⟩
theorem Sat.convB {d : Option Tmp} {x : Operand} {t e : TypeId} {type : TypeId} {pos : String} {after : Array Edge} {id n : Nat} {l : List UInt8} {φ : List Prop}
    (hx : opd C.Γ F x = some (.row id 0 1 0 n)) (hn0 : n ≠ 0) (hM : (find M id).isSome = true) (hz : frz C.wide C.pins ids true id F M = some ⟨F1, M1, φ⟩) (hφ : AllP φ) (hx2 : opd C.Γ F1 x = some (.ro (.u8 l)))
    (hu : C.P.underlying t = some (.slice e)) (he : C.P.underlying e = some (.int .u8)) (hS : ∀ b, ¬ C.S b) (hp : putD C.N F1 d (some (.ro (.u8 l))) some = some F') (h : Sat C Q0 (.reg full rest F' M1 ids k)) :
    Sat C Q0 (.reg full (⟨d, .convert t t x, type, pos, after, none⟩ :: rest) F M ids k) := by
  intro U E a w hsup hst
  obtain ⟨G1, e1, e2⟩ := putD_inv hp
  cases e1
  refine wpList_plain rfl fun K hK => ?_
  unfold Oper.wp
  have hr := opd_rep hst.vw hx
  obtain ⟨U', E', hsup', hst2⟩ := frz_ok hz hφ hst
  have hr2 := opd_rep hst2.vw hx2
  generalize hv : a.eval x = v at hr hr2
  cases hr with
  | row0 _ _ _ _ _ _ h0 => exact absurd h0 hn0
  | row _ _ _ _ _ b o c m ty hE hs' ho hl ok =>
    have hbo : C.W0.heap.size ≤ b := (hst.own id b hM hE).resolve_right (hS b)
    have hT : ¬ trk C.T0 M1 E' b := by
      cases hr2 with
      | ro _ _ _ _ _ _ hT _ _ _ _ _ _ _ => exact hT
      | ro1 => exact absurd rfl hn0
    have hst3 := hst2.marked (n := m) hbo fun hm => hT (.inl hm)
    have hrun : (execOp a.eval ⟨d, .convert t t x, type, pos, after, none⟩).run C.P w = .ok (.value (.slice (some ⟨b, o, none⟩) n c)) (w.freeze ⟨b, m, none⟩ 1) := by
      have hcv : (convert t t (.slice (some ⟨b, o, none⟩) n c)).run C.P w = .ok (.slice (some ⟨b, o, none⟩) n c) (w.freeze ⟨b, m, none⟩ 1) := by
        simp [convert, run_underlying hu, run_underlying he, markStringish, hs']
      unfold execOp
      simp only [hv, Sem.run_bind, hcv, Result.andThen_ok, Sem.run_pure]
    rw [hrun]
    refine hK _ _ (h U' E' _ _ hsup' (hst3.putD e2 fun s' hs'' => by cases hs''; exact hr2.cells (freeze_cell w b m) (freeze_shape w b m) (freeze_size w b m)))
end
end Go.Proofs.YtmmpflifajjbjaaDoor.V
end
section
namespace Go.Proofs.YtmmpflifajjbjaaDoor
open Go.RowKit V
--PURE: (intro _ _; simp [pureL, pureS, pureE]; done)
set_option maxRecDepth 100000
set_option maxHeartbeats 2000000
set_option linter.unusedSimpArgs false
def tx1 : List UInt8 := [98, 111, 111, 116, 32, 48, 32, 56, 32, 99, 111, 100, 101, 10, 100, 97, 116, 97, 32, 56, 32, 50, 48, 10]
def tx2 : List UInt8 := [98, 111, 111, 116, 32, 48, 32, 54, 32, 99, 111, 100, 101, 10]
def tx3 : List UInt8 := [98, 111, 111, 116, 32, 48, 32, 56, 32, 99, 111, 100, 101]
def tx4 : List UInt8 := [98, 111, 111, 116, 32, 48, 48, 32, 56, 10]
def ex1 : List SecL := [⟨[98, 111, 111, 116], 0, 8, true⟩, ⟨[100, 97, 116, 97], 8, 20, false⟩]
def ex2 : List SecL := [⟨[98, 111, 111, 116], 0, 6, true⟩]
theorem pr1 : parseR tx1 = some ex1 := by kernel_rfl
theorem pr2 : parseR tx2 = some ex2 := by kernel_rfl
theorem pr3 : parseR tx3 = none := by kernel_rfl
theorem pr4 : parseR tx4 = none := by kernel_rfl
theorem pr5 : parseR [] = some [] := rfl
theorem va1 : validB ex1 65536 = true := by decide +kernel
theorem va2 : validB ex2 65536 = false := by decide +kernel
theorem vb1 : validB ex1 20 = true := by decide +kernel
theorem vb2 : validB ex1 19 = false := by decide +kernel
theorem px1 : printS ex1 = tx1 := by kernel_rfl
theorem ch1 : chg [97, 98, 99, 100, 101, 102] [97, 88, 99, 89, 90, 102] 0 = [⟨1, 2⟩, ⟨3, 5⟩] := by kernel_rfl
theorem sp1 : sprS 6 (-1) [97, 98, 99, 100, 101, 102] [⟨1, 2⟩, ⟨3, 5⟩] [88, 89, 90] = some [97, 88, 99, 89, 90, 102] := by kernel_rfl
theorem sp2 : sprS 6 (-1) [97, 98, 99, 100, 101, 102] [⟨1, 2⟩, ⟨3, 5⟩] [88, 89] = none := by kernel_rfl
theorem sp3 : sprS 6 (-1) [97, 98, 99, 100, 101, 102] [⟨0, 1⟩, ⟨1, 2⟩] [88, 89] = none := by kernel_rfl
theorem ux1 : okHex [48, 48, 97, 98] = true ∧ unhex [48, 48, 97, 98] 2 = [0, 171] := by decide +kernel
theorem ux2 : okHex [48, 65] = false := by decide +kernel
theorem ux3 : okHex [48] = false := by decide +kernel
theorem hx1 : hexB [0, 171] = [48, 48, 97, 98] := by decide +kernel
theorem fx1 : idxL (findP 8) ex1 0 = 1 := by decide +kernel
theorem fx2 : idxL (findP 20) ex1 0 = -1 := by decide +kernel
theorem fx3 : idxL (findP (-1)) ex1 0 = -1 := by decide +kernel
theorem se1 : secEq ex1 ex1 = true := (secEq_iff _ _).2 rfl
theorem re1 : rngEq [⟨1, 2⟩, ⟨3, 5⟩] [⟨1, 2⟩, ⟨3, 5⟩] = true := by decide +kernel
section
variable (a b : TypeId) (p q : Value)
theorem c1 : Fun Tryd.prog (Γq a b p q) 14 [.str tx1] (.tup [.ro (secE ex1), .int .i64 0]) := by
  have h := parse_spec a b p q tx1 (by decide)
  unfold parV at h
  rw [pr1] at h
  dsimp only at h
  rw [va1] at h
  exact h
theorem c2 : Fun Tryd.prog (Γq a b p q) 14 [.str tx2] (.tup [.ro (secE []), .int .i64 10]) := by
  have h := parse_spec a b p q tx2 (by decide)
  unfold parV at h
  rw [pr2] at h
  dsimp only at h
  rw [va2] at h
  exact h
theorem c3 : Fun Tryd.prog (Γq a b p q) 14 [.str tx3] (.tup [.ro (secE []), .int .i64 3]) := by
  have h := parse_spec a b p q tx3 (by decide)
  unfold parV at h
  rw [pr3] at h
  exact h
theorem c4 : Fun Tryd.prog (Γq a b p q) 14 [.str tx4] (.tup [.ro (secE []), .int .i64 3]) := by
  have h := parse_spec a b p q tx4 (by decide)
  unfold parV at h
  rw [pr4] at h
  exact h
theorem c5 : Fun Tryd.prog (Γq a b p q) 14 [.str []] (.tup [.ro (secE []), .int .i64 0]) := by
  have h := parse_spec a b p q [] (by decide)
  unfold parV at h
  rw [pr5] at h
  exact h
theorem s1 : Fun Tryd.prog (Γq a b p q) 21 [.ro (.u8 [97, 98, 99, 100, 101, 102]), .ro (rngE [⟨1, 2⟩, ⟨3, 5⟩]), .ro (.u8 [88, 89, 90])] (.tup [.ro (.u8 [97, 88, 99, 89, 90, 102]), .int .i64 0]) := by
  have h := spread_spec [97, 98, 99, 100, 101, 102] (by decide) [⟨1, 2⟩, ⟨3, 5⟩] [88, 89, 90] (by intro i hi; rcases i with _ | _ | i <;> first | decide | (simp at hi; omega))
  rw [show (([97, 98, 99, 100, 101, 102] : List UInt8).length : Int) = 6 from rfl, sp1] at h
  exact h.weak
theorem s2 : Fun Tryd.prog (Γq a b p q) 21 [.ro (.u8 [97, 98, 99, 100, 101, 102]), .ro (rngE [⟨1, 2⟩, ⟨3, 5⟩]), .ro (.u8 [88, 89])] (.tup [.ro (.u8 []), .int .i64 1]) := by
  have h := spread_spec [97, 98, 99, 100, 101, 102] (by decide) [⟨1, 2⟩, ⟨3, 5⟩] [88, 89] (by intro i hi; rcases i with _ | _ | i <;> first | decide | (simp at hi; omega))
  rw [show (([97, 98, 99, 100, 101, 102] : List UInt8).length : Int) = 6 from rfl, sp2] at h
  exact h.weak
theorem s3 : Fun Tryd.prog (Γq a b p q) 21 [.ro (.u8 [97, 98, 99, 100, 101, 102]), .ro (rngE [⟨0, 1⟩, ⟨1, 2⟩]), .ro (.u8 [88, 89])] (.tup [.ro (.u8 []), .int .i64 1]) := by
  have h := spread_spec [97, 98, 99, 100, 101, 102] (by decide) [⟨0, 1⟩, ⟨1, 2⟩] [88, 89] (by intro i hi; rcases i with _ | _ | i <;> first | decide | (simp at hi; omega))
  rw [show (([97, 98, 99, 100, 101, 102] : List UInt8).length : Int) = 6 from rfl, sp3] at h
  exact h.weak
theorem u1 : Fun Tryd.prog (Γq a b p q) 26 [.str [48, 48, 97, 98]] (.tup [.ro (.u8 [0, 171]), .int .i64 0]) := by
  have h := bytes_walk [48, 48, 97, 98] (by decide)
  rw [ux1.1, show ([48, 48, 97, 98] : List UInt8).length / 2 = 2 from rfl] at h
  rw [ux1.2] at h
  exact h.weak
theorem u2 : Fun Tryd.prog (Γq a b p q) 26 [.str [48, 65]] (.tup [.ro (.u8 []), .int .i64 3]) := by
  have h := bytes_walk [48, 65] (by decide)
  rw [ux2] at h
  exact h.weak
theorem u3 : Fun Tryd.prog (Γq a b p q) 26 [.str [48]] (.tup [.ro (.u8 []), .int .i64 3]) := by
  have h := bytes_walk [48] (by decide)
  rw [ux3] at h
  exact h.weak
theorem e1 : Fun Tryd.prog (Γq a b p q) 15 [.ro (secE ex1), .ro (secE ex1)] (.bool true) := by
  have h := same_sec ex1 ex1
  rw [se1] at h
  exact h.weak
theorem p1 : Fun Tryd.prog (Γq a b p q) 13 [.ro (secE ex1)] (.str tx1) := by
  have h := print_spec ex1 (by decide) (by intro x hx; simp only [ex1, List.mem_cons, List.not_mem_nil, or_false] at hx; rcases hx with rfl | rfl <;> exact ⟨by decide, by decide, by decide⟩)
  rw [px1] at h
  exact Fun.toq h a b p q
theorem d1 : Fun Tryd.prog (Γq a b p q) 19 [.ro (.u8 [97, 98, 99, 100, 101, 102]), .ro (.u8 [97, 88, 99, 89, 90, 102])] (.ro (rngE [⟨1, 2⟩, ⟨3, 5⟩])) := by
  have h := changed_spec (Γq a b p q) [97, 98, 99, 100, 101, 102] [97, 88, 99, 89, 90, 102] (by decide) (by decide)
  rw [ch1] at h
  exact h
theorem r1 : Fun Tryd.prog (Γq a b p q) 27 [.ro (rngE [⟨1, 2⟩, ⟨3, 5⟩]), .ro (rngE [⟨1, 2⟩, ⟨3, 5⟩])] (.bool true) := by
  have h := same_rng [⟨1, 2⟩, ⟨3, 5⟩] [⟨1, 2⟩, ⟨3, 5⟩]
  rw [re1] at h
  exact h.weak
theorem h1 : Fun Tryd.prog (Γq a b p q) 25 [.ro (.u8 [0, 171])] (.str [48, 48, 97, 98]) := by
  have h := hex_spec [0, 171] (by decide)
  rw [hx1] at h
  exact h.weak
theorem f1 : Fun Tryd.prog (Γq a b p q) 16 [.ro (secE ex1), .int .i64 8] (.int .i64 1) := by
  have h := find_spec ex1 8
  rw [fx1] at h
  exact h.weak
theorem f2 : Fun Tryd.prog (Γq a b p q) 16 [.ro (secE ex1), .int .i64 20] (.int .i64 (-1)) := by
  have h := find_spec ex1 20
  rw [fx2] at h
  exact h.weak
theorem f3 : Fun Tryd.prog (Γq a b p q) 16 [.ro (secE ex1), .int .i64 (-1)] (.int .i64 (-1)) := by
  have h := find_spec ex1 (-1)
  rw [fx3] at h
  exact h.weak
theorem v1 : Fun Tryd.prog (Γq a b p q) 11 [.ro (secE ex1), .int .i64 20] (.bool true) := by
  have h := valid_spec ex1 20
  rw [vb1] at h
  exact h.weak
theorem v2 : Fun Tryd.prog (Γq a b p q) 11 [.ro (secE ex1), .int .i64 19] (.bool false) := by
  have h := valid_spec ex1 19
  rw [vb2] at h
  exact h.weak
end
/-- A run of structs seen as another with the same elements. -/
theorem Rep.same_g {E : Env} {T : Nat → Prop} {w : World} {n sz : Nat} {f g : Nat → List SV} {v : Value} (he : ∀ i, i < n → f i = g i) (hr : Rep E T w (.ro (.g n sz f)) v) : Rep E T w (.ro (.g n sz g)) v := by
  cases hr with
  | ro0 _ h => exact .ro0 _ h
  | ro1 _ a h => exact .ro1 _ a h
  | ro _ b o m k c hT hn hc hr he' hl ok hb => exact .ro (.g n sz g) b o m k c hT hn hc (fun i hi => by have := hr i hi; simp only [EV.items] at this ⊢; rw [← he i hi]; exact this) he' hl ok hb
@[reducible] def secN : EV := (.g 2 (3 + 1) (nthL [[.str [98, 111, 111, 116], .int .i64 0, .int .i64 8, .bool true], [.str [100, 97, 116, 97], .int .i64 8, .int .i64 20, .bool false]]))
@[reducible] def rngN : EV := .g 2 (1 + 1) (nthL [[.int .i64 1, .int .i64 2], [.int .i64 3, .int .i64 5]])
@[reducible] def rngM : EV := .g 2 (1 + 1) (nthL [[.int .i64 0, .int .i64 1], [.int .i64 1, .int .i64 2]])
theorem secN_at {E : Env} {T : Nat → Prop} {w : World} {v : Value} (h : Rep E T w (.ro secN) v) : Rep E T w (.ro (secE ex1)) v :=
  Rep.same_g (g := fun i => [.str (ex1.getD i sec0).name, .int .i64 (ex1.getD i sec0).fr, .int .i64 (ex1.getD i sec0).to, .bool (ex1.getD i sec0).code]) (fun i hi => by rcases i with _ | _ | i <;> first | rfl | (exfalso; have hi : i + 1 + 1 < 2 := hi; omega)) h
theorem rngN_at {E : Env} {T : Nat → Prop} {w : World} {v : Value} (h : Rep E T w (.ro rngN) v) : Rep E T w (.ro (rngE [⟨1, 2⟩, ⟨3, 5⟩])) v :=
  Rep.same_g (g := fun i => [.int .i64 (([⟨1, 2⟩, ⟨3, 5⟩] : List RngL).getD i rng0).lo, .int .i64 (([⟨1, 2⟩, ⟨3, 5⟩] : List RngL).getD i rng0).hi]) (fun i hi => by rcases i with _ | _ | i <;> first | rfl | (exfalso; have hi : i + 1 + 1 < 2 := hi; omega)) h
theorem rngM_at {E : Env} {T : Nat → Prop} {w : World} {v : Value} (h : Rep E T w (.ro rngM) v) : Rep E T w (.ro (rngE [⟨0, 1⟩, ⟨1, 2⟩])) v :=
  Rep.same_g (g := fun i => [.int .i64 (([⟨0, 1⟩, ⟨1, 2⟩] : List RngL).getD i rng0).lo, .int .i64 (([⟨0, 1⟩, ⟨1, 2⟩] : List RngL).getD i rng0).hi]) (fun i hi => by rcases i with _ | _ | i <;> first | rfl | (exfalso; have hi : i + 1 + 1 < 2 := hi; omega)) h
/-- A contract at other views of what is given. -/
theorem Fun.see {P : Program} {Γ : Glob} {f : FuncId} {args args' : List SV} {res : SV} (h : Fun P Γ f args res) (hc : ∀ (T : Nat → Prop) (w : World) vs, Tup E0 T w args' vs → Tup E0 T w args vs) : Fun P Γ f args' res :=
  fun T w vs hT hG ht => h T w vs hT hG (hc T w vs ht)
section
variable (a b : TypeId) (p q : Value)
theorem s1' : Fun Tryd.prog (Γq a b p q) 21 [.ro (.u8 [97, 98, 99, 100, 101, 102]), .ro rngN, .ro (.u8 [88, 89, 90])] (.tup [.ro (.u8 [97, 88, 99, 89, 90, 102]), .int .i64 0]) := by
  refine Fun.see (s1 a b p q) fun T w vs ht => ?_
  cases ht with
  | cons s0 v0 l0 vs0 r0 h0 =>
  cases h0 with
  | cons s1 v1 l1 vs1 r1 h1 =>
  cases h1 with
  | cons s2 v2 l2 vs2 r2 h2 =>
  cases h2
  exact .cons _ _ _ _ (r0) (.cons _ _ _ _ (rngN_at r1) (.cons _ _ _ _ (r2) .nil))
theorem s2' : Fun Tryd.prog (Γq a b p q) 21 [.ro (.u8 [97, 98, 99, 100, 101, 102]), .ro rngN, .ro (.u8 [88, 89])] (.tup [.ro (.u8 []), .int .i64 1]) := by
  refine Fun.see (s2 a b p q) fun T w vs ht => ?_
  cases ht with
  | cons s0 v0 l0 vs0 r0 h0 =>
  cases h0 with
  | cons s1 v1 l1 vs1 r1 h1 =>
  cases h1 with
  | cons s2 v2 l2 vs2 r2 h2 =>
  cases h2
  exact .cons _ _ _ _ (r0) (.cons _ _ _ _ (rngN_at r1) (.cons _ _ _ _ (r2) .nil))
theorem s3' : Fun Tryd.prog (Γq a b p q) 21 [.ro (.u8 [97, 98, 99, 100, 101, 102]), .ro rngM, .ro (.u8 [88, 89])] (.tup [.ro (.u8 []), .int .i64 1]) := by
  refine Fun.see (s3 a b p q) fun T w vs ht => ?_
  cases ht with
  | cons s0 v0 l0 vs0 r0 h0 =>
  cases h0 with
  | cons s1 v1 l1 vs1 r1 h1 =>
  cases h1 with
  | cons s2 v2 l2 vs2 r2 h2 =>
  cases h2
  exact .cons _ _ _ _ (r0) (.cons _ _ _ _ (rngM_at r1) (.cons _ _ _ _ (r2) .nil))
theorem e1' : Fun Tryd.prog (Γq a b p q) 15 [.ro (secE ex1), .ro secN] (.bool true) := by
  refine Fun.see (e1 a b p q) fun T w vs ht => ?_
  cases ht with
  | cons s0 v0 l0 vs0 r0 h0 =>
  cases h0 with
  | cons s1 v1 l1 vs1 r1 h1 =>
  cases h1
  exact .cons _ _ _ _ (r0) (.cons _ _ _ _ (secN_at r1) .nil)
theorem p1' : Fun Tryd.prog (Γq a b p q) 13 [.ro secN] (.str tx1) := by
  refine Fun.see (p1 a b p q) fun T w vs ht => ?_
  cases ht with
  | cons s0 v0 l0 vs0 r0 h0 =>
  cases h0
  exact .cons _ _ _ _ (secN_at r0) .nil
theorem r1' : Fun Tryd.prog (Γq a b p q) 27 [.ro (rngE [⟨1, 2⟩, ⟨3, 5⟩]), .ro rngN] (.bool true) := by
  refine Fun.see (r1 a b p q) fun T w vs ht => ?_
  cases ht with
  | cons s0 v0 l0 vs0 r0 h0 =>
  cases h0 with
  | cons s1 v1 l1 vs1 r1 h1 =>
  cases h1
  exact .cons _ _ _ _ (r0) (.cons _ _ _ _ (rngN_at r1) .nil)
theorem f1' : Fun Tryd.prog (Γq a b p q) 16 [.ro secN, .int .i64 8] (.int .i64 1) := by
  refine Fun.see (f1 a b p q) fun T w vs ht => ?_
  cases ht with
  | cons s0 v0 l0 vs0 r0 h0 =>
  cases h0 with
  | cons s1 v1 l1 vs1 r1 h1 =>
  cases h1
  exact .cons _ _ _ _ (secN_at r0) (.cons _ _ _ _ (r1) .nil)
theorem f2' : Fun Tryd.prog (Γq a b p q) 16 [.ro secN, .int .i64 20] (.int .i64 (-1)) := by
  refine Fun.see (f2 a b p q) fun T w vs ht => ?_
  cases ht with
  | cons s0 v0 l0 vs0 r0 h0 =>
  cases h0 with
  | cons s1 v1 l1 vs1 r1 h1 =>
  cases h1
  exact .cons _ _ _ _ (secN_at r0) (.cons _ _ _ _ (r1) .nil)
theorem f3' : Fun Tryd.prog (Γq a b p q) 16 [.ro secN, .int .i64 (-1)] (.int .i64 (-1)) := by
  refine Fun.see (f3 a b p q) fun T w vs ht => ?_
  cases ht with
  | cons s0 v0 l0 vs0 r0 h0 =>
  cases h0 with
  | cons s1 v1 l1 vs1 r1 h1 =>
  cases h1
  exact .cons _ _ _ _ (secN_at r0) (.cons _ _ _ _ (r1) .nil)
theorem v1' : Fun Tryd.prog (Γq a b p q) 11 [.ro secN, .int .i64 20] (.bool true) := by
  refine Fun.see (v1 a b p q) fun T w vs ht => ?_
  cases ht with
  | cons s0 v0 l0 vs0 r0 h0 =>
  cases h0 with
  | cons s1 v1 l1 vs1 r1 h1 =>
  cases h1
  exact .cons _ _ _ _ (secN_at r0) (.cons _ _ _ _ (r1) .nil)
theorem v2' : Fun Tryd.prog (Γq a b p q) 11 [.ro secN, .int .i64 19] (.bool false) := by
  refine Fun.see (v2 a b p q) fun T w vs ht => ?_
  cases ht with
  | cons s0 v0 l0 vs0 r0 h0 =>
  cases h0 with
  | cons s1 v1 l1 vs1 r1 h1 =>
  cases h1
  exact .cons _ _ _ _ (secN_at r0) (.cons _ _ _ _ (r1) .nil)
theorem puN : pureS (.ro secN) := by
  intro i hi; rcases i with _ | _ | i <;> first | exact ⟨trivial, trivial, trivial, trivial, trivial⟩ | trivial
theorem puR : pureS (.ro rngN) := by
  intro i hi; rcases i with _ | _ | i <;> first | exact ⟨trivial, trivial, trivial⟩ | trivial
theorem puM : pureS (.ro rngM) := by
  intro i hi; rcases i with _ | _ | i <;> first | exact ⟨trivial, trivial, trivial⟩ | trivial
attribute [local irreducible] V.Sat V.DSat
theorem sanity_law : Fun Tryd.prog (Γq a b p q) 9 [] (.bool true) := by
  refine Fun.mkF 8 Tryd.func9 rfl Tryd.ntmps9 rfl rfl fun hf T w0 => ?_
  repeat' (first
      | ((with_reducible apply Sat.run (X := X64)); exact rfl; (first | exact True.intro | (exact phi) | skip))
      | ((with_reducible apply Sat.drawn); kernel_rfl)
      | ((with_reducible apply DSat.run (X := X64)); exact rfl; (first | exact True.intro | (exact phi) | skip))
      | ((with_reducible apply DSat.fin); kernel_rfl)
      | ((with_reducible apply Sat.gon); exact rfl; first | exact rfl | (decide +kernel))
      | ((with_reducible apply Sat.convB); exact rfl; decide; exact rfl; exact rfl; ((repeat' (first | exact AllP.nil | with_reducible refine AllP.cons ?_ ?_)) <;> first | exact rfl | exact trivial | exact ⟨rfl, rfl, rfl, rfl⟩ | exact .inl ⟨rfl, rfl, rfl⟩ | (exact .inl ⟨rfl, (by simp [V.EV.len]), rfl⟩) | (intro _ _; simp [pureL, pureS, pureE]; done) | (intro _ _; exact rfl) | (intro _; exact rfl) | (intro _; exact trivial) | (intro _; exact .inl ⟨rfl, rfl, rfl⟩) | (intro i hi; rcases i with _ | _ | _ | _ | _ | _ | i <;> first | exact ⟨trivial, trivial⟩ | exact trivial | (simp [pureL, pureS, pureE, nthL]; done) | (exfalso; omega)) | (intro _; first | exact puN | exact puR | exact puM) | (intro _ _ _; simp [pureL, pureS, pureE]; done) | exact purX); exact rfl; exact Tryd.underlying43; exact Tryd.underlying5; (exact fun _ h => h); exact rfl)
      | ((with_reducible apply Sat.call ((c1 a b p q))); exact rfl; exact rfl; kernel_rfl; (exact cnvX); exact rfl)
      | ((with_reducible apply DSat.call ((c1 a b p q))); exact rfl; exact rfl; kernel_rfl; (exact cnvX); exact rfl)
      | ((with_reducible apply Sat.call ((c2 a b p q))); exact rfl; exact rfl; kernel_rfl; (exact cnvX); exact rfl)
      | ((with_reducible apply DSat.call ((c2 a b p q))); exact rfl; exact rfl; kernel_rfl; (exact cnvX); exact rfl)
      | ((with_reducible apply Sat.call ((c3 a b p q))); exact rfl; exact rfl; kernel_rfl; (exact cnvX); exact rfl)
      | ((with_reducible apply DSat.call ((c3 a b p q))); exact rfl; exact rfl; kernel_rfl; (exact cnvX); exact rfl)
      | ((with_reducible apply Sat.call ((c4 a b p q))); exact rfl; exact rfl; kernel_rfl; (exact cnvX); exact rfl)
      | ((with_reducible apply DSat.call ((c4 a b p q))); exact rfl; exact rfl; kernel_rfl; (exact cnvX); exact rfl)
      | ((with_reducible apply Sat.call ((c5 a b p q))); exact rfl; exact rfl; kernel_rfl; (exact cnvX); exact rfl)
      | ((with_reducible apply DSat.call ((c5 a b p q))); exact rfl; exact rfl; kernel_rfl; (exact cnvX); exact rfl)
      | ((with_reducible apply Sat.call ((u1 a b p q))); exact rfl; exact rfl; kernel_rfl; (exact cnvX); exact rfl)
      | ((with_reducible apply DSat.call ((u1 a b p q))); exact rfl; exact rfl; kernel_rfl; (exact cnvX); exact rfl)
      | ((with_reducible apply Sat.call ((u2 a b p q))); exact rfl; exact rfl; kernel_rfl; (exact cnvX); exact rfl)
      | ((with_reducible apply DSat.call ((u2 a b p q))); exact rfl; exact rfl; kernel_rfl; (exact cnvX); exact rfl)
      | ((with_reducible apply Sat.call ((u3 a b p q))); exact rfl; exact rfl; kernel_rfl; (exact cnvX); exact rfl)
      | ((with_reducible apply DSat.call ((u3 a b p q))); exact rfl; exact rfl; kernel_rfl; (exact cnvX); exact rfl)
      | ((with_reducible apply Sat.call (s1' a b p q)); exact rfl; exact rfl; kernel_rfl; ((repeat' (first | exact Convs.nil | apply Convs.cons | exact Conv.refl _ trivial | exact Conv.refl _ puN | exact Conv.refl _ puR | exact Conv.refl _ puM | (refine Conv.may _ _ _ ?_ ?_; first | exact rfl | (decide +kernel)) | exact Conv.refl _ purX))); exact rfl)
      | ((with_reducible apply Sat.call (s2' a b p q)); exact rfl; exact rfl; kernel_rfl; ((repeat' (first | exact Convs.nil | apply Convs.cons | exact Conv.refl _ trivial | exact Conv.refl _ puN | exact Conv.refl _ puR | exact Conv.refl _ puM | (refine Conv.may _ _ _ ?_ ?_; first | exact rfl | (decide +kernel)) | exact Conv.refl _ purX))); exact rfl)
      | ((with_reducible apply Sat.call (s3' a b p q)); exact rfl; exact rfl; kernel_rfl; ((repeat' (first | exact Convs.nil | apply Convs.cons | exact Conv.refl _ trivial | exact Conv.refl _ puN | exact Conv.refl _ puR | exact Conv.refl _ puM | (refine Conv.may _ _ _ ?_ ?_; first | exact rfl | (decide +kernel)) | exact Conv.refl _ purX))); exact rfl)
      | ((with_reducible apply Sat.call (d1 a b p q)); exact rfl; exact rfl; kernel_rfl; ((repeat' (first | exact Convs.nil | apply Convs.cons | exact Conv.refl _ trivial | exact Conv.refl _ puN | exact Conv.refl _ puR | exact Conv.refl _ puM | (refine Conv.may _ _ _ ?_ ?_; first | exact rfl | (decide +kernel)) | exact Conv.refl _ purX))); exact rfl)
      | ((with_reducible apply Sat.callR (e1' a b p q)); exact rfl; exact rfl; exact rfl; kernel_rfl; ((repeat' (first | exact Convs.nil | apply Convs.cons | exact Conv.refl _ trivial | exact Conv.refl _ puN | exact Conv.refl _ puR | exact Conv.refl _ puM | (refine Conv.may _ _ _ ?_ ?_; first | exact rfl | (decide +kernel)) | exact Conv.refl _ purX))); exact rfl)
      | ((with_reducible apply Sat.callR (p1' a b p q)); exact rfl; exact rfl; exact rfl; kernel_rfl; ((repeat' (first | exact Convs.nil | apply Convs.cons | exact Conv.refl _ trivial | exact Conv.refl _ puN | exact Conv.refl _ puR | exact Conv.refl _ puM | (refine Conv.may _ _ _ ?_ ?_; first | exact rfl | (decide +kernel)) | exact Conv.refl _ purX))); exact rfl)
      | ((with_reducible apply Sat.callR (r1' a b p q)); exact rfl; exact rfl; exact rfl; kernel_rfl; ((repeat' (first | exact Convs.nil | apply Convs.cons | exact Conv.refl _ trivial | exact Conv.refl _ puN | exact Conv.refl _ puR | exact Conv.refl _ puM | (refine Conv.may _ _ _ ?_ ?_; first | exact rfl | (decide +kernel)) | exact Conv.refl _ purX))); exact rfl)
      | ((with_reducible apply Sat.callR (f1' a b p q)); exact rfl; exact rfl; exact rfl; kernel_rfl; ((repeat' (first | exact Convs.nil | apply Convs.cons | exact Conv.refl _ trivial | exact Conv.refl _ puN | exact Conv.refl _ puR | exact Conv.refl _ puM | (refine Conv.may _ _ _ ?_ ?_; first | exact rfl | (decide +kernel)) | exact Conv.refl _ purX))); exact rfl)
      | ((with_reducible apply Sat.callR (f2' a b p q)); exact rfl; exact rfl; exact rfl; kernel_rfl; ((repeat' (first | exact Convs.nil | apply Convs.cons | exact Conv.refl _ trivial | exact Conv.refl _ puN | exact Conv.refl _ puR | exact Conv.refl _ puM | (refine Conv.may _ _ _ ?_ ?_; first | exact rfl | (decide +kernel)) | exact Conv.refl _ purX))); exact rfl)
      | ((with_reducible apply Sat.callR (f3' a b p q)); exact rfl; exact rfl; exact rfl; kernel_rfl; ((repeat' (first | exact Convs.nil | apply Convs.cons | exact Conv.refl _ trivial | exact Conv.refl _ puN | exact Conv.refl _ puR | exact Conv.refl _ puM | (refine Conv.may _ _ _ ?_ ?_; first | exact rfl | (decide +kernel)) | exact Conv.refl _ purX))); exact rfl)
      | ((with_reducible apply Sat.callR (v1' a b p q)); exact rfl; exact rfl; exact rfl; kernel_rfl; ((repeat' (first | exact Convs.nil | apply Convs.cons | exact Conv.refl _ trivial | exact Conv.refl _ puN | exact Conv.refl _ puR | exact Conv.refl _ puM | (refine Conv.may _ _ _ ?_ ?_; first | exact rfl | (decide +kernel)) | exact Conv.refl _ purX))); exact rfl)
      | ((with_reducible apply Sat.callR (v2' a b p q)); exact rfl; exact rfl; exact rfl; kernel_rfl; ((repeat' (first | exact Convs.nil | apply Convs.cons | exact Conv.refl _ trivial | exact Conv.refl _ puN | exact Conv.refl _ puR | exact Conv.refl _ puM | (refine Conv.may _ _ _ ?_ ?_; first | exact rfl | (decide +kernel)) | exact Conv.refl _ purX))); exact rfl)
      | ((with_reducible apply Sat.callR ((h1 a b p q))); exact rfl; exact rfl; exact rfl; kernel_rfl; (exact cnvX); exact rfl)
      | ((with_reducible apply DSat.callR ((h1 a b p q))); exact rfl; exact rfl; exact rfl; kernel_rfl; (exact cnvX); exact rfl)
      | (apply Sat.gon; exact rfl; first | exact rfl | (decide +kernel)) | fail)
  refine Sat.freezeR true 1 rfl ?_ ?_
  · ((repeat' (first | exact AllP.nil | with_reducible refine AllP.cons ?_ ?_)) <;> first | exact rfl | exact trivial | exact ⟨rfl, rfl, rfl, rfl⟩ | exact .inl ⟨rfl, rfl, rfl⟩ | (exact .inl ⟨rfl, (by simp [V.EV.len]), rfl⟩) | (intro _ _; simp [pureL, pureS, pureE]; done) | (intro _ _; exact rfl) | (intro _; exact rfl) | (intro _; exact trivial) | (intro _; exact .inl ⟨rfl, rfl, rfl⟩) | (intro i hi; rcases i with _ | _ | _ | _ | _ | _ | i <;> first | exact ⟨trivial, trivial⟩ | exact trivial | (simp [pureL, pureS, pureE, nthL]; done) | (exfalso; omega)) | (intro _; first | exact puN | exact puR | exact puM) | (intro _ _ _; simp [pureL, pureS, pureE]; done) | exact purX)
  refine Sat.freezeR true 0 rfl ?_ ?_
  · ((repeat' (first | exact AllP.nil | with_reducible refine AllP.cons ?_ ?_)) <;> first | exact rfl | exact trivial | exact ⟨rfl, rfl, rfl, rfl⟩ | exact .inl ⟨rfl, rfl, rfl⟩ | (exact .inl ⟨rfl, (by simp [V.EV.len]), rfl⟩) | (intro _ _; simp [pureL, pureS, pureE]; done) | (intro _ _; exact rfl) | (intro _; exact rfl) | (intro _; exact trivial) | (intro _; exact .inl ⟨rfl, rfl, rfl⟩) | (intro i hi; rcases i with _ | _ | _ | _ | _ | _ | i <;> first | exact ⟨trivial, trivial⟩ | exact trivial | (simp [pureL, pureS, pureE, nthL]; done) | (exfalso; omega)) | (intro _; first | exact puN | exact puR | exact puM) | (intro _ _ _; simp [pureL, pureS, pureE]; done) | exact purX)
  repeat' (first
      | ((with_reducible apply Sat.run (X := X64)); exact rfl; (first | exact True.intro | (exact phi) | skip))
      | ((with_reducible apply Sat.drawn); kernel_rfl)
      | ((with_reducible apply DSat.run (X := X64)); exact rfl; (first | exact True.intro | (exact phi) | skip))
      | ((with_reducible apply DSat.fin); kernel_rfl)
      | ((with_reducible apply Sat.gon); exact rfl; first | exact rfl | (decide +kernel))
      | ((with_reducible apply Sat.convB); exact rfl; decide; exact rfl; exact rfl; ((repeat' (first | exact AllP.nil | with_reducible refine AllP.cons ?_ ?_)) <;> first | exact rfl | exact trivial | exact ⟨rfl, rfl, rfl, rfl⟩ | exact .inl ⟨rfl, rfl, rfl⟩ | (exact .inl ⟨rfl, (by simp [V.EV.len]), rfl⟩) | (intro _ _; simp [pureL, pureS, pureE]; done) | (intro _ _; exact rfl) | (intro _; exact rfl) | (intro _; exact trivial) | (intro _; exact .inl ⟨rfl, rfl, rfl⟩) | (intro i hi; rcases i with _ | _ | _ | _ | _ | _ | i <;> first | exact ⟨trivial, trivial⟩ | exact trivial | (simp [pureL, pureS, pureE, nthL]; done) | (exfalso; omega)) | (intro _; first | exact puN | exact puR | exact puM) | (intro _ _ _; simp [pureL, pureS, pureE]; done) | exact purX); exact rfl; exact Tryd.underlying43; exact Tryd.underlying5; (exact fun _ h => h); exact rfl)
      | ((with_reducible apply Sat.call ((c1 a b p q))); exact rfl; exact rfl; kernel_rfl; (exact cnvX); exact rfl)
      | ((with_reducible apply DSat.call ((c1 a b p q))); exact rfl; exact rfl; kernel_rfl; (exact cnvX); exact rfl)
      | ((with_reducible apply Sat.call ((c2 a b p q))); exact rfl; exact rfl; kernel_rfl; (exact cnvX); exact rfl)
      | ((with_reducible apply DSat.call ((c2 a b p q))); exact rfl; exact rfl; kernel_rfl; (exact cnvX); exact rfl)
      | ((with_reducible apply Sat.call ((c3 a b p q))); exact rfl; exact rfl; kernel_rfl; (exact cnvX); exact rfl)
      | ((with_reducible apply DSat.call ((c3 a b p q))); exact rfl; exact rfl; kernel_rfl; (exact cnvX); exact rfl)
      | ((with_reducible apply Sat.call ((c4 a b p q))); exact rfl; exact rfl; kernel_rfl; (exact cnvX); exact rfl)
      | ((with_reducible apply DSat.call ((c4 a b p q))); exact rfl; exact rfl; kernel_rfl; (exact cnvX); exact rfl)
      | ((with_reducible apply Sat.call ((c5 a b p q))); exact rfl; exact rfl; kernel_rfl; (exact cnvX); exact rfl)
      | ((with_reducible apply DSat.call ((c5 a b p q))); exact rfl; exact rfl; kernel_rfl; (exact cnvX); exact rfl)
      | ((with_reducible apply Sat.call ((u1 a b p q))); exact rfl; exact rfl; kernel_rfl; (exact cnvX); exact rfl)
      | ((with_reducible apply DSat.call ((u1 a b p q))); exact rfl; exact rfl; kernel_rfl; (exact cnvX); exact rfl)
      | ((with_reducible apply Sat.call ((u2 a b p q))); exact rfl; exact rfl; kernel_rfl; (exact cnvX); exact rfl)
      | ((with_reducible apply DSat.call ((u2 a b p q))); exact rfl; exact rfl; kernel_rfl; (exact cnvX); exact rfl)
      | ((with_reducible apply Sat.call ((u3 a b p q))); exact rfl; exact rfl; kernel_rfl; (exact cnvX); exact rfl)
      | ((with_reducible apply DSat.call ((u3 a b p q))); exact rfl; exact rfl; kernel_rfl; (exact cnvX); exact rfl)
      | ((with_reducible apply Sat.call (s1' a b p q)); exact rfl; exact rfl; kernel_rfl; ((repeat' (first | exact Convs.nil | apply Convs.cons | exact Conv.refl _ trivial | exact Conv.refl _ puN | exact Conv.refl _ puR | exact Conv.refl _ puM | (refine Conv.may _ _ _ ?_ ?_; first | exact rfl | (decide +kernel)) | exact Conv.refl _ purX))); exact rfl)
      | ((with_reducible apply Sat.call (s2' a b p q)); exact rfl; exact rfl; kernel_rfl; ((repeat' (first | exact Convs.nil | apply Convs.cons | exact Conv.refl _ trivial | exact Conv.refl _ puN | exact Conv.refl _ puR | exact Conv.refl _ puM | (refine Conv.may _ _ _ ?_ ?_; first | exact rfl | (decide +kernel)) | exact Conv.refl _ purX))); exact rfl)
      | ((with_reducible apply Sat.call (s3' a b p q)); exact rfl; exact rfl; kernel_rfl; ((repeat' (first | exact Convs.nil | apply Convs.cons | exact Conv.refl _ trivial | exact Conv.refl _ puN | exact Conv.refl _ puR | exact Conv.refl _ puM | (refine Conv.may _ _ _ ?_ ?_; first | exact rfl | (decide +kernel)) | exact Conv.refl _ purX))); exact rfl)
      | ((with_reducible apply Sat.call (d1 a b p q)); exact rfl; exact rfl; kernel_rfl; ((repeat' (first | exact Convs.nil | apply Convs.cons | exact Conv.refl _ trivial | exact Conv.refl _ puN | exact Conv.refl _ puR | exact Conv.refl _ puM | (refine Conv.may _ _ _ ?_ ?_; first | exact rfl | (decide +kernel)) | exact Conv.refl _ purX))); exact rfl)
      | ((with_reducible apply Sat.callR (e1' a b p q)); exact rfl; exact rfl; exact rfl; kernel_rfl; ((repeat' (first | exact Convs.nil | apply Convs.cons | exact Conv.refl _ trivial | exact Conv.refl _ puN | exact Conv.refl _ puR | exact Conv.refl _ puM | (refine Conv.may _ _ _ ?_ ?_; first | exact rfl | (decide +kernel)) | exact Conv.refl _ purX))); exact rfl)
      | ((with_reducible apply Sat.callR (p1' a b p q)); exact rfl; exact rfl; exact rfl; kernel_rfl; ((repeat' (first | exact Convs.nil | apply Convs.cons | exact Conv.refl _ trivial | exact Conv.refl _ puN | exact Conv.refl _ puR | exact Conv.refl _ puM | (refine Conv.may _ _ _ ?_ ?_; first | exact rfl | (decide +kernel)) | exact Conv.refl _ purX))); exact rfl)
      | ((with_reducible apply Sat.callR (r1' a b p q)); exact rfl; exact rfl; exact rfl; kernel_rfl; ((repeat' (first | exact Convs.nil | apply Convs.cons | exact Conv.refl _ trivial | exact Conv.refl _ puN | exact Conv.refl _ puR | exact Conv.refl _ puM | (refine Conv.may _ _ _ ?_ ?_; first | exact rfl | (decide +kernel)) | exact Conv.refl _ purX))); exact rfl)
      | ((with_reducible apply Sat.callR (f1' a b p q)); exact rfl; exact rfl; exact rfl; kernel_rfl; ((repeat' (first | exact Convs.nil | apply Convs.cons | exact Conv.refl _ trivial | exact Conv.refl _ puN | exact Conv.refl _ puR | exact Conv.refl _ puM | (refine Conv.may _ _ _ ?_ ?_; first | exact rfl | (decide +kernel)) | exact Conv.refl _ purX))); exact rfl)
      | ((with_reducible apply Sat.callR (f2' a b p q)); exact rfl; exact rfl; exact rfl; kernel_rfl; ((repeat' (first | exact Convs.nil | apply Convs.cons | exact Conv.refl _ trivial | exact Conv.refl _ puN | exact Conv.refl _ puR | exact Conv.refl _ puM | (refine Conv.may _ _ _ ?_ ?_; first | exact rfl | (decide +kernel)) | exact Conv.refl _ purX))); exact rfl)
      | ((with_reducible apply Sat.callR (f3' a b p q)); exact rfl; exact rfl; exact rfl; kernel_rfl; ((repeat' (first | exact Convs.nil | apply Convs.cons | exact Conv.refl _ trivial | exact Conv.refl _ puN | exact Conv.refl _ puR | exact Conv.refl _ puM | (refine Conv.may _ _ _ ?_ ?_; first | exact rfl | (decide +kernel)) | exact Conv.refl _ purX))); exact rfl)
      | ((with_reducible apply Sat.callR (v1' a b p q)); exact rfl; exact rfl; exact rfl; kernel_rfl; ((repeat' (first | exact Convs.nil | apply Convs.cons | exact Conv.refl _ trivial | exact Conv.refl _ puN | exact Conv.refl _ puR | exact Conv.refl _ puM | (refine Conv.may _ _ _ ?_ ?_; first | exact rfl | (decide +kernel)) | exact Conv.refl _ purX))); exact rfl)
      | ((with_reducible apply Sat.callR (v2' a b p q)); exact rfl; exact rfl; exact rfl; kernel_rfl; ((repeat' (first | exact Convs.nil | apply Convs.cons | exact Conv.refl _ trivial | exact Conv.refl _ puN | exact Conv.refl _ puR | exact Conv.refl _ puM | (refine Conv.may _ _ _ ?_ ?_; first | exact rfl | (decide +kernel)) | exact Conv.refl _ purX))); exact rfl)
      | ((with_reducible apply Sat.callR ((h1 a b p q))); exact rfl; exact rfl; exact rfl; kernel_rfl; (exact cnvX); exact rfl)
      | ((with_reducible apply DSat.callR ((h1 a b p q))); exact rfl; exact rfl; exact rfl; kernel_rfl; (exact cnvX); exact rfl)
      | (apply Sat.gon; exact rfl; first | exact rfl | (decide +kernel)) | fail)
  refine Sat.freezeR true 7 rfl ?_ ?_
  · ((repeat' (first | exact AllP.nil | with_reducible refine AllP.cons ?_ ?_)) <;> first | exact rfl | exact trivial | exact ⟨rfl, rfl, rfl, rfl⟩ | exact .inl ⟨rfl, rfl, rfl⟩ | (exact .inl ⟨rfl, (by simp [V.EV.len]), rfl⟩) | (intro _ _; simp [pureL, pureS, pureE]; done) | (intro _ _; exact rfl) | (intro _; exact rfl) | (intro _; exact trivial) | (intro _; exact .inl ⟨rfl, rfl, rfl⟩) | (intro i hi; rcases i with _ | _ | _ | _ | _ | _ | i <;> first | exact ⟨trivial, trivial⟩ | exact trivial | (simp [pureL, pureS, pureE, nthL]; done) | (exfalso; omega)) | (intro _; first | exact puN | exact puR | exact puM) | (intro _ _ _; simp [pureL, pureS, pureE]; done) | exact purX)
  repeat' (first
      | ((with_reducible apply Sat.run (X := X64)); exact rfl; (first | exact True.intro | (exact phi) | skip))
      | ((with_reducible apply Sat.drawn); kernel_rfl)
      | ((with_reducible apply DSat.run (X := X64)); exact rfl; (first | exact True.intro | (exact phi) | skip))
      | ((with_reducible apply DSat.fin); kernel_rfl)
      | ((with_reducible apply Sat.gon); exact rfl; first | exact rfl | (decide +kernel))
      | ((with_reducible apply Sat.convB); exact rfl; decide; exact rfl; exact rfl; ((repeat' (first | exact AllP.nil | with_reducible refine AllP.cons ?_ ?_)) <;> first | exact rfl | exact trivial | exact ⟨rfl, rfl, rfl, rfl⟩ | exact .inl ⟨rfl, rfl, rfl⟩ | (exact .inl ⟨rfl, (by simp [V.EV.len]), rfl⟩) | (intro _ _; simp [pureL, pureS, pureE]; done) | (intro _ _; exact rfl) | (intro _; exact rfl) | (intro _; exact trivial) | (intro _; exact .inl ⟨rfl, rfl, rfl⟩) | (intro i hi; rcases i with _ | _ | _ | _ | _ | _ | i <;> first | exact ⟨trivial, trivial⟩ | exact trivial | (simp [pureL, pureS, pureE, nthL]; done) | (exfalso; omega)) | (intro _; first | exact puN | exact puR | exact puM) | (intro _ _ _; simp [pureL, pureS, pureE]; done) | exact purX); exact rfl; exact Tryd.underlying43; exact Tryd.underlying5; (exact fun _ h => h); exact rfl)
      | ((with_reducible apply Sat.call ((c1 a b p q))); exact rfl; exact rfl; kernel_rfl; (exact cnvX); exact rfl)
      | ((with_reducible apply DSat.call ((c1 a b p q))); exact rfl; exact rfl; kernel_rfl; (exact cnvX); exact rfl)
      | ((with_reducible apply Sat.call ((c2 a b p q))); exact rfl; exact rfl; kernel_rfl; (exact cnvX); exact rfl)
      | ((with_reducible apply DSat.call ((c2 a b p q))); exact rfl; exact rfl; kernel_rfl; (exact cnvX); exact rfl)
      | ((with_reducible apply Sat.call ((c3 a b p q))); exact rfl; exact rfl; kernel_rfl; (exact cnvX); exact rfl)
      | ((with_reducible apply DSat.call ((c3 a b p q))); exact rfl; exact rfl; kernel_rfl; (exact cnvX); exact rfl)
      | ((with_reducible apply Sat.call ((c4 a b p q))); exact rfl; exact rfl; kernel_rfl; (exact cnvX); exact rfl)
      | ((with_reducible apply DSat.call ((c4 a b p q))); exact rfl; exact rfl; kernel_rfl; (exact cnvX); exact rfl)
      | ((with_reducible apply Sat.call ((c5 a b p q))); exact rfl; exact rfl; kernel_rfl; (exact cnvX); exact rfl)
      | ((with_reducible apply DSat.call ((c5 a b p q))); exact rfl; exact rfl; kernel_rfl; (exact cnvX); exact rfl)
      | ((with_reducible apply Sat.call ((u1 a b p q))); exact rfl; exact rfl; kernel_rfl; (exact cnvX); exact rfl)
      | ((with_reducible apply DSat.call ((u1 a b p q))); exact rfl; exact rfl; kernel_rfl; (exact cnvX); exact rfl)
      | ((with_reducible apply Sat.call ((u2 a b p q))); exact rfl; exact rfl; kernel_rfl; (exact cnvX); exact rfl)
      | ((with_reducible apply DSat.call ((u2 a b p q))); exact rfl; exact rfl; kernel_rfl; (exact cnvX); exact rfl)
      | ((with_reducible apply Sat.call ((u3 a b p q))); exact rfl; exact rfl; kernel_rfl; (exact cnvX); exact rfl)
      | ((with_reducible apply DSat.call ((u3 a b p q))); exact rfl; exact rfl; kernel_rfl; (exact cnvX); exact rfl)
      | ((with_reducible apply Sat.call (s1' a b p q)); exact rfl; exact rfl; kernel_rfl; ((repeat' (first | exact Convs.nil | apply Convs.cons | exact Conv.refl _ trivial | exact Conv.refl _ puN | exact Conv.refl _ puR | exact Conv.refl _ puM | (refine Conv.may _ _ _ ?_ ?_; first | exact rfl | (decide +kernel)) | exact Conv.refl _ purX))); exact rfl)
      | ((with_reducible apply Sat.call (s2' a b p q)); exact rfl; exact rfl; kernel_rfl; ((repeat' (first | exact Convs.nil | apply Convs.cons | exact Conv.refl _ trivial | exact Conv.refl _ puN | exact Conv.refl _ puR | exact Conv.refl _ puM | (refine Conv.may _ _ _ ?_ ?_; first | exact rfl | (decide +kernel)) | exact Conv.refl _ purX))); exact rfl)
      | ((with_reducible apply Sat.call (s3' a b p q)); exact rfl; exact rfl; kernel_rfl; ((repeat' (first | exact Convs.nil | apply Convs.cons | exact Conv.refl _ trivial | exact Conv.refl _ puN | exact Conv.refl _ puR | exact Conv.refl _ puM | (refine Conv.may _ _ _ ?_ ?_; first | exact rfl | (decide +kernel)) | exact Conv.refl _ purX))); exact rfl)
      | ((with_reducible apply Sat.call (d1 a b p q)); exact rfl; exact rfl; kernel_rfl; ((repeat' (first | exact Convs.nil | apply Convs.cons | exact Conv.refl _ trivial | exact Conv.refl _ puN | exact Conv.refl _ puR | exact Conv.refl _ puM | (refine Conv.may _ _ _ ?_ ?_; first | exact rfl | (decide +kernel)) | exact Conv.refl _ purX))); exact rfl)
      | ((with_reducible apply Sat.callR (e1' a b p q)); exact rfl; exact rfl; exact rfl; kernel_rfl; ((repeat' (first | exact Convs.nil | apply Convs.cons | exact Conv.refl _ trivial | exact Conv.refl _ puN | exact Conv.refl _ puR | exact Conv.refl _ puM | (refine Conv.may _ _ _ ?_ ?_; first | exact rfl | (decide +kernel)) | exact Conv.refl _ purX))); exact rfl)
      | ((with_reducible apply Sat.callR (p1' a b p q)); exact rfl; exact rfl; exact rfl; kernel_rfl; ((repeat' (first | exact Convs.nil | apply Convs.cons | exact Conv.refl _ trivial | exact Conv.refl _ puN | exact Conv.refl _ puR | exact Conv.refl _ puM | (refine Conv.may _ _ _ ?_ ?_; first | exact rfl | (decide +kernel)) | exact Conv.refl _ purX))); exact rfl)
      | ((with_reducible apply Sat.callR (r1' a b p q)); exact rfl; exact rfl; exact rfl; kernel_rfl; ((repeat' (first | exact Convs.nil | apply Convs.cons | exact Conv.refl _ trivial | exact Conv.refl _ puN | exact Conv.refl _ puR | exact Conv.refl _ puM | (refine Conv.may _ _ _ ?_ ?_; first | exact rfl | (decide +kernel)) | exact Conv.refl _ purX))); exact rfl)
      | ((with_reducible apply Sat.callR (f1' a b p q)); exact rfl; exact rfl; exact rfl; kernel_rfl; ((repeat' (first | exact Convs.nil | apply Convs.cons | exact Conv.refl _ trivial | exact Conv.refl _ puN | exact Conv.refl _ puR | exact Conv.refl _ puM | (refine Conv.may _ _ _ ?_ ?_; first | exact rfl | (decide +kernel)) | exact Conv.refl _ purX))); exact rfl)
      | ((with_reducible apply Sat.callR (f2' a b p q)); exact rfl; exact rfl; exact rfl; kernel_rfl; ((repeat' (first | exact Convs.nil | apply Convs.cons | exact Conv.refl _ trivial | exact Conv.refl _ puN | exact Conv.refl _ puR | exact Conv.refl _ puM | (refine Conv.may _ _ _ ?_ ?_; first | exact rfl | (decide +kernel)) | exact Conv.refl _ purX))); exact rfl)
      | ((with_reducible apply Sat.callR (f3' a b p q)); exact rfl; exact rfl; exact rfl; kernel_rfl; ((repeat' (first | exact Convs.nil | apply Convs.cons | exact Conv.refl _ trivial | exact Conv.refl _ puN | exact Conv.refl _ puR | exact Conv.refl _ puM | (refine Conv.may _ _ _ ?_ ?_; first | exact rfl | (decide +kernel)) | exact Conv.refl _ purX))); exact rfl)
      | ((with_reducible apply Sat.callR (v1' a b p q)); exact rfl; exact rfl; exact rfl; kernel_rfl; ((repeat' (first | exact Convs.nil | apply Convs.cons | exact Conv.refl _ trivial | exact Conv.refl _ puN | exact Conv.refl _ puR | exact Conv.refl _ puM | (refine Conv.may _ _ _ ?_ ?_; first | exact rfl | (decide +kernel)) | exact Conv.refl _ purX))); exact rfl)
      | ((with_reducible apply Sat.callR (v2' a b p q)); exact rfl; exact rfl; exact rfl; kernel_rfl; ((repeat' (first | exact Convs.nil | apply Convs.cons | exact Conv.refl _ trivial | exact Conv.refl _ puN | exact Conv.refl _ puR | exact Conv.refl _ puM | (refine Conv.may _ _ _ ?_ ?_; first | exact rfl | (decide +kernel)) | exact Conv.refl _ purX))); exact rfl)
      | ((with_reducible apply Sat.callR ((h1 a b p q))); exact rfl; exact rfl; exact rfl; kernel_rfl; (exact cnvX); exact rfl)
      | ((with_reducible apply DSat.callR ((h1 a b p q))); exact rfl; exact rfl; exact rfl; kernel_rfl; (exact cnvX); exact rfl)
      | (apply Sat.gon; exact rfl; first | exact rfl | (decide +kernel)) | fail)
  (refine Sat.fin (Sat.end1 rfl rfl rfl True.intro (.refl _ purX) (by first | exact .inl rfl | exact .inr rfl) (fun _ h => h)) ?_; (first | exact congrArg SV.bool (by decide +kernel) | exact rfl))
end
end Go.Proofs.YtmmpflifajjbjaaDoor
end
section
namespace Go.Proofs.YtmmpflifajjbjaaDoor
open Go.RowKit V
theorem frS_ge (at' : Int) (r : RawS) (_ : 0 ≤ at') : at' ≤ frS at' r ∧ frS at' r < toS at' r := by
  unfold toS frS
  cases r.code
  · simp only [cond_false]; omega
  · simp only [cond_true]; omega
theorem madeS_ord (n : Int) : ∀ (l : List RawS) (i : Nat) (at' : Int), 0 ≤ at' → ∀ k, k < (madeS n i at' l).length → at' ≤ ((madeS n i at' l).getD k sec0).fr ∧ ((madeS n i at' l).getD k sec0).fr < ((madeS n i at' l).getD k sec0).to ∧ ((madeS n i at' l).getD k sec0).to ≤ n ∧ ∀ j, k < j → j < (madeS n i at' l).length → ((madeS n i at' l).getD k sec0).to ≤ ((madeS n i at' l).getD j sec0).fr
  | [], i, at', h, k, hk => by simp [madeS] at hk
  | r :: l, i, at', h, k, hk => by
    have h1 := frS_ge at' r h
    rw [madeS] at hk ⊢
    cases hd : decide (n < toS at' r) with
    | true => rw [hd] at hk; simp at hk
    | false =>
      rw [hd] at hk
      have hd2 := of_decide_eq_false hd
      simp only [cond_false] at hk ⊢
      cases k with
      | zero =>
        refine ⟨h1.1, h1.2, by show toS at' r ≤ n; omega, fun j hj hl => ?_⟩
        cases j with
        | zero => omega
        | succ j => exact (madeS_ord n l (i + 1) (toS at' r) (by omega) j (by simpa using hl)).1
      | succ k =>
        obtain ⟨q1, q2, q3, q4⟩ := madeS_ord n l (i + 1) (toS at' r) (by omega) k (by simpa using hk)
        refine ⟨by show at' ≤ ((madeS n (i + 1) (toS at' r) l).getD k sec0).fr; omega, q2, q3, fun j hj hl => ?_⟩
        cases j with
        | zero => omega
        | succ j => exact q4 j (by omega) (by simpa using hl)
/-- At most one section has a byte: Find gives it, or -1. -/
theorem find_one (n : Int) (m : List RawS) (a : Int) : -1 ≤ idxL (findP a) (madeS n 0 0 m) 0 ∧ idxL (findP a) (madeS n 0 0 m) 0 < ((madeS n 0 0 m).length : Int) ∧ ∀ i, i < (madeS n 0 0 m).length → findP a ((madeS n 0 0 m).getD i sec0) = decide ((i : Int) = idxL (findP a) (madeS n 0 0 m) 0) := by
  have hord := madeS_ord n m 0 0 (Int.le_refl 0)
  generalize madeS n 0 0 m = l at hord
  have uniq : ∀ i j, i < l.length → j < l.length → findP a (l.getD i sec0) = true → findP a (l.getD j sec0) = true → i = j := fun i j hi hj h1 h2 => by
    unfold findP at h1 h2
    simp only [Bool.and_eq_true, decide_eq_true_eq] at h1 h2
    rcases Nat.lt_trichotomy i j with h | h | h
    · have := (hord i hi).2.2.2 j h hj
      omega
    · exact h
    · have := (hord j hj).2.2.2 i h hi
      omega
  by_cases h : ∃ x, x < l.length ∧ findP a (l.getD x sec0) = true
  · obtain ⟨x, hx, hp⟩ := h
    have e := idxL_at (findP a) sec0 l 0 x (fun i hi => by
      cases hq : findP a (l.getD i sec0) with
      | false => rfl
      | true => exact absurd (uniq i x (by omega) hx hq hp) (by omega)) hx hp
    rw [Nat.zero_add] at e
    rw [e]
    refine ⟨by omega, by omega, fun i hi => ?_⟩
    by_cases hix : i = x
    · subst hix
      rw [hp]
      simp
    · rw [decide_eq_false (by omega)]
      cases hq : findP a (l.getD i sec0) with
      | false => rfl
      | true => exact absurd (uniq i x hi hx hq hp) hix
  · have hn : ∀ i, i < l.length → findP a (l.getD i sec0) = false := fun i hi => by
      cases hq : findP a (l.getD i sec0) with
      | false => rfl
      | true => exact absurd ⟨i, hi, hq⟩ h
    rw [idxL_none (findP a) sec0 l 0 hn]
    refine ⟨by omega, by omega, fun i hi => ?_⟩
    rw [hn i hi, decide_eq_false (by omega)]
end Go.Proofs.YtmmpflifajjbjaaDoor
end
section
namespace Go.Proofs.YtmmpflifajjbjaaDoor
open Go.RowKit V
--PURE: (intro _ _; simp [pureL, pureS, pureE]; done)
set_option maxRecDepth 100000
set_option maxHeartbeats 4000000
set_option linter.unusedSimpArgs false
theorem madeS_len (n : Int) : ∀ (l : List RawS) (i : Nat) (at' : Int), (madeS n i at' l).length ≤ l.length
  | [], _, _ => by simp [madeS]
  | r :: l, i, at' => by
    rw [madeS]
    cases decide (n < toS at' r)
    · simpa using madeS_len n l (i + 1) (toS at' r)
    · simp
attribute [local irreducible] V.Sat V.DSat
theorem finds_law {Γ : Glob} (hs : Fun Tryd.prog Γ 9 [] (.bool true)) (m : List RawS) : Fun Tryd.prog Γ 5 [.ro (rawE m)] (.bool true) := by
  have hm : Fun Tryd.prog Γ 10 [.ro (.g m.length 4 fun i => [.int .u8 ((m.getD i raw0).gap.toNat : Int), .int .u8 ((m.getD i raw0).words.toNat : Int), .int .u8 ((m.getD i raw0).odd.toNat : Int), .bool (m.getD i raw0).code]), .int .i64 300] (.ro (secE (madeS 300 0 0 (m.take 8)))) := (made_spec m 300 (by omega)).weak
  have hf1 : ∀ a : Int, Fun Tryd.prog Γ 16 [.ro (secE (madeS 300 0 0 (m.take 8))), .int .i64 a] (.int .i64 (idxL (findP a) (madeS 300 0 0 (m.take 8)) 0)) := fun a => (find_spec _ a).weak
  have h1 := find_one 300 (m.take 8)
  have hl : (madeS 300 0 0 (m.take 8)).length ≤ 8 := Nat.le_trans (madeS_len 300 _ 0 0) (by rw [List.length_take]; omega)
  generalize madeS 300 0 0 (m.take 8) = l at hm hf1 h1 hl
  refine Fun.mkF 6 Tryd.func5 rfl Tryd.ntmps5 rfl rfl fun hf T w0 => ?_
  repeat' (first
      | ((with_reducible apply Sat.run (X := X64)); exact rfl; (first | exact True.intro | (exact phi) | skip))
      | ((with_reducible apply Sat.drawn); kernel_rfl)
      | ((with_reducible apply DSat.run (X := X64)); exact rfl; (first | exact True.intro | (exact phi) | skip))
      | ((with_reducible apply DSat.fin); kernel_rfl)
      | ((with_reducible apply Sat.callR (hs)); exact rfl; exact rfl; exact rfl; kernel_rfl; (exact cnvX); exact rfl)
      | ((with_reducible apply DSat.callR (hs)); exact rfl; exact rfl; exact rfl; kernel_rfl; (exact cnvX); exact rfl)
      | ((with_reducible apply Sat.call (hm)); exact rfl; exact rfl; kernel_rfl; (exact cnvX); exact rfl)
      | ((with_reducible apply DSat.call (hm)); exact rfl; exact rfl; kernel_rfl; (exact cnvX); exact rfl) | fail)
  apply Sat.loop (α := Nat) (fun x => x ≤ 304) (fun x => 304 - x) 0 (fun x => [(5, .int .i64 ((x : Int) - 2))]) (fun _ => []) [] [] 0
  · intro x; exact rfl
  · intro x; exact rfl
  · exact rfl
  · exact rfl
  · (repeat' (first | exact AllP.nil | with_reducible refine AllP.cons ?_ ?_)) <;> first | exact rfl | exact trivial | exact purX
  · exact Nat.zero_le _
  rintro x x1
  by_cases hx : x < 304
  · have hcc : (x : Int) - 2 < 302 := by omega
    have hfx := hf1 ((x : Int) - 2)
    obtain ⟨k1, k2, k3⟩ := h1 ((x : Int) - 2)
    have k3 : Hid (∀ i, i < l.length → findP ((x : Int) - 2) (l.getD i sec0) = decide ((i : Int) = idxL (findP ((x : Int) - 2)) l 0)) := k3
    have k2 : idxL (findP ((x : Int) - 2)) l 0 < ((secE l).len : Int) := k2
    repeat' (first
        | ((with_reducible apply Sat.run (X := X64)); exact rfl; (first | exact True.intro | (exact phi) | skip))
        | ((with_reducible apply Sat.drawn); kernel_rfl)
        | ((with_reducible apply DSat.run (X := X64)); exact rfl; (first | exact True.intro | (exact phi) | skip))
        | ((with_reducible apply DSat.fin); kernel_rfl)
        | ((with_reducible apply Sat.cond_t); exact rfl)
        | ((with_reducible apply Sat.cond_f); exact rfl)
        | ((with_reducible apply Sat.cond_pt); exact rfl; (try dsimp only [V.EV.sub, V.EV.len]); first | assumption | omega)
        | ((with_reducible apply Sat.cond_pf); exact rfl; (try dsimp only [V.EV.sub, V.EV.len]); first | assumption | omega)
        | ((with_reducible apply Sat.cond_p); exact rfl; all_goals intro h)
        | ((with_reducible apply Sat.cond); exact rfl; all_goals intro h)
        | ((with_reducible apply Sat.callR (hfx)); exact rfl; exact rfl; exact rfl; kernel_rfl; (exact cnvX); exact rfl)
        | ((with_reducible apply DSat.callR (hfx)); exact rfl; exact rfl; exact rfl; kernel_rfl; (exact cnvX); exact rfl) | fail)
    · exfalso
      have h : (bif decide (idxL (findP ((x : Int) - 2)) l 0 < -1) then true else decide (((secE l).len : Int) ≤ idxL (findP ((x : Int) - 2)) l 0)) = true := h
      rw [decide_eq_false (by omega), decide_eq_false (by omega)] at h
      cases h
    apply Sat.loop (α := Nat) (fun y => y ≤ l.length) (fun y => l.length - y) 0 (fun y => [(7, .int .i64 (y : Int))]) (fun _ => []) [] [] 0
    · intro x; exact rfl
    · intro x; exact rfl
    · exact rfl
    · exact rfl
    · (repeat' (first | exact AllP.nil | with_reducible refine AllP.cons ?_ ?_)) <;> first | exact rfl | exact trivial | exact purX
    · exact Nat.zero_le _
    rintro y y1
    by_cases hy : y < l.length
    · have hcy : (y : Int) < ((secE l).len : Int) := by show (y : Int) < (l.length : Int); omega
      repeat' (first
          | ((with_reducible apply Sat.run (X := X64)); exact rfl; (first | exact True.intro | (exact phi) | skip))
          | ((with_reducible apply Sat.drawn); kernel_rfl)
          | ((with_reducible apply DSat.run (X := X64)); exact rfl; (first | exact True.intro | (exact phi) | skip))
          | ((with_reducible apply DSat.fin); kernel_rfl)
          | ((with_reducible apply Sat.cond_t); exact rfl)
          | ((with_reducible apply Sat.cond_f); exact rfl)
          | ((with_reducible apply Sat.cond_pt); exact rfl; (try dsimp only [V.EV.sub, V.EV.len]); first | assumption | omega)
          | ((with_reducible apply Sat.cond_pf); exact rfl; (try dsimp only [V.EV.sub, V.EV.len]); first | assumption | omega)
          | ((with_reducible apply Sat.cond_p); exact rfl; all_goals intro h)
          | ((with_reducible apply Sat.cond); exact rfl; all_goals intro h) | fail)
      · exfalso
        have h : ((bif decide ((l.getD y sec0).fr ≤ (x : Int) - 2) then decide ((x : Int) - 2 < (l.getD y sec0).to) else false) != decide ((y : Int) = idxL (findP ((x : Int) - 2)) l 0)) = true := h
        have k3 : ∀ i, i < l.length → findP ((x : Int) - 2) (l.getD i sec0) = decide ((i : Int) = idxL (findP ((x : Int) - 2)) l 0) := k3
        have hk := k3 y hy
        unfold findP at hk
        rw [← show _ = decide ((y : Int) = idxL (findP ((x : Int) - 2)) l 0) from hk] at h
        revert h
        cases decide ((l.getD y sec0).fr ≤ (x : Int) - 2) <;> cases decide ((x : Int) - 2 < (l.getD y sec0).to) <;> exact fun h => (by cases h)
      · refine Sat.back (y + 1) [] rfl ?_ ?_ ?_
        · (repeat' (first | exact AllP.nil | with_reducible refine AllP.cons ?_ ?_)) <;> first | exact rfl | exact trivial | exact Int.natCast_add_one _ | exact purX
        · exact hy
        · omega
    · obtain rfl : y = l.length := by omega
      have hcy : ¬ ((l.length : Nat) : Int) < ((secE l).len : Int) := by show ¬ (l.length : Int) < (l.length : Int); omega
      repeat' (first
          | ((with_reducible apply Sat.run (X := X64)); exact rfl; (first | exact True.intro | (exact phi) | skip))
          | ((with_reducible apply Sat.drawn); kernel_rfl)
          | ((with_reducible apply DSat.run (X := X64)); exact rfl; (first | exact True.intro | (exact phi) | skip))
          | ((with_reducible apply DSat.fin); kernel_rfl)
          | ((with_reducible apply Sat.cond_t); exact rfl)
          | ((with_reducible apply Sat.cond_f); exact rfl)
          | ((with_reducible apply Sat.cond_pt); exact rfl; (try dsimp only [V.EV.sub, V.EV.len]); first | assumption | omega)
          | ((with_reducible apply Sat.cond_pf); exact rfl; (try dsimp only [V.EV.sub, V.EV.len]); first | assumption | omega)
          | ((with_reducible apply Sat.cond_p); exact rfl; all_goals intro h)
          | ((with_reducible apply Sat.cond); exact rfl; all_goals intro h) | fail)
      refine Sat.back (x + 1) [] rfl ?_ ?_ ?_
      · (repeat' (first | exact AllP.nil | with_reducible refine AllP.cons ?_ ?_)) <;> first | exact rfl | exact trivial | (show (x : Int) - 2 + 1 = ((x + 1 : Nat) : Int) - 2; omega) | exact purX
      · omega
      · omega
  · obtain rfl : x = 304 := by omega
    repeat' (first
        | ((with_reducible apply Sat.run (X := X64)); exact rfl; (first | exact True.intro | (exact phi) | skip))
        | ((with_reducible apply Sat.drawn); kernel_rfl)
        | ((with_reducible apply DSat.run (X := X64)); exact rfl; (first | exact True.intro | (exact phi) | skip))
        | ((with_reducible apply DSat.fin); kernel_rfl)
        | ((with_reducible apply Sat.cond_t); exact rfl)
        | ((with_reducible apply Sat.cond_f); exact rfl)
        | ((with_reducible apply Sat.cond_pt); exact rfl; (try dsimp only [V.EV.sub, V.EV.len]); first | assumption | omega)
        | ((with_reducible apply Sat.cond_pf); exact rfl; (try dsimp only [V.EV.sub, V.EV.len]); first | assumption | omega)
        | ((with_reducible apply Sat.cond_p); exact rfl; all_goals intro h)
        | ((with_reducible apply Sat.cond); exact rfl; all_goals intro h) | fail)
    (refine Sat.fin (Sat.end1 rfl rfl rfl True.intro (.refl _ purX) (by first | exact .inl rfl | exact .inr rfl) (fun _ h => h)) ?_; rfl)
end Go.Proofs.YtmmpflifajjbjaaDoor
end
section
namespace Go.Proofs.YtmmpflifajjbjaaDoor
open Go.RowKit Go.ChangeShapes Go.WideShapes V
set_option maxRecDepth 100000
set_option maxHeartbeats 4000000
theorem own : ownKnob Tryd.prog.godebug = none := by kernel_rfl
theorem laidOut : laidOutB Tryd.prog = true := by kernel_rfl
def tabs_laid : List (String × DataW Unit) := [("math/bits.deBruijn32tab", Rows.laid_math_bits_deBruijn32tab), ("math/bits.deBruijn64tab", Rows.laid_math_bits_deBruijn64tab), ("internal/strconv.uint64pow10", Rows.laid_internal_strconv_uint64pow10), ("unicode/utf8.acceptRanges", Rows.laid_unicode_utf8_acceptRanges), ("strconv.ErrRange", Rows.laid_strconv_ErrRange), ("strconv.ErrSyntax", Rows.laid_strconv_ErrSyntax), ("unicode/utf8.first", Rows.laid_unicode_utf8_first)]
theorem pow_data : (Rows.laid_internal_strconv_uint64pow10 : DataW Unit) = Lib.tabData .u64 Lib.pow10Tab := rfl
theorem star : "*" ++ "errors.errorString" = "*errors.errorString" := by decide
theorem row144 (u : TypeId) (h : Tryd.prog.typeName? 3 u = some "*errors.errorString") : u = 144 :=
  typeName_ptr_named (nm := "errors.errorString") (by rw [star]; kernel_rfl) (by kernel_rfl) (by decide) u (by rw [star]; exact h)
theorem gSyn : Tryd.prog.globalNamed "strconv.ErrSyntax" = some 2 := by kernel_rfl
theorem gRng : Tryd.prog.globalNamed "strconv.ErrRange" = some 3 := by kernel_rfl
/-- The table of a variable of one cell. -/
theorem one_rep {w : World} {g : Nat} {s : SV} {v : Value} {t : TypeId} {fr : Nat × Nat} (hh : w.heap[g]? = some (.cells #[v] t fr)) (hr : Rep E0 (fun _ => False) w s v) (h1 : s.one = true) :
    Rep E0 (fun _ => False) w (.rop (.g 1 1 fun _ => [s]) 0 0) (.pointer (some ⟨g, 0, none⟩)) ∧ ∃ t, w.shape? g = some (t, (EV.g 1 1 fun _ => [s]).len * (EV.g 1 1 fun _ => [s]).sz) := by
  refine ⟨.rop _ 0 0 g 0 (fun _ => [v]) (fun h => h) (fun i hi => rfl) (fun i j u hi hj => ?_) (fun i hi => .one _ _ _ _ h1 hr .nil) (Nat.lt_succ_self 0) (Nat.lt_succ_self 0) (Array.getElem?_eq_some_iff.1 hh).1, t, ?_⟩
  · have hi0 : i = 0 := by have : i < 1 := hi; omega
    subst hi0
    cases j with
    | zero =>
      simp only [List.getElem?_cons_zero, Option.some.injEq] at hj
      subst hj
      unfold World.cell?
      rw [hh]
      simp
    | succ j => simp at hj
  · unfold World.shape?
    rw [hh]
    rfl
theorem pow_rep {w : World} (h : Lib.TabIs Tryd.prog w "internal/strconv.uint64pow10" .u64 Lib.pow10Tab) :
    Rep E0 (fun _ => False) w (.rop (.ints .u64 Lib.pow10Tab) 0 0) (.pointer (some ⟨1, 0, none⟩)) ∧ ∃ t, w.shape? 1 = some (t, (EV.ints .u64 Lib.pow10Tab).len * (EV.ints .u64 Lib.pow10Tab).sz) := by
  unfold Lib.TabIs World.var? at h
  simp only [gPow, Option.bind_some] at h
  split at h
  · rename_i c t fr hh
    simp only [Option.some.injEq] at h
    have hcell : ∀ i, i < 20 → w.cell? ⟨1, i, none⟩ = some (.int .u64 (Lib.pow10Tab.getD i 0)) := fun i hi => by
      unfold World.cell?
      rw [hh]
      have h3 : i < Lib.pow10Tab.length := by rw [Lib.pow10Tab_length]; omega
      simp [h, List.getD, List.getElem?_eq_getElem h3]
    have hl : (EV.ints .u64 Lib.pow10Tab).len = 20 := by simp [EV.len, Lib.pow10Tab_length]
    refine ⟨.rop _ 0 0 1 0 (fun i => [.int .u64 (Lib.pow10Tab.getD i 0)]) (fun h => h) (fun i _ => rfl) (fun i j v hi hj => ?_) (fun i hi => ?_) (by rw [hl]; decide) (Nat.lt_succ_self 0) (block_lt_of_cell (hcell 0 (by decide))), t, ?_⟩
    · cases j with
      | zero =>
        simp only [List.getElem?_cons_zero, Option.some.injEq] at hj
        subst hj
        simpa [EV.sz] using hcell i (by omega)
      | succ j => simp at hj
    · refine .one _ _ _ _ rfl (.int _ _ ?_) .nil
      have hi' : i < 20 := by omega
      rw [Lib.pow10Tab_at i hi']
      have h5 : (10 : Nat) ^ i ≤ 10 ^ 19 := Nat.pow_le_pow_right (by decide) (by omega)
      have h6 : (10 : Nat) ^ 19 = 10000000000000000000 := by decide
      rw [h6] at h5
      generalize (10 : Nat) ^ i = q at h5
      exact inR_u64 (by omega) (by omega)
    · unfold World.shape?
      rw [hh]
      simp [h, EV.len, EV.sz]
  · cases h
/-- The error that a variable holds. -/
def errT (w : World) (g : Nat) : TypeId := match w.cell? ⟨g, 0, none⟩ with
  | some (.iface t _) => t
  | _ => 0
def errP (w : World) (g : Nat) : Value := match w.cell? ⟨g, 0, none⟩ with
  | some (.iface _ p) => p
  | _ => .nilIface
@[reducible] def Γw (w : World) : Glob := Γq (errT w 2) (errT w 3) (errP w 2) (errP w 3)
theorem err_rep2 {w : World} {n : String} {g : Nat} {t : TypeId} {p : Value} (hg : Tryd.prog.globalNamed n = some g) (h : w.var? Tryd.prog n = some #[.iface t p]) :
    Rep E0 (fun _ => False) w (.rop (.g 1 1 fun _ => [.ifc (errT w g) (.val (errP w g))]) 0 0) (.pointer (some ⟨g, 0, none⟩)) ∧ ∃ t', w.shape? g = some (t', (EV.g 1 1 fun _ => [.ifc (errT w g) (.val (errP w g))]).len * (EV.g 1 1 fun _ => [.ifc (errT w g) (.val (errP w g))]).sz) := by
  unfold World.var? at h
  simp only [hg, Option.bind_some] at h
  split at h
  · rename_i c ty fr hh
    simp only [Option.some.injEq] at h
    subst h
    have hc : w.cell? ⟨g, 0, none⟩ = some (.iface t p) := by unfold World.cell?; rw [hh]; simp
    have e1 : errT w g = t := by unfold errT; rw [hc]
    have e2 : errP w g = p := by unfold errP; rw [hc]
    rw [e1, e2]
    exact one_rep hh (.ifc _ _ _ (.val _)) rfl
  · cases h
theorem tabs_glob (W : World) (h : laidMetH Tryd.prog tabs_laid W) (hsh : W.ShapedOpen Tryd.prog) : GOk (Γw W) (fun _ => False) W := by
  have h1 : laidMet Tryd.prog tabs_laid W := by
    rw [MakeChecks.laidMetH_plain _ _ _ (by kernel_rfl)] at h
    exact h
  have h2 := h1.tail.tail
  rw [pow_data] at h2
  have h3 := pow_rep (Lib.tabIs_of_head gPow (by kernel_rfl) Tryd.underlying114 Tryd.underlying104 (by kernel_rfl) (by kernel_rfl) h2)
  have h4 := h1.tail.tail.tail.tail
  obtain ⟨a0, s0, hv0, _, _, _⟩ := laid_sentinel h4 gRng (by kernel_rfl) Tryd.underlying73 row144 Tryd.underlying144 Tryd.underlying146 rfl rfl Tryd.underlying9 (by kernel_rfl) (by kernel_rfl)
  obtain ⟨a1, s1, hv1, _, _, _⟩ := laid_sentinel h4.tail gSyn (by kernel_rfl) Tryd.underlying73 row144 Tryd.underlying144 Tryd.underlying146 rfl rfl Tryd.underlying9 (by kernel_rfl) (by kernel_rfl)
  have h5 := err_rep2 gRng hv0
  have h6 := err_rep2 gSyn hv1
  have h7 : Rep E0 (fun _ => False) W (.rop (.g 1 1 fun _ => [.anyi .i64]) 0 0) (.pointer (some ⟨0, 0, none⟩)) ∧ ∃ t, W.shape? 0 = some (t, (EV.g 1 1 fun _ => [SV.anyi .i64]).len * (EV.g 1 1 fun _ => [SV.anyi .i64]).sz) := by
    have hz : ((begin Tryd.prog (fun _ _ => 0) default).world.heap[0]?).bind Obj.row? = some (#[.int .i64 0], 3) := by kernel_rfl
    obtain ⟨m, hm⟩ := Go.Proofs.cell_of_shapedOpen_int hsh (g := 0) (by decide +kernel) hz rfl (by kernel_rfl) (by kernel_rfl) Tryd.underlying3
    obtain ⟨cs, hh, hs, _⟩ := hsh.1 0 _ _ (by decide +kernel) hz
    have h1s : cs.size = 1 := hs
    obtain ⟨v, rfl⟩ : ∃ v, cs = #[v] := by
      obtain ⟨l⟩ := cs
      rcases l with _ | ⟨v, _ | ⟨x, l⟩⟩
      · simp at h1s
      · exact ⟨v, rfl⟩
      · simp at h1s
    have hv : v = .int .i64 m := by
      unfold World.cell? at hm
      rw [hh] at hm
      simpa using hm
    subst hv
    exact one_rep hh (.anyi _ _) rfl
  have key : ∀ g e, gl (Γw W) g = some e → (g = 1 ∧ e = .ints .u64 Lib.pow10Tab) ∨ (g = 0 ∧ e = .g 1 1 fun _ => [.anyi .i64]) ∨ (g = 2 ∧ e = .g 1 1 fun _ => [.ifc (errT W 2) (.val (errP W 2))]) ∨ (g = 3 ∧ e = .g 1 1 fun _ => [.ifc (errT W 3) (.val (errP W 3))]) := by
    intro g e hg
    simp only [gl] at hg
    split at hg
    · rename_i hb
      exact .inl ⟨(Nat.eq_of_beq_eq_true hb).symm, by simpa using hg.symm⟩
    · split at hg
      · rename_i hb
        exact .inr (.inl ⟨(Nat.eq_of_beq_eq_true hb).symm, by simpa using hg.symm⟩)
      · split at hg
        · rename_i hb
          exact .inr (.inr (.inl ⟨(Nat.eq_of_beq_eq_true hb).symm, by simpa using hg.symm⟩))
        · split at hg
          · rename_i hb
            exact .inr (.inr (.inr ⟨(Nat.eq_of_beq_eq_true hb).symm, by simpa using hg.symm⟩))
          · cases hg
  refine ⟨fun g e hg => ?_, fun g e hg => ?_⟩ <;> rcases key g e hg with ⟨rfl, rfl⟩ | ⟨rfl, rfl⟩ | ⟨rfl, rfl⟩ | ⟨rfl, rfl⟩
  · exact h3.1
  · exact h7.1
  · exact h6.1
  · exact h5.1
  · exact h3.2
  · exact h7.2
  · exact h6.2
  · exact h5.2
theorem door_met (os : Os) (args : Array Value) : laidMetH Tryd.prog tabs_laid ((World.laidAll Tryd.prog os tabs_laid).forCall (fun _ _ => 0) ⟨#[], args, []⟩).memory := by
  rw [MakeChecks.laidMetH_plain _ _ _ (by kernel_rfl)]
  exact laidMet_laidAll _ (by kernel_rfl) (by kernel_rfl)
section
variable {H : Type} {enc : TypeId × Value → H}
/-- **A law's step**, where the tables are those of the world. -/
theorem law_step2 {C : Checked} {os : Os} {f : FuncId} {fn : Func} {s : OpenSpec} {F : Stop.Interp} {conds : List PathCond} {apart fresh handsOn again : Bool} {laid : List (String × DataW Unit)} {tb : TypeId} (Γ : World → Glob)
    (own : ownKnob C.prog.godebug = none) (started : os.Started) (noInit : C.prog.inits.idxOf? f = none) (hfn : C.prog.funcs[f]? = some fn)
    (hl : laidOutB C.prog = true) (hts : fn.params.toList.all (fun t => C.prog.readableRec t && decide (t < C.prog.types.size)) = true) (hok : fn.params.toList.all (okT C.prog 20) = true) (hrt : fn.resultTypes = #[tb]) (htb : C.prog.underlying tb = some .bool) (hvars : s.vars = [])
    (hspec : ∀ ds : List (DataW H), ds.length = fn.params.toList.length → s.fn F H ds = { results := [.lit (.bool true)], args := ds })
    (witness : ∃ (w : World) (tape : Tape) (i : Input), w.os = os ∧ (w.forCall tape i).Shaped C.prog ∧ i.vars = [] ∧ Input.okWide C.prog (w.forCall tape i) .any w.heap.size f i ∧
      s.preRow enc C.prog fn conds apart laid (w.forCall tape i).memory i.args ∧ ({} : Assume).holds C.prog (lone (Frame.enter C.prog f i.args .normal) [] (w.forCall tape i)))
    (glob : ∀ W : World, laidMetH C.prog laid W → W.ShapedOpen C.prog → GOk (Γ W) (fun _ => False) W)
    (law : ∀ (W : World) (vs : List Value) (ds : List (DataW H)), ds.length = fn.params.toList.length → Tup E0 (fun _ => False) W (svsOf C.prog fn.params.toList ds) vs → (∀ k, s.cond = some k → k H ds = true) → Fun C.prog (Γ W) f (svsOf C.prog fn.params.toList ds) (.bool true)) :
    ReturnsInHanded {} C os f .any (s.preRow enc C.prog fn conds apart laid) ((s.at F).post enc C.prog fn apart fresh handsOn again) := by
  refine law_lift own started noInit hfn hl (fun t ht => ?_) hrt htb hvars witness ?_
  · have := List.all_eq_true.1 hts t ht
    simpa using this
  · intro W base args ds ps hval hA _ hcond _ hL hsh
    obtain ⟨h1, h2⟩ := tup_args (T := fun _ => False) (fun _ h => h) hok (fun j t v ht hv => hval j t v (by simpa using ht) (by simpa using hv)) hA
    refine ⟨hspec ds h1, ?_⟩
    have h3 := law W args.toList ds h1 h2 hcond (fun _ => False) W args.toList (fun _ h => h.elim) (glob W hL hsh) h2
    simp only [Array.toArray_toList] at h3
    refine h3.mono fun e w' ⟨v, he, hr, hb⟩ => ?_
    cases hr
    exact ⟨he, hb⟩
end
end Go.Proofs.YtmmpflifajjbjaaDoor
end
section
namespace Go.Proofs.YtmmpflifajjbjaaDoor
open Go.RowKit V
set_option maxRecDepth 100000
section
variable {H : Type}
theorem map_nthD {α : Type} (f : DataW H → α) : ∀ (l : List (DataW H)) (i : Nat), (l.map f).getD i (f .nil) = f (nthD l i)
  | [], _ => rfl
  | _ :: _, 0 => rfl
  | _ :: l, i + 1 => map_nthD f l i
theorem nthD_out : ∀ (l : List (DataW H)) (i : Nat), l.length ≤ i → nthD l i = .nil
  | [], _, _ => rfl
  | x :: l, 0, h => by simp at h
  | x :: l, i + 1, h => nthD_out l i (by simpa using h)
theorem u8Of_i (x : DataW H) (h : inR .u8 (iOf x)) : iOf x = ((u8Of x).toNat : Int) := by
  have h1 := u8_iff h
  unfold u8Of
  have h2 : (iOf x).toNat < 256 := by omega
  rw [UInt8.toNat_ofNat_of_lt' h2]
  omega
@[reducible] def rawsSV (l : List (DataW H)) : EV := .g l.length 4 fun i => [.int .u8 (iOf (nthD (ptsD (nthD l i)) 0)), .int .u8 (iOf (nthD (ptsD (nthD l i)) 1)), .int .u8 (iOf (nthD (ptsD (nthD l i)) 2)), .bool (bOf (nthD (ptsD (nthD l i)) 3))]
def rawD (d : DataW H) : RawS := ⟨u8Of (nthD (ptsD d) 0), u8Of (nthD (ptsD d) 1), u8Of (nthD (ptsD d) 2), bOf (nthD (ptsD d) 3)⟩
theorem rawsSV_eq (l : List (DataW H)) (h : factsE (rawsSV l)) : rawsSV l = rawE (l.map rawD) := by
  show EV.g _ _ _ = EV.g _ _ _
  rw [List.length_map]
  congr 1
  funext i
  have e : (l.map rawD).getD i raw0 = rawD (nthD l i) := map_nthD rawD l i
  rw [e]
  by_cases hi : i < l.length
  · obtain ⟨h1, h2, h3, _⟩ := h i hi
    show [SV.int .u8 _, SV.int .u8 _, SV.int .u8 _, _] = [SV.int .u8 ((u8Of (nthD (ptsD (nthD l i)) 0)).toNat : Int), SV.int .u8 ((u8Of (nthD (ptsD (nthD l i)) 1)).toNat : Int), SV.int .u8 ((u8Of (nthD (ptsD (nthD l i)) 2)).toNat : Int), SV.bool (bOf (nthD (ptsD (nthD l i)) 3))]
    rw [← u8Of_i _ h1, ← u8Of_i _ h2, ← u8Of_i _ h3]
  · rw [nthD_out l i (by omega)]
    rfl
@[reducible] def secsSV (l : List (DataW H)) : EV := .g l.length 4 fun i => [.str (sOf (nthD (ptsD (nthD l i)) 0)), .int .i64 (iOf (nthD (ptsD (nthD l i)) 1)), .int .i64 (iOf (nthD (ptsD (nthD l i)) 2)), .bool (bOf (nthD (ptsD (nthD l i)) 3))]
def secD (d : DataW H) : SecL := ⟨sOf (nthD (ptsD d) 0), iOf (nthD (ptsD d) 1), iOf (nthD (ptsD d) 2), bOf (nthD (ptsD d) 3)⟩
theorem secsSV_eq (l : List (DataW H)) : secsSV l = secE (l.map secD) := by
  show EV.g _ _ _ = EV.g _ _ _
  rw [List.length_map]
  congr 1
  funext i
  have e : (l.map secD).getD i sec0 = secD (nthD l i) := map_nthD secD l i
  rw [e]
  rfl
@[reducible] def edsSV (l : List (DataW H)) : EV := .g l.length 2 fun i => [.int .u8 (iOf (nthD (ptsD (nthD l i)) 0)), .int .u8 (iOf (nthD (ptsD (nthD l i)) 1))]
def edD (d : DataW H) : EdL := ⟨u8Of (nthD (ptsD d) 0), u8Of (nthD (ptsD d) 1)⟩
theorem edsSV_eq (l : List (DataW H)) (h : factsE (edsSV l)) : edsSV l = edE (l.map edD) := by
  show EV.g _ _ _ = EV.g _ _ _
  rw [List.length_map]
  congr 1
  funext i
  have e : (l.map edD).getD i ed0 = edD (nthD l i) := map_nthD edD l i
  rw [e]
  by_cases hi : i < l.length
  · obtain ⟨h1, h2, _⟩ := h i hi
    show [SV.int .u8 _, SV.int .u8 _] = [SV.int .u8 ((u8Of (nthD (ptsD (nthD l i)) 0)).toNat : Int), SV.int .u8 ((u8Of (nthD (ptsD (nthD l i)) 1)).toNat : Int)]
    rw [← u8Of_i _ h1, ← u8Of_i _ h2]
  · rw [nthD_out l i (by omega)]
    rfl
end
end Go.Proofs.YtmmpflifajjbjaaDoor
end
section
namespace Go.Proofs.YtmmpflifajjbjaaDoor
open Go.RowKit V
set_option maxRecDepth 100000
/-- Ranges that follow one another, each behind a gap. -/
def Ord (n : Int) : Int → List RngL → Prop
  | _, [] => True
  | last, r :: l => last < r.lo ∧ r.lo < r.hi ∧ r.hi ≤ n ∧ Ord n r.hi l
theorem ord_at {n : Int} : ∀ {l : List RngL} {last : Int}, Ord n last l → ∀ i, i < l.length → (match i with | 0 => last | j + 1 => (l.getD j rng0).hi) < (l.getD i rng0).lo ∧ (l.getD i rng0).lo < (l.getD i rng0).hi ∧ (l.getD i rng0).hi ≤ n
  | [], _, _, i, hi => by simp at hi
  | r :: l, last, h, 0, _ => ⟨h.1, h.2.1, h.2.2.1⟩
  | r :: l, last, h, i + 1, hi => by
    have q := ord_at h.2.2.2 i (by simpa using hi)
    refine ⟨?_, q.2.1, q.2.2⟩
    cases i with
    | zero => exact q.1
    | succ j => exact q.1
theorem ord_right {n : Int} {l : List RngL} (h : Ord n (-1) l) : rightB l n = true := by
  unfold rightB
  refine decide_eq_true fun i hi => ?_
  have q := ord_at h i hi
  cases i with
  | zero => exact q
  | succ j => exact q
theorem ord_mem {n : Int} : ∀ {l : List RngL} {last : Int}, Ord n last l → ∀ r ∈ l, last < r.lo ∧ r.lo < r.hi ∧ r.hi ≤ n
  | [], _, _, r, hr => by cases hr
  | x :: l, last, h, r, hr => by
    rcases List.mem_cons.1 hr with rfl | hr
    · exact ⟨h.1, h.2.1, h.2.2.1⟩
    · have q := ord_mem h.2.2.2 r hr
      have h1 := h.1
      have h2 := h.2.1
      exact ⟨by omega, q.2⟩
/-- Is a place in one of the ranges? -/
def inS (l : List RngL) (i : Nat) : Bool := l.any fun r => decide (r.lo ≤ (i : Int)) && decide ((i : Int) < r.hi)
theorem inS_cons (r : RngL) (l : List RngL) (i : Nat) : inS (r :: l) i = ((decide (r.lo ≤ (i : Int)) && decide ((i : Int) < r.hi)) || inS l i) := rfl
theorem inS_before {n : Int} {l : List RngL} {last : Int} (h : Ord n last l) (i : Nat) (hi : (i : Int) ≤ last) : inS l i = false := by
  unfold inS
  rw [List.any_eq_false]
  intro r hr
  have := ord_mem h r hr
  rw [decide_eq_false (show ¬ r.lo ≤ (i : Int) by omega)]
  simp
def seg (b : List UInt8) (r : RngL) : List UInt8 := List.take (r.hi.toNat - r.lo.toNat) (List.drop r.lo.toNat b)
def pickL (b : List UInt8) (l : List RngL) : List UInt8 := l.flatMap (seg b)
theorem pickN_eq (b : List UInt8) (l : List RngL) : ∀ x, x ≤ l.length → pickN b l x = pickL b (l.take x)
  | 0, _ => rfl
  | x + 1, h => by
    rw [pickN, pickN_eq b l x (by omega)]
    unfold pickL
    rw [List.take_succ_eq_append_getElem (by omega), List.flatMap_append]
    congr 1
    rw [List.getD_eq_getElem?_getD, List.getElem?_eq_getElem (by omega)]
    simp [seg]
theorem pickN_all (b : List UInt8) (l : List RngL) : pickN b l l.length = pickL b l := by
  rw [pickN_eq b l _ (Nat.le_refl _), List.take_length]
theorem seg_len {b : List UInt8} {r : RngL} (h : r.hi ≤ b.length) (_ : 0 ≤ r.lo) : (seg b r).length = r.hi.toNat - r.lo.toNat := by
  unfold seg
  rw [List.length_take, List.length_drop]
  omega
theorem seg_get {b : List UInt8} {r : RngL} (j : Nat) (h : j < r.hi.toNat - r.lo.toNat) : (seg b r).getD j 0 = b.getD (r.lo.toNat + j) 0 := by
  unfold seg
  rw [List.getD_eq_getElem?_getD, List.getElem?_take_of_lt h, List.getElem?_drop, ← List.getD_eq_getElem?_getD]
theorem u8_ext {a b : List UInt8} (h : a.length = b.length) (h2 : ∀ i, i < a.length → a.getD i 0 = b.getD i 0) : a = b := by
  apply List.ext_getElem h
  intro i h3 h4
  have := h2 i h3
  rwa [List.getD_eq_getElem?_getD, List.getD_eq_getElem?_getD, List.getElem?_eq_getElem h3, List.getElem?_eq_getElem h4] at this
/-- The bytes of ranges, in number. -/
def sumR : List RngL → Nat
  | [] => 0
  | r :: l => (r.hi - r.lo).toNat + sumR l
theorem pickL_len (b : List UInt8) : ∀ (l : List RngL) (last : Int), -1 ≤ last → Ord b.length last l → (pickL b l).length = sumR l
  | [], _, _, _ => rfl
  | r :: l, last, h0, h => by
    have h1 := h.1
    have h2 := h.2.1
    show (seg b r ++ pickL b l).length = _
    rw [List.length_append, seg_len h.2.2.1 (by omega), pickL_len b l r.hi (by omega) h.2.2.2, sumR]
    omega
theorem sumR_le {n : Int} : ∀ (l : List RngL) (last : Int), -1 ≤ last → last ≤ n → Ord n last l → (sumR l : Int) ≤ n - last
  | [], _, _, _, _ => by simp [sumR]; omega
  | r :: l, last, h0, h9, h => by
    have h1 := h.1
    have h2 := h.2.1
    have h3 := h.2.2.1
    have := sumR_le l r.hi (by omega) h3 h.2.2.2
    rw [sumR]
    omega
theorem mid_get (out d : List UInt8) (lo k : Nat) (hk : k ≤ d.length) (ho : lo + k ≤ out.length) (i : Nat) : (out.take lo ++ d.take k ++ out.drop (lo + k)).getD i 0 = if lo ≤ i ∧ i < lo + k then d.getD (i - lo) 0 else out.getD i 0 := by
  have h1 : (out.take lo).length = lo := by rw [List.length_take]; omega
  have h2 : (d.take k).length = k := by rw [List.length_take]; omega
  simp only [List.getD_eq_getElem?_getD]
  rcases Nat.lt_or_ge i lo with hi | hi
  · rw [List.append_assoc, List.getElem?_append_left (by omega), List.getElem?_take_of_lt hi, if_neg (by omega)]
  rcases Nat.lt_or_ge i (lo + k) with hj | hj
  · rw [List.getElem?_append_left (by rw [List.length_append]; omega), List.getElem?_append_right (by omega), h1, List.getElem?_take_of_lt (by omega), if_pos ⟨hi, hj⟩]
  · rw [List.getElem?_append_right (by rw [List.length_append]; omega), List.length_append, h1, h2, List.getElem?_drop, if_neg (by omega), show lo + k + (i - (lo + k)) = i by omega]
theorem badR_ok {n last : Int} {r : RngL} {k : Nat} (h1 : last < r.lo) (h2 : r.lo < r.hi) (h3 : r.hi ≤ n) (h4 : r.hi - r.lo ≤ k) : badR n last r k = false := by
  unfold badR
  rw [decide_eq_false (by omega), decide_eq_false (by omega), decide_eq_false (by omega), decide_eq_false (by omega)]
  rfl
/-- Spread, where the ranges are in order and the bytes fit. -/
theorem spr_gen (n : Nat) : ∀ (l : List RngL) (last : Int) (out d : List UInt8), out.length = n → -1 ≤ last → Ord n last l → d.length = sumR l → ∃ c, sprS n last out l d = some c ∧ c.length = n ∧ pickL c l = d ∧ ∀ i, inS l i = false → c.getD i 0 = out.getD i 0
  | [], last, out, d, ho, _, _, hd => by
    have hd0 : d = [] := List.eq_nil_of_length_eq_zero hd
    subst hd0
    exact ⟨out, rfl, ho, rfl, fun _ _ => rfl⟩
  | r :: l, last, out, d, ho, h0, h, hd => by
    have h1 := h.1
    have h2 := h.2.1
    have h3 := h.2.2.1
    rw [sumR] at hd
    have hk : (r.hi - r.lo).toNat ≤ d.length := by omega
    have hf : r.lo.toNat + (r.hi - r.lo).toNat ≤ out.length := by omega
    obtain ⟨c, c1, c2, c3, c4⟩ := spr_gen n l r.hi (out.take r.lo.toNat ++ d.take (r.hi - r.lo).toNat ++ out.drop (r.lo.toNat + (r.hi - r.lo).toNat)) (d.drop (r.hi - r.lo).toNat) (by
      simp only [List.length_append, List.length_take, List.length_drop]; omega) (by omega) h.2.2.2 (by rw [List.length_drop]; omega)
    refine ⟨c, ?_, c2, ?_, ?_⟩
    · rw [sprS, badR_ok h1 h2 h3 (by omega)]
      exact c1
    · show seg c r ++ pickL c l = d
      rw [c3]
      have e : seg c r = d.take (r.hi - r.lo).toNat := by
        apply u8_ext
        · rw [seg_len (by omega) (by omega), List.length_take]; omega
        · intro j hj
          rw [seg_len (by omega) (by omega)] at hj
          rw [seg_get j hj, c4 _ (inS_before h.2.2.2 _ (by omega)), mid_get out d _ _ hk hf, if_pos (by omega), List.getD_eq_getElem?_getD, List.getD_eq_getElem?_getD, List.getElem?_take_of_lt (by omega), show r.lo.toNat + j - r.lo.toNat = j by omega]
      rw [e, List.take_append_drop]
    · intro i hi
      rw [inS_cons, Bool.or_eq_false_iff] at hi
      rw [c4 i hi.2, mid_get out d _ _ hk hf, if_neg]
      have q := hi.1
      rw [Bool.and_eq_false_iff, decide_eq_false_iff_not, decide_eq_false_iff_not] at q
      omega
/-- Two lists with the same bytes at the ranges. -/
theorem pick_inj : ∀ (l : List RngL) (last : Int) (a b : List UInt8), a.length = b.length → -1 ≤ last → Ord a.length last l → pickL a l = pickL b l → ∀ i, inS l i = true → a.getD i 0 = b.getD i 0
  | [], _, _, _, _, _, _, _, i, hi => by cases hi
  | r :: l, last, a, b, hab, h0, h, hp, i, hi => by
    have h1 := h.1
    have h2 := h.2.1
    have h3 := h.2.2.1
    have hp : seg a r ++ pickL a l = seg b r ++ pickL b l := hp
    obtain ⟨p1, p2⟩ := List.append_inj hp (by rw [seg_len h3 (by omega), seg_len (by omega) (by omega)])
    rw [inS_cons, Bool.or_eq_true, Bool.and_eq_true, decide_eq_true_eq, decide_eq_true_eq] at hi
    rcases hi with ⟨q1, q2⟩ | hi
    · have e1 := seg_get (b := a) (r := r) (i - r.lo.toNat) (by omega)
      have e2 := seg_get (b := b) (r := r) (i - r.lo.toNat) (by omega)
      rw [show r.lo.toNat + (i - r.lo.toNat) = i by omega] at e1 e2
      rw [← e1, ← e2, p1]
    · exact pick_inj l r.hi a b hab (by omega) h.2.2.2 p2 i hi
/-! ### Where two lists differ -/
theorem run_at (a b : List UInt8) : ∀ (n i : Nat), a.length - i ≤ n → (∀ j, i ≤ j → j < run a b i → a.getD j 0 ≠ b.getD j 0) ∧ (run a b i < a.length → a.getD (run a b i) 0 = b.getD (run a b i) 0)
  | 0, i, h => by
    rw [run, if_neg (by omega)]
    exact ⟨fun j h1 h2 => by omega, fun h1 => by omega⟩
  | n + 1, i, h => by
    rw [run]
    split
    · rename_i hc
      obtain ⟨h1, h2⟩ := run_at a b n (i + 1) (by omega)
      refine ⟨fun j q1 q2 => ?_, h2⟩
      rcases Nat.lt_or_ge i j with q | q
      · exact h1 j q q2
      · obtain rfl : j = i := by omega
        exact hc.2
    · rename_i hc
      refine ⟨fun j h1 h2 => by omega, fun h1 => ?_⟩
      have : ¬ (a.getD i 0 ≠ b.getD i 0) := fun q => hc ⟨h1, q⟩
      exact Decidable.not_not.1 this
theorem ord_mono {n : Int} : ∀ {l : List RngL} {last last' : Int}, last' ≤ last → Ord n last l → Ord n last' l
  | [], _, _, _, _ => True.intro
  | r :: l, _, _, h, q => ⟨by have := q.1; omega, q.2⟩
theorem chg_ord (a b : List UInt8) : ∀ (n i : Nat), a.length - i ≤ n → Ord a.length ((i : Int) - 1) (chg a b i)
  | 0, i, h => by rw [chg, if_neg (by omega)]; exact True.intro
  | n + 1, i, h => by
    rw [chg]
    split
    · rename_i hi
      obtain ⟨h1, h2⟩ := run_ge a b _ i (Nat.le_refl _)
      have ih := chg_ord a b n (run a b i + 1) (by omega)
      have h2 := h2 (by omega)
      split
      · exact ⟨by show (i : Int) - 1 < (i : Int); omega, by show (i : Int) < (run a b i : Int); omega, by show (run a b i : Int) ≤ (a.length : Int); omega, ord_mono (by show (run a b i : Int) ≤ _; omega) ih⟩
      · exact ord_mono (by omega) ih
    · exact True.intro
theorem chg_in (a b : List UInt8) : ∀ (n i : Nat), a.length - i ≤ n → ∀ j, i ≤ j → j < a.length → inS (chg a b i) j = decide (a.getD j 0 ≠ b.getD j 0)
  | 0, i, h, j, h1, h2 => by omega
  | n + 1, i, h, j, h1, h2 => by
    have hi : i < a.length := by omega
    obtain ⟨r1, r2⟩ := run_ge a b _ i (Nat.le_refl _)
    obtain ⟨q1, q2⟩ := run_at a b _ i (Nat.le_refl _)
    have hrest : ∀ k, k ≤ run a b i → inS (chg a b (run a b i + 1)) k = false := fun k hk => inS_before (chg_ord a b _ (run a b i + 1) (Nat.le_refl _)) k (by omega)
    rw [chg, if_pos hi]
    unfold inS
    rw [List.any_append]
    show (_ || inS (chg a b (run a b i + 1)) j) = _
    rcases Nat.lt_trichotomy j (run a b i) with hj | hj | hj
    · rw [hrest j (by omega), Bool.or_false, if_pos (by omega), decide_eq_true (q1 j h1 hj)]
      simp only [List.any_cons, List.any_nil, Bool.or_false]
      rw [decide_eq_true (by omega), decide_eq_true (by omega)]
      rfl
    · rw [hrest j (by omega), Bool.or_false, decide_eq_false (by rw [hj]; exact not_not_intro (q2 (by omega)))]
      split
      · simp only [List.any_cons, List.any_nil, Bool.or_false]
        rw [decide_eq_false (show ¬ (j : Int) < (run a b i : Int) by omega), Bool.and_false]
      · rfl
    · rw [chg_in a b n (run a b i + 1) (by omega) j (by omega) h2]
      have : (List.any (if i < run a b i then [⟨i, run a b i⟩] else []) fun r : RngL => decide (r.lo ≤ (j : Int)) && decide ((j : Int) < r.hi)) = false := by
        split
        · simp only [List.any_cons, List.any_nil, Bool.or_false]
          rw [decide_eq_false (show ¬ (j : Int) < (run a b i : Int) by omega), Bool.and_false]
        · rfl
      rw [this, Bool.false_or]
theorem chg_same (a : List UInt8) : ∀ (n i : Nat), a.length - i ≤ n → chg a a i = []
  | 0, i, h => by rw [chg, if_neg (by omega)]
  | n + 1, i, h => by
    have hr : run a a i = i := by rw [run, if_neg (by simp)]
    rw [chg, hr]
    split
    · rw [if_neg (by omega), List.nil_append, chg_same a n (i + 1) (by omega)]
    · rfl
/-- The bytes of b spread over the places at which a differs give b. -/
theorem chg_spr (a b x y : List UInt8) (hab : a.length = b.length) (hx : x.length = a.length) (hy : y.length = a.length) (h : ∀ i, i < a.length → (x.getD i 0 = y.getD i 0 ↔ a.getD i 0 = b.getD i 0)) : sprS a.length (-1) x (chg a b 0) (pickL y (chg a b 0)) = some y := by
  have ho : Ord a.length (-1) (chg a b 0) := chg_ord a b _ 0 (Nat.le_refl _)
  have hl := pickL_len y (chg a b 0) (-1) (by omega) (by rw [hy]; exact ho)
  obtain ⟨c, c1, c2, c3, c4⟩ := spr_gen a.length (chg a b 0) (-1) x (pickL y (chg a b 0)) hx (by omega) ho hl
  rw [c1]
  congr 1
  refine u8_ext (by omega) fun i hi => ?_
  cases hin : inS (chg a b 0) i with
  | true => exact pick_inj _ (-1) c y (by omega) (by omega) (by rw [c2]; exact ho) c3 i hin
  | false =>
    rw [c4 i hin]
    have := chg_in a b _ 0 (Nat.le_refl _) i (by omega) (by omega)
    rw [hin] at this
    exact (h i (by omega)).2 (Decidable.not_not.1 (of_decide_eq_false this.symm))
end Go.Proofs.YtmmpflifajjbjaaDoor
end
section
namespace Go.Proofs.YtmmpflifajjbjaaDoor
open Go.RowKit V
--PURE: (intro _ _; simp [pureL, pureS, pureE]; done)
set_option maxRecDepth 100000
set_option maxHeartbeats 800000
set_option linter.unusedSimpArgs false
theorem ord_lo {n : Int} {l : List RngL} (h : Ord n (-1) l) (i : Nat) (hi : i < l.length) : 0 ≤ (l.getD i rng0).lo ∧ (l.getD i rng0).lo < (l.getD i rng0).hi ∧ (l.getD i rng0).hi ≤ n := by
  have := ord_mem h (l.getD i rng0) (by rw [List.getD_eq_getElem?_getD, List.getElem?_eq_getElem hi]; exact List.getElem_mem hi)
  omega
theorem pick_take (b : List UInt8) (l : List RngL) (i : Nat) (hi : i ≤ l.length) : (pickN b l i).length ≤ (pickL b l).length := by
  rw [pickN_eq b l i hi]
  have : pickL b l = pickL b (l.take i) ++ pickL b (l.drop i) := by
    unfold pickL
    rw [← List.flatMap_append, List.take_append_drop]
  rw [this, List.length_append]
  omega
/-- pick, of ranges in order. -/
theorem pick_ord (b : List UInt8) (hb : b.length ≤ 100000) (l : List RngL) (h : Ord b.length (-1) l) : Fun Tryd.prog [] 22 [.ro (.u8 b), .ro (rngE l)] (.ro (.u8 (pickL b l))) := by
  have hs := sumR_le l (-1) (by omega) (by omega) h
  have hq := pick_spec b l (fun i hi => by have := ord_lo h i hi; omega) (fun i hi => by
    have := pick_take b l i hi
    rw [pickL_len b l (-1) (by omega) h] at this
    omega)
  rwa [pickN_all] at hq
theorem inS_step (l : List RngL) (k i : Nat) (h : k < l.length) : inS (l.take (k + 1)) i = (bif inS (l.take k) i then true else bif decide ((l.getD k rng0).lo ≤ (i : Int)) then decide ((i : Int) < (l.getD k rng0).hi) else false) := by
  unfold inS
  rw [List.take_succ_eq_append_getElem h, List.any_append, List.getD_eq_getElem?_getD, List.getElem?_eq_getElem h]
  simp only [List.any_cons, List.any_nil, Bool.or_false, Option.getD_some]
  cases (l.take k).any fun r => decide (r.lo ≤ (i : Int)) && decide ((i : Int) < r.hi) <;> cases decide (l[k].lo ≤ (i : Int)) <;> simp
theorem gz (y x : List UInt8) : (bif (bif (bif (bif true then decide ((0 : Int) = 0) else false) then decide ((0 : Int) = 0) else false) then decide (y = y) else false) then decide (x = x) else false) = true := by
  rw [decide_eq_true (show y = y from rfl), decide_eq_true (show x = x from rfl)]
  rfl
attribute [local irreducible] V.Sat V.DSat
theorem changes_law {Γ : Glob} (hs : Fun Tryd.prog Γ 9 [] (.bool true)) (b : List UInt8) (l : List EdL) : Fun Tryd.prog Γ 6 [.ro (.u8 b), .ro (edE l)] (.bool true) := by
  have h17 : Fun Tryd.prog Γ 17 [.ro (.u8 b), .int .i64 200] (.ro (.u8 (b.take 200))) := (limited_spec b 200 (by decide)).weak
  have hx : (b.take 200).length ≤ 200 := by rw [List.length_take]; omega
  generalize b.take 200 = x at h17 hx
  have h18 : Fun Tryd.prog Γ 18 [.ro (.u8 x), .ro (edE l)] (.ro (.u8 (editB x l))) := (edited_spec x (by omega) l).weak
  have hy : (editB x l).length = x.length := editN_len x l _
  generalize editB x l = y at h18 hy
  have h19 : Fun Tryd.prog Γ 19 [.ro (.u8 x), .ro (.u8 y)] (.ro (rngE (chg x y 0))) := changed_spec Γ x y (by omega) (by omega)
  have h19s : Fun Tryd.prog Γ 19 [.ro (.u8 x), .ro (.u8 x)] (.ro (rngE (chg x x 0))) := changed_spec Γ x x (by omega) (by omega)
  rw [chg_same x _ 0 (Nat.le_refl _)] at h19s
  have ho : Ord x.length (-1) (chg x y 0) := chg_ord x y _ 0 (Nat.le_refl _)
  have hin := chg_in x y _ 0 (Nat.le_refl _)
  have hb := fun i hi => ord_lo ho i hi
  have h20 : Fun Tryd.prog Γ 20 [.ro (rngE (chg x y 0)), .int .i64 (x.length : Int)] (.bool true) := by
    have h := right_spec (chg x y 0) x.length
    rw [ord_right ho] at h
    exact h.weak
  have h22y : Fun Tryd.prog Γ 22 [.ro (.u8 y), .ro (rngE (chg x y 0))] (.ro (.u8 (pickL y (chg x y 0)))) := (pick_ord y (by omega) _ (by rw [hy]; exact ho)).weak
  have h22x : Fun Tryd.prog Γ 22 [.ro (.u8 x), .ro (rngE (chg x y 0))] (.ro (.u8 (pickL x (chg x y 0)))) := (pick_ord x (by omega) _ ho).weak
  have h21y : Fun Tryd.prog Γ 21 [.ro (.u8 x), .ro (rngE (chg x y 0)), .ro (.u8 (pickL y (chg x y 0)))] (.tup [.ro (.u8 y), .int .i64 0]) := by
    have h := spread_spec x (by omega) (chg x y 0) (pickL y (chg x y 0)) (fun i hi => by have := hb i hi; omega)
    rw [chg_spr x y x y hy.symm rfl hy (fun _ _ => Iff.rfl)] at h
    exact h.weak
  have h21x : Fun Tryd.prog Γ 21 [.ro (.u8 y), .ro (rngE (chg x y 0)), .ro (.u8 (pickL x (chg x y 0)))] (.tup [.ro (.u8 x), .int .i64 0]) := by
    have h := spread_spec y (by omega) (chg x y 0) (pickL x (chg x y 0)) (fun i hi => by have := hb i hi; omega)
    rw [hy, chg_spr x y y x hy.symm hy rfl (fun _ _ => eq_comm)] at h
    exact h.weak
  have hRl : (chg x y 0).length ≤ x.length := chg_len x y
  generalize chg x y 0 = R at *
  generalize pickL y R = dy at *
  generalize pickL x R = dx at *
  refine Fun.mkF 7 Tryd.func6 rfl Tryd.ntmps6 rfl rfl fun hf T w0 => ?_
  repeat' (first
      | ((with_reducible apply Sat.run (X := X64)); exact rfl; (first | exact True.intro | (exact phi) | skip))
      | ((with_reducible apply Sat.drawn); kernel_rfl)
      | ((with_reducible apply DSat.run (X := X64)); exact rfl; (first | exact True.intro | (exact phi) | skip))
      | ((with_reducible apply DSat.fin); kernel_rfl)
      | ((with_reducible apply Sat.cond_t); exact rfl)
      | ((with_reducible apply Sat.cond_f); exact rfl)
      | ((with_reducible apply Sat.cond_pt); exact rfl; (try dsimp only [V.EV.sub, V.EV.len]); first | assumption | omega)
      | ((with_reducible apply Sat.cond_pf); exact rfl; (try dsimp only [V.EV.sub, V.EV.len]); first | assumption | omega)
      | ((with_reducible apply Sat.cond_p); exact rfl; all_goals intro h)
      | ((with_reducible apply Sat.cond); exact rfl; all_goals intro h)
      | ((with_reducible apply Sat.callR (hs)); exact rfl; exact rfl; exact rfl; kernel_rfl; (exact cnvX); exact rfl)
      | ((with_reducible apply DSat.callR (hs)); exact rfl; exact rfl; exact rfl; kernel_rfl; (exact cnvX); exact rfl)
      | ((with_reducible apply Sat.call (h17)); exact rfl; exact rfl; kernel_rfl; (exact cnvX); exact rfl)
      | ((with_reducible apply DSat.call (h17)); exact rfl; exact rfl; kernel_rfl; (exact cnvX); exact rfl)
      | ((with_reducible apply Sat.call (h18)); exact rfl; exact rfl; kernel_rfl; (exact cnvX); exact rfl)
      | ((with_reducible apply DSat.call (h18)); exact rfl; exact rfl; kernel_rfl; (exact cnvX); exact rfl)
      | ((with_reducible apply Sat.call (h19)); exact rfl; exact rfl; kernel_rfl; (exact cnvX); exact rfl)
      | ((with_reducible apply DSat.call (h19)); exact rfl; exact rfl; kernel_rfl; (exact cnvX); exact rfl)
      | ((with_reducible apply Sat.callR (h20)); exact rfl; exact rfl; exact rfl; kernel_rfl; (exact cnvX); exact rfl)
      | ((with_reducible apply DSat.callR (h20)); exact rfl; exact rfl; exact rfl; kernel_rfl; (exact cnvX); exact rfl) | fail)
  apply Sat.loop (α := Nat) (fun i => i ≤ x.length) (fun i => x.length - i) 0 (fun i => [(9, .int .i64 (i : Int))]) (fun _ => []) [] [] 0
  · intro x; exact rfl
  · intro x; exact rfl
  · exact rfl
  · exact rfl
  · (repeat' (first | exact AllP.nil | with_reducible refine AllP.cons ?_ ?_)) <;> first | exact rfl | exact trivial | exact purX
  · exact Nat.zero_le _
  rintro i i1
  by_cases hi : i < x.length
  · have hcc : (i : Int) < ((EV.u8 x).len : Int) := by show (i : Int) < (x.length : Int); omega
    repeat' (first
        | ((with_reducible apply Sat.run (X := X64)); exact rfl; (first | exact True.intro | (exact phi) | skip))
        | ((with_reducible apply Sat.drawn); kernel_rfl)
        | ((with_reducible apply DSat.run (X := X64)); exact rfl; (first | exact True.intro | (exact phi) | skip))
        | ((with_reducible apply DSat.fin); kernel_rfl)
        | ((with_reducible apply Sat.cond_t); exact rfl)
        | ((with_reducible apply Sat.cond_f); exact rfl)
        | ((with_reducible apply Sat.cond_pt); exact rfl; (try dsimp only [V.EV.sub, V.EV.len]); first | assumption | omega)
        | ((with_reducible apply Sat.cond_pf); exact rfl; (try dsimp only [V.EV.sub, V.EV.len]); first | assumption | omega)
        | ((with_reducible apply Sat.cond_p); exact rfl; all_goals intro h)
        | ((with_reducible apply Sat.cond); exact rfl; all_goals intro h) | fail)
    apply Sat.loop (α := Nat) (fun k => k ≤ R.length) (fun k => R.length - k) 0 (fun k => [(10, .bool (inS (R.take k) i)), (11, .int .i64 (k : Int))]) (fun _ => []) [] [] 0
    · intro x; exact rfl
    · intro x; exact rfl
    · exact rfl
    · exact rfl
    · (repeat' (first | exact AllP.nil | with_reducible refine AllP.cons ?_ ?_)) <;> first | exact rfl | exact trivial | exact purX
    · exact Nat.zero_le _
    rintro k k1
    by_cases hk : k < R.length
    · have hck : (k : Int) < ((rngE R).len : Int) := by show (k : Int) < (R.length : Int); omega
      repeat' (first
          | ((with_reducible apply Sat.run (X := X64)); exact rfl; (first | exact True.intro | (exact phi) | skip))
          | ((with_reducible apply Sat.drawn); kernel_rfl)
          | ((with_reducible apply DSat.run (X := X64)); exact rfl; (first | exact True.intro | (exact phi) | skip))
          | ((with_reducible apply DSat.fin); kernel_rfl)
          | ((with_reducible apply Sat.cond_t); exact rfl)
          | ((with_reducible apply Sat.cond_f); exact rfl)
          | ((with_reducible apply Sat.cond_pt); exact rfl; (try dsimp only [V.EV.sub, V.EV.len]); first | assumption | omega)
          | ((with_reducible apply Sat.cond_pf); exact rfl; (try dsimp only [V.EV.sub, V.EV.len]); first | assumption | omega)
          | ((with_reducible apply Sat.cond_p); exact rfl; all_goals intro h)
          | ((with_reducible apply Sat.cond); exact rfl; all_goals intro h) | fail)
      refine Sat.back (k + 1) [] rfl ?_ ?_ ?_
      · (repeat' (first | exact AllP.nil | with_reducible refine AllP.cons ?_ ?_)) <;> first | exact rfl | exact trivial | exact Int.natCast_add_one _ | exact (inS_step R k i hk).symm | exact purX
      · exact hk
      · omega
    · obtain rfl : k = R.length := by omega
      have hck : ¬ ((R.length : Nat) : Int) < ((rngE R).len : Int) := by show ¬ (R.length : Int) < (R.length : Int); omega
      repeat' (first
          | ((with_reducible apply Sat.run (X := X64)); exact rfl; (first | exact True.intro | (exact phi) | skip))
          | ((with_reducible apply Sat.drawn); kernel_rfl)
          | ((with_reducible apply DSat.run (X := X64)); exact rfl; (first | exact True.intro | (exact phi) | skip))
          | ((with_reducible apply DSat.fin); kernel_rfl)
          | ((with_reducible apply Sat.cond_t); exact rfl)
          | ((with_reducible apply Sat.cond_f); exact rfl)
          | ((with_reducible apply Sat.cond_pt); exact rfl; (try dsimp only [V.EV.sub, V.EV.len]); first | assumption | omega)
          | ((with_reducible apply Sat.cond_pf); exact rfl; (try dsimp only [V.EV.sub, V.EV.len]); first | assumption | omega)
          | ((with_reducible apply Sat.cond_p); exact rfl; all_goals intro h)
          | ((with_reducible apply Sat.cond); exact rfl; all_goals intro h) | fail)
      · exfalso
        rw [List.take_length, hin i (Nat.zero_le _) hi] at h
        have e : decide (((x.getD ((i : Int).toNat) 0).toNat : Int) ≠ ((y.getD ((i : Int).toNat) 0).toNat : Int)) = decide (x.getD i 0 ≠ y.getD i 0) := by
          rw [Int.toNat_natCast]
          refine decide_eq_decide.2 (not_congr ⟨fun q => UInt8.toNat_inj.1 (Int.ofNat.inj q), fun q => by rw [q]⟩)
        rw [e] at h
        cases hd : decide (x.getD i 0 ≠ y.getD i 0) <;> (rw [hd] at h; cases h)
      · refine Sat.back (i + 1) [] rfl ?_ ?_ ?_
        · (repeat' (first | exact AllP.nil | with_reducible refine AllP.cons ?_ ?_)) <;> first | exact rfl | exact trivial | exact Int.natCast_add_one _ | exact purX
        · exact hi
        · omega
  · obtain rfl : i = x.length := by omega
    have hcc : ¬ ((x.length : Nat) : Int) < ((EV.u8 x).len : Int) := by show ¬ (x.length : Int) < (x.length : Int); omega
    have hg := gz y x
    repeat' (first
        | ((with_reducible apply Sat.gon); exact rfl; first | exact rfl | assumption | (decide +kernel))
        | ((with_reducible apply Sat.run (X := X64)); exact rfl; (first | exact True.intro | (exact phi) | skip))
        | ((with_reducible apply Sat.drawn); kernel_rfl)
        | ((with_reducible apply DSat.run (X := X64)); exact rfl; (first | exact True.intro | (exact phi) | skip))
        | ((with_reducible apply DSat.fin); kernel_rfl)
        | ((with_reducible apply Sat.cond_t); exact rfl)
        | ((with_reducible apply Sat.cond_f); exact rfl)
        | ((with_reducible apply Sat.cond_pt); exact rfl; (try dsimp only [V.EV.sub, V.EV.len]); first | assumption | omega)
        | ((with_reducible apply Sat.cond_pf); exact rfl; (try dsimp only [V.EV.sub, V.EV.len]); first | assumption | omega)
        | ((with_reducible apply Sat.cond_p); exact rfl; all_goals intro h)
        | ((with_reducible apply Sat.cond); exact rfl; all_goals intro h)
        | ((with_reducible apply Sat.call (h22y)); exact rfl; exact rfl; kernel_rfl; (exact cnvX); exact rfl)
        | ((with_reducible apply DSat.call (h22y)); exact rfl; exact rfl; kernel_rfl; (exact cnvX); exact rfl)
        | ((with_reducible apply Sat.call (h22x)); exact rfl; exact rfl; kernel_rfl; (exact cnvX); exact rfl)
        | ((with_reducible apply DSat.call (h22x)); exact rfl; exact rfl; kernel_rfl; (exact cnvX); exact rfl)
        | ((with_reducible apply Sat.call (h21y)); exact rfl; exact rfl; kernel_rfl; (exact cnvX); exact rfl)
        | ((with_reducible apply DSat.call (h21y)); exact rfl; exact rfl; kernel_rfl; (exact cnvX); exact rfl)
        | ((with_reducible apply Sat.call (h21x)); exact rfl; exact rfl; kernel_rfl; (exact cnvX); exact rfl)
        | ((with_reducible apply DSat.call (h21x)); exact rfl; exact rfl; kernel_rfl; (exact cnvX); exact rfl)
        | ((with_reducible apply Sat.call (h19s)); exact rfl; exact rfl; kernel_rfl; (exact cnvX); exact rfl)
        | ((with_reducible apply DSat.call (h19s)); exact rfl; exact rfl; kernel_rfl; (exact cnvX); exact rfl) | fail)
    (refine Sat.fin (Sat.end1 rfl rfl rfl True.intro (.refl _ purX) (by first | exact .inl rfl | exact .inr rfl) (fun _ h => h)) ?_; (refine congrArg SV.bool (Eq.symm ?_); show (bif _ then decide ((([] : List RngL).length : Int) = 0) else false) = true; rw [hg]; rfl))
end Go.Proofs.YtmmpflifajjbjaaDoor
end
section
namespace Go.Proofs.YtmmpflifajjbjaaDoor
open Go.RowKit V
set_option maxRecDepth 100000
theorem ran_ord (n : Int) : ∀ (l : List EdL) (a : Int), 0 ≤ a → Ord n (a - 1) (ranS n a l)
  | [], _, _ => True.intro
  | e :: l, a, h => by
    rw [ranS]
    cases hd : decide (n < (rngS a e).hi) with
    | true => exact True.intro
    | false =>
      have hd2 := of_decide_eq_false hd
      have hh : (rngS a e).hi = a + (e.p.toNat % 9 : Nat) + 1 + (e.q.toNat % 9 : Nat) := rfl
      have hl : (rngS a e).lo = a + (e.p.toNat % 9 : Nat) := rfl
      have ih := ran_ord n l ((rngS a e).hi + 1) (by omega)
      rw [show (rngS a e).hi + 1 - 1 = (rngS a e).hi by omega] at ih
      exact ⟨by omega, by omega, by omega, ih⟩
theorem ord_take {n : Int} : ∀ {l : List RngL} {last : Int} (i : Nat), Ord n last l → Ord n last (l.take i)
  | [], _, _, _ => by simp [Ord]
  | r :: l, last, 0, _ => True.intro
  | r :: l, last, i + 1, h => ⟨h.1, h.2.1, h.2.2.1, ord_take i h.2.2.2⟩
theorem total_sum {n : Int} : ∀ {l : List RngL} {last : Int}, Ord n last l → totalR l = (sumR l : Int)
  | [], _, _ => rfl
  | r :: l, last, h => by
    have ih := total_sum h.2.2.2
    have h2 := h.2.1
    unfold totalR at ih ⊢
    rw [List.map_cons, List.sum_cons, ih, sumR]
    omega
/-- Total, of ranges in order. -/
theorem total_ord (l : List RngL) (n : Nat) (hn : n ≤ 100000) (h : Ord n (-1) l) : Fun Tryd.prog [] 24 [.ro (rngE l)] (.int .i64 (sumR l : Int)) := by
  rw [← total_sum h]
  refine total_spec l (fun i hi => ?_) (fun i hi => by have := ord_lo h i hi; omega)
  have ho := ord_take i h
  rw [total_sum ho]
  have := sumR_le (l.take i) (-1) (by omega) (by omega) ho
  omega
theorem spr_len (n : Int) : ∀ (l : List RngL) (last : Int) (out d : List UInt8), d.length ≠ sumR l → sprS n last out l d = none
  | [], last, out, d, h => by
    have h : d.length ≠ 0 := h
    rw [sprS, decide_eq_false h]
    rfl
  | r :: l, last, out, d, h => by
    rw [sprS]
    cases hb : badR n last r d.length with
    | true => rfl
    | false =>
      obtain ⟨b1, b2, b3, b4⟩ := badR_f hb
      refine spr_len n l _ _ _ ?_
      rw [sumR] at h
      rw [List.length_drop]
      omega
theorem spr_out (n : Int) : ∀ (l : List RngL) (last : Int) (out d : List UInt8), (∃ r ∈ l, n < r.hi) → sprS n last out l d = none
  | [], _, _, _, ⟨r, hr, _⟩ => by cases hr
  | x :: l, last, out, d, ⟨r, hr, hh⟩ => by
    rw [sprS]
    cases hb : badR n last x d.length with
    | true => rfl
    | false =>
      obtain ⟨b1, b2, b3, b4⟩ := badR_f hb
      rcases List.mem_cons.1 hr with rfl | hr
      · omega
      · exact spr_out n l _ _ _ ⟨r, hr, hh⟩
theorem spr_turn (n last : Int) (out d : List UInt8) (r1 r0 : RngL) (l : List RngL) (h : r0.lo ≤ r1.hi) : sprS n last out (r1 :: r0 :: l) d = none := by
  rw [sprS]
  cases hb : badR n last r1 d.length with
  | true => rfl
  | false =>
    rw [cond_false, sprS]
    have : badR n r1.hi r0 (List.drop (r1.hi - r1.lo).toNat d).length = true := by
      unfold badR
      rw [decide_eq_true h]
      rfl
    rw [this]
    rfl
/-- Where the piece before the k-th range begins. -/
def gapA (l : List RngL) : Nat → Int
  | 0 => 0
  | k + 1 => (l.getD k rng0).hi
theorem gap_le {n : Int} : ∀ {l : List RngL} {last : Int}, -1 ≤ last → last ≤ n → Ord n last l → ∀ k, k ≤ l.length → 0 ≤ n → 0 ≤ gapA l k ∧ gapA l k ≤ n ∧ (k < l.length → gapA l k ≤ (l.getD k rng0).lo) := by
  intro l last h0 h9 h k hk hn
  cases k with
  | zero =>
    refine ⟨Int.le_refl _, hn, fun hk => ?_⟩
    have : last < (l.getD 0 rng0).lo := (ord_at h 0 hk).1
    show 0 ≤ _
    omega
  | succ k =>
    have q := ord_at h k (by omega)
    have m := ord_mem h (l.getD k rng0) (by rw [List.getD_eq_getElem?_getD, List.getElem?_eq_getElem (by omega)]; exact List.getElem_mem _)
    refine ⟨by show 0 ≤ (l.getD k rng0).hi; omega, q.2.2, fun hk => ?_⟩
    have : (l.getD k rng0).hi < (l.getD (k + 1) rng0).lo := (ord_at h (k + 1) hk).1
    show (l.getD k rng0).hi ≤ _
    omega
theorem inS_false {l : List RngL} {j : Nat} (h : ∀ i, i < l.length → (j : Int) < (l.getD i rng0).lo ∨ (l.getD i rng0).hi ≤ (j : Int)) : inS l j = false := by
  unfold inS
  rw [List.any_eq_false]
  intro r hr
  obtain ⟨i, hi, rfl⟩ := List.getElem_of_mem hr
  have q := h i hi
  rw [List.getD_eq_getElem?_getD, List.getElem?_eq_getElem hi] at q
  have q : (j : Int) < l[i].lo ∨ l[i].hi ≤ (j : Int) := q
  rcases q with q | q
  · rw [decide_eq_false (show ¬ l[i].lo ≤ (j : Int) by omega)]; simp
  · rw [decide_eq_false (show ¬ (j : Int) < l[i].hi by omega)]; simp
theorem ord_lt {n : Int} : ∀ {l : List RngL} {last : Int}, Ord n last l → ∀ i j, i < j → j < l.length → (l.getD i rng0).hi < (l.getD j rng0).lo
  | [], _, _, i, j, _, hj => by simp at hj
  | r :: l, last, h, 0, j + 1, _, hj => by
    have hj : j < l.length := by simpa using hj
    exact (ord_mem h.2.2.2 (l.getD j rng0) (by rw [List.getD_eq_getElem?_getD, List.getElem?_eq_getElem hj]; exact List.getElem_mem hj)).1
  | r :: l, last, h, i + 1, j + 1, hij, hj => ord_lt h.2.2.2 i j (by omega) (by simpa using hj)
/-- The pieces between the ranges are in none of them. -/
theorem gap_out {n : Int} {l : List RngL} (h : Ord n (-1) l) (k : Nat) (hk : k ≤ l.length) (j : Nat) (h1 : gapA l k ≤ (j : Int)) (h2 : k < l.length → (j : Int) < (l.getD k rng0).lo) : inS l j = false := by
  refine inS_false fun i hi => ?_
  rcases Nat.lt_trichotomy i k with hik | rfl | hik
  · right
    cases k with
    | zero => omega
    | succ k =>
      have h1 : (l.getD k rng0).hi ≤ (j : Int) := h1
      rcases Nat.lt_or_ge i k with q | q
      · have a1 := ord_lt h i k q (by omega)
        have a2 := (ord_at h k (by omega)).2.1
        omega
      · obtain rfl : i = k := by omega
        exact h1
  · exact .inl (h2 hi)
  · left
    have a1 := ord_lt h k i hik hi
    have a2 := (ord_at h k (by omega)).2.1
    have a3 := h2 (by omega)
    omega
/-- The same bytes, piece by piece. -/
theorem piece_eq {a b : List UInt8} (hl : a.length = b.length) {p q : Nat} (h : ∀ j, p ≤ j → j < q → a.getD j 0 = b.getD j 0) : List.take (q - p) (List.drop p a) = List.take (q - p) (List.drop p b) := by
  apply u8_ext
  · simp only [List.length_take, List.length_drop]; omega
  · intro i hi
    simp only [List.length_take, List.length_drop] at hi
    have := h (p + i) (by omega) (by omega)
    simp only [List.getD_eq_getElem?_getD] at this ⊢
    rw [List.getElem?_take_of_lt (by omega), List.getElem?_take_of_lt (by omega), List.getElem?_drop, List.getElem?_drop]
    exact this
theorem len_sum {n : Int} : ∀ {l : List RngL} {last : Int}, Ord n last l → l.length ≤ sumR l
  | [], _, _ => Nat.le_refl _
  | r :: l, last, h => by
    have := len_sum h.2.2.2
    have h2 := h.2.1
    rw [sumR, List.length_cons]
    omega
/-- The bytes that are spread. -/
def datS (c : UInt8) : Nat → List UInt8
  | 0 => []
  | k + 1 => datS c k ++ [UInt8.ofNat (IntKind.u8.wrap ((c.toNat : Int) + IntKind.u8.wrap (k : Int))).toNat]
theorem datS_len (c : UInt8) : ∀ k, (datS c k).length = k
  | 0 => rfl
  | k + 1 => by rw [datS, List.length_append, datS_len c k]; rfl
/-- The ranges and one outside, as the law appends them. -/
def outF (R : List RngL) (n : Int) (i : Nat) : List SV := if i < 0 + R.length then (if i < 0 then nthL [] i else [.int .i64 (R.getD (i - 0) rng0).lo, .int .i64 (R.getD (i - 0) rng0).hi]) else nthL [[.int .i64 n, .int .i64 (n + 1)]] (0 + (i - (0 + R.length)))
def rngG (L : List RngL) (i : Nat) : List SV := [.int .i64 (L.getD i rng0).lo, .int .i64 (L.getD i rng0).hi]
theorem outF_eq (R : List RngL) (n : Int) (i : Nat) (hi : i < 0 + R.length + 1) : outF R n i = rngG (R ++ [⟨n, n + 1⟩]) i := by
  unfold outF rngG
  by_cases h : i < R.length
  · rw [if_pos (by omega), if_neg (Nat.not_lt_zero i), getD_app_l _ _ _ _ h]
    rfl
  · obtain rfl : i = R.length := by omega
    rw [if_neg (by omega), getD_app_r, show 0 + (R.length - (0 + R.length)) = 0 by omega]
    rfl
/-- The ranges, the first two turned. -/
def turF (R : List RngL) (i : Nat) : List SV := if i < 0 then nthL [] i else [.int .i64 (R.getD (i - 0) rng0).lo, .int .i64 (R.getD (i - 0) rng0).hi]
theorem turF_eq (R : List RngL) (i : Nat) : turF R i = rngG R i := by
  unfold turF
  rw [if_neg (Nat.not_lt_zero i)]
  rfl
def swpF (R : List RngL) (j : Nat) : List SV := if j = 0 + Int.toNat 1 then [.int .i64 (R.getD (Int.toNat 0) rng0).lo, .int .i64 (R.getD (Int.toNat 0) rng0).hi] else (if j = 0 + Int.toNat 0 then [.int .i64 (R.getD (Int.toNat 1) rng0).lo, .int .i64 (R.getD (Int.toNat 1) rng0).hi] else turF R j)
def swpL (R : List RngL) : List RngL := R.getD 1 rng0 :: R.getD 0 rng0 :: R.drop 2
theorem swpF_eq (R : List RngL) (j : Nat) : swpF R j = rngG (swpL R) j := by
  unfold swpF
  rw [turF_eq]
  rcases j with _ | _ | j
  · rfl
  · rfl
  · rw [if_neg (by show ¬ j + 1 + 1 = 0 + 1; omega), if_neg (by show ¬ j + 1 + 1 = 0 + 0; omega)]
    unfold rngG swpL
    have e : (R.getD 1 rng0 :: R.getD 0 rng0 :: R.drop 2).getD (j + 1 + 1) rng0 = R.getD (j + 1 + 1) rng0 := by
      simp only [List.getD_eq_getElem?_getD, List.getElem?_cons_succ, List.getElem?_drop]
      rw [show 2 + j = j + 1 + 1 by omega]
    rw [e]
theorem swpL_len (R : List RngL) (h : 2 ≤ R.length) : (swpL R).length = R.length := by
  simp [swpL]
  omega
theorem swpL_mem (R : List RngL) (h : 2 ≤ R.length) (p : RngL → Prop) (hp : ∀ i, i < R.length → p (R.getD i rng0)) : ∀ i, i < (swpL R).length → p ((swpL R).getD i rng0) := by
  intro i hi
  rw [swpL_len R h] at hi
  rcases i with _ | _ | i
  · exact hp 1 (by omega)
  · exact hp 0 (by omega)
  · have e : (swpL R).getD (i + 1 + 1) rng0 = R.getD (i + 1 + 1) rng0 := by
      unfold swpL
      simp only [List.getD_eq_getElem?_getD, List.getElem?_cons_succ, List.getElem?_drop]
      rw [show 2 + i = i + 1 + 1 by omega]
    rw [e]
    exact hp _ hi
theorem rngG_pure (L : List RngL) (i : Nat) : pureL (rngG L i) := by simp [rngG, pureL, pureS]
theorem rngG_len (L : List RngL) (n : Nat) (h : n = L.length) : rngE L = .g n 2 (rngG L) := by
  subst h
  rfl
end Go.Proofs.YtmmpflifajjbjaaDoor
end
section
namespace Go.Proofs.YtmmpflifajjbjaaDoor.V
open Go.RowKit
/-- A contract of any ending, by a walk. -/
theorem Fun.mkR {P : Program} {Γ : Glob} {f : FuncId} {fn : Func} {c : Code} {N : Nat} {args : List SV} {F : Tr} (R : (Nat → Prop) → World → Ending → World → Prop) (dep : Nat) (hf : P.funcs[f]? = some fn) (hb : fn.body = some c) (hN : fn.ntmps = N) (hle : Nat.ble args.length N = true) (hF : argT 0 args (Tr.mk dep) = some F)
    (h : ∀ (T : Nat → Prop) (w : World), Sat ⟨P, w, fun _ => False, T, Γ, N, [], [], false⟩ (bodyPost P fn (R T w)) (.code c F [] ids0 [])) : ∀ (T : Nat → Prop) (w : World) (vs : List Value), (∀ b, T b → b < w.heap.size) → GOk Γ T w → Tup E0 T w args vs → Calls P f vs.toArray w (R T w) := by
  intro T w vs hT hG ht
  have hle' := Nat.le_of_ble_eq_true hle
  have hlen := ht.len
  refine calls_of_wp hf hb (h T w (fun _ => True) E0 _ w ?_ ⟨rfl, ?_, fun t s hs => ?_, ⟨fun id B hf => by simp [find] at hf, fun id id' b hf => by simp [find] at hf⟩, fun id b hf => by simp [find] at hf, fun _ _ => rfl, ⟨rfl, rfl, rfl, Chg.refl _ w⟩, fun b hb => .inl ⟨hT b hb, fun h => h⟩, hG.mono (fun b _ hb => by rcases hb with ⟨id, B, hf, _⟩ | h0 <;> first | (simp [find] at hf; done) | exact h0) (Chg.refl _ w), fun p hp => (by cases hp), fun p hp => (by cases hp)⟩)
  · have : ∀ (l : List Nat) (n : Nat) (U : Nat → Prop), (∀ i, i < l.length → l[i]? = some (n + i)) → (∀ k, n ≤ k → U k) → Sup l U := by
      intro l
      induction l with
      | nil => intro n _ _ _; trivial
      | cons i r ih =>
        intro n U hl hU
        have hi : i = n := by simpa using hl 0 (by simp)
        refine ⟨hU i (by omega), ih (n + 1) _ (fun j hj => ?_) fun k hk => ⟨hU k (by omega), by omega⟩⟩
        have := hl (j + 1) (by simpa using hj)
        simpa [Nat.add_assoc, Nat.add_comm 1 j] using this
    exact this ids0 0 _ (by decide) fun _ _ => trivial
  · simp only [Array.size_append, List.size_toArray, Array.size_replicate, hlen, hN]; omega
  · rcases argT_get hF ht t s hs with ⟨q1, _⟩ | ⟨_, v, q2, q3⟩ | ⟨_, q2⟩
    · omega
    · have hlt : t < vs.length := by simpa using (List.getElem?_eq_some_iff.1 q2).1
      have : (vs.toArray ++ Array.replicate (fn.ntmps - vs.toArray.size) undef).getD t undef = v := by
        rw [Array.getD_eq_getD_getElem?, Array.getElem?_append_left (by simpa using hlt)]
        simp only [Nat.sub_zero] at q2
        simp [q2]
      rw [this]
      exact q3.mono (fun _ _ h => h) (fun b _ hb => by rcases hb with ⟨id, B, hf, _⟩ | h0 <;> first | (simp [find] at hf; done) | exact h0) (Chg.refl _ w)
    · rw [mk_get] at q2; cases q2

/-- A pure function whose result lies in new blocks alone. -/
def FunN (P : Program) (Γ : Glob) (f : FuncId) (args : List SV) (res : SV) : Prop :=
  ∀ (T : Nat → Prop) (w : World) (vs : List Value), (∀ b, T b → b < w.heap.size) → GOk Γ T w → Tup E0 T w args vs →
    Calls P f vs.toArray w fun e w' => ∃ v, e = .returned v ∧ Rep E0 (fun b => b < w.heap.size) w' res v ∧ Below w.heap.size w w'
theorem FunN.mkF {P : Program} {Γ : Glob} {f : FuncId} {fn : Func} {c : Code} {N : Nat} {args : List SV} {res : SV} {F : Tr} (dep : Nat) (hf : P.funcs[f]? = some fn) (hb : fn.body = some c) (hN : fn.ntmps = N) (hle : Nat.ble args.length N = true) (hF : argT 0 args (Tr.mk dep) = some F)
    (h : factsL args → ∀ (T : Nat → Prop) (w : World), Sat ⟨P, w, fun _ => False, T, Γ, N, [], [], false⟩ (bodyPost P fn (Post (fun b => b < w.heap.size) w res)) (.code c F [] ids0 [])) : FunN P Γ f args res :=
  fun T w vs hT hG ht => Fun.mkR (fun _ w => Post (fun b => b < w.heap.size) w res) dep hf hb hN hle hF (h ht.facts) T w vs hT hG ht
theorem FunN.weak {P : Program} {Γ : Glob} {f : FuncId} {args : List SV} {res : SV} (h : FunN P [] f args res) : FunN P Γ f args res :=
  fun T w vs hT _ ht => h T w vs hT ⟨fun g e h => by simp [gl] at h, fun g e h => by simp [gl] at h⟩ ht
/-- One's own row of bytes, as it is read from outside. -/
theorem row_fresh {E : Env} {T T' : Nat → Prop} {M : Mem} {w : World} (H : MOk E T M w) {id n : Nat} {t : TypeId} {l : List UInt8} (hf : find M id = some (.row t (.u8 l))) (hn : n = l.length) (ha : ∀ b, E id = some (some b) → ¬ T' b) {v : Value} (hr : Rep E T w (.row id 0 1 0 n) v) : Rep E0 T' w (.ro (.u8 l)) v := by
  subst hn
  cases hr with
  | row0 _ _ _ _ _ _ h0 => exact .ro0 _ h0
  | row _ _ _ _ _ b o c m ty hE hs ho hl ok =>
    obtain ⟨hlt, cs, cc, q1, q2, q3, q4, q5⟩ := H.at hf hE
    rcases Nat.eq_zero_or_pos c with hc | hc
    · have h0 : (EV.u8 l).len = 0 := by show l.length = 0; omega
      subst hc
      rw [show l.length = 0 from h0]
      exact .ro1 _ _ h0
    obtain ⟨h1, h2⟩ := ho (by omega)
    have h1 : o = 0 := by omega
    subst h1
    refine .ro (.u8 l) b 0 l.length c cc (ha b hE) q3 (fun i j u hi hj => ?_) (fun i hi => ?_) rfl hl ok hlt
    · rw [Nat.zero_add, cell_blk q1]; exact q4 i j u hi hj
    · have q := q5 i hi
      simp only [EV.items] at q ⊢
      generalize cc i = ci at q ⊢
      cases q with
      | one s c l cs h hr hl =>
        cases hr with
        | int _ _ hin =>
          cases hl
          exact .one _ _ _ _ rfl (.int _ _ hin) .nil
section
variable {C : Ctx} {Q0 : Exit → Act → World → Prop} {F F1 F' : Tr} {M M1 : Mem} {ids : List Nat} {k : List Kont} {full rest : List Oper}
theorem Sat.end2n {fn : Func} {ev : EV} {kk : IntKind} {n : Int} {e : Ex} {r r' : ResultVar} {φ φ' : List Prop} (hr : fn.results = #[r, r']) (h1 : resV C.P F M r = some (φ, .nils)) (h2 : resV C.P F M r' = some (φ', .int kk n)) (hφ : AllP φ) (hφ' : AllP φ') (h0 : ev.len = 0) (he : e = .ret ∨ e = .normal) (hS : ∀ b, ¬ C.S b) :
    Sat C (bodyPost C.P fn (Post (fun b => b < C.W0.heap.size) C.W0 (.tup [.ro ev, .int kk n]))) (.ext e F M ids []) := end_core he fun U E a w _ hst => by
  obtain ⟨v, q1, q2⟩ := resV_ok hst h1 hφ
  obtain ⟨v', q1', q2'⟩ := resV_ok hst h2 hφ'
  cases q1
  cases q1' with
  | int _ _ hin =>
  refine ⟨.tuple #[_, _], ?_, _, rfl, .tup _ [_, _] (.cons _ _ _ _ (.ro0 _ h0) (.cons _ _ _ _ (.int _ _ hin) .nil)), hst.post hS⟩
  unfold results
  rw [hr]
  exact mapM_run2 q2 q2'
theorem Sat.end2r {fn : Func} {id m : Nat} {t : TypeId} {l : List UInt8} {kk : IntKind} {n : Int} {e : Ex} {r r' : ResultVar} {φ φ' : List Prop} (hr : fn.results = #[r, r']) (h1 : resV C.P F M r = some (φ, .row id 0 1 0 m)) (h2 : resV C.P F M r' = some (φ', .int kk n)) (hφ : AllP φ) (hφ' : AllP φ') (hf : find M id = some (.row t (.u8 l))) (hm : m = l.length) (he : e = .ret ∨ e = .normal) (hS : ∀ b, ¬ C.S b) :
    Sat C (bodyPost C.P fn (Post (fun b => b < C.W0.heap.size) C.W0 (.tup [.ro (.u8 l), .int kk n]))) (.ext e F M ids []) := end_core he fun U E a w _ hst => by
  obtain ⟨v, q1, q2⟩ := resV_ok hst h1 hφ
  obtain ⟨v', q1', q2'⟩ := resV_ok hst h2 hφ'
  have q3 := row_fresh (T' := fun b => b < C.W0.heap.size) hst.mem hf hm (fun b hE hb => by
    rcases hst.own id b (by rw [hf]; rfl) hE with h | h
    · have hb : b < C.W0.heap.size := hb
      omega
    · exact hS b h) q1
  cases q1' with
  | int _ _ hin =>
  refine ⟨.tuple #[_, _], ?_, _, rfl, .tup _ [_, _] (.cons _ _ _ _ q3 (.cons _ _ _ _ (.int _ _ hin) .nil)), hst.post hS⟩
  unfold results
  rw [hr]
  exact mapM_run2 q2 q2'
/-- A call whose result is new: one's own rows may be given. -/
theorem Sat.callN {d : Option Tmp} {x : Operand} {f : FuncId} {xs : List Operand} {ats : Array TypeId} {type : TypeId} {pos : String} {after : Array Edge} {svs args : List SV} {res : SV}
    (hspec : FunN C.P C.Γ f args res) (hn : C.wide = false) (hx : argsF C.Γ F x xs = some (f, svs)) (hc : callable C.P f = true) (hconv : Convs M svs args) (hp : putD C.N F d (some res) some = some F') (h : Sat C Q0 (.reg full rest F' M ids k)) :
    Sat C Q0 (.reg full (⟨d, .call ⟨.value x, ⟨xs⟩, ats⟩, type, pos, after, none⟩ :: rest) F M ids k) := by
  intro U E a w hsup hst
  obtain ⟨F1, h1, h2⟩ := putD_inv hp
  cases h1
  refine wpList_plain rfl fun K hK => ?_
  unfold Oper.wp
  obtain ⟨vs, ht, hex⟩ := argsF_ok hst.vw hx
  rw [hex, run_callFunc_go hc]
  have ht' := Convs.tups (T' := C.T0) hst.mem (fun _ _ h => .inr h) (hst.apart hn) hconv ht
  refine (hspec C.T0 w _ (fun b hb => hst.lt hn b (.inr hb)) (hst.glob.mono (fun _ _ h => .inr h) (Chg.refl _ w)) ht').mono ?_
  rintro e w' ⟨v, rfl, hr, hb⟩
  exact hK _ _ (h U E _ w' hsup ((hst.below hb).putD h2 fun s' hs' => by cases hs'; exact hr.mono (fun _ _ h => by cases h) (fun b _ hb => hst.lt hn b hb) (Chg.refl _ w')))
end
end Go.Proofs.YtmmpflifajjbjaaDoor.V
end
section
namespace Go.Proofs.YtmmpflifajjbjaaDoor
open Go.RowKit V
--PURE: (intro _ _; simp [pureL, pureS, pureE]; done)
set_option maxRecDepth 100000
set_option maxHeartbeats 4000000
set_option linter.unusedSimpArgs false
attribute [local irreducible] V.Sat V.DSat
theorem spread_new (a : List UInt8) (ha : a.length ≤ 1000000) (l : List RngL) (d : List UInt8) (hr : ∀ i, i < l.length → -1000000 ≤ (l.getD i rng0).lo ∧ (l.getD i rng0).lo ≤ 1000000 ∧ -1000000 ≤ (l.getD i rng0).hi ∧ (l.getD i rng0).hi ≤ 1000000) :
    FunN Tryd.prog [] 21 [.ro (.u8 a), .ro (rngE l), .ro (.u8 d)] (sprV (sprS a.length (-1) a l d)) := by
  refine FunN.mkF 7 Tryd.func21 rfl Tryd.ntmps21 rfl rfl fun hf T w0 => ?_
  obtain ⟨_, ⟨hl, _⟩, ⟨hl2, _⟩, _⟩ := hf
  have hl : l.length ≤ 9223372036854775807 := hl
  have hl2 : d.length ≤ 9223372036854775807 := hl2
  have hq : (0 + (EV.u8 a).len) * (0 + 1) ≤ 140737488355328 := by show (0 + a.length) * (0 + 1) ≤ 140737488355328; omega
  repeat' (first
      | ((with_reducible apply Sat.run (X := X64)); exact rfl; (first | exact True.intro | (exact phi) | skip))
      | ((with_reducible apply Sat.drawn); kernel_rfl)
      | ((with_reducible apply DSat.run (X := X64)); exact rfl; (first | exact True.intro | (exact phi) | skip))
      | ((with_reducible apply DSat.fin); kernel_rfl)
      | ((with_reducible apply Sat.cond_t); exact rfl)
      | ((with_reducible apply Sat.cond_f); exact rfl)
      | ((with_reducible apply Sat.cond_pt); exact rfl; (try dsimp only [V.EV.sub, V.EV.len]); first | assumption | omega)
      | ((with_reducible apply Sat.cond_pf); exact rfl; (try dsimp only [V.EV.sub, V.EV.len]); first | assumption | omega)
      | ((with_reducible apply Sat.cond_p); exact rfl; all_goals intro h)
      | ((with_reducible apply Sat.cond); exact rfl; all_goals intro h)
      | ((with_reducible apply Sat.inl 7 [] Tryd.func41 Tryd.ntmps41); exact rfl; exact rfl; kernel_rfl; exact rfl; exact rfl; exact rfl; exact rfl; ((repeat' (first | exact AllP.nil | with_reducible refine AllP.cons ?_ ?_)) <;> (first | exact True.intro | exact purX)); intro _ _)
      | ((with_reducible apply Sat.out1 (C := ⟨_, _, _, _, _, _, _, _, _⟩)); exact rfl; (first | exact .inl rfl | exact .inr rfl); exact rfl; (exact phi); exact rfl)
      | ((with_reducible apply Sat.out0 (C := ⟨_, _, _, _, _, _, _, _, _⟩)); exact rfl; (first | exact .inl rfl | exact .inr rfl); exact rfl)
      | ((with_reducible apply Sat.out2 (C := ⟨_, _, _, _, _, _, _, _, _⟩)); exact rfl; (first | exact .inl rfl | exact .inr rfl); exact rfl; (exact phi); exact rfl; (exact phi); exact rfl)
      | ((with_reducible apply Sat.nilR); exact rfl; exact rfl; exact rfl; exact rfl) | fail)
  · intro h0
    have ha0 : a = [] := List.eq_nil_of_length_eq_zero h0
    repeat' (first
        | ((with_reducible apply Sat.run (X := X64)); exact rfl; (first | exact True.intro | (exact phi) | skip))
        | ((with_reducible apply Sat.drawn); kernel_rfl)
        | ((with_reducible apply DSat.run (X := X64)); exact rfl; (first | exact True.intro | (exact phi) | skip))
        | ((with_reducible apply DSat.fin); kernel_rfl)
        | ((with_reducible apply Sat.cond_t); exact rfl)
        | ((with_reducible apply Sat.cond_f); exact rfl)
        | ((with_reducible apply Sat.cond_pt); exact rfl; (try dsimp only [V.EV.sub, V.EV.len]); first | assumption | omega)
        | ((with_reducible apply Sat.cond_pf); exact rfl; (try dsimp only [V.EV.sub, V.EV.len]); first | assumption | omega)
        | ((with_reducible apply Sat.cond_p); exact rfl; all_goals intro h)
        | ((with_reducible apply Sat.cond); exact rfl; all_goals intro h)
        | ((with_reducible apply Sat.out1 (C := ⟨_, _, _, _, _, _, _, _, _⟩)); exact rfl; (first | exact .inl rfl | exact .inr rfl); exact rfl; (exact phi); exact rfl)
        | ((with_reducible apply Sat.out0 (C := ⟨_, _, _, _, _, _, _, _, _⟩)); exact rfl; (first | exact .inl rfl | exact .inr rfl); exact rfl)
        | ((with_reducible apply Sat.out2 (C := ⟨_, _, _, _, _, _, _, _, _⟩)); exact rfl; (first | exact .inl rfl | exact .inr rfl); exact rfl; (exact phi); exact rfl; (exact phi); exact rfl) | fail)
    apply Sat.loop (α := Unit) (fun _ => True) (fun _ => 0) () (fun _ => [(2, .ro (.u8 d)), (9, .int .i64 (-1)), (17, .int .i64 0)]) (fun _ => []) [] [] 0
    · intro x; exact rfl
    · intro x; exact rfl
    · exact rfl
    · exact rfl
    · (repeat' (first | exact AllP.nil | with_reducible refine AllP.cons ?_ ?_)) <;> first | exact rfl | exact trivial | exact ⟨rfl, rfl, rfl, rfl⟩ | exact purX
    · trivial
    rintro _ _
    by_cases hx : 0 < l.length
    · have hcc : (0 : Int) < ((rngE l).len : Int) := by show (0 : Int) < (l.length : Int); omega
      have q3 : -1000000 ≤ (l.getD ((0 : Int).toNat) rng0).lo ∧ (l.getD ((0 : Int).toNat) rng0).lo ≤ 1000000 ∧ -1000000 ≤ (l.getD ((0 : Int).toNat) rng0).hi ∧ (l.getD ((0 : Int).toNat) rng0).hi ≤ 1000000 := hr 0 hx
      have hal : ((EV.u8 a).len : Int) = 0 := by rw [h0]; rfl
      repeat' (first
          | ((with_reducible apply Sat.run (X := X64)); exact rfl; (first | exact True.intro | (exact phi) | skip))
          | ((with_reducible apply Sat.drawn); kernel_rfl)
          | ((with_reducible apply DSat.run (X := X64)); exact rfl; (first | exact True.intro | (exact phi) | skip))
          | ((with_reducible apply DSat.fin); kernel_rfl)
          | ((with_reducible apply Sat.cond_t); exact rfl)
          | ((with_reducible apply Sat.cond_f); exact rfl)
          | ((with_reducible apply Sat.cond_pt); exact rfl; (try dsimp only [V.EV.sub, V.EV.len]); first | assumption | omega)
          | ((with_reducible apply Sat.cond_pf); exact rfl; (try dsimp only [V.EV.sub, V.EV.len]); first | assumption | omega)
          | ((with_reducible apply Sat.cond_p); exact rfl; all_goals intro h)
          | ((with_reducible apply Sat.cond); exact rfl; all_goals intro h) | fail)
      · have h : badR a.length (-1) (l.getD 0 rng0) d.length = true := h
        have hd : l = l.getD 0 rng0 :: l.drop 1 := by
          have := List.drop_eq_getElem_cons hx
          rw [List.drop_zero] at this
          rw [List.getD_eq_getElem?_getD, List.getElem?_eq_getElem hx]
          exact this
        have hR : sprS a.length (-1) a l d = none := (congrArg (fun z => sprS a.length (-1) a z d) hd).trans (by
          show sprS a.length (-1) a (l.getD 0 rng0 :: l.drop 1) d = none
          rw [sprS, h]; rfl)
        rw [hR]
        refine Sat.fin (Sat.end2n rfl rfl rfl True.intro True.intro rfl (by first | exact .inl rfl | exact .inr rfl) (fun _ h => h)) rfl
      · exfalso
        obtain ⟨b1, b2, b3, b4⟩ := badR_f (show badR a.length (-1) (l.getD 0 rng0) d.length = false from h)
        have hal2 : (a.length : Int) = 0 := hal
        omega
    · have hl0 : l = [] := List.eq_nil_of_length_eq_zero (by omega)
      repeat' (first
          | ((with_reducible apply Sat.run (X := X64)); exact rfl; (first | exact True.intro | (exact phi) | skip))
          | ((with_reducible apply Sat.drawn); kernel_rfl)
          | ((with_reducible apply DSat.run (X := X64)); exact rfl; (first | exact True.intro | (exact phi) | skip))
          | ((with_reducible apply DSat.fin); kernel_rfl) | fail)
      with_reducible apply Sat.cond_pf
      · exact rfl
      · show ¬ (0 : Int) < (l.length : Int); omega
      repeat' (first
          | ((with_reducible apply Sat.run (X := X64)); exact rfl; (first | exact True.intro | (exact phi) | skip))
          | ((with_reducible apply Sat.drawn); kernel_rfl)
          | ((with_reducible apply DSat.run (X := X64)); exact rfl; (first | exact True.intro | (exact phi) | skip))
          | ((with_reducible apply DSat.fin); kernel_rfl)
          | ((with_reducible apply Sat.cond_t); exact rfl)
          | ((with_reducible apply Sat.cond_f); exact rfl)
          | ((with_reducible apply Sat.cond_pt); exact rfl; (try dsimp only [V.EV.sub, V.EV.len]); first | assumption | omega)
          | ((with_reducible apply Sat.cond_pf); exact rfl; (try dsimp only [V.EV.sub, V.EV.len]); first | assumption | omega)
          | ((with_reducible apply Sat.cond_p); exact rfl; all_goals intro h)
          | ((with_reducible apply Sat.cond); exact rfl; all_goals intro h) | fail)
      · have h : 0 < (d.length : Int) := h
        have hR : sprS a.length (-1) a l d = none := by rw [hl0, sprS, decide_eq_false (by omega)]; rfl
        rw [hR]
        refine Sat.fin (Sat.end2n rfl rfl rfl True.intro True.intro rfl (by first | exact .inl rfl | exact .inr rfl) (fun _ h => h)) rfl
      · have h : ¬ 0 < (d.length : Int) := h
        have hR : sprS a.length (-1) a l d = some a := by rw [hl0, sprS, decide_eq_true (by omega)]; rfl
        rw [hR]
        refine Sat.fin (Sat.end2n rfl rfl rfl True.intro True.intro h0 (by first | exact .inl rfl | exact .inr rfl) (fun _ h => h)) rfl
  apply Sat.loop (α := Nat × Int × List UInt8 × List UInt8) (fun x => x.1 ≤ l.length ∧ -1 ≤ x.2.1 ∧ x.2.1 ≤ a.length ∧ x.2.2.1.length = a.length ∧ x.2.2.2.length ≤ 9223372036854775807 ∧ Hid (sprS a.length (-1) a l d = sprS a.length x.2.1 x.2.2.1 (l.drop x.1) x.2.2.2)) (fun x => l.length - x.1) (0, -1, a, d) (fun x => [(2, .ro (.u8 x.2.2.2)), (9, .int .i64 x.2.1), (17, .int .i64 (x.1 : Int))]) (fun x => [(1, .row 5 (.u8 x.2.2.1))]) [] [] 0
  · intro x; exact rfl
  · intro x; exact rfl
  · exact rfl
  · exact rfl
  · (repeat' (first | exact AllP.nil | with_reducible refine AllP.cons ?_ ?_)) <;> first | exact rfl | exact trivial | exact ⟨rfl, rfl, rfl, rfl⟩ | exact purX
  · exact ⟨Nat.zero_le _, by dsimp only; omega, by dsimp only; omega, rfl, hl2, rfl⟩
  rintro ⟨x, last, out, dd⟩ ⟨x0, x1, x2, x3, x4, x5⟩
  dsimp only at x0 x1 x2 x3 x4 x5 ⊢
  by_cases hx : x < l.length
  · have hcc : (x : Int) < ((rngE l).len : Int) := by show (x : Int) < (l.length : Int); omega
    have q3 : -1000000 ≤ (l.getD ((x : Int).toNat) rng0).lo ∧ (l.getD ((x : Int).toNat) rng0).lo ≤ 1000000 ∧ -1000000 ≤ (l.getD ((x : Int).toNat) rng0).hi ∧ (l.getD ((x : Int).toNat) rng0).hi ≤ 1000000 := hr x hx
    have hd : Hid (l.drop x = l.getD x rng0 :: l.drop (x + 1)) := by
      show l.drop x = _
      rw [List.drop_eq_getElem_cons hx, List.getD_eq_getElem?_getD, List.getElem?_eq_getElem hx]
      rfl
    repeat' (first
        | ((with_reducible apply Sat.run (X := X64)); exact rfl; (first | exact True.intro | (exact phi) | skip))
        | ((with_reducible apply Sat.drawn); kernel_rfl)
        | ((with_reducible apply DSat.run (X := X64)); exact rfl; (first | exact True.intro | (exact phi) | skip))
        | ((with_reducible apply DSat.fin); kernel_rfl)
        | ((with_reducible apply Sat.cond_t); exact rfl)
        | ((with_reducible apply Sat.cond_f); exact rfl)
        | ((with_reducible apply Sat.cond_pt); exact rfl; (try dsimp only [V.EV.sub, V.EV.len]); first | assumption | omega)
        | ((with_reducible apply Sat.cond_pf); exact rfl; (try dsimp only [V.EV.sub, V.EV.len]); first | assumption | omega)
        | ((with_reducible apply Sat.cond_p); exact rfl; all_goals intro h)
        | ((with_reducible apply Sat.cond); exact rfl; all_goals intro h) | fail)
    · have h : badR a.length last (l.getD x rng0) dd.length = true := h
      have x5 : sprS a.length (-1) a l d = sprS a.length last out (l.drop x) dd := x5
      have hd : l.drop x = l.getD x rng0 :: l.drop (x + 1) := hd
      have hR : sprS a.length (-1) a l d = none := by rw [x5, hd, sprS, h]; rfl
      rw [hR]
      refine Sat.fin (Sat.end2n rfl rfl rfl True.intro True.intro rfl (by first | exact .inl rfl | exact .inr rfl) (fun _ h => h)) rfl
    · obtain ⟨b1, b2, b3, b4⟩ := badR_f (show badR a.length last (l.getD ((x : Int).toNat) rng0) dd.length = false from h)
      refine .cons (by omega) (.cons (by omega) (.cons ⟨?_, ?_⟩ .nil))
      · show (l.getD ((x : Int).toNat) rng0).lo.toNat ≤ (l.getD ((x : Int).toNat) rng0).hi.toNat
        omega
      · show (l.getD ((x : Int).toNat) rng0).hi.toNat ≤ 0 + a.length
        omega
    · obtain ⟨b1, b2, b3, b4⟩ := badR_f (show badR a.length last (l.getD ((x : Int).toNat) rng0) dd.length = false from h)
      with_reducible apply Sat.copyP
      · exact rfl
      · exact rfl
      · exact rfl
      · exact rfl
      · exact rfl
      · exact rfl
      · exact rfl
      · show 0 < (l.getD ((x : Int).toNat) rng0).hi.toNat - (l.getD ((x : Int).toNat) rng0).lo.toNat
        omega
      · show 0 + (l.getD ((x : Int).toNat) rng0).lo.toNat + ((l.getD ((x : Int).toNat) rng0).hi.toNat - (l.getD ((x : Int).toNat) rng0).lo.toNat) ≤ out.length
        omega
      · show (l.getD ((x : Int).toNat) rng0).hi.toNat - (l.getD ((x : Int).toNat) rng0).lo.toNat ≤ dd.length
        omega
      repeat' (first
          | ((with_reducible apply Sat.run (X := X64)); exact rfl; (first | exact True.intro | (exact phi) | skip))
          | ((with_reducible apply Sat.drawn); kernel_rfl)
          | ((with_reducible apply DSat.run (X := X64)); exact rfl; (first | exact True.intro | (exact phi) | skip))
          | ((with_reducible apply DSat.fin); kernel_rfl)
          | ((with_reducible apply Sat.cond_t); exact rfl)
          | ((with_reducible apply Sat.cond_f); exact rfl)
          | ((with_reducible apply Sat.cond_pt); exact rfl; (try dsimp only [V.EV.sub, V.EV.len]); first | assumption | omega)
          | ((with_reducible apply Sat.cond_pf); exact rfl; (try dsimp only [V.EV.sub, V.EV.len]); first | assumption | omega)
          | ((with_reducible apply Sat.cond_p); exact rfl; all_goals intro h)
          | ((with_reducible apply Sat.cond); exact rfl; all_goals intro h) | fail)
      have hk : badR a.length last (l.getD x rng0) dd.length = false := h
      have c1 : last < (l.getD x rng0).lo := b1
      have c2 : 0 < (l.getD x rng0).hi - (l.getD x rng0).lo := b2
      have c3 : (l.getD x rng0).hi ≤ a.length := b3
      have c4 : (l.getD x rng0).hi - (l.getD x rng0).lo ≤ dd.length := b4
      have e1 : (l.getD x rng0).hi.toNat - (l.getD x rng0).lo.toNat = ((l.getD x rng0).hi - (l.getD x rng0).lo).toNat := by omega
      have k1 : EV.u8 (List.take (0 + (l.getD x rng0).lo.toNat) out ++ List.take ((l.getD x rng0).hi.toNat - (l.getD x rng0).lo.toNat) dd ++ List.drop (0 + (l.getD x rng0).lo.toNat + ((l.getD x rng0).hi.toNat - (l.getD x rng0).lo.toNat)) out) = EV.u8 (out.take (l.getD x rng0).lo.toNat ++ dd.take ((l.getD x rng0).hi - (l.getD x rng0).lo).toNat ++ out.drop ((l.getD x rng0).lo.toNat + ((l.getD x rng0).hi - (l.getD x rng0).lo).toNat)) := by
        rw [e1, Nat.zero_add]
      have k2 : EV.u8 (List.take (dd.length - ((l.getD x rng0).hi - (l.getD x rng0).lo).toNat) (List.drop ((l.getD x rng0).hi - (l.getD x rng0).lo).toNat dd)) = EV.u8 (dd.drop ((l.getD x rng0).hi - (l.getD x rng0).lo).toNat) := by
        rw [List.take_of_length_le (by rw [List.length_drop]; exact Nat.le_refl _)]
      refine Sat.back (x + 1, (l.getD x rng0).hi, out.take (l.getD x rng0).lo.toNat ++ dd.take ((l.getD x rng0).hi - (l.getD x rng0).lo).toNat ++ out.drop ((l.getD x rng0).lo.toNat + ((l.getD x rng0).hi - (l.getD x rng0).lo).toNat), dd.drop ((l.getD x rng0).hi - (l.getD x rng0).lo).toNat) [] rfl ?_ ?_ ?_
      · (repeat' (first | exact AllP.nil | with_reducible refine AllP.cons ?_ ?_)) <;> first | exact rfl | exact trivial | exact Int.natCast_add_one _ | exact k1 | exact k2 | exact congrArg SV.ro k2 | exact ⟨rfl, rfl, rfl, rfl⟩ | exact purX
      · refine ⟨hx, by dsimp only; omega, c3, ?_, by dsimp only; rw [List.length_drop]; omega, ?_⟩
        · show (out.take (l.getD x rng0).lo.toNat ++ dd.take ((l.getD x rng0).hi - (l.getD x rng0).lo).toNat ++ out.drop ((l.getD x rng0).lo.toNat + ((l.getD x rng0).hi - (l.getD x rng0).lo).toNat)).length = a.length
          rw [splice_u8 _ _ _ _ (by omega) (by omega), x3]
        · show sprS a.length (-1) a l d = _
          have x5 : sprS a.length (-1) a l d = sprS a.length last out (l.drop x) dd := x5
          have hd : l.drop x = l.getD x rng0 :: l.drop (x + 1) := hd
          rw [x5, hd, sprS, hk]
          rfl
      · dsimp only; omega
  · obtain rfl : x = l.length := by omega
    repeat' (first
        | ((with_reducible apply Sat.run (X := X64)); exact rfl; (first | exact True.intro | (exact phi) | skip))
        | ((with_reducible apply Sat.drawn); kernel_rfl)
        | ((with_reducible apply DSat.run (X := X64)); exact rfl; (first | exact True.intro | (exact phi) | skip))
        | ((with_reducible apply DSat.fin); kernel_rfl) | fail)
    with_reducible apply Sat.cond_pf
    · exact rfl
    · show ¬ (l.length : Int) < (l.length : Int); omega
    have x5 : sprS a.length (-1) a l d = sprS a.length last out (l.drop l.length) dd := x5
    rw [List.drop_length, sprS] at x5
    repeat' (first
        | ((with_reducible apply Sat.run (X := X64)); exact rfl; (first | exact True.intro | (exact phi) | skip))
        | ((with_reducible apply Sat.drawn); kernel_rfl)
        | ((with_reducible apply DSat.run (X := X64)); exact rfl; (first | exact True.intro | (exact phi) | skip))
        | ((with_reducible apply DSat.fin); kernel_rfl)
        | ((with_reducible apply Sat.cond_t); exact rfl)
        | ((with_reducible apply Sat.cond_f); exact rfl)
        | ((with_reducible apply Sat.cond_pt); exact rfl; (try dsimp only [V.EV.sub, V.EV.len]); first | assumption | omega)
        | ((with_reducible apply Sat.cond_pf); exact rfl; (try dsimp only [V.EV.sub, V.EV.len]); first | assumption | omega)
        | ((with_reducible apply Sat.cond_p); exact rfl; all_goals intro h)
        | ((with_reducible apply Sat.cond); exact rfl; all_goals intro h) | fail)
    · have h : 0 < (dd.length : Int) := h
      have hR : sprS a.length (-1) a l d = none := by rw [x5, decide_eq_false (by omega)]; rfl
      rw [hR]
      refine Sat.fin (Sat.end2n rfl rfl rfl True.intro True.intro rfl (by first | exact .inl rfl | exact .inr rfl) (fun _ h => h)) rfl
    · have h : ¬ 0 < (dd.length : Int) := h
      have hR : sprS a.length (-1) a l d = some out := by rw [x5, decide_eq_true (by omega)]; rfl
      rw [hR]
      refine Sat.fin (Sat.end2r rfl rfl rfl True.intro True.intro rfl (by show 0 + a.length = out.length; omega) (by first | exact .inl rfl | exact .inr rfl) (fun _ h => h)) rfl
end Go.Proofs.YtmmpflifajjbjaaDoor
end
section
namespace Go.Proofs.YtmmpflifajjbjaaDoor.V
open Go.RowKit
theorem items_u8 {E : Env} {T : Nat → Prop} {w w' : World} {T' : Nat → Prop} {l : List UInt8} {i : Nat} {cs : List Value} (h : Items E T w ((EV.u8 l).items i) cs) : Items E0 T' w' ((EV.u8 l).items i) cs := by
  simp only [EV.items] at h ⊢
  cases h with
  | one s c l cs h hr hl =>
    cases hr with
    | int _ _ hin =>
      cases hl
      exact .one _ _ _ _ rfl (.int _ _ hin) .nil
theorem ro_new {E : Env} {T T' : Nat → Prop} {w w0 : World} (hT : ∀ b, T' b → b < w.heap.size) {cs : List Value} {elem : TypeId} {l : List UInt8} {c : Nat → List Value} {n cap : Nat}
    (q1 : ∀ i, i < (EV.u8 l).len → (c i).length = (EV.u8 l).sz) (q2 : ∀ i j v, i < (EV.u8 l).len → (c i)[j]? = some v → cs[i * (EV.u8 l).sz + j]? = some v) (q3 : ∀ i, i < (EV.u8 l).len → Items E T w0 ((EV.u8 l).items i) (c i)) (hn : n = l.length) (hl : n ≤ cap) (ok : okLen cap) :
    Rep E0 T' (w.drew.alloc (.cells cs.toArray elem)) (.ro (.u8 l)) (.slice (some ⟨w.heap.size, 0, none⟩) n cap) := by
  have hh : (w.drew.alloc (.cells cs.toArray elem)).heap[w.heap.size]? = some (.cells cs.toArray elem) := by
    rw [show w.heap.size = w.drew.heap.size from rfl, heap_alloc_new]
  refine .ro (.u8 l) w.heap.size 0 n cap c (fun h => absurd (hT _ h) (Nat.lt_irrefl _)) q1 (fun i j v hi hj => ?_) (fun i hi => items_u8 (q3 i hi)) hn hl ok (by rw [alloc_size]; exact Nat.lt_succ_self _)
  rw [Nat.zero_add, cell_blk hh]
  exact q2 i j v hi hj
theorem below_grown (w : World) (o : Obj) : Below w.heap.size w (w.drew.alloc o) :=
  ⟨rfl, rfl, rfl, by rw [alloc_size]; exact Nat.le_succ _, fun b hb => Below.heap_alloc w.drew o b hb⟩
section
variable {C : Ctx} {Q0 : Exit → Act → World → Prop} {F F1 F' : Tr} {M M1 : Mem} {ids : List Nat} {k : List Kont} {full rest : List Oper}
theorem St.appK {U : Nat → Prop} {E : Env} {a : Act} {w : World} (h : St C F M U E a w) (hn : C.wide = false) {elem t t' id : Nat} {s x : Operand} {zv : Value} {i : TypeInfo} {l m : List UInt8} {e0 : EV} {sx : SV} {φ : List Prop} {o : Oper}
    (hu : C.P.underlying t = some (.slice elem)) (hu' : ∃ e', C.P.underlying t' = some (.slice e')) (hi : C.P.info? elem = some i) (his : i.size = 1) (hby : i.bytes = 1) (hz : i.zero = some zv) (hzl : zv.cells.toList.length = 1) (h0 : e0.len = 0)
    (hs : Rep E (trk C.T0 M E) w (.row id 0 1 0 l.length) (a.eval s)) (hx : Rep E (trk C.T0 M E) w sx (a.eval x)) (hsrc : srcZ C.P M elem zv (0 + 1) e0 sx = some (φ, .u8 m)) (hφ : All φ) (hk : ∀ k m, sx ≠ .int k m) (hstr : ∀ l, sx ≠ .str l)
    (hm : 0 < m.length) (hf : find M id = some (.row elem (.u8 l))) (hfit : l.length + m.length ≤ 140737488355328) (ho : o.op = .call ⟨.builtin .append, ⟨[s, x]⟩, ⟨[t, t']⟩⟩) :
    ∃ v w', (execOp a.eval o).run C.P w = .ok (.value v) w' ∧ Rep E0 C.T0 w' (.ro (.u8 (l ++ m))) v ∧ St C F M U E a w' := by
  obtain ⟨c2, g0, g1, g3⟩ := srcZ_ok (sz := 1) h.mem hsrc hφ hx rfl Nat.one_pos h0 hzl (.inl ⟨hk, .inl hu'⟩) (fun ⟨kk, hk'⟩ => by
    obtain ⟨e', he⟩ := hu'
    rw [he] at hk'
    cases hk') (fun l hl => absurd hl (hstr l))
  have happ : (EV.u8 l).app (.u8 m) = some (.u8 (l ++ m)) := rfl
  have hnl : ((cellsN c2 (EV.u8 m).len).flatten).length = m.length * 1 := by rw [flat_len (cellsN_all g1), cellsN_len]; rfl
  have hlt0 : ∀ b, C.T0 b → b < w.heap.size := fun b hb => h.lt hn b (.inr hb)
  have hok : okLen (l.length + m.length) := by unfold okLen; omega
  have hsz0 : 0 < i.size := by omega
  generalize hsv : a.eval s = sv at hs
  cases hs with
  | row0 _ _ _ _ _ hE hl =>
    have hr := run_append_grow_a (P := C.P) w t t' o.type elem i zv hu hi hz hsz0 none 0 0 [] (by rw [run_firstCells_none]) (a.eval x) m.length _ (by rw [his, hby]; exact g0) (by omega) (by unfold okLen at hok; omega) (by rw [hby]; exact growslice_fits (by omega) (by omega))
    rw [← hsv] at hr
    simp only [Nat.zero_add, List.nil_append] at hr
    obtain ⟨c', q1, q2, q3⟩ := app_seg (c := fun _ => []) (cs := []) (rest := (Builtin.zeroCells zv.cells (grownCap w m.length 0 elem - m.length)).toList) happ rfl (fun i hi => by have hi : i < l.length := hi; omega) (fun i j v hi => by have hi : i < l.length := hi; omega) (fun i hi => by have hi : i < l.length := hi; omega) g1 g3 (by show l.length * 1 ≤ 0; omega)
    have hce : ((cellsN c2 (EV.u8 m).len).flatten.toArray ++ Builtin.zeroCells zv.cells (grownCap w m.length 0 elem - m.length) : Array Value) = (([] : List Value).take ((EV.u8 l).len * 1) ++ (cellsN c2 (EV.u8 m).len).flatten ++ (Builtin.zeroCells zv.cells (grownCap w m.length 0 elem - m.length)).toList).toArray := by
      apply Array.ext'; simp
    rw [hce] at hr
    exact ⟨_, _, exec_append ho hr, ro_new hlt0 q1 q2 q3 (by rw [List.length_append]; omega) (by have := grownCap_ge w m.length 0 elem; omega) (grownCap_ok _ _ _ _ (by unfold okLen; omega)), h.below (below_grown w _)⟩
  | row _ _ _ _ _ bb o0 k0 n t2 hE hsh hoo hl0 hok0 =>
    obtain ⟨hlt, cs, c, hh, hle, hc1, hc2, hc3⟩ := h.mem.at hf hE
    have hle : l.length * 1 ≤ cs.length := hle
    have hk0 : k0 ≠ 0 → o0 = 0 ∧ k0 ≤ cs.length := fun hk => by
      obtain ⟨p1, p2⟩ := hoo hk
      simp [World.shape?, hh] at hsh
      omega
    by_cases hroom : l.length + m.length ≤ k0
    · have hk1 : k0 ≠ 0 := by omega
      obtain ⟨p1, p2⟩ := hk0 hk1
      subst p1
      have hr := run_append_room_a (P := C.P) w t t' o.type elem i zv hu hi hz hsz0 bb 0 l.length k0 (a.eval x) m.length _ (by rw [his, hby]; exact g0) hroom
        (fun j hj => by
          have hj : j < ((cellsN c2 (EV.u8 m).len).flatten).length := hj
          rw [hnl] at hj
          rw [his, cell_blk hh, Nat.zero_add, List.getElem?_eq_getElem (by omega)]; rfl)
        (fun j hj => by simp [World.frozen?, hh])
      rw [← hsv] at hr
      have hw1 : w.setCells bb (0 + l.length * i.size) (cellsN c2 (EV.u8 m).len).flatten = w.setRow bb (cs.take (l.length * 1) ++ (cellsN c2 (EV.u8 m).len).flatten ++ cs.drop (l.length * 1 + m.length * 1)).toArray := by
        rw [his, Nat.zero_add, setCells_setRow bb elem _ _ cs.toArray w hh (by rw [hnl]; simp; omega), hnl]
      rw [hw1] at hr
      have hlen' : (cs.take (l.length * 1) ++ (cellsN c2 (EV.u8 m).len).flatten ++ cs.drop (l.length * 1 + m.length * 1)).length = cs.length := by
        rw [List.length_append, List.length_append, List.length_take, List.length_drop, hnl]; omega
      have hchg := Chg.setRow hh (show mine M E bb from ⟨id, _, hf, hE⟩) hlen'
      have hh' := setRow_heap w bb cs.toArray (cs.take (l.length * 1) ++ (cellsN c2 (EV.u8 m).len).flatten ++ cs.drop (l.length * 1 + m.length * 1)).toArray elem (0, 0) hh
      obtain ⟨c', q1, q2, q3⟩ := app_seg (rest := cs.drop (l.length * 1 + m.length * 1)) happ rfl hc1 hc2 hc3 g1 g3 hle
      refine ⟨_, _, exec_append ho hr, ?_, ?_⟩
      · refine .ro (.u8 (l ++ m)) bb 0 (l.length + m.length) k0 c' (h.apart hn id bb (by rw [hf]; rfl) hE) q1 (fun i j v hi hj => ?_) (fun i hi => items_u8 (q3 i hi)) (by show _ = (l ++ m).length; rw [List.length_append]) hroom hok0 (by simpa using hlt)
        rw [Nat.zero_add, cell_blk hh']
        exact q2 i j v hi hj
      · refine h.go (fun _ _ h => h) (fun _ _ h => h) hchg rfl rfl rfl ⟨fun k B hfk => ?_, h.mem.inj⟩ h.own h.fresh
        have hchg2 := hchg.weak (T' := trk C.T0 M E) fun _ => .inl
        rcases h.mem.blk k B hfk with ⟨b, h1, h2, h3⟩ | h1
        · refine .inl ⟨b, h1, by simpa using h2, ?_⟩
          by_cases hkid : k = id
          · subst hkid
            rw [hf] at hfk
            cases hfk
            rw [hE] at h1
            cases h1
            refine ⟨_, c, hh', by rw [hlen']; exact hle, hc1, fun i j v hi hj => ?_, fun i hi => (hc3 i hi).mono (fun _ _ h => h) (fun _ _ h => h) hchg2⟩
            have q := hc2 i j v hi hj
            have hj1 : j < 1 := by
              have := (List.getElem?_eq_some_iff.1 hj).1
              rw [hc1 i hi] at this
              exact this
            have hi : i < l.length := hi
            have hlt1 : i * 1 + j < l.length * 1 := by omega
            show (_ : List Value)[i * 1 + j]? = some v
            rw [List.append_assoc, List.getElem?_append_left (by rw [List.length_take]; omega), List.getElem?_take_of_lt hlt1]
            exact q
          · have hbb : b ≠ bb := fun e => hkid (h.mem.inj k id b (by rw [hfk]; rfl) (by rw [hf]; rfl) h1 (by rw [e]; exact hE))
            exact h3.mono (fun _ _ h => h) (fun _ _ h => h) hchg2 (setRow_other w bb b _ hbb)
        · exact .inr h1
    · have hold : (Builtin.firstCells i.size l.length (.slice (some ⟨bb, o0, none⟩) l.length k0)).run C.P w.drew = .ok (cs.take (l.length * 1)).toArray w.drew := by
        by_cases hn0 : l.length = 0
        · rw [hn0]
          simp [Builtin.firstCells, loadCells, loadCellsFrom]
        · obtain ⟨p1, p2⟩ := hk0 (by omega)
          refine run_firstCells_some w.drew i.size l.length _ _ _ _ (by rw [his, List.length_take]; omega) (fun j u hj => ?_)
          rw [Addr.add_mk, p1, Nat.zero_add]
          have : w.cell? ⟨bb, j, none⟩ = some u := by
            rw [cell_blk hh]
            rw [List.getElem?_take] at hj
            split at hj
            · exact hj
            · cases hj
          exact this
      have hr := run_append_grow_a (P := C.P) w t t' o.type elem i zv hu hi hz hsz0 (some ⟨bb, o0, none⟩) l.length k0 _ hold (a.eval x) m.length _ (by rw [his, hby]; exact g0) (by omega) (by unfold okLen at hok; omega) (by rw [hby]; exact growslice_fits (by omega) (by omega))
      rw [← hsv] at hr
      obtain ⟨c', q1, q2, q3⟩ := app_seg (rest := (Builtin.zeroCells zv.cells (grownCap w (l.length + m.length) k0 elem - (l.length + m.length))).toList) happ rfl hc1 hc2 hc3 g1 g3 hle
      have hce : (((cs.take (l.length * 1) ++ (cellsN c2 (EV.u8 m).len).flatten).toArray ++ Builtin.zeroCells zv.cells (grownCap w (l.length + m.length) k0 elem - (l.length + m.length))) : Array Value) = (cs.take ((EV.u8 l).len * 1) ++ (cellsN c2 (EV.u8 m).len).flatten ++ (Builtin.zeroCells zv.cells (grownCap w (l.length + m.length) k0 elem - (l.length + m.length))).toList).toArray := by
        apply Array.ext'; simp [EV.len]
      rw [hce] at hr
      exact ⟨_, _, exec_append ho hr, ro_new hlt0 q1 q2 q3 (by rw [List.length_append]) (grownCap_ge ..) (grownCap_ok _ _ _ _ hok), h.below (below_grown w _)⟩
/-- Bytes are appended, and the new slice is given to a call alone, as its third argument; the call returns a pair of which the second part is a number. What was known of the old slice is known behind it. -/
theorem Sat.appCall {dA : Tmp} {d : Option Tmp} {s x y : Operand} {t t' ty : TypeId} {posA : String} {afterA : Array Edge} {f : FuncId} {xs : List Operand} {ats : Array TypeId} {type : TypeId} {pos : String} {after : Array Edge} {elem id n : Nat} {zv : Value} {i : TypeInfo} {l m : List UInt8} {e0 : EV} {sx s1 s2 a1 a2 r0 : SV} {φ : List Prop} {kk : IntKind} {r : Int} {F1 : Value → Tr} {F2 : Value → Value → Tr}
    (hspec : Fun C.P C.Γ f [a1, a2, .ro (.u8 (l ++ m))] (.tup [r0, .int kk r])) (hn : C.wide = false)
    (hs : opd C.Γ F s = some (.row id 0 1 0 n)) (hx : opd C.Γ F x = some sx) (hf : find M id = some (.row elem (.u8 l))) (hl : n = l.length)
    (hu : C.P.underlying t = some (.slice elem)) (hu' : ∃ e', C.P.underlying t' = some (.slice e')) (hi : C.P.info? elem = some i) (his : i.size = 1) (hby : i.bytes = 1) (hz : i.zero = some zv) (hzl : zv.cells.toList.length = 1) (h0 : e0.len = 0)
    (hsrc : srcZ C.P M elem zv (0 + 1) e0 sx = some (φ, .u8 m)) (hφ : AllP φ) (hk : ∀ k m, sx ≠ .int k m) (hstr : ∀ l, sx ≠ .str l) (hm : 0 < m.length) (hfit : l.length + m.length ≤ 140737488355328)
    (hp1 : ∀ v, putD C.N F (some dA) (some (.val v)) some = some (F1 v)) (hargs : ∀ v, argsF C.Γ (F1 v) y xs = some (f, [s1, s2, .val v])) (hc : callable C.P f = true) (hconv : Convs M [s1, s2] [a1, a2])
    (hp2 : ∀ v u, putD C.N (F1 v) d (some (.tup [.val u, .int kk r])) some = some (F2 v u))
    (h : ∀ v u, Sat C Q0 (.reg full rest (F2 v u) M ids k)) :
    Sat C Q0 (.reg full (⟨some dA, .call ⟨.builtin .append, ⟨[s, x]⟩, ⟨[t, t']⟩⟩, ty, posA, afterA, none⟩ :: ⟨d, .call ⟨.value y, ⟨xs⟩, ats⟩, type, pos, after, none⟩ :: rest) F M ids k) := by
  subst hl
  intro U E a w hsup hst
  refine wpList_plain rfl fun K hK => ?_
  unfold Oper.wp
  obtain ⟨v, w1, hr, hv, hst1⟩ := hst.appK (o := ⟨some dA, .call ⟨.builtin .append, ⟨[s, x]⟩, ⟨[t, t']⟩⟩, ty, posA, afterA, none⟩) hn hu hu' hi his hby hz hzl h0 (opd_rep hst.vw hs) (opd_rep hst.vw hx) hsrc hφ.all hk hstr hm hf hfit rfl
  rw [hr]
  refine hK _ _ ?_
  obtain ⟨G1, e1, e2⟩ := putD_inv (hp1 v)
  cases e1
  have hst2 : St C (F1 v) M U E (a.put (some dA) v) w1 := hst1.putD e2 fun s' hs' => by cases hs'; exact .val v
  refine wpList_plain rfl fun K hK => ?_
  unfold Oper.wp
  obtain ⟨vs, ht, hex⟩ := argsF_ok hst2.vw (hargs v)
  rw [hex, run_callFunc_go hc]
  have ht' : Tup E0 C.T0 w1 [a1, a2, .ro (.u8 (l ++ m))] vs := by
    cases ht with
    | cons _ v1 _ vs1 r1 t1 =>
      cases t1 with
      | cons _ v2 _ vs2 r2 t2 =>
        cases t2 with
        | cons _ v3 _ vs3 r3 t3 =>
          cases t3
          cases r3
          have q := Convs.tups (T' := C.T0) hst2.mem (fun _ _ h => .inr h) (hst2.apart hn) hconv (.cons _ _ _ _ r1 (.cons _ _ _ _ r2 .nil))
          cases q with
          | cons _ _ _ _ p1 q =>
            cases q with
            | cons _ _ _ _ p2 q => exact .cons _ _ _ _ p1 (.cons _ _ _ _ p2 (.cons _ _ _ _ hv .nil))
  refine (hspec C.T0 w1 _ (fun b hb => hst2.lt hn b (.inr hb)) (hst2.glob.mono (fun _ _ h => .inr h) (Chg.refl _ w1)) ht').mono ?_
  rintro e w' ⟨z, rfl, hrz, hb⟩
  cases hrz with
  | tup _ zs hz2 =>
  cases hz2 with
  | cons _ u _ us _ h2 =>
  cases h2 with
  | cons _ u2 _ us2 hr2 h3 =>
  cases h3
  cases hr2 with
  | int _ _ hin =>
  obtain ⟨G2, e3, e4⟩ := putD_inv (hp2 v u)
  cases e3
  exact hK _ _ (h v u U E _ w' hsup ((hst2.below hb).putD e4 fun s' hs' => by cases hs'; exact .tup _ [_, _] (.cons _ _ _ _ (.val u) (.cons _ _ _ _ (.int _ _ hin) .nil))))
end
end Go.Proofs.YtmmpflifajjbjaaDoor.V
end
