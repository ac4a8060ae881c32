/-
  Joined texts: Ce: Slices of values (two cells each): what Insert and Delete leave.
  Cf: Insert and Delete over one's own row of values, in a walk.
  Ba: A walk by abstract values: a bytes.Buffer of one's own that is only written (in the mode in which everything new is hidden from what is read).
  Bb: A walk by abstract values: functions that write one block of their caller's.
  Bc: A walk by abstract values: copy into an array of one's own, the whole of it or nothing.
  Bd: A walk by abstract values: one operation of a region alone.
  Be: Calls without arguments; calls under a guard that is known to hold, in a region that draws its order.
  Bf: Operations of a region that draws its order, under a guard that is known not to hold; a row that stands in the elements of another is given up.
  By: A row of one's own that is changed, and nothing else.
  Cg: Delete over one's own row of values, in a walk.
  Ch: Clone of a slice of values, in a walk.
  Bg: Ranges over strings: the iterator is a block of one's own.
  Ci: The bytes of a string, in a walk.
  SPa: Settings, plain: lists of values with names that rise; rules done and undone.
  SPb: Settings, plain: a printed text is read as what was printed.
  SPc: Settings, plain: valid settings, right rules; what Forward and Back answer; going back restores.
  SPd: Settings, plain: rules in two lists; a Rename, a Put, a Drop; a value that no rule names.
  SPe: Settings, plain: a value that no rule names; what Parse answers.
  Sh: DERIVED: THE SHELF's CONTRACTS AT THIS DUMP, IN PLAIN WORDS (tools/lay-plain.mjs out of 'TryzShelf.lean', which tools/lay-shelf.mjs wrote): THE SAME DECLARATIONS UNDER THE SAME NAMES: 'import', 'namespace', 'open', 'def', 'theorem' AND NOTHING ELSE: no command of the shelf's: FOR A HAND-IN. Each laying: the table of numbers ('.._ren') and one theorem, a field a fact of the dump's own or the kernel's comparison; each contract: ONE APPLICATION.
  Tac: A walk by abstract values: how side conditions are closed (kept once, as default proofs).
  SA: Settings: names and texts, of the program and of the reference.
  SB: Settings: Compare; values that are right.
  SC: Settings: Valid, of the program and of the reference.
  Cj: A value that stands under a guard that is known to hold.
  SD: Settings: the search for a value; Get.
  Ck: Calls walked where they stand, whatever follows; regions that draw their order, each order by itself.
  Cl: Calls of functions that defer a call: walked where they stand.
  Cm: Contracts of functions that write what they are given: numbers of blocks renamed.
-/
import Derived.Test.YtpbgihhfcdggkaaGreatDoorQA
import Derived.Test.YtpbgihhfcdggkaaGreatDoorQB
import Derived.Lib.BufferAt
import Derived.Lib.OthersKept
import Derived.Lib.UnsafeStr
import Derived.Lib.TrimU
import Derived.Lib.ConvBytes
import Derived.Shelf.Strings.Builder1
import Derived.Shelf.Strings.Builder2
import Derived.Shelf.Strings.OnBuilder
import Derived.Shelf.Small.Strs
import Derived.Shelf.Small.Wraps
import Derived.Shelf.Strconv.Atoi
import Derived.Shelf.Strconv.Itoa0
import Derived.Shelf.Strconv.Itoa1
import Derived.Shelf.LaysM
import Derived.Shelf.Strconv.Itoa2
import Derived.Shelf.Strconv.Itoa3
import Derived.Shelf.Strconv.AtoiErrFast
import Derived.Shelf.Strconv.ParseIntEmpty
import Derived.Shelf.Strconv.AtoiFail
import Derived.Shelf.Strconv.Clone
import Derived.Shelf.Strconv.SyntaxError
import Derived.Shelf.LaysC
import Derived.Shelf.Strconv.ToError
import Derived.Shelf.Strconv.Lower
import Derived.Shelf.Strconv.ParseUint10
import Derived.Shelf.Strconv.ParseUint10Empty
import Derived.Shelf.Strconv.ParseUint10Any
import Derived.Shelf.Strconv.ParseInt10
import Derived.Shelf.Strconv.AtoiLong
import Derived.Shelf.Strconv.AtoiInnerAll
import Derived.Shelf.Strconv.RangeError
import Derived.Shelf.Strconv.ToErrorRange
import Derived.Shelf.Strconv.AtoiAll
import Derived.Shelf.Strconv.ErrVarAll
import Derived.Shelf.Strings.Search1
import Derived.Shelf.Strings.Search2
import Derived.Shelf.Strings.Search3
import Derived.Shelf.Strings.Cut
import Derived.Shelf.Strings.Count
import Derived.Shelf.Strings.Shaped
import Derived.Shelf.GgClosure.StringsIndexFunc
import Derived.Ground.GgwProg
import Derived.Shelf.GgClosure.StringsIndexFuncTop
import Derived.Shelf.GgClosure.StringsRunes
import Derived.Shelf.Strings.Prefix
import Derived.Shelf.Strings.Split
import Derived.Shelf.Unicode.DecodeSlow
import Derived.Shelf.Unicode.DecodeAny
import Derived.Test.YtpbgihhfcdggkaaGreatDoorProg
import Derived.Sort.Walk0
import Derived.Orders
import Derived.Defers
section
namespace Go.Proofs.YtpbgihhfcdggkaaGreatDoor
open Go.RowKit Go.Lib Go.Shelf V
set_option maxRecDepth 100000
set_option maxHeartbeats 4000000
set_option linter.unusedVariables false
set_option linter.unusedSimpArgs false
def InsC (n p : Nat) (cs vcs cs' : List Value) : Prop := ∀ k, k < (n + 1) * 2 → cs'[k]? = if k < p * 2 then cs[k]? else if k < p * 2 + 2 then vcs[k - p * 2]? else cs[k - 2]?
theorem setRow_grown (w : World) (b : Nat) (arr : Array Value) : w.grownBy (w.setRow b arr) (some b) :=
  ⟨rfl, rfl, rfl, by simp [World.setRow], fun k _ hk => setRow_other w b k arr fun e => hk (by rw [e])⟩
theorem setRow_size (w : World) (b : Nat) (arr : Array Value) : (w.setRow b arr).heap.size = w.heap.size := by simp [World.setRow]
theorem drew_grown {w w' : World} {q : Option Nat} (h : w.drew.grownBy w' q) : w.grownBy w' q := ⟨h.os, h.tape, h.output, h.size, h.block⟩
theorem ins_all (q : Option Addr) (n c p vb vc : Nat) (cs vcs : List Value) (w : World) (hp : p ≤ n) (hnc : n ≤ c) (hok : c ≤ 9223372036854775807) (hn : n ≤ 1000000)
    (hq : c ≠ 0 → ∃ b, q = some ⟨b, 0, none⟩ ∧ w.heap[b]? = some (.cells cs.toArray 53 (0, 0)) ∧ c * 2 ≤ cs.length ∧ vb ≠ b) (hq0 : q = none → n = 0)
    (hv : w.heap[vb]? = some (.cells vcs.toArray 53 (0, 0))) (hv2 : 2 ≤ vcs.length)
    (h1 : ∀ k v, k < n * 2 → cs[k]? = some v → v.oneCell' = true) (h1v : ∀ v ∈ vcs.take 2, v.oneCell' = true) :
    Calls Tryz.prog 154 #[.slice q n c, .int .i64 p, .slice (some ⟨vb, 0, none⟩) 1 vc] w fun e w' =>
      (∃ (b : Nat) (cs' : List Value), c ≠ 0 ∧ q = some ⟨b, 0, none⟩ ∧ n + 1 ≤ c ∧ e = .returned (.slice (some ⟨b, 0, none⟩) (n + 1) c) ∧ w.grownBy w' (some b) ∧ w'.heap[b]? = some (.cells cs'.toArray 53 (0, 0)) ∧ cs'.length = cs.length ∧ InsC n p cs vcs cs') ∨
      (∃ (b c' : Nat) (cs' : List Value), e = .returned (.slice (some ⟨b, 0, none⟩) (n + 1) c') ∧ w.heap.size ≤ b ∧ w.grownBy w' none ∧ w'.heap[b]? = some (.cells cs'.toArray 53 (0, 0)) ∧ n + 1 ≤ c' ∧ c' * 2 ≤ cs'.length ∧ c' ≤ 9223372036854775807 ∧ InsC n p cs vcs cs') := by
  obtain ⟨vs, hvs⟩ : ∃ vs, vs = vcs.take 2 := ⟨_, rfl⟩
  have hvl : vs.length = 1 * 2 := by rw [hvs, List.length_take]; omega
  have hvc : ∀ j v, vs[j]? = some v → w.cell? ⟨vb, j, none⟩ = some v := fun j v hj => by
    rw [cell_blk hv]
    rw [hvs, List.getElem?_take] at hj
    split at hj
    · exact hj
    · cases hj
  rw [← hvs] at h1v
  have hvb : vb < w.heap.size := by
    rcases Nat.lt_or_ge vb w.heap.size with h | h
    · exact h
    · rw [Array.getElem?_eq_none h] at hv; cases hv
  obtain ⟨es, hes⟩ : ∃ es, es = cs.take (n * 2) := ⟨_, rfl⟩
  have hcs0 : c = 0 → n = 0 := fun h => by omega
  have h1e : ∀ v ∈ es, v.oneCell' = true := fun v hv => by
    obtain ⟨t, ht, rfl⟩ := List.getElem_of_mem hv
    have h2 := List.getElem?_eq_getElem ht
    have h3 : es[t]? = if t < n * 2 then cs[t]? else none := by rw [hes, List.getElem?_take]
    rw [h3] at h2
    split at h2
    · rename_i h4; exact h1 t _ h4 h2
    · cases h2
  have hG63 : grownCap w (n + 1) c 53 ≤ 9223372036854775807 := by
    have := grownCap_le_maxLen w (n + 1) c 53 (by unfold maxLen; omega)
    unfold maxLen at this
    omega
  have hGn : n + 1 ≤ grownCap w (n + 1) c 53 := grownCap_ge w _ _ _
  have hGn2 : ∀ x, x = grownCap w (n + 1) c 53 → n + 1 ≤ x := fun x hx => by omega
  by_cases hroom : n + 1 ≤ c
  · obtain ⟨b, rfl, hb, hcl, hne⟩ := hq (by omega)
    have hel : es.length = n * 2 := by rw [hes, List.length_take]; omega
    by_cases hpn : p = n
    · subst hpn
      refine (ins_end_room b p c vb 1 vc vs w (by omega) hroom hok hvl (fun j hj => ?_) (fun j hj => by simp [World.frozen?, hb]) hvc h1v).mono ?_
      · rw [cell_blk hb, List.getElem?_eq_getElem (by omega)]; rfl
      rintro e w' ⟨rfl, rfl⟩
      rw [setCells_setRow b 53 vs (p * 2) cs.toArray w hb (by simp; omega)]
      refine .inl ⟨b, cs.take (p * 2) ++ vs ++ cs.drop (p * 2 + vs.length), by omega, rfl, hroom, rfl, setRow_grown _ _ _, setRow_heap w b cs.toArray _ 53 (0, 0) hb, by simp; omega, fun k hk => ?_⟩
      simp only [List.getElem?_append, List.getElem?_take, List.getElem?_drop, List.length_append, List.length_take, List.length_drop]
      rw [hvs, List.getElem?_take, List.length_take]
      by_cases k1 : k < p * 2
      · rw [if_pos (by omega), if_pos (by omega), if_pos k1, if_pos k1]
      · rw [if_pos (by omega), if_neg (by omega), if_pos (by omega), if_neg k1, if_pos (by omega), show k - min (p * 2) cs.length = k - p * 2 by omega]
    · have hpl : p < n := by omega
      have hcsz : w.shape? b = some (53, cs.length) := by simp [World.shape?, hb]
      have hvsz : w.shape? vb = some (53, vcs.length) := by simp [World.shape?, hv]
      refine (ins_shift b n c p vb 1 vc es vs w hpl (by omega) hroom hok hne hel hvl (fun j v hj => ?_) (fun j hj => ?_) (fun j hj => by simp [World.frozen?, hb]) hvc h1e h1v _ _ _ _ hvsz hcsz (by omega) (by simp [World.frozen?, hv]) (by simp [World.frozen?, hv])).mono ?_
      · rw [cell_blk hb]
        rw [hes, List.getElem?_take] at hj
        split at hj
        · exact hj
        · cases hj
      · rw [cell_blk hb, List.getElem?_eq_getElem (by omega)]; rfl
      rintro e w' ⟨rfl, rfl⟩
      have hbd : w.drew.heap[b]? = some (.cells cs.toArray 53 (0, 0)) := hb
      have hdl : (es.drop (p * 2)).length = n * 2 - p * 2 := by rw [List.length_drop, hel]
      rw [setCells_setRow b 53 _ ((p + 1) * 2) cs.toArray w.drew hbd (by rw [hdl]; simp; omega)]
      have hb2 := setRow_heap w.drew b cs.toArray (cs.toArray.toList.take ((p + 1) * 2) ++ es.drop (p * 2) ++ cs.toArray.toList.drop ((p + 1) * 2 + (es.drop (p * 2)).length)).toArray 53 (0, 0) hbd
      rw [setCells_setRow b 53 vs (p * 2) _ _ hb2 (by simp only [List.size_toArray, List.length_append, List.length_take, List.length_drop, hel]; omega), setRow_setRow]
      refine .inl ⟨b, _, by omega, rfl, hroom, rfl, drew_grown (setRow_grown _ _ _), setRow_heap w.drew b cs.toArray _ 53 (0, 0) hbd, by simp only [List.length_append, List.length_take, List.length_drop, hel, hvl]; omega, fun k hk => ?_⟩
      simp only [List.getElem?_append, List.getElem?_take, List.getElem?_drop, List.length_append, List.length_take, List.length_drop, hel]
      rw [hvs, hes]
      simp only [List.getElem?_take, List.length_take]
      by_cases k1 : k < p * 2
      · rw [if_pos (by omega), if_pos (by omega), if_pos (by omega), if_pos (by omega), if_pos (by omega), if_pos (by omega), if_pos k1]
      · by_cases k2 : k < p * 2 + 2
        · rw [if_pos (by omega), if_neg (by omega), if_pos (by omega), if_neg k1, if_pos k2]
          congr 1
          omega
        · rw [if_neg (by omega), if_neg k1, if_neg k2]
          rw [if_pos (by omega), if_neg (by omega), if_pos (by omega)]
          congr 1
          omega
  · have hbig : (n + 1) * 32 ≤ 140737488355328 := by omega
    by_cases hpn : p = n
    · subst hpn
      have hel : es.length = p * 2 := by
        by_cases hc0 : c = 0
        · rw [hes, hcs0 hc0]; simp
        · obtain ⟨b, _, _, h3, _⟩ := hq hc0
          rw [hes, List.length_take]; omega
      refine (ins_end_grow q p c vb 1 vc es vs w (by omega) hnc (by omega) hbig hel hvl hq0 (fun a ha j v hj => ?_) hvc h1v).mono ?_
      · by_cases hc0 : c = 0
        · have := hcs0 hc0
          subst this
          rw [hes] at hj
          simp at hj
        · obtain ⟨b, h2, h3, h4, _⟩ := hq hc0
          rw [h2] at ha
          cases ha
          rw [Addr.add_lit, Nat.zero_add, cell_blk h3]
          rw [hes, List.getElem?_take] at hj
          split at hj
          · exact hj
          · cases hj
      rintro e w' ⟨rfl, rfl⟩
      have hz : (Builtin.zeroCells zval.cells (grownCap w (p + 1) c 53 - (p + 1))).size = (grownCap w (p + 1) c 53 - (p + 1)) * 2 := by rw [size_zeroCells]; rfl
      refine .inr ⟨w.heap.size, _, ((es ++ vs).toArray ++ Builtin.zeroCells zval.cells (grownCap w (p + 1) c 53 - (p + 1))).toList, rfl, Nat.le_refl _, ⟨rfl, rfl, rfl, by rw [alloc_size]; exact Nat.le_succ _, fun k hk _ => Below.heap_alloc w.drew _ k hk⟩, ?_, hGn, ?_, hG63, fun k hk => ?_⟩
      · rw [show w.heap.size = w.drew.heap.size from rfl, heap_alloc_new]; try simp
      · rw [Array.toList_append, List.length_append, Array.length_toList, Array.length_toList, hz]
        simp only [List.size_toArray, List.length_append, hel, hvl]
        omega
      · rw [Array.toList_append, List.getElem?_append_left (by simp only [List.toList_toArray, List.length_append, hel, hvl]; omega)]
        simp only [List.toList_toArray, List.getElem?_append, hel]
        rw [hvs, hes]
        simp only [List.getElem?_take]
        by_cases k1 : k < p * 2
        · rw [if_pos k1, if_pos k1, if_pos k1]
        · rw [if_neg k1, if_pos (by omega), if_neg k1, if_pos (by omega)]
    · have hpl : p < n := by omega
      obtain ⟨b, rfl, hb, hcl, hne⟩ := hq (by omega)
      have hel : es.length = n * 2 := by rw [hes, List.length_take]; omega
      refine (ins_grow b n c p vb 1 vc es vs w hpl (by omega) hnc (by omega) hbig hel hvl (fun j v hj => ?_) hvc h1e h1v).mono ?_
      · rw [cell_blk hb]
        rw [hes, List.getElem?_take] at hj
        split at hj
        · exact hj
        · cases hj
      rintro e w' ⟨rfl, rfl⟩
      obtain ⟨ROW, hROW⟩ : ∃ ROW : List Value, ROW = ((es.take (p * 2)).toArray ++ Builtin.zeroCells zval.cells (n + 1 - p) ++ Builtin.zeroCells zval.cells (grownCap w (n + 1) c 53 - (n + 1))).toList := ⟨_, rfl⟩
      have hRl : ROW.length = p * 2 + (n + 1 - p) * 2 + (grownCap w (n + 1) c 53 - (n + 1)) * 2 := by
        rw [hROW, Array.length_toList, Array.size_append, Array.size_append, size_zeroCells, size_zeroCells]
        simp only [List.size_toArray, List.length_take, hel]
        rw [show zval.cells.size = 2 from rfl]
        omega
      have hRt : ROW.take (p * 2) = es.take (p * 2) := by
        rw [hROW, Array.toList_append, Array.toList_append, List.append_assoc, List.take_append_of_le_length (by simp [hel]; omega), List.take_take, Nat.min_self]
      rw [show ((es.take (p * 2)).toArray ++ Builtin.zeroCells zval.cells (n + 1 - p) ++ Builtin.zeroCells zval.cells (grownCap w (n + 1) c 53 - (n + 1))) = ROW.toArray by rw [hROW, Array.toArray_toList]]
      have hb0 : (w.alloc (.cells ROW.toArray 53)).drew.heap[w.heap.size]? = some (.cells ROW.toArray 53 (0, 0)) := by
        show (w.alloc (.cells ROW.toArray 53)).heap[w.heap.size]? = _
        rw [heap_alloc_new]
      have hdl : (es.drop (p * 2)).length = n * 2 - p * 2 := by rw [List.length_drop, hel]
      have hb1 := setRow_heap (w.alloc (.cells ROW.toArray 53)).drew w.heap.size ROW.toArray (ROW.toArray.toList.take (p * 2) ++ vs ++ ROW.toArray.toList.drop (p * 2 + vs.length)).toArray 53 (0, 0) hb0
      rw [setCells_setRow w.heap.size 53 vs (p * 2) ROW.toArray _ hb0 (by simp; omega)]
      rw [setCells_setRow w.heap.size 53 (es.drop (p * 2)) ((p + 1) * 2) _ _ (show ((World.setRow (w.alloc (.cells ROW.toArray 53)).drew w.heap.size _).drew.heap[w.heap.size]? = _) from hb1) (by simp only [List.size_toArray, List.length_append, List.length_take, List.length_drop, hel, hvl]; omega)]
      refine .inr ⟨w.heap.size, _, _, rfl, Nat.le_refl _, ?_, setRow_heap _ _ _ _ 53 (0, 0) hb1, hGn, ?_, hG63, fun k hk => ?_⟩
      · refine ⟨rfl, rfl, rfl, ?_, fun k hk _ => ?_⟩
        · rw [setRow_size]
          show w.heap.size ≤ (World.setRow _ _ _).heap.size
          rw [setRow_size]
          show w.heap.size ≤ (w.alloc _).heap.size
          rw [alloc_size]
          exact Nat.le_succ _
        · rw [setRow_other _ _ _ _ (by omega)]
          show (World.setRow (w.alloc (.cells ROW.toArray 53)).drew w.heap.size _).heap[k]? = _
          rw [setRow_other _ _ _ _ (by omega)]
          exact Below.heap_alloc w _ k hk
      · simp only [List.length_append, List.length_take, List.length_drop, hel, hvl, hRl]
        omega
      · simp only [List.getElem?_append, List.getElem?_take, List.getElem?_drop, List.length_append, List.length_take, List.length_drop, hel, hvl, hRl]
        by_cases k1 : k < p * 2
        · have e1 : ROW[k]? = cs[k]? := by
            have : (ROW.take (p * 2))[k]? = (es.take (p * 2))[k]? := by rw [hRt]
            rw [List.getElem?_take, if_pos k1, List.getElem?_take, if_pos k1, hes, List.getElem?_take, if_pos (by omega)] at this
            exact this
          rw [if_pos k1, ← e1]
          repeat' split
          all_goals first | rfl | (exfalso; omega)
        · rw [hvs, hes]
          simp only [List.getElem?_take, List.length_take]
          by_cases k2 : k < p * 2 + 2
          · rw [if_neg k1, if_pos k2]
            repeat' split
            all_goals first | (exfalso; omega) | (congr 1; omega) | skip
          · rw [if_neg k1, if_neg k2]
            repeat' split
            all_goals first | (exfalso; omega) | (congr 1; omega) | skip
end Go.Proofs.YtpbgihhfcdggkaaGreatDoor
end
section
namespace Go.Proofs.YtpbgihhfcdggkaaGreatDoor
open Go.RowKit Go.Lib Go.Shelf V
set_option maxRecDepth 100000
set_option maxHeartbeats 4000000
set_option linter.unusedVariables false
set_option linter.unusedSimpArgs false
def insG {α : Type} (f : Nat → α) (x : α) (k y : Nat) : α := if y < k then f y else if y = k then x else f (y - 1)
def delG {α : Type} (f : Nat → α) (k y : Nat) : α := if y < k then f y else f (y + 1)
namespace V
section
variable {C : Ctx} {Q0 : Exit → Act → World → Prop} {F F' : Tr} {M M' : Mem} {ids : List Nat} {k0 : List Kont} {full rest : List Oper} {d : Option Tmp} {x : Operand} {xs : List Operand} {ats : Array TypeId} {type : TypeId} {pos : String} {after : Array Edge}
theorem Sat.insCall {i j nx n n0 k : Nat} {p : Int} {f f' g : Nat → List SV} (hP : C.P = Tryz.prog) (hx : argsF C.Γ F x xs = some (154, [.row i 0 2 0 n0, .int .i64 p, .row j 0 2 0 1])) (hn0 : n0 = n) (hpk : p = (k : Int) ∧ k ≤ n ∧ n ≤ 1000000) (hc : callable C.P 154 = true)
    (hf : find M i = some (.row 53 (.g n 2 f))) (hj : find M j = some (.row 53 (.g 1 2 g))) (hij : Nat.beq i j = false) (hM : delO M (some i) = M') (he : ∀ y, y < n + 1 → f' y = insG f (g 0) k y) (hp : putD C.N F d (some (.row nx 0 2 0 (n + 1))) some = some F')
    (h : Sat C Q0 (.reg full rest F' ((nx, .row 53 (.g (n + 1) 2 f')) :: M') ids k0)) :
    Sat C Q0 (.reg full (⟨d, .call ⟨.value x, ⟨xs⟩, ats⟩, type, pos, after, none⟩ :: rest) F M (nx :: ids) k0) := by
  subst hn0 hM
  obtain ⟨rfl, hkn, hn6⟩ := hpk
  intro U E a w hsup hst
  obtain ⟨hU, hsup'⟩ := hsup
  obtain ⟨F1, h1, h2⟩ := putD_inv hp
  cases h1
  refine wpList_plain rfl fun K hK => ?_
  unfold Oper.wp
  obtain ⟨vs, ht, hex⟩ := argsF_ok hst.vw hx
  rw [hex, run_callFunc_go hc]
  cases ht with
  | cons _ v0 _ vs hr0 ht =>
  cases ht with
  | cons _ v1 _ vs hr1 ht =>
  cases ht with
  | cons _ v2 _ vs hr2 ht =>
  cases ht
  cases hr1
  obtain ⟨vb, c2, rfl, hEj, vcs, cg, g1, g2, g3, g4, g5⟩ : ∃ vb c2, v2 = .slice (some ⟨vb, 0, none⟩) 1 c2 ∧ E j = some (some vb) ∧ BOk E (trk C.T0 M E) w vb (.row 53 (.g 1 2 g)) := by
    cases hr2 with
    | row0 _ _ _ _ _ _ hl => cases hl
    | row _ _ _ _ _ b o c m t hE hs ho hl ok =>
      obtain ⟨h5, h6⟩ := ho (by omega)
      exact ⟨b, c, by rw [h5], hE, (hst.mem.at hj hE).2⟩
  have g2 : 1 * 2 ≤ vcs.length := g2
  have hj0 : (cg 0).length = 2 := g3 0 (Nat.lt_succ_self 0)
  have gv : ∀ t v, (cg 0)[t]? = some v → vcs[t]? = some v := fun t v hv => by
    have := g4 0 t v (Nat.lt_succ_self 0) hv
    have e : 0 * (EV.g 1 2 g).sz + t = t := by simp
    rw [e] at this
    exact this
  have hones : ∀ v ∈ vcs.take 2, v.oneCell' = true := fun v hv => by
    obtain ⟨t, ht, rfl⟩ := List.getElem_of_mem hv
    have ht2 : t < 2 := by rw [List.length_take] at ht; omega
    have e1 := List.getElem?_eq_getElem (show t < (cg 0).length by omega)
    have e2 := gv t _ e1
    have e3 : (vcs.take 2)[t]? = vcs[t]? := by rw [List.getElem?_take, if_pos ht2]
    rw [List.getElem?_eq_getElem ht, e2] at e3
    rw [Option.some.inj e3]
    exact (g5 0 (Nat.lt_succ_self 0)).ones _ (List.getElem_mem _)
  obtain ⟨q, c, cs, cf, rfl, hnc, hok, hq, hq0, hcf⟩ : ∃ (q : Option Addr) (c : Nat) (cs : List Value) (cf : Nat → List Value), v0 = .slice q n0 c ∧ n0 ≤ c ∧ okLen c ∧
      (c ≠ 0 → ∃ b, q = some ⟨b, 0, none⟩ ∧ w.heap[b]? = some (.cells cs.toArray 53 (0, 0)) ∧ c * 2 ≤ cs.length ∧ vb ≠ b ∧ E i = some (some b) ∧ b < w.heap.size) ∧ (q = none → n0 = 0) ∧
      ∀ y, y < n0 → (cf y).length = 2 ∧ (∀ t v, (cf y)[t]? = some v → cs[y * 2 + t]? = some v) ∧ Items E (trk C.T0 M E) w (f y) (cf y) := by
    cases hr0 with
    | row0 _ _ _ _ _ hE hl => exact ⟨none, 0, [], fun _ => [], by rw [hl], by omega, by unfold okLen; omega, fun h => absurd rfl h, fun _ => hl, fun y hy => by omega⟩
    | row _ _ _ _ _ b o c m t hE hs ho hl ok =>
      obtain ⟨hlt, cs, cf, k1, k2, k3, k4, k5⟩ := hst.mem.at hf hE
      refine ⟨some ⟨b, o, none⟩, c, cs, cf, rfl, hl, ok, fun h0 => ?_, fun h0 => (by cases h0), fun y hy => ⟨k3 y hy, fun t v hv => k4 y t v hy hv, k5 y hy⟩⟩
      obtain ⟨h5, h6⟩ := ho h0
      have hm : m = cs.length := by
        simp only [World.shape?, k1] at hs
        cases hs
        simp
      refine ⟨b, by rw [h5], k1, by omega, fun e => ?_, hE, hlt⟩
      subst e
      have := hst.mem.inj i j vb (by rw [hf]; rfl) (by rw [hj]; rfl) hE hEj
      subst this
      rw [Nat.beq_refl] at hij
      cases hij
  have hcone : ∀ t v, t < n0 * 2 → cs[t]? = some v → v.oneCell' = true := fun t v ht hv => by
    obtain ⟨c1, c2, c3⟩ := hcf (t / 2) (by omega)
    have e1 := List.getElem?_eq_getElem (show t % 2 < (cf (t / 2)).length by omega)
    have e2 := c2 _ _ e1
    rw [show t / 2 * 2 + t % 2 = t by omega, hv] at e2
    cases e2
    exact c3.ones _ (List.getElem_mem _)
  have fin : ∀ (b' c' : Nat) (cs' : List Value) (w' : World), InsC n0 k cs vcs cs' → n0 + 1 ≤ c' → c' * 2 ≤ cs'.length → okLen c' → w'.heap[b']? = some (.cells cs'.toArray 53 (0, 0)) → Chg (V.mine M E) w w' → w'.os = w.os → w'.tape = w.tape → w'.output = w.output →
      (w.heap.size ≤ b' ∨ E i = some (some b')) → (∀ y, y < w.heap.size → (E i = some (some b') → y ≠ b') → w'.heap[y]? = w.heap[y]?) → K (a.put d (.slice (some ⟨b', 0, none⟩) (n0 + 1) c')) w' := fun b' c' cs' w' r1 r2 r3 r4 r5 r6 r7 r8 r9 r10 r11 => by
    have hlt' : b' < w'.heap.size := by
      rcases Nat.lt_or_ge b' w'.heap.size with q | q
      · exact q
      · rw [Array.getElem?_eq_none q] at r5; cases r5
    have h3 := append_fin (nx := nx) (o := some i) (b := some b') (elem := 53) (e' := .g (n0 + 1) 2 f') (cs' := cs') (c' := insG cf (cg 0) k) hst hU r6 r7 r8 r9 (fun y hy => by
        cases hy
        refine ⟨hlt', ?_⟩
        rcases r10 with q | q
        · exact .inl q
        · exact .inr ⟨i, _, rfl, hf, q⟩)
      (fun id B1 y hfd hE => by
        obtain ⟨q1, q2⟩ := find_delO hfd
        refine r11 y (hst.mem.at q1 hE).1 fun q3 e => ?_
        subst e
        have := hst.mem.inj id i y (by rw [q1]; rfl) (by rw [hf]; rfl) hE q3
        exact q2 (by rw [this]))
      (fun y hy => by cases hy; exact r5) (by show (n0 + 1) * 2 ≤ _; omega)
      (fun y hy => by
        have hy : y < n0 + 1 := hy
        show (insG cf (cg 0) k y).length = 2
        unfold insG
        split
        · exact (hcf y (by omega)).1
        · split
          · exact hj0
          · exact (hcf (y - 1) (by omega)).1)
      (fun y t v hy hv => by
        have hy : y < n0 + 1 := hy
        show cs'[y * 2 + t]? = some v
        unfold insG at hv
        split at hv
        · rename_i q1
          obtain ⟨c1, c2, _⟩ := hcf y (by omega)
          have ht : t < 2 := by rw [← c1]; exact (List.getElem?_eq_some_iff.1 hv).1
          rw [r1 _ (by omega), if_pos (by omega)]
          exact c2 t v hv
        · split at hv
          · rename_i q1 q2
            have ht : t < 2 := by rw [← hj0]; exact (List.getElem?_eq_some_iff.1 hv).1
            rw [r1 _ (by omega), if_neg (by omega), if_pos (by omega), show y * 2 + t - k * 2 = t by omega]
            exact gv t v hv
          · rename_i q1 q2
            obtain ⟨c1, c2, _⟩ := hcf (y - 1) (by omega)
            have ht : t < 2 := by rw [← c1]; exact (List.getElem?_eq_some_iff.1 hv).1
            rw [r1 _ (by omega), if_neg (by omega), if_neg (by omega), show y * 2 + t - 2 = (y - 1) * 2 + t by omega]
            exact c2 t v hv)
      (fun y hy => by
        have hy : y < n0 + 1 := hy
        show Items E (trk C.T0 M E) w (f' y) (insG cf (cg 0) k y)
        rw [he y hy]
        unfold insG
        split
        · exact (hcf y (by omega)).2.2
        · split
          · exact g5 0 (Nat.lt_succ_self 0)
          · exact (hcf (y - 1) (by omega)).2.2)
      (fun hb => by cases hb)
    refine hK _ _ (h _ _ _ w' hsup' (St.putD h3 h2 fun s' hs' => ?_))
    cases hs'
    exact .row nx 0 2 0 _ b' 0 c' cs'.length 53 (by simp [envWith]) (by simp [World.shape?, r5]) (fun _ => ⟨rfl, by omega⟩) r2 r4
  have hspec := ins_all q n0 c k vb c2 cs vcs w hkn hnc hok hn6 (fun h0 => by
    obtain ⟨b, q1, q2, q3, q4, _⟩ := hq h0
    exact ⟨b, q1, q2, q3, q4⟩) hq0 g1 (by omega) hcone hones
  rw [hP]
  refine hspec.mono ?_
  rintro e w' (⟨b, cs', r1, r2, r3, rfl, r4, r5, r6, r7⟩ | ⟨b, c', cs', rfl, r2, r3, r4, r5, r6, r7, r8⟩)
  · obtain ⟨b2, q1, q2, q3, q4, q5, q6⟩ := hq r1
    rw [r2] at q1
    cases q1
    have hmine : V.mine M E b := ⟨i, _, hf, q5⟩
    refine fin b c cs' w' r7 r3 (by omega) hok r5 ⟨r4.size, fun y hy hnm => r4.block y hy fun e => hnm (Option.some.inj e ▸ hmine), fun y hy => ?_⟩ r4.os r4.tape r4.output (.inr q5) fun y hy hne => r4.block y hy fun e => hne q5 (Option.some.inj e)
    by_cases e : y = b
    · subst e
      simp [World.shape?, r5, q2, r6]
    · unfold World.shape?
      rw [r4.block y hy fun e2 => e (Option.some.inj e2)]
  · refine fin b c' cs' w' r8 r5 r6 r7 r4 ⟨r3.size, fun y hy _ => r3.block y hy (by simp), fun y hy => ?_⟩ r3.os r3.tape r3.output (.inl r2) fun y hy _ => r3.block y hy (by simp)
    unfold World.shape?
    rw [r3.block y hy (by simp)]
end
end V
end Go.Proofs.YtpbgihhfcdggkaaGreatDoor
end
section
namespace Go.Proofs.YtpbgihhfcdggkaaGreatDoor.V
open Go.RowKit
section
variable {E E' : Env} {T T' : Nat → Prop} {w w' : World}
end
def idsM (j : Option Nat) : Mem → List Nat
  | [] => []
  | (k, _) :: r => match j with
    | some j' => match Nat.beq k j' with
      | true => idsM j r
      | false => k :: idsM j r
    | none => k :: idsM none r
section
variable {C : Ctx} {F G : Tr} {M : Mem} {U : Nat → Prop} {E : Env} {a : Act} {w w' : World}
variable {nx : Nat} {M' : Mem} {φ : List Prop}
variable {Q0 : Exit → Act → World → Prop} {F' : Tr} {ids' : List Nat} {k : List Kont}
theorem Sat.drop {c : Code} {ids : List Nat} (hG : keepT (idsM none M) F = some (G, φ)) (hφ : AllP φ) (h : Sat C Q0 (.code c G M ids k)) : Sat C Q0 (.code c F M ids k) := fun U E a w hsup hst =>
  h U E a w hsup ⟨hst.defers, hst.size, fun t s hs => hst.slots t s (keepT_ok hG hφ t s hs).1, hst.mem, hst.own, hst.fresh, hst.kp, hst.hid, hst.glob, hst.pin, hst.held⟩
theorem killF_inv : ∀ {l : List Nat} {F : Tr} {K : Tr → Option Tr} {r : Tr}, killF l F K = some r → ∃ F', K F' = some r ∧ ∀ t s, F'.get t = some s → F.get t = some s
  | [], F, K, r, h => ⟨F, h, fun _ _ h => h⟩
  | d :: l, F, K, r, h => by
    simp only [killF] at h
    obtain ⟨F1, h1, h2⟩ := Tr.putK_eq F d none _ r h
    obtain ⟨F2, h3, h4⟩ := killF_inv h2
    refine ⟨F2, h3, fun t s hs => ?_⟩
    have := h4 t s hs
    rw [Tr.get_put F F1 d none h1] at this
    split at this
    · cases this
    · exact this
theorem Sat.kill {c : Code} {ids : List Nat} (l : List Nat) (hG : killF l F some = some G) (h : Sat C Q0 (.code c G M ids k)) : Sat C Q0 (.code c F M ids k) := fun U E a w hsup hst => by
  obtain ⟨F1, h1, h2⟩ := killF_inv hG
  cases h1
  exact h U E a w hsup ⟨hst.defers, hst.size, fun t s hs => hst.slots t s (h2 t s hs), hst.mem, hst.own, hst.fresh, hst.kp, hst.hid, hst.glob, hst.pin, hst.held⟩
end
end Go.Proofs.YtpbgihhfcdggkaaGreatDoor.V
end
section
namespace Go.Proofs.YtpbgihhfcdggkaaGreatDoor.V
open Go.RowKit
def MFun (P : Program) (Γ : Glob) (f : FuncId) (args : List SV) (t : TypeId) (c c' : List SV) (res : SV) : Prop :=
  ∀ (T : Nat → Prop) (w : World) (vs : List Value) (b : Nat) (cs : List Value), (∀ k, T k → k < w.heap.size) → T b → GOk Γ T w → w.heap[b]? = some (.cells cs.toArray t (0, 0)) → Items E0 T w c cs → Tup E0 T w args vs →
    Calls P f (Value.pointer (some ⟨b, 0, none⟩) :: vs).toArray w fun e w' => ∃ v cs', e = .returned v ∧ Rep E0 T w' res v ∧ w'.heap[b]? = some (.cells cs'.toArray t (0, 0)) ∧ cs'.length = cs.length ∧ Items E0 T w' c' cs' ∧
      w'.os = w.os ∧ w'.tape = w.tape ∧ w'.output = w.output ∧ w.heap.size ≤ w'.heap.size ∧ ∀ k, k < w.heap.size → k ≠ b → w'.heap[k]? = w.heap[k]?
def MPost (T : Nat → Prop) (w : World) (t : TypeId) (b n : Nat) (c' : List SV) (res : SV) (e : Ending) (w' : World) : Prop := ∃ v cs', e = .returned v ∧ Rep E0 T w' res v ∧ w'.heap[b]? = some (.cells cs'.toArray t (0, 0)) ∧ cs'.length = n ∧ Items E0 T w' c' cs' ∧
      w'.os = w.os ∧ w'.tape = w.tape ∧ w'.output = w.output ∧ w.heap.size ≤ w'.heap.size ∧ ∀ k, k < w.heap.size → k ≠ b → w'.heap[k]? = w.heap[k]?
def pe0 (b : Nat) : Env := fun i => if i = 0 then some (some b) else none
def ids1 : List Nat := 1 :: 2 :: 3 :: 4 :: 5 :: 6 :: 7 :: 8 :: 9 :: 10 :: 11 :: 12 :: 13 :: 14 :: 15 :: 16 :: 17 :: 18 :: 19 :: 20 :: 21 :: 22 :: 23 :: 24 :: 25 :: 26 :: 27 :: 28 :: 29 :: 30 :: 31 :: 32 :: 33 :: 34 :: 35 :: 36 :: 37 :: 38 :: 39 :: 40 :: []
@[reducible] def mctx (P : Program) (Γ : Glob) (N : Nat) (T : Nat → Prop) (w : World) (b : Nat) : Ctx := ⟨P, w, fun k => k = b, fun k => T k ∧ k ≠ b, Γ, N, [0], [⟨pe0 b, .e, fun _ => undef, []⟩], false⟩
theorem sup_ids {l : List Nat} {n : Nat} {U : Nat → Prop} (hl : ∀ i, i < l.length → l[i]? = some (n + i)) (hU : ∀ k, n ≤ k → U k) : Sup l U := by
  induction l generalizing n U with
  | nil => trivial
  | cons i r ih =>
    have hi : i = n := by simpa using hl 0 (by simp)
    refine ⟨hU i (by omega), ih (n := n + 1) (fun j hj => ?_) fun k hk => ⟨hU k (by omega), by omega⟩⟩
    have := hl (j + 1) (by simpa using hj)
    simpa [Nat.add_assoc, Nat.add_comm 1 j] using this
section
variable {P : Program} {Γ : Glob} {f : FuncId} {fn : Func} {c : Code} {N : Nat} {args : List SV} {res : SV} {F : Tr} {t : TypeId} {cl cl' : List SV}
theorem MFun.mk (dep : Nat) (hf : P.funcs[f]? = some fn) (hb : fn.body = some c) (hN : fn.ntmps = N) (hle : Nat.ble (args.length + 1) N = true) (hF : argT 0 (.ptr 0 0 :: args) (Tr.mk dep) = some F)
    (h : factsL args → factsL cl → ∀ (T : Nat → Prop) (w : World) (b : Nat), (∀ k, T k → k < w.heap.size) → T b → Sat (mctx P Γ N T w b) (bodyPost P fn (MPost T w t b (wI cl) cl' res)) (.code c F [(0, .cells t cl)] ids1 [])) : MFun P Γ f args t cl cl' res := by
  intro T w vs b cs hT hTb hG hbk hI ht
  have hle' := Nat.le_of_ble_eq_true hle
  have hlen := ht.len
  have hE : pe0 b 0 = some (some b) := rfl
  have hne : ∀ i x, pe0 b i = some x → i = 0 ∧ x = some b := fun i x hx => by
    unfold pe0 at hx
    split at hx
    · rename_i e; cases hx; exact ⟨e, rfl⟩
    · cases hx
  have htr : ∀ k, trk (fun k => T k ∧ k ≠ b) [(0, .cells t cl)] (pe0 b) k → T k := fun k hk => by
    rcases hk with ⟨id, B, hf, hEk⟩ | h0
    · have := (hne _ _ hEk).2
      cases this
      exact hTb
    · exact h0.1
  have hup : ∀ i x, E0 i = some x → pe0 b i = some x := fun i x hx => by cases hx
  have hwl := (wI_len hI).symm
  rw [hwl]
  refine calls_of_wp hf hb (h ht.facts hI.facts T w b hT hTb (fun k => k ≠ 0) (pe0 b) _ w (sup_ids (n := 1) (by decide) (fun k hk => by omega)) ⟨rfl, ?_, fun t' s hs => ?_, ⟨fun id B hf => ?_, fun id id' b' h1 h2 h3 h4 => ?_⟩, fun id b' hf hEk => .inr ?_, fun k hk => by simp [pe0, hk], ⟨rfl, rfl, rfl, Chg.refl _ w⟩, fun k hk => .inl ⟨hT k hk.1, hk.2⟩, hG.mono (fun k _ hk => htr k hk) (Chg.refl _ w), fun p hp id x hx => ?_, fun p hp t' s hs => ?_⟩)
  · simp only [Array.size_append, List.size_toArray, Array.size_replicate, List.length_cons, hlen, hN]; omega
  · have ht2 : Tup (pe0 b) (trk (fun k => T k ∧ k ≠ b) [(0, .cells t cl)] (pe0 b)) w (.ptr 0 0 :: args) (Value.pointer (some ⟨b, 0, none⟩) :: vs) :=
      .cons _ _ _ _ (.ptr 0 0 b hE) (ht.mono hup (fun k _ hk => htr k hk) (Chg.refl _ w))
    rcases argT_get hF ht2 t' s hs with ⟨q1, _⟩ | ⟨_, v, q2, q3⟩ | ⟨_, q2⟩
    · omega
    · have hlt : t' < (Value.pointer (some ⟨b, 0, none⟩) :: vs).length := by simpa using (List.getElem?_eq_some_iff.1 q2).1
      have : ((Value.pointer (some ⟨b, 0, none⟩) :: vs).toArray ++ Array.replicate (fn.ntmps - (Value.pointer (some ⟨b, 0, none⟩) :: vs).toArray.size) undef).getD t' undef = v := by
        rw [Array.getD_eq_getD_getElem?, Array.getElem?_append_left (by simpa using hlt)]
        simp only [Nat.sub_zero] at q2
        simpa using congrArg (fun o => Option.getD o undef) q2
      rw [this]
      exact q3
    · rw [mk_get] at q2; cases q2
  · rw [find_cons] at hf
    split at hf
    · rename_i e
      cases hf
      subst e
      exact .inl ⟨b, hE, hT b hTb, cs, hbk, hI.mono hup (fun k _ hk => htr k hk) (Chg.refl _ w)⟩
    · simp [find] at hf
  · rw [(hne _ _ h3).1, (hne _ _ h4).1]
  · have := (hne _ _ hEk).2
    cases this
    rfl
  · simp only [List.mem_singleton] at hp
    subst hp
    have := hne _ _ hx
    rw [this.1]
    exact ⟨rfl, by rw [this.2]; rfl⟩
  · simp only [List.mem_singleton] at hp
    subst hp
    cases t' <;> simp [Tr.get] at hs
variable {e : Ex} {M : Mem} {ids : List Nat} {w : World} {b n : Nat} {T : Nat → Prop}
end
section
variable {C : Ctx} {Q0 : Exit → Act → World → Prop} {F F' : Tr} {M M' : Mem} {ids : List Nat} {k : List Kont} {f : FuncId} {t : TypeId} {c c' : List SV} {args svs : List SV} {res : SV} {i : Nat}
end
end Go.Proofs.YtpbgihhfcdggkaaGreatDoor.V
end
section
namespace Go.Proofs.YtpbgihhfcdggkaaGreatDoor.V
open Go.RowKit
section
variable {C : Ctx} {Q0 : Exit → Act → World → Prop} {F F' : Tr} {M M' : Mem} {ids : List Nat} {k : List Kont} {i n : Nat} {t ta tb elem : TypeId} {old m : List UInt8}
theorem Sat.freezeR {full rest : List Oper} {φ : List Prop} (wh : Bool) (id : Nat) (hz : frz C.wide C.pins ids wh id F M = some ⟨F', M', φ⟩) (hφ : AllP φ) (hn : Sat C Q0 (.reg full rest F' M' ids k)) : Sat C Q0 (.reg full rest F M ids k) := by
  intro U E a w _ hst
  obtain ⟨U', E', h1, h2⟩ := frz_ok hz hφ hst
  exact hn U' E' a w h1 h2
theorem Sat.goffM {full rest : List Oper} {d : Option Tmp} {op : Op} {type : TypeId} {pos : String} {after : Array Edge} {j : Nat} {want : Bool} {H : Prop} (v : SV) (hH : guardH F full j want = some H) (hh : ¬ H) (hp : putD C.N F d (some (.may H v)) some = some F') (h : Sat C Q0 (.reg full rest F' M ids k)) :
    Sat C Q0 (.reg full (⟨d, op, type, pos, after, some (j, want)⟩ :: rest) F M ids k) := by
  intro U E a w hsup hst
  have hy : ¬ (yielded full.toArray a.tmps j == some want) = true := fun hy => hh ((guardH_ok (full := full) hst hH).1 hy)
  obtain ⟨F1, h1, h2⟩ := putD_inv hp
  cases h1
  refine wpList_step fun K hK => ?_
  simp only [Region.wanted, hy]
  exact hK _ _ (h U E _ w hsup (hst.putD h2 fun s' hs' => by cases hs'; exact .may0 _ _ hh))
end
end Go.Proofs.YtpbgihhfcdggkaaGreatDoor.V
end
section
namespace Go.Proofs.YtpbgihhfcdggkaaGreatDoor.V
open Go.RowKit
section
variable {C : Ctx} {Q0 : Exit → Act → World → Prop} {F F' : Tr} {M M' : Mem} {ids : List Nat} {k : List Kont}
theorem Sat.one {X : IntKind → Bool} {full rest : List Oper} {o : Oper} {φ : List Prop} {ids' : List Nat} (h : step1 X C.P C.Γ C.N full o F M ids = some ⟨F', M', ids', φ⟩) (hφ : AllP φ) (hn : Sat C Q0 (.reg full rest F' M' ids' k)) : Sat C Q0 (.reg full (o :: rest) F M ids k) := by
  intro U E a w hsup hst
  exact step1_ok hst hsup h hφ.all fun U E a w h1 h2 => hn U E a w h1 h2
theorem Sat.enter {id : Nat} {ops : List Oper} (h : Sat C Q0 (.reg ops ops F M ids k)) : Sat C Q0 (.code (.region id ⟨ops⟩ false) F M ids k) :=
  fun U E a w hsup hst => wp_region_lit (h U E a w hsup hst)
end
end Go.Proofs.YtpbgihhfcdggkaaGreatDoor.V
end
section
namespace Go.Proofs.YtpbgihhfcdggkaaGreatDoor.V
open Go.RowKit
section
variable {C : Ctx} {Q0 : Exit → Act → World → Prop} {F F' F0 : Tr} {M M' M0 : Mem} {ids ids' ids0 : List Nat} {k : List Kont} {full rest : List Oper} {hist : List Ent} {i : Nat}
theorem Sat.call0 {d : Option Tmp} {x : Operand} {f : FuncId} {ats : Array TypeId} {type : TypeId} {pos : String} {after : Array Edge} {res : SV}
    (hspec : Fun C.P C.Γ f [] res) (hn : C.wide = false) (hx : argsF C.Γ F x [] = some (f, [])) (hc : callable C.P f = true) (hp : putD C.N F d (some res) some = some F') (h : Sat C Q0 (.reg full rest F' M ids k)) :
    Sat C Q0 (.reg full (⟨d, .call ⟨.value x, #[], ats⟩, type, pos, after, none⟩ :: rest) F M ids k) := Sat.call hspec hn hx hc .nil hp h
theorem DSat.call0 {d : Option Tmp} {x : Operand} {f : FuncId} {ats : Array TypeId} {type : TypeId} {pos : String} {after : Array Edge} {res : SV}
    (hspec : Fun C.P C.Γ f [] res) (hn : C.wide = false) (hx : argsF C.Γ F x [] = some (f, [])) (hc : callable C.P f = true) (hp : putD C.N F d (some res) some = some F')
    (h : DSat C Q0 k full F0 M0 ids0 (i + 1) (⟨i, d, some res, none, [], [], false⟩ :: hist) rest F' M ids) :
    DSat C Q0 k full F0 M0 ids0 i hist (⟨d, .call ⟨.value x, #[], ats⟩, type, pos, after, none⟩ :: rest) F M ids := DSat.call hspec hn hx hc .nil hp h
theorem DSat.callM {d : Option Tmp} {x : Operand} {f : FuncId} {xs : List Operand} {ats : Array TypeId} {type : TypeId} {pos : String} {after : Array Edge} {svs args : List SV} {res : SV} {j : Nat} {want : Bool} {H : Prop}
    (hspec : Fun C.P C.Γ f args res) (hn : C.wide = false) (hH : guardH F full j want = some H) (hh : H) (hx : argsF C.Γ F x xs = some (f, svs)) (hc : callable C.P f = true) (hconv : Convs [] svs args) (hp : putD C.N F d (some res) some = some F')
    (h : DSat C Q0 k full F0 M0 ids0 (i + 1) (⟨i, d, some res, none, [], [], false⟩ :: hist) rest F' M ids) :
    DSat C Q0 k full F0 M0 ids0 i hist (⟨d, .call ⟨.value x, ⟨xs⟩, ats⟩, type, pos, after, some (j, want)⟩ :: rest) F M ids := by
  intro D
  obtain ⟨F1, h1, h2⟩ := putD_inv hp
  cases h1
  obtain ⟨p1, p2⟩ := putD_get h2
  refine h (D.step (fun ho Q K Fa Ma U E a w q1 q2 _ q3 hst hK => ?_) rfl rfl p2 (fun id => rfl) rfl)
  have hiff := guardH_ok (full := full) hst (guardH_le rfl q1 hH)
  obtain ⟨F2, hF2⟩ := tr_put Fa d (some res)
  unfold wpOp
  simp only [List.getElem?_toArray, ho]
  have hy := hiff.2 hh
  simp only [Region.wanted, hy, if_true]
  left
  unfold Oper.wp
  obtain ⟨vs, ht, hex⟩ := argsF_ok hst.vw (argsF_le (looks_le (F := F) q1 fun _ => rfl) hx)
  rw [hex, run_callFunc_go hc]
  have hH : MOk E (trk C.T0 Ma E) [] w := ⟨fun id B hf => by simp [find] at hf, fun id id' b hf => by simp [find] at hf⟩
  have ht' := Convs.tups (T' := trk C.T0 Ma E) hH (fun _ _ h => h) (fun id b hf => by simp [find] at hf) hconv ht
  refine (hspec (trk C.T0 Ma E) w _ (hst.lt hn) hst.glob ht').mono ?_
  rintro e w' ⟨v, rfl, hr, hb⟩
  exact hK F2 Ma U E _ w' hF2 (fun id => rfl) (fun k => by simp) ((hst.below hb).putG p1 hF2 fun s' hs' => by cases hs'; exact hr.up)
theorem DSat.callM0 {d : Option Tmp} {x : Operand} {f : FuncId} {ats : Array TypeId} {type : TypeId} {pos : String} {after : Array Edge} {res : SV} {j : Nat} {want : Bool} {H : Prop}
    (hspec : Fun C.P C.Γ f [] res) (hn : C.wide = false) (hH : guardH F full j want = some H) (hh : H) (hx : argsF C.Γ F x [] = some (f, [])) (hc : callable C.P f = true) (hp : putD C.N F d (some res) some = some F')
    (h : DSat C Q0 k full F0 M0 ids0 (i + 1) (⟨i, d, some res, none, [], [], false⟩ :: hist) rest F' M ids) :
    DSat C Q0 k full F0 M0 ids0 i hist (⟨d, .call ⟨.value x, #[], ats⟩, type, pos, after, some (j, want)⟩ :: rest) F M ids := DSat.callM hspec hn hH hh hx hc .nil hp h
end
end Go.Proofs.YtpbgihhfcdggkaaGreatDoor.V
end
section
namespace Go.Proofs.YtpbgihhfcdggkaaGreatDoor.V
open Go.RowKit
section
variable {C : Ctx} {Q0 : Exit → Act → World → Prop} {F F' F0 : Tr} {M M' M0 : Mem} {ids ids' ids0 : List Nat} {k : List Kont} {full rest : List Oper} {hist : List Ent} {i : Nat}
theorem DSat.goffM {d : Option Tmp} {op : Op} {type : TypeId} {pos : String} {after : Array Edge} {j : Nat} {want : Bool} {H : Prop} (v : SV) (hH : guardH F full j want = some H) (hh : ¬ H) (hp : putD C.N F d (some (.may H v)) some = some F')
    (h : DSat C Q0 k full F0 M0 ids0 (i + 1) (⟨i, d, some (.may H v), none, [], [], false⟩ :: hist) rest F' M ids) : DSat C Q0 k full F0 M0 ids0 i hist (⟨d, op, type, pos, after, some (j, want)⟩ :: rest) F M ids := by
  intro D
  obtain ⟨F1, h1, h2⟩ := putD_inv hp
  cases h1
  obtain ⟨p1, p2⟩ := putD_get h2
  refine h (D.step (fun ho Q K Fa Ma U E a w q1 q2 _ q3 hst hK => ?_) rfl rfl p2 (fun id => rfl) rfl)
  have hiff := guardH_ok (full := full) hst (guardH_le rfl q1 hH)
  have hy : ¬ (yielded full.toArray a.tmps j == some want) = true := fun hy => hh (hiff.1 hy)
  obtain ⟨F2, hF2⟩ := tr_put Fa d (some (.may H v))
  unfold wpOp
  simp only [List.getElem?_toArray, ho]
  simp only [Region.wanted, hy]
  exact hK F2 Ma U E _ w hF2 (fun id => rfl) (fun k => by simp) (hst.putG p1 hF2 fun s' hs' => by cases hs'; exact .may0 _ _ hh)
def setGK {α : Type} (Y : Nat) (g : Nat → List SV) : Mem → (Mem → Option α) → Option α
  | [], K => K []
  | (i, B) :: r, K => match Nat.beq i Y with
    | true => match B with
      | .row t (.g n sz _) => K ((i, .row t (.g n sz g)) :: r)
      | _ => none
    | false => setGK Y g r fun r' => K ((i, B) :: r')
theorem setGK_inv {α : Type} {Y : Nat} {g : Nat → List SV} {x : α} : ∀ {L : Mem} {K : Mem → Option α}, setGK Y g L K = some x → ∃ L', K L' = some x
  | [], K, h => ⟨_, h⟩
  | (i, B) :: r, K, h => by
    simp only [setGK] at h
    split at h
    · split at h
      · exact ⟨_, h⟩
      · cases h
    · obtain ⟨L', h'⟩ := setGK_inv h
      exact ⟨_, h'⟩
def nst (wide : Bool) (pins : List Nat) (ids : List Nat) (X Y : Nat) (g : Nat → List SV) (F : Tr) (M : Mem) : Option Frz :=
  frzTK M true X F fun F' => frzMK M true X M fun M1 => setGK Y g M1 fun M' => match intoF wide pins [(1000 + Y, none)] F M F' M' ids with
    | some φ => some ⟨F', M', φ⟩
    | none => none
theorem nst_ok {X Y : Nat} {g : Nat → List SV} {φ : List Prop} {U : Nat → Prop} {E : Env} {a : Act} {w : World} (h : nst C.wide C.pins ids X Y g F M = some ⟨F', M', φ⟩) (hφ : AllP φ) (hst : St C F M U E a w) : ∃ U' E', Sup ids U' ∧ St C F' M' U' E' a w := by
  unfold nst at h
  rw [frzTK_eq, frzMK_eq] at h
  obtain ⟨L', h⟩ := setGK_inv h
  split at h
  · rename_i ψ hi
    simp only [Option.some.injEq, Frz.mk.injEq] at h
    obtain ⟨rfl, rfl, rfl⟩ := h
    exact into_ok hst hi hφ
  · cases h
end
end Go.Proofs.YtpbgihhfcdggkaaGreatDoor.V
end
section
namespace Go.Proofs.YtpbgihhfcdggkaaGreatDoor.V
open Go.RowKit
section
variable {C : Ctx} {Q0 : Exit → Act → World → Prop} {F F' : Tr} {M M' : Mem} {ids : List Nat} {k : List Kont} {U : Nat → Prop} {E : Env} {a : Act} {w w' : World}
theorem St.rowTo {i : Nat} {t : TypeId} {e e' : EV} (hst : St C F M U E a w) (hf : find M i = some (.row t e)) (hM : upd M i (.row t e') = some M') (hb : ∀ b, E i = some (some b) → w.grownBy w' (some b) ∧ w'.shape? b = w.shape? b ∧ BOk E (trk C.T0 M E) w' b (.row t e')) (hn : E i = some none → w' = w ∧ e'.len = 0) : St C F M' U E a w' := by
  have hfind := find_upd hM
  have htr : ∀ k, trk C.T0 M' E k ↔ trk C.T0 M E k := fun k => by
    constructor
    · rintro (⟨id, B, q1, q2⟩ | h0)
      · rw [hfind] at q1
        split at q1
        · rename_i e; subst e; exact .inl ⟨id, _, hf, q2⟩
        · exact .inl ⟨id, B, q1, q2⟩
      · exact .inr h0
    · rintro (⟨id, B, q1, q2⟩ | h0)
      · by_cases e : id = i
        · subst e; exact .inl ⟨id, .row t e', by rw [hfind, if_pos rfl], q2⟩
        · exact .inl ⟨id, B, by rw [hfind, if_neg e]; exact q1, q2⟩
      · exact .inr h0
  have hteq : trk C.T0 M' E = trk C.T0 M E := funext fun k => propext (htr k)
  have hs : ∀ j, (find M' j).isSome = true → (find M j).isSome = true := fun j hj => by
    rw [hfind] at hj
    split at hj
    · rename_i e; subst e; rw [hf]; rfl
    · exact hj
  rcases hst.mem.blk i _ hf with ⟨b, hE, hlt, hB⟩ | ⟨hE, _⟩
  · obtain ⟨hg, hsh, hB'⟩ := hb b hE
    have hmine : V.mine M E b := ⟨i, _, hf, hE⟩
    have hchg : Chg (V.mine M E) w w' := ⟨hg.size, fun k hk hnm => hg.block k hk fun q => hnm (Option.some.inj q ▸ hmine), fun k hk => by
      by_cases q : k = b
      · subst q; exact hsh
      · unfold World.shape?; rw [hg.block k hk fun q2 => q (Option.some.inj q2)]⟩
    have hchg2 := hchg.weak (T' := trk C.T0 M E) fun _ => .inl
    refine hst.go (fun _ _ h => h) (fun k _ hk => (htr k).1 hk) hchg hg.os hg.tape hg.output ⟨fun id B hBd => ?_, fun id id' b' q1 q2 q3 q4 => hst.mem.inj id id' b' (hs id q1) (hs id' q2) q3 q4⟩ (fun id b' q1 q2 => hst.own id b' (hs id q1) q2) hst.fresh
    rw [hfind] at hBd
    split at hBd
    · rename_i q
      subst q
      cases hBd
      exact .inl ⟨b, hE, Nat.lt_of_lt_of_le hlt hg.size, by rw [hteq]; exact hB'⟩
    · rename_i q
      rcases hst.mem.blk id B hBd with ⟨b', q1, q2, q3⟩ | q1
      · refine .inl ⟨b', q1, Nat.lt_of_lt_of_le q2 hg.size, ?_⟩
        have hne : b' ≠ b := fun e2 => by
          subst e2
          exact q (hst.mem.inj id i b' (by rw [hBd]; rfl) (by rw [hf]; rfl) q1 hE)
        rw [hteq]
        exact q3.mono (fun _ _ h => h) (fun _ _ h => h) hchg2 (hg.block b' q2 fun q2 => hne (Option.some.inj q2))
      · exact .inr q1
  · obtain ⟨rfl, h0⟩ := hn hE
    refine hst.go (fun _ _ h => h) (fun k _ hk => (htr k).1 hk) (Chg.refl _ _) rfl rfl rfl ⟨fun id B hBd => ?_, fun id id' b' q1 q2 q3 q4 => hst.mem.inj id id' b' (hs id q1) (hs id' q2) q3 q4⟩ (fun id b' q1 q2 => hst.own id b' (hs id q1) q2) hst.fresh
    rw [hfind] at hBd
    split at hBd
    · rename_i q
      subst q
      cases hBd
      exact .inr ⟨hE, t, e', rfl, h0⟩
    · rcases hst.mem.blk id B hBd with ⟨b', q1, q2, q3⟩ | q1
      · exact .inl ⟨b', q1, q2, by rw [hteq]; exact q3⟩
      · exact .inr q1
end
end Go.Proofs.YtpbgihhfcdggkaaGreatDoor.V
end
section
namespace Go.Proofs.YtpbgihhfcdggkaaGreatDoor
open Go.RowKit Go.Lib Go.Shelf V
set_option maxRecDepth 100000
set_option maxHeartbeats 4000000
set_option linter.unusedVariables false
set_option linter.unusedSimpArgs false
theorem del_all (b c n p : Nat) (cs : List Value) (w : World) (hh : w.heap[b]? = some (.cells cs.toArray 53 (0, 0))) (hp : p < n) (hn : n ≤ c) (hc : c * 2 ≤ cs.length) (hok : c ≤ 9223372036854775807) (h1 : ∀ k v, k < n * 2 → cs[k]? = some v → v.oneCell' = true) :
    Calls Tryz.prog 153 #[.slice (some ⟨b, 0, none⟩) n c, .int .i64 p, .int .i64 ((p + 1 : Nat) : Int)] w fun e w' => e = .returned (.slice (some ⟨b, 0, none⟩) (n - 1) c) ∧ w.grownBy w' (some b) ∧
      ∃ cs' : List Value, w'.heap[b]? = some (.cells cs'.toArray 53 (0, 0)) ∧ cs'.length = cs.length ∧ ∀ k, k < (n - 1) * 2 → cs'[k]? = if k < p * 2 then cs[k]? else cs[k + 2]? := by
  refine (del_val b c n p (p + 1) rfl cs w hh hp hn hc hok h1).mono ?_
  rintro e w' ⟨rfl, rfl⟩
  have hd : w.drew.heap[b]? = some (.cells cs.toArray 53 (0, 0)) := hh
  have hl : ((cs.take (n * 2)).drop ((p + 1) * 2)).length = n * 2 - (p + 1) * 2 := by rw [List.length_drop, List.length_take]; omega
  rw [setCells_setRow b 53 _ (p * 2) cs.toArray w.drew hd (by rw [hl]; simp; omega)]
  have hb2 := setRow_heap w.drew b cs.toArray (cs.toArray.toList.take (p * 2) ++ (cs.take (n * 2)).drop ((p + 1) * 2) ++ cs.toArray.toList.drop (p * 2 + ((cs.take (n * 2)).drop ((p + 1) * 2)).length)).toArray 53 (0, 0) hd
  rw [setCells_setRow b 53 [ze, ze] ((n - 1) * 2) _ _ hb2 (by simp only [List.size_toArray, List.length_append, List.length_take, List.length_drop, List.length_cons, List.length_nil]; omega), setRow_setRow]
  refine ⟨rfl, drew_grown (setRow_grown _ _ _), _, setRow_heap w.drew b cs.toArray _ 53 (0, 0) hd, by simp only [List.length_append, List.length_take, List.length_drop, List.length_cons, List.length_nil]; omega, fun k hk => ?_⟩
  simp only [List.getElem?_append, List.getElem?_take, List.getElem?_drop, List.length_append, List.length_take, List.length_drop]
  by_cases k1 : k < p * 2
  · rw [if_pos k1]
    repeat' split
    all_goals first | rfl | (exfalso; omega)
  · rw [if_neg k1]
    repeat' split
    all_goals first | (exfalso; omega) | (congr 1; omega) | skip
namespace V
section
variable {C : Ctx} {Q0 : Exit → Act → World → Prop} {F F' : Tr} {M M' : Mem} {ids : List Nat} {k0 : List Kont} {full rest : List Oper} {d : Option Tmp} {x : Operand} {xs : List Operand} {ats : Array TypeId} {type : TypeId} {pos : String} {after : Array Edge}
theorem Sat.delCall {i n n0 k : Nat} {p p2 : Int} {f f' : Nat → List SV} (hP : C.P = Tryz.prog) (hx : argsF C.Γ F x xs = some (153, [.row i 0 2 0 n0, .int .i64 p, .int .i64 p2])) (hn0 : n0 = n) (hpk : p = (k : Int) ∧ p2 = (k : Int) + 1 ∧ k < n) (hc : callable C.P 153 = true)
    (hf : find M i = some (.row 53 (.g n 2 f))) (hM : upd M i (.row 53 (.g (n - 1) 2 f')) = some M') (he : ∀ y, y < n - 1 → f' y = delG f k y) (hp : putD C.N F d (some (.row i 0 2 0 (n - 1))) some = some F')
    (h : Sat C Q0 (.reg full rest F' M' ids k0)) :
    Sat C Q0 (.reg full (⟨d, .call ⟨.value x, ⟨xs⟩, ats⟩, type, pos, after, none⟩ :: rest) F M ids k0) := by
  subst hn0
  obtain ⟨rfl, rfl, hkn⟩ := hpk
  intro U E a w hsup hst
  obtain ⟨F1, h1, h2⟩ := putD_inv hp
  cases h1
  refine wpList_plain rfl fun K hK => ?_
  unfold Oper.wp
  obtain ⟨vs, ht, hex⟩ := argsF_ok hst.vw hx
  rw [hex, run_callFunc_go hc]
  cases ht with
  | cons _ v0 _ vs hr0 ht =>
  cases ht with
  | cons _ v1 _ vs hr1 ht =>
  cases ht with
  | cons _ v2 _ vs hr2 ht =>
  cases ht
  cases hr1
  cases hr2
  cases hr0 with
  | row0 _ _ _ _ _ hE hl => omega
  | row _ _ _ _ _ b o c m t hE hs ho hl ok =>
    obtain ⟨h5, h6⟩ := ho (by omega)
    obtain rfl : o = 0 := by omega
    obtain ⟨hlt, cs, cf, k1, k2, k3, k4, k5⟩ := hst.mem.at hf hE
    have hm : m = cs.length ∧ t = 53 := by
      simp only [World.shape?, k1] at hs
      cases hs
      simp
    obtain ⟨rfl, rfl⟩ := hm
    have hcone : ∀ t v, t < n0 * 2 → cs[t]? = some v → v.oneCell' = true := fun t v ht hv => by
      have c1 := k3 (t / 2) (show t / 2 < n0 by omega)
      have c1 : (cf (t / 2)).length = 2 := c1
      have e1 := List.getElem?_eq_getElem (show t % 2 < (cf (t / 2)).length by omega)
      have e2 := k4 (t / 2) _ _ (show t / 2 < n0 by omega) e1
      have e2 : cs[t / 2 * 2 + t % 2]? = _ := e2
      rw [show t / 2 * 2 + t % 2 = t by omega, hv] at e2
      cases e2
      exact (k5 (t / 2) (show t / 2 < n0 by omega)).ones _ (List.getElem_mem _)
    rw [hP]
    refine (del_all b c n0 k cs w k1 hkn hl (by omega) ok hcone).mono ?_
    rintro e w' ⟨rfl, r1, cs', r2, r3, r4⟩
    have hsh : w'.shape? b = w.shape? b := by simp [World.shape?, k1, r2, r3]
    have hmine : V.mine M E b := ⟨i, _, hf, hE⟩
    have hchg : Chg (V.mine M E) w w' := ⟨r1.size, fun y hy hnm => r1.block y hy fun e => hnm (Option.some.inj e ▸ hmine), fun y hy => by
      by_cases e : y = b
      · subst e; exact hsh
      · unfold World.shape?
        rw [r1.block y hy fun e2 => e (Option.some.inj e2)]⟩
    have hchg2 := hchg.weak (T' := trk C.T0 M E) fun _ => .inl
    have hst' := hst.rowTo (w' := w') hf hM (fun b' hb' => by
      rw [hE] at hb'
      cases hb'
      refine ⟨r1, hsh, cs', delG cf k, r2, ?_, fun y hy => ?_, fun y t v hy hv => ?_, fun y hy => ?_⟩
      · show (n0 - 1) * 2 ≤ cs'.length
        omega
      · have hy : y < n0 - 1 := hy
        show (delG cf k y).length = 2
        unfold delG
        split
        · exact k3 y (show y < n0 by omega)
        · exact k3 (y + 1) (show y + 1 < n0 by omega)
      · have hy : y < n0 - 1 := hy
        show cs'[y * 2 + t]? = some v
        unfold delG at hv
        split at hv
        · rename_i q1
          have c1 : (cf y).length = 2 := k3 y (show y < n0 by omega)
          have ht : t < 2 := by rw [← c1]; exact (List.getElem?_eq_some_iff.1 hv).1
          rw [r4 _ (by omega), if_pos (by omega)]
          exact k4 y t v (show y < n0 by omega) hv
        · rename_i q1
          have c1 : (cf (y + 1)).length = 2 := k3 (y + 1) (show y + 1 < n0 by omega)
          have ht : t < 2 := by rw [← c1]; exact (List.getElem?_eq_some_iff.1 hv).1
          rw [r4 _ (by omega), if_neg (by omega), show y * 2 + t + 2 = (y + 1) * 2 + t by omega]
          exact k4 (y + 1) t v (show y + 1 < n0 by omega) hv
      · have hy : y < n0 - 1 := hy
        show Items E (trk C.T0 M E) w' (f' y) (delG cf k y)
        rw [he y hy]
        refine Items.mono (fun _ _ h => h) (fun _ _ h => h) hchg2 (w := w) ?_
        unfold delG
        split
        · exact k5 y (show y < n0 by omega)
        · exact k5 (y + 1) (show y + 1 < n0 by omega)) fun hb' => by rw [hE] at hb'; cases hb'
    refine hK _ _ (h U E _ w' hsup (St.putD hst' h2 fun s' hs' => ?_))
    cases hs'
    exact .row i 0 2 0 _ b 0 c _ 53 hE (hsh.trans hs) (fun _ => ⟨rfl, by omega⟩) (by omega) ok
end
end V
end Go.Proofs.YtpbgihhfcdggkaaGreatDoor
end
section
namespace Go.Proofs.YtpbgihhfcdggkaaGreatDoor
open Go.RowKit Go.Lib Go.Shelf V
set_option maxRecDepth 1000000
set_option maxHeartbeats 4000000
set_option linter.unusedVariables false
set_option linter.unusedSimpArgs false
theorem cln_nil (n c : Nat) (w : World) : Calls Tryz.prog 64 #[.slice none n c] w fun e w' => e = .returned (.slice none 0 0) ∧ w' = w := by
  have mixed : Tryz.prog.follows .mixedOrders = true := by kernel_rfl
  have tS := Tryz.underlying30; have aS := Tryz.isAgg30; have zS := Tryz.sizeOf30; have vS := Tryz.zeroValue30; have uS := run_underlying Tryz.underlying30
  have q22 : ∀ (w : World) (a : Option Addr) (n c n' c' : Nat), (binOp .eql 30 (.slice a n c) (.slice none n' c')).run Tryz.prog w = .ok (.bool a.isNone) w := fun w a n c n' c' => Lib.run_eql_slice_nil w _ _ a n c n' c' tS
  go_enter Tryz.func64, Tryz.ntmps64
  go_wp2
  go_ret
  exact ⟨rfl, rfl⟩
theorem cln_some (A : Addr) (n c : Nat) (news : List Value) (w : World) (hbig : n * 32 ≤ 140737488355328) (hl : news.length = n * 2) (hc : ∀ j u, news[j]? = some u → w.cell? (A.add j) = some u) (h1 : ∀ u ∈ news, u.oneCell' = true) :
    Calls Tryz.prog 64 #[.slice (some A) n c] w fun e w' => ∃ v', e = .returned v' ∧ w'.ownsRow w.heap.size 53 2 v' n news ∧ Below w.heap.size w w' := by
  have mixed : Tryz.prog.follows .mixedOrders = true := by kernel_rfl
  have tS := Tryz.underlying30; have aS := Tryz.isAgg30; have zS := Tryz.sizeOf30; have vS := Tryz.zeroValue30; have uS := run_underlying Tryz.underlying30
  have tV := Tryz.underlying53; have aV := Tryz.isAgg53; have zV := Tryz.sizeOf53; have uV := run_underlying Tryz.underlying53
  have vV := val_zero
  have tI := Tryz.underlying3; have aI := Tryz.isAgg3; have zI := Tryz.sizeOf3; have vI := Tryz.zeroValue3; have uI := run_underlying Tryz.underlying3
  obtain ⟨i0, hi0, hzs, hz0, hzb⟩ := val_info'
  have q22 : ∀ (w : World) (a : Option Addr) (n c n' c' : Nat), (binOp .eql 30 (.slice a n c) (.slice none n' c')).run Tryz.prog w = .ok (.bool a.isNone) w := fun w a n c n' c' => Lib.run_eql_slice_nil w _ _ a n c n' c' tS
  have HC : Aside (∀ j u, news[j]? = some u → w.cell? (A.add j) = some u) := hc
  have HO : Aside (∀ u ∈ news, u.oneCell' = true) := h1
  have HL : Aside (news.length = n * 2) := hl
  clear hc h1 hl
  go_enter Tryz.func64, Tryz.ntmps64
  go_wp2_with (at_builtin; refine wpList_append_own _ rfl _ _ 30 rfl w.heap.size 53 i0 zval 2 32 tS hi0 hz0 hzs hzb rfl (by decide) _ _ _ rfl (World.ownsRow_made w #[] 0 (Nat.le_refl _) (Nat.zero_le _) rfl) A n c news rfl ?qc1 ?qc2 ?qc3 ?qc4 ?qc5 ?qc6 ?_)
  case qc1 => exact HL.out
  case qc2 => exact fun j u hj => Lib.cell?_alloc_some _ (HC.out j u hj)
  case qc3 => exact HO.out
  case qc4 => unfold maxLen; omega
  case qc5 => omega
  case qc6 => simp
  intro v' w1 hown hgrow hnil
  go_wp2
  go_ret
  refine ⟨v', rfl, by simpa using hown, ?_⟩
  exact ((Below.refl _ w).alloc (Nat.le_refl _) _).grown hgrow (by simp) (by intro k hk; simp [Value.ownBlock] at hk; omega)
theorem cln_all (q : Option Addr) (n c : Nat) (news : List Value) (w : World) (hbig : n * 32 ≤ 140737488355328) (hq0 : q = none → n = 0) (hl : news.length = n * 2) (hc : ∀ A, q = some A → ∀ j u, news[j]? = some u → w.cell? (A.add j) = some u) (h1 : ∀ u ∈ news, u.oneCell' = true) :
    Calls Tryz.prog 64 #[.slice q n c] w fun e w' => ∃ v', e = .returned v' ∧ w'.ownsRow w.heap.size 53 2 v' n news ∧ Below w.heap.size w w' := by
  cases q with
  | none =>
    refine (cln_nil n c w).mono ?_
    rintro e w' ⟨rfl, rfl⟩
    exact ⟨_, rfl, ⟨hl, .inl ⟨rfl, hq0 rfl⟩⟩, Below.refl _ _⟩
  | some A => exact cln_some A n c news w hbig hl (hc A rfl) h1
namespace V
section
variable {C : Ctx} {Q0 : Exit → Act → World → Prop} {F F' : Tr} {M M' : Mem} {ids : List Nat} {k0 : List Kont} {full rest : List Oper} {d : Option Tmp} {x : Operand} {xs : List Operand} {ats : Array TypeId} {type : TypeId} {pos : String} {after : Array Edge}
theorem Sat.clnCall {nx n : Nat} {f : Nat → List SV} (hP : C.P = Tryz.prog) (hx : argsF C.Γ F x xs = some (64, [.ro (.g n 2 f)])) (hn : n ≤ 1000000) (hc : callable C.P 64 = true)
    (hp : putD C.N F d (some (.row nx 0 2 0 n)) some = some F')
    (h : Sat C Q0 (.reg full rest F' ((nx, .row 53 (.g n 2 f)) :: M) ids k0)) :
    Sat C Q0 (.reg full (⟨d, .call ⟨.value x, ⟨xs⟩, ats⟩, type, pos, after, none⟩ :: rest) F M (nx :: ids) k0) := by
  intro U E a w hsup hst
  obtain ⟨hU, hsup'⟩ := hsup
  obtain ⟨F1, h1, h2⟩ := putD_inv hp
  cases h1
  refine wpList_plain rfl fun K hK => ?_
  unfold Oper.wp
  obtain ⟨vs, ht, hex⟩ := argsF_ok hst.vw hx
  rw [hex, run_callFunc_go hc]
  cases ht with
  | cons _ v0 _ vs hr0 ht =>
  cases ht
  obtain ⟨q, c, cf, rfl, hq0, hcf, hcell⟩ : ∃ (q : Option Addr) (c : Nat) (cf : Nat → List Value), v0 = .slice q n c ∧ (q = none → n = 0) ∧ (∀ y, y < n → (cf y).length = 2 ∧ Items E (trk C.T0 M E) w (f y) (cf y)) ∧
      ∀ A, q = some A → ∀ y t v, y < n → (cf y)[t]? = some v → w.cell? (A.add (y * 2 + t)) = some v := by
    cases hr0 with
    | ro0 _ h0 => exact ⟨none, 0, fun _ => [], by rw [show n = 0 from h0], fun _ => h0, fun y hy => by have : n = 0 := h0; omega, fun A hA => by cases hA⟩
    | ro1 _ A h0 => exact ⟨some A, 0, fun _ => [], by rw [show n = 0 from h0], fun hA => (by cases hA), fun y hy => by have : n = 0 := h0; omega, fun A hA y t v hy => by have : n = 0 := h0; omega⟩
    | ro _ b o n' k c hT hn2 hc2 hr he hl ok hb =>
      subst he
      refine ⟨some ⟨b, o, none⟩, k, c, rfl, fun hA => (by cases hA), fun y hy => ⟨hn2 y hy, hr y hy⟩, fun A hA y t v hy hv => ?_⟩
      cases hA
      have := hc2 y t v hy hv
      rw [Addr.add_lit, ← Nat.add_assoc]
      exact this
  obtain ⟨news, hnews⟩ : ∃ news, news = (cellsN cf n).flatten := ⟨_, rfl⟩
  have hall : ∀ x ∈ cellsN cf n, x.length = 2 := cellsN_all (fun i hi => (hcf i hi).1)
  have hlen : news.length = n * 2 := by rw [hnews, flat_len hall, cellsN_len]
  have hget : ∀ y t v, y < n → (cf y)[t]? = some v → news[y * 2 + t]? = some v := fun y t v hy hv => by
    rw [hnews]
    exact flat_get hall (by rw [cellsN_len]; exact hy) (by rw [cellsN_getD hy]; exact hv)
  have hback : ∀ j u, news[j]? = some u → ∃ y t, y < n ∧ (cf y)[t]? = some u ∧ j = y * 2 + t := fun j u hj => by
    have hjl : j < n * 2 := by rw [← hlen]; exact (List.getElem?_eq_some_iff.1 hj).1
    have hy : j / 2 < n := by omega
    have hc2 := (hcf (j / 2) hy).1
    have e1 := List.getElem?_eq_getElem (show j % 2 < (cf (j / 2)).length by omega)
    have e2 := hget (j / 2) (j % 2) _ hy e1
    rw [show j / 2 * 2 + j % 2 = j by omega, hj] at e2
    exact ⟨j / 2, j % 2, hy, by rw [e1, e2], by omega⟩
  have hone : ∀ u ∈ news, u.oneCell' = true := fun u hu => by
    obtain ⟨j, hj, rfl⟩ := List.getElem_of_mem hu
    obtain ⟨y, t, hy, q1, _⟩ := hback j _ (List.getElem?_eq_getElem hj)
    exact (hcf y hy).2.ones _ (List.mem_of_getElem? q1)
  rw [hP]
  refine (cln_all q n c news w (by omega) hq0 hlen (fun A hA j u hj => ?_) hone).mono ?_
  · obtain ⟨y, t, hy, q1, rfl⟩ := hback j u hj
    exact hcell A hA y t u hy q1
  rintro e w' ⟨v', rfl, ⟨_, hown⟩, hbl⟩
  have hmine : ∀ y, V.mine M E y → y < w.heap.size := fun y ⟨j, B, q1, q2⟩ => (hst.mem.at q1 q2).1
  have fin : ∀ (b : Option Nat) (cs' : List Value), (∀ x, b = some x → w.heap.size ≤ x ∧ x < w'.heap.size ∧ w'.heap[x]? = some (.cells cs'.toArray 53 (0, 0))) → (n ≠ 0 → n * 2 ≤ cs'.length ∧ cs'.take (n * 2) = news) → (b = none → n = 0) →
      Rep (envWith E nx b) (trk C.T0 ((nx, .row 53 (.g n 2 f)) :: M) (envWith E nx b)) w' (.row nx 0 2 0 n) v' → K (a.put d v') w' := fun b cs' r1 r2 r3 r4 => by
    have h3 := append_fin (nx := nx) (o := none) (b := b) (elem := 53) (e' := .g n 2 f) (cs' := cs') (c' := cf) hst hU ((Chg.of_below hbl).weak (T' := V.mine M E) fun _ h => h) hbl.os hbl.tape hbl.output
      (fun y hy => ⟨(r1 y hy).2.1, .inl (r1 y hy).1⟩) (fun j B1 y hfd hE => hbl.block y (hmine y ⟨j, B1, hfd, hE⟩)) (fun y hy => (r1 y hy).2.2)
      (by
        show n * 2 ≤ cs'.length
        rcases Nat.eq_zero_or_pos n with h0 | h0
        · rw [h0]; omega
        · exact (r2 (by omega)).1)
      (fun y hy => (hcf y hy).1)
      (fun y t v hy hv => by
        have hy : y < n := hy
        have ht : t < 2 := by rw [← (hcf y hy).1]; exact (List.getElem?_eq_some_iff.1 hv).1
        show cs'[y * 2 + t]? = some v
        obtain ⟨q1, q2⟩ := r2 (by omega)
        have := hget y t v hy hv
        rw [← q2, List.getElem?_take, if_pos (by omega)] at this
        exact this)
      (fun y hy => (hcf y hy).2) (fun hb => r3 hb)
    exact hK _ _ (h _ _ _ w' hsup' (St.putD h3 h2 fun s' hs' => by cases hs'; exact r4))
  rcases hown with ⟨rfl, h0⟩ | ⟨g, cap, cur, rfl, hg1, hg2, hg3, hg4, hg5, hg6⟩
  · refine fin none [] (fun y hy => by cases hy) (fun hn => absurd h0 hn) (fun _ => h0) ?_
    exact .row0 nx 0 2 0 n (by simp [envWith]) h0
  · have hlt : g < w'.heap.size := by
      rcases Nat.lt_or_ge g w'.heap.size with q | q
      · exact q
      · rw [Array.getElem?_eq_none q] at hg2; cases hg2
    have hcl : cur.toList.length = cap * 2 := by rw [Array.length_toList]; exact hg5
    refine fin (some g) cur.toList (fun y hy => ?_) (fun _ => ⟨by rw [hcl]; omega, hg6⟩) (fun hb => by cases hb) ?_
    · cases hy
      exact ⟨hg1, hlt, by rw [Array.toArray_toList]; exact hg2⟩
    · exact .row nx 0 2 0 n g 0 cap cur.size 53 (by simp [envWith]) (by simp [World.shape?, hg2]) (fun _ => ⟨rfl, by omega⟩) hg3 (by unfold maxLen at hg4; unfold okLen; omega)
end
end V
end Go.Proofs.YtpbgihhfcdggkaaGreatDoor
end
section
namespace Go.Proofs.YtpbgihhfcdggkaaGreatDoor.V
open Go.RowKit
section
variable {C : Ctx} {Q0 : Exit → Act → World → Prop} {F F' : Tr} {M M' : Mem} {ids : List Nat} {k : List Kont} {full rest : List Oper}
theorem St.iter {U : Nat → Prop} {E : Env} {a : Act} {w : World} (h : St C F M U E a w) {id b : Nat} {s : ByteArray} {p p' : Nat} (hM : upd M id (.obj (.stringIter s p')) = some M') (hf : find M id = some (.obj (.stringIter s p))) (hE : E id = some (some b)) : St C F M' U E a (w.iterAt b s p') := by
  have hk : w.heap[b]? = some (.stringIter s p) := (h.mem.at hf hE).2
  have hfind := find_upd hM
  have hsome : ∀ k, (find M' k).isSome = true → (find M k).isSome = true := fun k hk => by
    rw [hfind] at hk
    split at hk
    · rename_i e; subst e; rw [hf]; rfl
    · exact hk
  have hT : ∀ x, x < w.heap.size → trk C.T0 M' E x → trk C.T0 M E x := by
    rintro x _ (⟨k, B1, h1, h2⟩ | h0)
    · have := hsome k (by rw [h1]; rfl)
      obtain ⟨B2, hB2⟩ := Option.isSome_iff_exists.1 this
      exact .inl ⟨k, B2, hB2, h2⟩
    · exact .inr h0
  have hTb : mine M E b := ⟨id, _, hf, hE⟩
  have hw : Chg (mine M E) w (w.iterAt b s p') := by
    refine ⟨by rw [Lib.iterAt_size]; exact Nat.le_refl _, fun x _ hn => Lib.iterAt_other w b x s p' (fun e => hn (by rw [e]; exact hTb)), fun x _ => ?_⟩
    by_cases e : x = b
    · subst e
      simp only [World.shape?, Lib.iterAt_heap w x s p p' hk, hk]
    · simp only [World.shape?, Lib.iterAt_other w b x s p' e]
  refine h.go (fun _ _ h => h) hT hw rfl rfl rfl ⟨fun k B1 h1 => ?_, fun k k' x h1 h2 h3 h4 => h.mem.inj k k' x (hsome k h1) (hsome k' h2) h3 h4⟩ (fun k x h1 h2 => h.own k x (hsome k h1) h2) h.fresh
  rw [hfind] at h1
  split at h1
  · rename_i e
    subst e
    simp at h1
    subst h1
    left
    exact ⟨b, hE, by rw [Lib.iterAt_size]; exact (h.mem.at hf hE).1, Lib.iterAt_heap w b s p p' hk⟩
  · rename_i e
    rcases h.mem.blk k B1 h1 with ⟨x, h2, h3, h4⟩ | h2
    · left
      have hxb : x ≠ b := fun e' => by
        subst e'
        exact e (h.mem.inj k id x (by rw [h1]; rfl) (by rw [hf]; rfl) h2 hE)
      exact ⟨x, h2, by rw [Lib.iterAt_size]; exact h3, h4.mono (fun _ _ h => h) hT (hw.weak fun _ => .inl) (Lib.iterAt_other w b x s p' hxb)⟩
    · right; exact h2
section
variable {d : Option Tmp} {x : Operand} {type : TypeId} {pos : String} {after : Array Edge} {l : List UInt8} {p i : Nat}
theorem iter_at {U : Nat → Prop} {E : Env} {a : Act} {w : World} (hst : St C F M U E a w) (hx : opd C.Γ F x = some (.ptr i 0)) : ∃ b, a.eval x = .pointer (some ⟨b, 0, none⟩) ∧ E i = some (some b) := by
  have hr := opd_rep hst.vw hx
  generalize a.eval x = v at hr
  cases hr with
  | ptr _ _ b h => exact ⟨b, rfl, h⟩
theorem Sat.next (hx : opd C.Γ F x = some (.ptr i 0)) (hf : find M i = some (.obj (.stringIter ⟨l.toArray⟩ p))) (hok : okLen l.length) (hl : p < l.length)
    (hp : putD C.N F d (some (.tup [.bool true, .int .i64 (p : Int), .int .i32 ((Utf8.decode ⟨l.toArray⟩ p).1 : Int)])) some = some F')
    (hM : upd M i (.obj (.stringIter ⟨l.toArray⟩ (p + (Utf8.decode ⟨l.toArray⟩ p).2))) = some M') (hn : Sat C Q0 (.reg full rest F' M' ids k)) :
    Sat C Q0 (.reg full (⟨d, .next x true, type, pos, after, none⟩ :: rest) F M ids k) := by
  intro U E a w hsup hst
  obtain ⟨F1, h1, h2⟩ := putD_inv hp
  cases h1
  refine wpList_plain rfl fun K hK => ?_
  unfold Oper.wp
  obtain ⟨b, hv, hE⟩ := iter_at hst hx
  have hk : w.heap[b]? = some (.stringIter ⟨l.toArray⟩ p) := (hst.mem.at hf hE).2
  have hrun : (execOp a.eval ⟨d, .next x true, type, pos, after, none⟩).run C.P w = .ok (.value (.tuple #[.bool true, .int .i64 p, .int .i32 (Utf8.decode ⟨l.toArray⟩ p).1])) (w.iterAt b ⟨l.toArray⟩ (p + (Utf8.decode ⟨l.toArray⟩ p).2)) := by
    unfold execOp
    simp only [hv, Sem.run_bind, Lib.run_next_any_at w b _ p type hk (by simpa [ByteArray.size] using hl), Result.andThen_ok, Sem.run_pure]
  rw [hrun]
  have hc := Lib.rune_le ⟨l.toArray⟩ p
  unfold okLen at hok
  exact hK _ _ (hn U E _ _ hsup ((hst.iter hM hf hE).putD h2 fun s' hs' => by
    cases hs'
    exact .tup _ [_, _, _] (.cons _ _ _ _ (.bool _) (.cons _ _ _ _ (.int _ _ (inR_i64 (by omega) (by omega))) (.cons _ _ _ _ (.int _ _ (by simp [inR, IntKind.min, IntKind.max, IntKind.signed, IntKind.bits]; omega)) .nil)))))
end
end
end Go.Proofs.YtpbgihhfcdggkaaGreatDoor.V
end
section
namespace Go.Proofs.YtpbgihhfcdggkaaGreatDoor.V
open Go.RowKit
section
variable {C : Ctx} {Q0 : Exit → Act → World → Prop} {F F' : Tr} {M : Mem} {ids : List Nat} {k : List Kont} {full rest : List Oper}
theorem Sat.convS {d : Option Tmp} {x : Operand} {t0 t e : TypeId} {type : TypeId} {pos : String} {after : Array Edge} {l : List UInt8}
    (hx : opd C.Γ F x = some (.str l)) (hs : C.P.underlying t0 = some .string) (hu : C.P.underlying t = some (.slice e)) (he : C.P.underlying e = some (.int .u8)) (hwd : C.wide = false) (hp : putD C.N F d (some (.ro (.u8 l))) some = some F')
    (h : Sat C Q0 (.reg full rest F' M ids k)) : Sat C Q0 (.reg full (⟨d, .convert t0 t x, type, pos, after, none⟩ :: rest) F M ids k) := by
  intro U E a w hsup hst
  obtain ⟨G1, e1, e2⟩ := putD_inv hp
  cases e1
  refine wpList_plain rfl fun K hK => ?_
  unfold Oper.wp
  have hr := opd_rep hst.vw hx
  generalize hv : a.eval x = v at hr
  cases hr with
  | str _ hok =>
  have hl : (⟨l.toArray⟩ : ByteArray).size = l.length := by simp [ByteArray.size]
  have hb : Below w.heap.size w (Lib.bytesWorld w e ⟨l.toArray⟩) := ⟨rfl, rfl, rfl, by rw [Lib.bytesWorld_size]; exact Nat.le_succ _, fun j hj => Lib.bytesWorld_at_old w e _ j hj⟩
  have hrun : (execOp a.eval ⟨d, .convert t0 t x, type, pos, after, none⟩).run C.P w = .ok (.value (.slice (some ⟨w.heap.size, 0, none⟩) (⟨l.toArray⟩ : ByteArray).size (grownCap w (⟨l.toArray⟩ : ByteArray).size 0 e))) (Lib.bytesWorld w e ⟨l.toArray⟩) := by
    unfold execOp
    simp only [hv, Sem.run_bind, Lib.run_convert_string_bytes w t0 t e ⟨l.toArray⟩ hs hu he, Result.andThen_ok, Sem.run_pure]
  rw [hrun, hl]
  have hnT : ¬ trk C.T0 M E w.heap.size := by
    rintro (⟨id, B, q1, q2⟩ | h0)
    · have := (hst.mem.at q1 q2).1
      omega
    · rcases hst.hid _ h0 with ⟨q, _⟩ | q
      · have := hst.kp.chg.size
        omega
      · rw [hwd] at q; cases q
  refine hK _ _ (h U E _ _ hsup ((hst.below hb).putD e2 fun s' hs' => ?_))
  cases hs'
  refine .ro (.u8 l) w.heap.size 0 l.length _ (fun i => [.int .u8 ((l.getD i 0).toNat : Int)]) hnT (fun i _ => rfl) (fun i j v hi hj => ?_) (fun i hi => .one _ _ _ _ rfl (.int _ _ ?_) .nil) rfl (grownCap_ge ..) (grownCap_ok _ _ _ _ hok) (by rw [Lib.bytesWorld_size]; exact Nat.lt_succ_self _)
  · cases j with
    | succ j => simp at hj
    | zero =>
      cases hj
      have e : 0 + i * (EV.u8 l).sz + 0 = i := by show 0 + i * 1 + 0 = i; omega
      rw [e, Lib.bytesWorld_cell w _ ⟨l.toArray⟩ i (by rw [hl]; exact hi)]
  · exact inR_u8 _
end
end Go.Proofs.YtpbgihhfcdggkaaGreatDoor.V
end
section
namespace Go.Proofs.YtpbgihhfcdggkaaGreatDoor
set_option linter.unusedSimpArgs false
abbrev Nm : Type := List UInt8
theorem nm_irr (a : Nm) : ¬ a < a := List.lt_irrefl a
theorem nm_tr {a b c : Nm} (h : a < b) (h2 : b < c) : a < c := List.lt_trans h h2
theorem nm_or {a b : Nm} (h : ¬ a < b) (h2 : a ≠ b) : b < a := by
  rcases Std.Trichotomous.rel_or_eq_or_rel_swap (r := fun (x y : Nm) => x < y) (a := a) (b := b) with q | q | q
  · exact absurd q h
  · exact absurd q h2
  · exact q
theorem nm_ne {a b : Nm} (h : a < b) : a ≠ b := fun e => by subst e; exact nm_irr _ h
structure ValL where
  name : Nm
  val : Nm
@[reducible] def val0 : ValL := ⟨[], []⟩
def Rising (l : List ValL) : Prop := l.Pairwise fun a b => a.name < b.name
def hasV (l : List ValL) (n : Nm) : Bool := l.any fun v => decide (v.name = n)
def delV (l : List ValL) (n : Nm) : List ValL := l.filter fun v => !decide (v.name = n)
def getV : List ValL → Nm → ValL
  | [], _ => val0
  | x :: l, n => bif decide (x.name = n) then x else getV l n
def insV : List ValL → ValL → List ValL
  | [], v => [v]
  | x :: l, v => bif decide (v.name < x.name) then v :: x :: l else x :: insV l v
def putV (l : List ValL) (v : ValL) : List ValL := if v.name = [] then l else insV l v
theorem hasV_iff (l : List ValL) (n : Nm) : hasV l n = true ↔ ∃ v ∈ l, v.name = n := by
  unfold hasV
  rw [List.any_eq_true]
  simp
theorem hasV_no (l : List ValL) (n : Nm) : hasV l n = false ↔ ∀ v ∈ l, v.name ≠ n := by
  unfold hasV
  rw [List.any_eq_false]
  simp
theorem delV_no (l : List ValL) (n : Nm) (h : hasV l n = false) : delV l n = l := by
  rw [hasV_no] at h
  unfold delV
  rw [List.filter_eq_self]
  intro v hv
  simp [h v hv]
theorem delV_mem (l : List ValL) (n : Nm) (v : ValL) : v ∈ delV l n ↔ v ∈ l ∧ v.name ≠ n := by
  unfold delV
  rw [List.mem_filter]
  simp
theorem hasV_del (l : List ValL) (n m : Nm) : hasV (delV l n) m = (hasV l m && !decide (m = n)) := by
  apply Bool.eq_iff_iff.2
  rw [hasV_iff, Bool.and_eq_true, hasV_iff]
  constructor
  · rintro ⟨v, hv, rfl⟩
    obtain ⟨h1, h2⟩ := (delV_mem l n v).1 hv
    exact ⟨⟨v, h1, rfl⟩, by simp [h2]⟩
  · rintro ⟨⟨v, h1, rfl⟩, h2⟩
    exact ⟨v, (delV_mem l n v).2 ⟨h1, by simpa using h2⟩, rfl⟩
theorem insV_mem : ∀ (l : List ValL) (v x : ValL), x ∈ insV l v ↔ x = v ∨ x ∈ l
  | [], v, x => by simp [insV]
  | y :: l, v, x => by
    rw [insV]
    cases decide (v.name < y.name) with
    | true => simp
    | false =>
      rw [cond_false, List.mem_cons, insV_mem l v x, List.mem_cons]
      constructor
      · rintro (h | h | h)
        · exact .inr (.inl h)
        · exact .inl h
        · exact .inr (.inr h)
      · rintro (h | h | h)
        · exact .inr (.inl h)
        · exact .inl h
        · exact .inr (.inr h)
theorem hasV_ins (l : List ValL) (v : ValL) (m : Nm) : hasV (insV l v) m = (decide (v.name = m) || hasV l m) := by
  apply Bool.eq_iff_iff.2
  rw [hasV_iff, Bool.or_eq_true, hasV_iff, decide_eq_true_eq]
  constructor
  · rintro ⟨x, hx, rfl⟩
    rcases (insV_mem l v x).1 hx with rfl | h
    · exact .inl rfl
    · exact .inr ⟨x, h, rfl⟩
  · rintro (h | ⟨x, h, rfl⟩)
    · exact ⟨v, (insV_mem l v v).2 (.inl rfl), h⟩
    · exact ⟨x, (insV_mem l v x).2 (.inr h), rfl⟩
theorem rising_del {l : List ValL} (h : Rising l) (n : Nm) : Rising (delV l n) := List.Pairwise.filter _ h
theorem rising_ins : ∀ {l : List ValL}, Rising l → ∀ v : ValL, hasV l v.name = false → Rising (insV l v)
  | [], _, v, _ => List.pairwise_singleton _ _
  | x :: l, h, v, hv => by
    obtain ⟨h1, h2⟩ := List.pairwise_cons.1 h
    have hv2 := (hasV_no _ _).1 hv
    rw [insV]
    by_cases q : v.name < x.name
    · rw [decide_eq_true q, cond_true]
      refine List.pairwise_cons.2 ⟨fun y hy => ?_, h⟩
      rcases List.mem_cons.1 hy with rfl | hy
      · exact q
      · exact nm_tr q (h1 y hy)
    · rw [decide_eq_false q, cond_false]
      have hl : hasV l v.name = false := (hasV_no _ _).2 fun y hy => hv2 y (List.mem_cons_of_mem _ hy)
      refine List.pairwise_cons.2 ⟨fun y hy => ?_, rising_ins h2 v hl⟩
      rcases (insV_mem l v y).1 hy with rfl | hy
      · exact nm_or q fun e => hv2 x (List.mem_cons_self ..) e.symm
      · exact h1 y hy
theorem delV_ins : ∀ (l : List ValL) (v : ValL), hasV l v.name = false → delV (insV l v) v.name = l
  | [], v, _ => by simp [insV, delV]
  | x :: l, v, h => by
    have h2 := (hasV_no _ _).1 h
    have hx : x.name ≠ v.name := h2 x (List.mem_cons_self ..)
    have hl : hasV l v.name = false := (hasV_no _ _).2 fun y hy => h2 y (List.mem_cons_of_mem _ hy)
    rw [insV]
    cases decide (v.name < x.name) with
    | true =>
      rw [cond_true]
      have e := delV_no _ _ h
      unfold delV at e ⊢
      rw [List.filter_cons_of_neg (by simp)]
      exact e
    | false =>
      rw [cond_false]
      have e := delV_ins l v hl
      unfold delV at e ⊢
      rw [List.filter_cons_of_pos (by simp [hx]), e]
theorem insV_del : ∀ {l : List ValL}, Rising l → ∀ v ∈ l, insV (delV l v.name) v = l
  | [], _, v, hv => by cases hv
  | x :: l, h, v, hv => by
    obtain ⟨h1, h2⟩ := List.pairwise_cons.1 h
    rcases List.mem_cons.1 hv with rfl | hv
    · have hno : hasV l v.name = false := (hasV_no _ _).2 fun y hy e => nm_irr _ (e ▸ h1 y hy)
      have e := delV_no _ _ hno
      unfold delV at e ⊢
      rw [List.filter_cons_of_neg (by simp), e]
      cases l with
      | nil => rfl
      | cons y l => rw [insV, decide_eq_true (h1 y (List.mem_cons_self ..)), cond_true]
    · have hlt := h1 v hv
      have ih := insV_del h2 v hv
      have hne : x.name ≠ v.name := nm_ne hlt
      unfold delV at ih ⊢
      rw [List.filter_cons_of_pos (by simp [hne]), insV, decide_eq_false (fun q => nm_irr _ (nm_tr hlt q)), cond_false, ih]
theorem getV_no : ∀ (l : List ValL) (n : Nm), hasV l n = false → getV l n = val0
  | [], _, _ => rfl
  | x :: l, n, h => by
    have h2 := (hasV_no _ _).1 h
    rw [getV, decide_eq_false (h2 x (List.mem_cons_self ..)), cond_false]
    exact getV_no l n ((hasV_no _ _).2 fun y hy => h2 y (List.mem_cons_of_mem _ hy))
theorem getV_yes : ∀ (l : List ValL) (n : Nm), hasV l n = true → getV l n ∈ l ∧ (getV l n).name = n
  | [], _, h => by cases h
  | x :: l, n, h => by
    rw [getV]
    by_cases q : x.name = n
    · rw [decide_eq_true q, cond_true]
      exact ⟨List.mem_cons_self .., q⟩
    · rw [decide_eq_false q, cond_false]
      have hl : hasV l n = true := by
        obtain ⟨y, hy, e⟩ := (hasV_iff _ _).1 h
        rcases List.mem_cons.1 hy with rfl | hy
        · exact absurd e q
        · exact (hasV_iff _ _).2 ⟨y, hy, e⟩
      obtain ⟨a, b⟩ := getV_yes l n hl
      exact ⟨List.mem_cons_of_mem _ a, b⟩
theorem getV_del : ∀ (l : List ValL) (n m : Nm), getV (delV l n) m = if m = n then val0 else getV l m
  | [], n, m => by simp [delV, getV]
  | x :: l, n, m => by
    have ih := getV_del l n m
    unfold delV at ih ⊢
    by_cases q : x.name = n
    · rw [List.filter_cons_of_neg (by simp [q]), ih]
      by_cases e : m = n
      · rw [if_pos e, if_pos e]
      · rw [if_neg e, if_neg e, getV, decide_eq_false (fun h => e (h.symm.trans q)), cond_false]
    · rw [List.filter_cons_of_pos (by simp [q]), getV, ih, getV]
      by_cases e : m = n
      · rw [if_pos e, decide_eq_false (fun h => q (h.trans e)), cond_false, if_pos e]
      · rw [if_neg e, if_neg e]
theorem getV_ins : ∀ (l : List ValL) (v : ValL) (m : Nm), hasV l v.name = false → getV (insV l v) m = if m = v.name then v else getV l m
  | [], v, m, _ => by
    show (bif decide (v.name = m) then v else getV [] m) = if m = v.name then v else getV [] m
    by_cases e : m = v.name
    · rw [decide_eq_true e.symm, if_pos e, cond_true]
    · rw [decide_eq_false (fun h => e h.symm), if_neg e, cond_false]
  | x :: l, v, m, h => by
    have h2 := (hasV_no _ _).1 h
    have hx : x.name ≠ v.name := h2 x (List.mem_cons_self ..)
    have hl : hasV l v.name = false := (hasV_no _ _).2 fun y hy => h2 y (List.mem_cons_of_mem _ hy)
    rw [insV]
    cases decide (v.name < x.name) with
    | true =>
      rw [cond_true, getV]
      by_cases e : m = v.name
      · rw [decide_eq_true e.symm, if_pos e, cond_true]
      · rw [decide_eq_false (fun h => e h.symm), if_neg e, cond_false]
    | false =>
      rw [cond_false, getV, getV_ins l v m hl, getV]
      by_cases e : m = v.name
      · rw [if_pos e, decide_eq_false (fun h => hx (h.trans e)), cond_false, if_pos e]
      · rw [if_neg e, if_neg e]
theorem insV_len : ∀ (l : List ValL) (v : ValL), (insV l v).length = l.length + 1
  | [], _ => rfl
  | x :: l, v => by
    rw [insV]
    cases decide (v.name < x.name) with
    | true => rfl
    | false => rw [cond_false, List.length_cons, insV_len l v, List.length_cons]
theorem delV_len {l : List ValL} (h : Rising l) (n : Nm) : (delV l n).length = if hasV l n = true then l.length - 1 else l.length := by
  cases q : hasV l n with
  | false => rw [delV_no l n q]; rfl
  | true =>
    obtain ⟨a, b⟩ := getV_yes l n q
    have e := insV_del h _ a
    have e2 := insV_len (delV l (getV l n).name) (getV l n)
    rw [e, b] at e2
    rw [if_pos rfl]
    omega
structure SetL where
  version : Int
  vals : List ValL
  kept : List ValL
structure RuleL where
  kind : Int
  name : Nm
  to : Nm
  val : Nm
def movV (l : List ValL) (a b : Nm) : Option (List ValL) := if hasV l a = true ∧ hasV l b = false then some (insV (delV l a) ⟨b, (getV l a).val⟩) else none
def doS (s : SetL) (r : RuleL) : Option SetL :=
  if r.kind = 1 then (movV s.vals r.name r.to).map fun l => ⟨s.version, l, s.kept⟩
  else if r.kind = 2 then some ⟨s.version, insV (delV s.vals r.name) ⟨r.name, r.val⟩, s.kept ++ [getV s.vals r.name]⟩
  else some ⟨s.version, delV s.vals r.name, s.kept ++ [getV s.vals r.name]⟩
def popV (k : List ValL) (n : Nm) : Option (ValL × List ValL) := match k.getLast? with
  | none => none
  | some v => if v.name = [] ∨ v.name = n then some (v, k.dropLast) else none
def undoS (s : SetL) (r : RuleL) : Option SetL :=
  if r.kind = 1 then (movV s.vals r.to r.name).map fun l => ⟨s.version, l, s.kept⟩
  else if hasV s.vals r.name = decide (r.kind = 2) then (popV s.kept r.name).map fun p => ⟨s.version, putV (delV s.vals r.name) p.1, p.2⟩
  else none
structure RuleOk (r : RuleL) : Prop where
  kind : r.kind = 1 ∨ r.kind = 2 ∨ r.kind = 3
  name : r.name ≠ []
  to : r.kind = 1 → r.to ≠ [] ∧ r.name ≠ r.to
theorem mov_back {l l' : List ValL} (h : Rising l) (a b : Nm) (hab : a ≠ b) (hm : movV l a b = some l') : Rising l' ∧ movV l' b a = some l ∧ l'.length = l.length := by
  unfold movV at hm
  split at hm
  · rename_i q
    obtain ⟨q1, q2⟩ := q
    cases hm
    obtain ⟨g1, g2⟩ := getV_yes l a q1
    have hnb : hasV (delV l a) b = false := by rw [hasV_del, q2]; rfl
    have hr : Rising (insV (delV l a) ⟨b, (getV l a).val⟩) := rising_ins (rising_del h a) _ hnb
    refine ⟨hr, ?_, ?_⟩
    · unfold movV
      have e1 : hasV (insV (delV l a) ⟨b, (getV l a).val⟩) b = true := by rw [hasV_ins, decide_eq_true rfl]; rfl
      have e2 : hasV (insV (delV l a) ⟨b, (getV l a).val⟩) a = false := by
        rw [hasV_ins, decide_eq_false (fun e : b = a => hab e.symm), hasV_del, decide_eq_true rfl]
        simp
      rw [if_pos ⟨e1, e2⟩]
      have e3 : delV (insV (delV l a) ⟨b, (getV l a).val⟩) b = delV l a := delV_ins _ ⟨b, (getV l a).val⟩ hnb
      have e4 : getV (insV (delV l a) ⟨b, (getV l a).val⟩) b = ⟨b, (getV l a).val⟩ := by
        rw [getV_ins _ _ _ hnb, if_pos rfl]
      rw [e3, e4]
      have e5 : (⟨a, (getV l a).val⟩ : ValL) = getV l a := by
        have : (⟨(getV l a).name, (getV l a).val⟩ : ValL) = getV l a := rfl
        rw [g2] at this
        exact this
      dsimp only
      rw [e5]
      have e6 := insV_del h _ g1
      rw [g2] at e6
      rw [e6]
    · rw [insV_len, delV_len h, if_pos q1]
      have : 0 < l.length := List.length_pos_of_mem g1
      omega
  · cases hm
theorem undo_do {s t : SetL} (h : Rising s.vals) (hn : ∀ v ∈ s.vals, v.name ≠ []) (r : RuleL) (hr : RuleOk r) (hd : doS s r = some t) : undoS t r = some s ∧ Rising t.vals ∧ (∀ v ∈ t.vals, v.name ≠ []) ∧ t.version = s.version := by
  unfold doS at hd
  split at hd
  · rename_i k1
    obtain ⟨n1, n2⟩ := hr.to k1
    cases hm : movV s.vals r.name r.to with
    | none => rw [hm] at hd; cases hd
    | some l =>
      rw [hm] at hd
      cases hd
      obtain ⟨m1, m2, _⟩ := mov_back h r.name r.to n2 hm
      refine ⟨?_, m1, ?_, rfl⟩
      · unfold undoS
        rw [if_pos k1, m2]
        rfl
      · intro v hv
        unfold movV at hm
        split at hm
        · cases hm
          rcases (insV_mem _ _ _).1 hv with rfl | hv
          · exact n1
          · exact hn v ((delV_mem _ _ _).1 hv).1
        · cases hm
  · rename_i k1
    have hpop : ∀ (b : List ValL), popV (s.kept ++ [getV s.vals r.name]) r.name = some (getV s.vals r.name, s.kept) := fun _ => by
      unfold popV
      rw [List.getLast?_append]
      simp only [List.getLast?_singleton, Option.some_or, List.dropLast_concat]
      rw [if_pos]
      cases q : hasV s.vals r.name with
      | false => exact .inl (by rw [getV_no _ _ q])
      | true => exact .inr (getV_yes _ _ q).2
    have hput : putV (delV s.vals r.name) (getV s.vals r.name) = s.vals := by
      unfold putV
      cases q : hasV s.vals r.name with
      | false => rw [getV_no _ _ q, if_pos rfl, delV_no _ _ q]
      | true =>
        obtain ⟨g1, g2⟩ := getV_yes _ _ q
        rw [if_neg (hn _ g1)]
        have e := insV_del h _ g1
        rw [g2] at e
        exact e
    have hnd : hasV (delV s.vals r.name) r.name = false := by rw [hasV_del, decide_eq_true rfl]; simp
    split at hd
    · rename_i k2
      cases hd
      refine ⟨?_, rising_ins (rising_del h _) _ hnd, ?_, rfl⟩
      · unfold undoS
        rw [if_neg k1]
        have e1 : hasV (insV (delV s.vals r.name) ⟨r.name, r.val⟩) r.name = true := by rw [hasV_ins, decide_eq_true rfl]; rfl
        rw [if_pos (show hasV (insV (delV s.vals r.name) ⟨r.name, r.val⟩) r.name = decide (r.kind = 2) by rw [e1, decide_eq_true k2])]
        rw [hpop []]
        have e2 : delV (insV (delV s.vals r.name) ⟨r.name, r.val⟩) r.name = delV s.vals r.name := delV_ins _ ⟨r.name, r.val⟩ hnd
        show some _ = some _
        dsimp only
        rw [e2, hput]
      · intro v hv
        rcases (insV_mem _ _ _).1 hv with rfl | hv
        · exact hr.name
        · exact hn v ((delV_mem _ _ _).1 hv).1
    · rename_i k2
      cases hd
      refine ⟨?_, rising_del h _, fun v hv => hn v ((delV_mem _ _ _).1 hv).1, rfl⟩
      unfold undoS
      rw [if_neg k1, if_pos (show hasV (delV s.vals r.name) r.name = decide (r.kind = 2) by rw [hnd, decide_eq_false k2]), hpop []]
      show some _ = some _
      dsimp only
      rw [delV_no _ _ hnd, hput]
def runL (f : SetL → RuleL → Option SetL) : SetL → List RuleL → Option SetL
  | s, [] => some s
  | s, r :: l => match f s r with
    | some t => runL f t l
    | none => none
theorem runL_app (f : SetL → RuleL → Option SetL) : ∀ (a b : List RuleL) (s : SetL), runL f s (a ++ b) = match runL f s a with
    | some t => runL f t b
    | none => none
  | [], b, s => rfl
  | r :: a, b, s => by
    rw [List.cons_append, runL, runL]
    cases f s r with
    | none => rfl
    | some t => exact runL_app f a b t
theorem back_run : ∀ (l : List RuleL) (s t : SetL), (∀ r ∈ l, RuleOk r) → Rising s.vals → (∀ v ∈ s.vals, v.name ≠ []) → runL doS s l = some t → runL undoS t l.reverse = some s ∧ Rising t.vals ∧ (∀ v ∈ t.vals, v.name ≠ []) ∧ t.version = s.version
  | [], s, t, _, h1, h2, h => by
    cases h
    exact ⟨rfl, h1, h2, rfl⟩
  | r :: l, s, t, hr, h1, h2, h => by
    rw [runL] at h
    cases hd : doS s r with
    | none => rw [hd] at h; cases h
    | some u =>
      rw [hd] at h
      obtain ⟨q1, q2, q3, q4⟩ := undo_do h1 h2 r (hr r (List.mem_cons_self ..)) hd
      obtain ⟨e1, e2, e3, e4⟩ := back_run l u t (fun x hx => hr x (List.mem_cons_of_mem _ hx)) q2 q3 h
      refine ⟨?_, e2, e3, e4.trans q4⟩
      rw [List.reverse_cons, runL_app, e1]
      show (match undoS u r with | some t => runL undoS t [] | none => none) = _
      rw [q1]
      rfl
theorem doS_len {s t : SetL} (r : RuleL) (hd : doS s r = some t) : t.vals.length ≤ s.vals.length + 1 ∧ t.kept.length ≤ s.kept.length + 1 ∧ s.kept.length ≤ t.kept.length := by
  have hdl : (delV s.vals r.name).length ≤ s.vals.length := by
    unfold delV
    exact List.length_filter_le _ _
  unfold doS at hd
  split at hd
  · cases hm : movV s.vals r.name r.to with
    | none => rw [hm] at hd; cases hd
    | some l =>
      rw [hm] at hd
      cases hd
      unfold movV at hm
      split at hm
      · cases hm
        dsimp only
        rw [insV_len]
        omega
      · cases hm
  · split at hd <;> cases hd <;> dsimp only <;> simp only [insV_len, List.length_append, List.length_singleton] <;> omega
theorem runL_len : ∀ (l : List RuleL) (s t : SetL), (∀ r ∈ l, RuleOk r) → Rising s.vals → (∀ v ∈ s.vals, v.name ≠ []) → runL doS s l = some t → t.vals.length ≤ s.vals.length + l.length ∧ t.kept.length ≤ s.kept.length + l.length
  | [], s, t, _, _, _, h => by
    cases h
    exact ⟨Nat.le_refl _, Nat.le_refl _⟩
  | r :: l, s, t, hr, h1, h2, h => by
    rw [runL] at h
    cases hd : doS s r with
    | none => rw [hd] at h; cases h
    | some u =>
      rw [hd] at h
      obtain ⟨q1, q2, q3, q4⟩ := undo_do h1 h2 r (hr r (List.mem_cons_self ..)) hd
      obtain ⟨e1, e2⟩ := runL_len l u t (fun x hx => hr x (List.mem_cons_of_mem _ hx)) q2 q3 h
      obtain ⟨d1, d2, _⟩ := doS_len r hd
      rw [List.length_cons]
      omega
theorem getV_do {s t : SetL} (r : RuleL) (n : Nm) (h1 : r.name ≠ n) (h2 : r.kind = 1 → r.to ≠ n) (hd : doS s r = some t) : getV t.vals n = getV s.vals n ∧ hasV t.vals n = hasV s.vals n := by
  unfold doS at hd
  split at hd
  · rename_i k1
    cases hm : movV s.vals r.name r.to with
    | none => rw [hm] at hd; cases hd
    | some l =>
      rw [hm] at hd
      cases hd
      unfold movV at hm
      split at hm
      · rename_i q
        cases hm
        have hnb : hasV (delV s.vals r.name) r.to = false := by rw [hasV_del, q.2]; rfl
        refine ⟨?_, ?_⟩
        · dsimp only
          rw [getV_ins _ ⟨r.to, (getV s.vals r.name).val⟩ n hnb, if_neg (fun e : n = r.to => h2 k1 e.symm), getV_del, if_neg (fun e => h1 e.symm)]
        · dsimp only
          rw [hasV_ins, hasV_del, decide_eq_false (h2 k1), decide_eq_false (fun e : n = r.name => h1 e.symm)]
          simp
      · cases hm
  · have hnd : hasV (delV s.vals r.name) r.name = false := by rw [hasV_del, decide_eq_true rfl]; simp
    split at hd
    · cases hd
      refine ⟨?_, ?_⟩
      · dsimp only
        rw [getV_ins _ ⟨r.name, r.val⟩ n hnd, if_neg (fun e : n = r.name => h1 e.symm), getV_del, if_neg (fun e => h1 e.symm)]
      · dsimp only
        rw [hasV_ins, hasV_del, decide_eq_false h1, decide_eq_false (fun e : n = r.name => h1 e.symm)]
        simp
    · cases hd
      refine ⟨?_, ?_⟩
      · dsimp only
        rw [getV_del, if_neg (fun e => h1 e.symm)]
      · dsimp only
        rw [hasV_del, decide_eq_false (fun e : n = r.name => h1 e.symm)]
        simp
def posV : List ValL → Nm → Nat
  | [], _ => 0
  | x :: l, n => bif decide (x.name < n) then posV l n + 1 else 0
theorem posV_le : ∀ (l : List ValL) (n : Nm), posV l n ≤ l.length
  | [], _ => Nat.le_refl _
  | x :: l, n => by
    rw [posV]
    cases decide (x.name < n) with
    | true => exact Nat.succ_le_succ (posV_le l n)
    | false => exact Nat.zero_le _
def v00 : ValL := ⟨[], []⟩
theorem posV_lt : ∀ (l : List ValL) (n : Nm) (i : Nat), i < posV l n → (l.getD i v00).name < n
  | [], _, i, h => absurd h (Nat.not_lt_zero _)
  | x :: l, n, i, h => by
    rw [posV] at h
    by_cases q : x.name < n
    · rw [decide_eq_true q, cond_true] at h
      cases i with
      | zero => exact q
      | succ i => exact posV_lt l n i (by omega)
    · rw [decide_eq_false q, cond_false] at h
      exact absurd h (Nat.not_lt_zero _)
theorem posV_ge : ∀ {l : List ValL}, Rising l → ∀ (n : Nm) (i : Nat), posV l n ≤ i → i < l.length → ¬ (l.getD i v00).name < n
  | [], _, _, i, _, h => absurd h (Nat.not_lt_zero _)
  | x :: l, h, n, i, hp, hi => by
    obtain ⟨h1, h2⟩ := List.pairwise_cons.1 h
    rw [posV] at hp
    by_cases q : x.name < n
    · rw [decide_eq_true q, cond_true] at hp
      cases i with
      | zero => omega
      | succ i => exact posV_ge h2 n i (by omega) (by simpa using hi)
    · cases i with
      | zero => exact q
      | succ i =>
        have hi : i < l.length := by simpa using hi
        intro hlt
        have hm : l.getD i v00 ∈ l := by
          rw [List.getD_eq_getElem?_getD, List.getElem?_eq_getElem hi]
          exact List.getElem_mem _
        exact q (nm_tr (h1 _ hm) hlt)
theorem posV_has : ∀ {l : List ValL}, Rising l → ∀ n : Nm, hasV l n = true ↔ posV l n < l.length ∧ (l.getD (posV l n) v00).name = n
  | [], _, n => by simp [hasV, posV]
  | x :: l, h, n => by
    obtain ⟨h1, h2⟩ := List.pairwise_cons.1 h
    have ih := posV_has h2 n
    rw [posV]
    by_cases q : x.name < n
    · rw [decide_eq_true q, cond_true, List.length_cons]
      have e : hasV (x :: l) n = hasV l n := by
        unfold hasV
        rw [List.any_cons, decide_eq_false (nm_ne q), Bool.false_or]
      rw [e, ih]
      constructor
      · rintro ⟨a, b⟩
        exact ⟨by omega, b⟩
      · rintro ⟨a, b⟩
        exact ⟨by omega, b⟩
    · rw [decide_eq_false q, cond_false]
      constructor
      · intro hh
        obtain ⟨v, hv, e⟩ := (hasV_iff _ _).1 hh
        refine ⟨Nat.zero_lt_succ _, ?_⟩
        rcases List.mem_cons.1 hv with rfl | hv
        · exact e
        · exact absurd (e ▸ h1 v hv) q
      · rintro ⟨_, e⟩
        exact (hasV_iff _ _).2 ⟨x, List.mem_cons_self .., e⟩
theorem insV_pos : ∀ {l : List ValL}, Rising l → ∀ v : ValL, hasV l v.name = false → insV l v = l.take (posV l v.name) ++ v :: l.drop (posV l v.name)
  | [], _, _, _ => rfl
  | x :: l, h, v, hv => by
    obtain ⟨h1, h2⟩ := List.pairwise_cons.1 h
    have hn := (hasV_no _ _).1 hv
    have hx : x.name ≠ v.name := hn x (List.mem_cons_self ..)
    have hl : hasV l v.name = false := (hasV_no _ _).2 fun y hy => hn y (List.mem_cons_of_mem _ hy)
    rw [insV, posV]
    by_cases q : v.name < x.name
    · rw [decide_eq_true q, cond_true, decide_eq_false (fun e => nm_irr _ (nm_tr q e)), cond_false]
      rfl
    · rw [decide_eq_false q, cond_false, decide_eq_true (nm_or q hx.symm), cond_true, insV_pos h2 v hl]
      rfl
theorem delV_pos : ∀ {l : List ValL}, Rising l → ∀ n : Nm, hasV l n = true → delV l n = l.take (posV l n) ++ l.drop (posV l n + 1) ∧ getV l n = l.getD (posV l n) v00
  | [], _, n, hh => by cases hh
  | x :: l, h, n, hh => by
    obtain ⟨h1, h2⟩ := List.pairwise_cons.1 h
    rw [posV, getV]
    by_cases q : x.name < n
    · rw [decide_eq_true q, cond_true, decide_eq_false (nm_ne q), cond_false]
      have hl : hasV l n = true := by
        obtain ⟨v, hv, e⟩ := (hasV_iff _ _).1 hh
        rcases List.mem_cons.1 hv with rfl | hv
        · exact absurd e (nm_ne q)
        · exact (hasV_iff _ _).2 ⟨v, hv, e⟩
      obtain ⟨e1, e2⟩ := delV_pos h2 n hl
      refine ⟨?_, e2⟩
      unfold delV at e1 ⊢
      rw [List.filter_cons_of_pos (by simp [nm_ne q]), e1]
      rfl
    · rw [decide_eq_false q, cond_false]
      have hx : x.name = n := by
        obtain ⟨v, hv, e⟩ := (hasV_iff _ _).1 hh
        rcases List.mem_cons.1 hv with rfl | hv
        · exact e
        · exact absurd (e ▸ h1 v hv) q
      rw [decide_eq_true hx, cond_true]
      refine ⟨?_, rfl⟩
      have hno : hasV l n = false := (hasV_no _ _).2 fun y hy e => nm_irr n (by
        have := h1 y hy
        rw [hx, e] at this
        exact this)
      have e := delV_no _ _ hno
      unfold delV at e ⊢
      rw [List.filter_cons_of_neg (by simp [hx]), e]
      rfl
end Go.Proofs.YtpbgihhfcdggkaaGreatDoor
end
section
namespace Go.Proofs.YtpbgihhfcdggkaaGreatDoor
set_option linter.unusedSimpArgs false
def cutF (c : UInt8) : List UInt8 → List UInt8 × List UInt8
  | [] => ([], [])
  | x :: s => bif decide (x = c) then ([], s) else (x :: (cutF c s).1, (cutF c s).2)
theorem cutF_app (c : UInt8) : ∀ (a b : List UInt8), c ∉ a → cutF c (a ++ c :: b) = (a, b)
  | [], b, _ => by rw [List.nil_append, cutF, decide_eq_true rfl, cond_true]
  | x :: a, b, h => by
    have hx : x ≠ c := fun e => h (e ▸ List.mem_cons_self ..)
    rw [List.cons_append, cutF, decide_eq_false hx, cond_false, cutF_app c a b fun hm => h (List.mem_cons_of_mem _ hm)]
def linesB : List UInt8 → List (List UInt8)
  | [] => [[]]
  | x :: s => bif decide (x = 10) then [] :: linesB s else match linesB s with
    | [] => [[x]]
    | l :: r => (x :: l) :: r
theorem linesB_ne : ∀ s : List UInt8, linesB s ≠ []
  | [] => by simp [linesB]
  | x :: s => by
    rw [linesB]
    cases decide (x = 10) with
    | true => simp
    | false =>
      rw [cond_false]
      cases linesB s <;> simp
theorem linesB_app : ∀ (a b : List UInt8), (10 : UInt8) ∉ a → linesB (a ++ 10 :: b) = a :: linesB b
  | [], b, _ => by rw [List.nil_append, linesB, decide_eq_true rfl, cond_true]
  | x :: a, b, h => by
    have hx : x ≠ 10 := fun e => h (e ▸ List.mem_cons_self ..)
    rw [List.cons_append, linesB, decide_eq_false hx, cond_false, linesB_app a b fun hm => h (List.mem_cons_of_mem _ hm)]
def nmC (c : UInt8) : Bool := (decide (97 ≤ c.toNat) && decide (c.toNat ≤ 122)) || ((decide (65 ≤ c.toNat) && decide (c.toNat ≤ 90)) || (decide (48 ≤ c.toNat) && decide (c.toNat ≤ 57)))
def nmB (s : List UInt8) : Bool := s.all nmC && (decide (1 ≤ s.length) && decide (s.length ≤ 12))
def txC (c : UInt8) : Bool := decide (32 ≤ c.toNat) && decide (c.toNat ≤ 126)
def txB (s : List UInt8) : Bool := s.all txC && decide (s.length ≤ 20)
def rightV (v : ValL) : Bool := nmB v.name && txB v.val
theorem nmB_not {s : List UInt8} (h : nmB s = true) (c : UInt8) (hc : nmC c = false) : c ∉ s := fun hm => by
  unfold nmB at h
  simp only [Bool.and_eq_true] at h
  have := List.all_eq_true.1 h.1 c hm
  rw [hc] at this
  cases this
theorem txB_not {s : List UInt8} (h : txB s = true) (c : UInt8) (hc : txC c = false) : c ∉ s := fun hm => by
  unfold txB at h
  simp only [Bool.and_eq_true] at h
  have := List.all_eq_true.1 h.1 c hm
  rw [hc] at this
  cases this
theorem nmB_ne {s : List UInt8} (h : nmB s = true) : s ≠ [] := by
  unfold nmB at h
  simp only [Bool.and_eq_true, decide_eq_true_eq] at h
  intro e
  subst e
  simp at h
def valW : List UInt8 := [118, 97, 108]
def keptW : List UInt8 := [107, 101, 112, 116]
def setW : List UInt8 := [115, 101, 116, 116, 105, 110, 103, 115]
def keptZ : List UInt8 := [107, 101, 112, 116, 32, 45]
def valLn (v : ValL) : List UInt8 := valW ++ 32 :: (v.name ++ 32 :: v.val)
def keptLn (v : ValL) : List UInt8 := if v.name = [] then keptZ else keptW ++ 32 :: (v.name ++ 32 :: v.val)
def stepB (acc : List ValL × List ValL) (l : List UInt8) : List ValL × List ValL :=
  let v : ValL := ⟨(cutF 32 (cutF 32 l).2).1, (cutF 32 (cutF 32 l).2).2⟩
  if (cutF 32 l).1 = valW then (acc.1 ++ [v], acc.2) else if l = keptZ then (acc.1, acc.2 ++ [val0]) else if (cutF 32 l).1 = keptW then (acc.1, acc.2 ++ [v]) else acc
theorem step_val (acc : List ValL × List ValL) (v : ValL) (h : rightV v = true) : stepB acc (valLn v) = (acc.1 ++ [v], acc.2) := by
  unfold rightV at h
  rw [Bool.and_eq_true] at h
  have e1 : cutF 32 (valLn v) = (valW, v.name ++ 32 :: v.val) := cutF_app 32 valW _ (by decide)
  have e2 : cutF 32 (v.name ++ 32 :: v.val) = (v.name, v.val) := cutF_app 32 v.name _ (nmB_not h.1 32 (by decide))
  unfold stepB
  rw [e1]
  dsimp only
  rw [e2, if_pos rfl]
theorem step_kept (acc : List ValL × List ValL) (v : ValL) (h : v = val0 ∨ rightV v = true) : stepB acc (keptLn v) = (acc.1, acc.2 ++ [v]) := by
  rcases h with rfl | h
  · rfl
  · unfold rightV at h
    rw [Bool.and_eq_true] at h
    have hne := nmB_ne h.1
    have e0 : keptLn v = keptW ++ 32 :: (v.name ++ 32 :: v.val) := by unfold keptLn; rw [if_neg hne]
    have e1 : cutF 32 (keptLn v) = (keptW, v.name ++ 32 :: v.val) := by rw [e0]; exact cutF_app 32 keptW _ (by decide)
    have e2 : cutF 32 (v.name ++ 32 :: v.val) = (v.name, v.val) := cutF_app 32 v.name _ (nmB_not h.1 32 (by decide))
    have e3 : keptLn v ≠ keptZ := fun e => by
      have q : (cutF 32 (keptLn v)).2 = (cutF 32 keptZ).2 := congrArg (fun s => (cutF 32 s).2) e
      rw [e1] at q
      have q : v.name ++ 32 :: v.val = [45] := q
      have hm : (32 : UInt8) ∈ ([45] : List UInt8) := by rw [← q]; simp
      simp at hm
    unfold stepB
    rw [e1]
    dsimp only
    rw [e2, if_neg (by decide), if_neg e3, if_pos rfl]
theorem fold_val : ∀ (l : List ValL) (acc : List ValL × List ValL), (∀ v ∈ l, rightV v = true) → (l.map valLn).foldl stepB acc = (acc.1 ++ l, acc.2)
  | [], acc, _ => by simp
  | v :: l, acc, h => by
    rw [List.map_cons, List.foldl_cons, step_val acc v (h v (List.mem_cons_self ..)), fold_val l _ fun x hx => h x (List.mem_cons_of_mem _ hx)]
    simp
theorem fold_kept : ∀ (l : List ValL) (acc : List ValL × List ValL), (∀ v ∈ l, v = val0 ∨ rightV v = true) → (l.map keptLn).foldl stepB acc = (acc.1, acc.2 ++ l)
  | [], acc, _ => by simp
  | v :: l, acc, h => by
    rw [List.map_cons, List.foldl_cons, step_kept acc v (h v (List.mem_cons_self ..)), fold_kept l _ fun x hx => h x (List.mem_cons_of_mem _ hx)]
    simp
def joinB (l : List (List UInt8)) : List UInt8 := l.flatMap fun x => x ++ [10]
theorem linesB_join : ∀ l : List (List UInt8), (∀ x ∈ l, (10 : UInt8) ∉ x) → linesB (joinB l) = l ++ [[]]
  | [], _ => rfl
  | x :: l, h => by
    have e : joinB (x :: l) = x ++ 10 :: joinB l := by
      unfold joinB
      rw [List.flatMap_cons, List.append_assoc]
      rfl
    rw [e, linesB_app x _ (h x (List.mem_cons_self ..)), linesB_join l fun y hy => h y (List.mem_cons_of_mem _ hy)]
    rfl
theorem valLn_10 (v : ValL) (h : rightV v = true) : (10 : UInt8) ∉ valLn v := by
  unfold rightV at h
  rw [Bool.and_eq_true] at h
  have h1 := nmB_not h.1 10 (by decide)
  have h2 := txB_not h.2 10 (by decide)
  unfold valLn valW
  simp [h1, h2]
theorem keptLn_10 (v : ValL) (h : v = val0 ∨ rightV v = true) : (10 : UInt8) ∉ keptLn v := by
  rcases h with rfl | h
  · decide
  · unfold rightV at h
    rw [Bool.and_eq_true] at h
    have h1 := nmB_not h.1 10 (by decide)
    have h2 := txB_not h.2 10 (by decide)
    unfold keptLn
    split
    · decide
    · unfold keptW
      simp [h1, h2]
theorem fold_print (vals kept : List ValL) (hv : ∀ v ∈ vals, rightV v = true) (hk : ∀ v ∈ kept, v = val0 ∨ rightV v = true) : ((vals.map valLn ++ kept.map keptLn) ++ [[]]).foldl stepB ([], []) = (vals, kept) := by
  rw [List.foldl_append, List.foldl_append, fold_val vals _ hv, fold_kept kept _ hk]
  simp only [List.nil_append]
  rfl
def printD (d : List UInt8) (vals kept : List ValL) : List UInt8 := joinB ((setW ++ 32 :: d) :: (vals.map valLn ++ kept.map keptLn))
theorem lines_print (d : List UInt8) (hd : (10 : UInt8) ∉ d) (vals kept : List ValL) (hv : ∀ v ∈ vals, rightV v = true) (hk : ∀ v ∈ kept, v = val0 ∨ rightV v = true) : linesB (printD d vals kept) = (setW ++ 32 :: d) :: ((vals.map valLn ++ kept.map keptLn) ++ [[]]) := by
  unfold printD
  rw [linesB_join]
  · rfl
  · intro x hx
    rcases List.mem_cons.1 hx with rfl | hx
    · unfold setW
      simp [hd]
    · rcases List.mem_append.1 hx with hx | hx
      · obtain ⟨v, h1, rfl⟩ := List.mem_map.1 hx
        exact valLn_10 v (hv v h1)
      · obtain ⟨v, h1, rfl⟩ := List.mem_map.1 hx
        exact keptLn_10 v (hk v h1)
theorem read_print (d : List UInt8) (hd : (10 : UInt8) ∉ d) (vals kept : List ValL) (hv : ∀ v ∈ vals, rightV v = true) (hk : ∀ v ∈ kept, v = val0 ∨ rightV v = true) : (linesB (printD d vals kept)).tail.foldl stepB ([], []) = (vals, kept) ∧ (linesB (printD d vals kept)).headD [] = setW ++ 32 :: d := by
  rw [lines_print d hd vals kept hv hk]
  exact ⟨fold_print vals kept hv hk, rfl⟩
end Go.Proofs.YtpbgihhfcdggkaaGreatDoor
end
section
namespace Go.Proofs.YtpbgihhfcdggkaaGreatDoor
set_option linter.unusedSimpArgs false
def okK (v : ValL) : Bool := (decide (v.name = []) && decide (v.val = [])) || rightV v
theorem okK_iff (v : ValL) : okK v = true ↔ v = val0 ∨ rightV v = true := by
  unfold okK
  rw [Bool.or_eq_true, Bool.and_eq_true, decide_eq_true_eq, decide_eq_true_eq]
  obtain ⟨n, x⟩ := v
  constructor
  · rintro (⟨h1, h2⟩ | h)
    · exact .inl (by dsimp only at h1 h2; rw [h1, h2])
    · exact .inr h
  · rintro (h | h)
    · injection h with h1 h2
      exact .inl ⟨h1, h2⟩
    · exact .inr h
def ValP (l : List ValL) (i : Nat) : Prop := rightV (l.getD i v00) = true ∧ (0 < i → (l.getD (i - 1) v00).name < (l.getD i v00).name)
instance (l : List ValL) (i : Nat) : Decidable (ValP l i) := by unfold ValP; infer_instance
def validS (s : SetL) : Bool := decide (0 ≤ s.version ∧ s.version ≤ 60000) && (decide (s.vals.length ≤ 16 ∧ s.kept.length ≤ 16) && (decide (∀ i, i < s.vals.length → ValP s.vals i) && s.kept.all okK))
structure ValidS (s : SetL) : Prop where
  ver : 0 ≤ s.version ∧ s.version ≤ 60000
  few : s.vals.length ≤ 16 ∧ s.kept.length ≤ 16
  rise : Rising s.vals
  right : ∀ v ∈ s.vals, rightV v = true
  kept : ∀ v ∈ s.kept, v = val0 ∨ rightV v = true
theorem v_at (l : List ValL) (i : Nat) (h : i < l.length) : l.getD i v00 = l[i] := by
  rw [List.getD_eq_getElem?_getD, List.getElem?_eq_getElem h]
  rfl
theorem rise_next {l : List ValL} (h : ∀ i, i + 1 < l.length → (l.getD i v00).name < (l.getD (i + 1) v00).name) : ∀ i k, i + k + 1 < l.length → (l.getD i v00).name < (l.getD (i + k + 1) v00).name
  | i, 0, hk => h i hk
  | i, k + 1, hk => nm_tr (rise_next h i k (by omega)) (h (i + k + 1) hk)
theorem rising_of {l : List ValL} (h : ∀ i, i + 1 < l.length → (l.getD i v00).name < (l.getD (i + 1) v00).name) : Rising l := by
  unfold Rising
  rw [List.pairwise_iff_getElem]
  intro i j hi hj hij
  have e := rise_next h i (j - i - 1) (by omega)
  rw [show i + (j - i - 1) + 1 = j by omega, v_at l i hi, v_at l j hj] at e
  exact e
theorem validS_iff (s : SetL) : validS s = true ↔ ValidS s := by
  unfold validS
  rw [Bool.and_eq_true, Bool.and_eq_true, Bool.and_eq_true, decide_eq_true_eq, decide_eq_true_eq, decide_eq_true_eq, List.all_eq_true]
  constructor
  · rintro ⟨h1, h2, h3, h4⟩
    refine ⟨h1, h2, rising_of fun i hi => ?_, fun v hv => ?_, fun v hv => (okK_iff v).1 (h4 v hv)⟩
    · have := (h3 (i + 1) hi).2 (Nat.succ_pos i)
      rwa [Nat.add_sub_cancel] at this
    · obtain ⟨i, hi, rfl⟩ := List.mem_iff_getElem.1 hv
      have := (h3 i hi).1
      rwa [v_at _ i hi] at this
  · intro h
    refine ⟨h.ver, h.few, fun i hi => ⟨?_, fun h0 => ?_⟩, fun v hv => (okK_iff v).2 (h.kept v hv)⟩
    · rw [v_at _ i hi]
      exact h.right _ (List.getElem_mem _)
    · have hr := h.rise
      unfold Rising at hr
      rw [List.pairwise_iff_getElem] at hr
      have := hr (i - 1) i (by omega) hi (by omega)
      rwa [← v_at, ← v_at] at this
def rightR (r : RuleL) : Bool :=
  if r.kind = 1 then nmB r.name && (nmB r.to && (!decide (r.name = r.to) && decide (r.val = [])))
  else if r.kind = 2 then nmB r.name && (decide (r.to = []) && txB r.val)
  else if r.kind = 3 then nmB r.name && (decide (r.to = []) && decide (r.val = []))
  else false
theorem rightR_ok {r : RuleL} (h : rightR r = true) : RuleOk r ∧ nmB r.name = true ∧ (r.kind = 1 → nmB r.to = true) ∧ (r.kind = 2 → txB r.val = true) := by
  unfold rightR at h
  split at h
  · rename_i k
    simp only [Bool.and_eq_true, Bool.not_eq_true', decide_eq_false_iff_not] at h
    obtain ⟨h1, h2, h3, _⟩ := h
    exact ⟨⟨.inl k, nmB_ne h1, fun _ => ⟨nmB_ne h2, h3⟩⟩, h1, fun _ => h2, fun k2 => by rw [k] at k2; cases k2⟩
  · rename_i k
    split at h
    · rename_i k2
      simp only [Bool.and_eq_true] at h
      obtain ⟨h1, _, h3⟩ := h
      exact ⟨⟨.inr (.inl k2), nmB_ne h1, fun e => absurd e k⟩, h1, fun e => absurd e k, fun _ => h3⟩
    · rename_i k2
      split at h
      · rename_i k3
        simp only [Bool.and_eq_true] at h
        obtain ⟨h1, _, _⟩ := h
        exact ⟨⟨.inr (.inr k3), nmB_ne h1, fun e => absurd e k⟩, h1, fun e => absurd e k, fun e => absurd e k2⟩
      · cases h
theorem do_right {s t : SetL} (r : RuleL) (hr : rightR r = true) (h1 : ∀ v ∈ s.vals, rightV v = true) (h2 : ∀ v ∈ s.kept, v = val0 ∨ rightV v = true) (hd : doS s r = some t) : (∀ v ∈ t.vals, rightV v = true) ∧ ∀ v ∈ t.kept, v = val0 ∨ rightV v = true := by
  obtain ⟨_, n1, n2, n3⟩ := rightR_ok hr
  have hg : getV s.vals r.name = val0 ∨ rightV (getV s.vals r.name) = true := by
    cases q : hasV s.vals r.name with
    | false => exact .inl (getV_no _ _ q)
    | true => exact .inr (h1 _ (getV_yes _ _ q).1)
  unfold doS at hd
  split at hd
  · rename_i k
    cases hm : movV s.vals r.name r.to with
    | none => rw [hm] at hd; cases hd
    | some l =>
      rw [hm] at hd
      cases hd
      unfold movV at hm
      split at hm
      · rename_i q
        cases hm
        refine ⟨fun v hv => ?_, h2⟩
        rcases (insV_mem _ _ _).1 hv with rfl | hv
        · have g := h1 _ (getV_yes _ _ q.1).1
          unfold rightV at g ⊢
          rw [Bool.and_eq_true] at g ⊢
          exact ⟨n2 k, g.2⟩
        · exact h1 v ((delV_mem _ _ _).1 hv).1
      · cases hm
  · have hk : ∀ v ∈ s.kept ++ [getV s.vals r.name], v = val0 ∨ rightV v = true := fun v hv => by
      rcases List.mem_append.1 hv with hv | hv
      · exact h2 v hv
      · rw [List.mem_singleton.1 hv]; exact hg
    split at hd
    · rename_i k2
      cases hd
      refine ⟨fun v hv => ?_, hk⟩
      rcases (insV_mem _ _ _).1 hv with rfl | hv
      · unfold rightV
        rw [Bool.and_eq_true]
        exact ⟨n1, n3 k2⟩
      · exact h1 v ((delV_mem _ _ _).1 hv).1
    · cases hd
      exact ⟨fun v hv => h1 v ((delV_mem _ _ _).1 hv).1, hk⟩
theorem run_right : ∀ (l : List RuleL) (s t : SetL), (∀ r ∈ l, rightR r = true) → Rising s.vals → (∀ v ∈ s.vals, rightV v = true) → (∀ v ∈ s.kept, v = val0 ∨ rightV v = true) → runL doS s l = some t → Rising t.vals ∧ (∀ v ∈ t.vals, rightV v = true) ∧ ∀ v ∈ t.kept, v = val0 ∨ rightV v = true
  | [], s, t, _, h0, h1, h2, h => by
    cases h
    exact ⟨h0, h1, h2⟩
  | r :: l, s, t, hr, h0, h1, h2, h => by
    rw [runL] at h
    cases hd : doS s r with
    | none => rw [hd] at h; cases h
    | some u =>
      rw [hd] at h
      have hne : ∀ v ∈ s.vals, v.name ≠ [] := fun v hv => by
        have := h1 v hv
        unfold rightV at this
        rw [Bool.and_eq_true] at this
        exact nmB_ne this.1
      obtain ⟨_, q2, _, _⟩ := undo_do h0 hne r (rightR_ok (hr r (List.mem_cons_self ..))).1 hd
      obtain ⟨e1, e2⟩ := do_right r (hr r (List.mem_cons_self ..)) h1 h2 hd
      exact run_right l u t (fun x hx => hr x (List.mem_cons_of_mem _ hx)) q2 e1 e2 h
def verS (v : Int) (s : SetL) : SetL := ⟨v, s.vals, s.kept⟩
theorem do_ver (v : Int) (s : SetL) (r : RuleL) : doS (verS v s) r = (doS s r).map (verS v) := by
  unfold doS verS
  split
  · dsimp only
    cases movV s.vals r.name r.to <;> rfl
  · split <;> rfl
theorem undo_ver (v : Int) (s : SetL) (r : RuleL) : undoS (verS v s) r = (undoS s r).map (verS v) := by
  unfold undoS verS
  split
  · dsimp only
    cases movV s.vals r.to r.name <;> rfl
  · dsimp only
    split
    · cases popV s.kept r.name <;> rfl
    · rfl
theorem run_ver (f : SetL → RuleL → Option SetL) (hf : ∀ v s r, f (verS v s) r = (f s r).map (verS v)) (v : Int) : ∀ (l : List RuleL) (s : SetL), runL f (verS v s) l = (runL f s l).map (verS v)
  | [], s => rfl
  | r :: l, s => by
    rw [runL, runL, hf]
    cases f s r with
    | none => rfl
    | some t => exact run_ver f hf v l t
def zeroS : SetL := ⟨0, [], []⟩
def migS (f : SetL → RuleL → Option SetL) (s : SetL) (l run : List RuleL) (v : Int) : SetL × Int :=
  if validS s = false ∨ ¬ (0 ≤ v ∧ v ≤ 60000) then (zeroS, 1)
  else if ¬ (l.all rightR = true ∧ l.length ≤ 8) then (zeroS, 230)
  else match runL f s run with
    | none => (zeroS, 231)
    | some t => if 16 < t.vals.length ∨ 16 < t.kept.length then (zeroS, 2) else (verS v t, 0)
def fwdS (s : SetL) (l : List RuleL) (v : Int) : SetL × Int := migS doS s l l v
def backS (s : SetL) (l : List RuleL) (v : Int) : SetL × Int := migS undoS s l l.reverse v
theorem right_ne {l : List ValL} (h : ∀ v ∈ l, rightV v = true) : ∀ v ∈ l, v.name ≠ [] := fun v hv => by
  have := h v hv
  unfold rightV at this
  rw [Bool.and_eq_true] at this
  exact nmB_ne this.1
theorem back_law {s t : SetL} (hs : ValidS s) (hv : s.vals.length ≤ 8) (hk : s.kept.length ≤ 4) (l : List RuleL) (hr : ∀ r ∈ l, rightR r = true) (hl : l.length ≤ 8) (hrun : runL doS s l = some t) (v : Int) (h0 : 0 ≤ v) (h1 : v ≤ 60000) :
    fwdS s l v = (verS v t, 0) ∧ ValidS (verS v t) ∧ backS (verS v t) l s.version = (s, 0) := by
  have hok : ∀ r ∈ l, RuleOk r := fun r h => (rightR_ok (hr r h)).1
  have hne := right_ne hs.right
  obtain ⟨b1, _, _, _⟩ := back_run l s t hok hs.rise hne hrun
  obtain ⟨e1, e2⟩ := runL_len l s t hok hs.rise hne hrun
  obtain ⟨r1, r2, r3⟩ := run_right l s t hr hs.rise hs.right hs.kept hrun
  have hall : l.all rightR = true := List.all_eq_true.2 hr
  have hV : ValidS (verS v t) := ⟨⟨h0, h1⟩, ⟨by show t.vals.length ≤ 16; omega, by show t.kept.length ≤ 16; omega⟩, r1, r2, r3⟩
  refine ⟨?_, hV, ?_⟩
  · unfold fwdS migS
    rw [if_neg, if_neg (not_not_intro ⟨hall, hl⟩), hrun]
    · dsimp only
      rw [if_neg (by omega)]
    · rintro (q | q)
      · rw [(validS_iff s).2 hs] at q; cases q
      · exact q ⟨h0, h1⟩
  · unfold backS migS
    rw [if_neg, if_neg (not_not_intro ⟨hall, hl⟩), run_ver undoS undo_ver v, b1]
    · dsimp only [Option.map_some]
      have := hs.few
      rw [if_neg (by show ¬ (16 < s.vals.length ∨ 16 < s.kept.length); omega)]
      rfl
    · rintro (q | q)
      · rw [(validS_iff _).2 hV] at q; cases q
      · exact q hs.ver
end Go.Proofs.YtpbgihhfcdggkaaGreatDoor
end
section
namespace Go.Proofs.YtpbgihhfcdggkaaGreatDoor
set_option linter.unusedSimpArgs false
theorem parts_set {s : SetL} (hs : ValidS s) (hv : s.vals.length ≤ 8) (hk : s.kept.length ≤ 4) (a b : List RuleL) (hr : ∀ r ∈ a ++ b, rightR r = true) (hl : (a ++ b).length ≤ 8) :
    (∃ e, fwdS s a 3 = (zeroS, e) ∧ e ≠ 0 ∧ fwdS s (a ++ b) 9 = (zeroS, e)) ∨ (∃ t, fwdS s a 3 = (t, 0) ∧ fwdS t b 9 = fwdS s (a ++ b) 9) := by
  have hra : ∀ r ∈ a, rightR r = true := fun r h => hr r (List.mem_append_left _ h)
  have hrb : ∀ r ∈ b, rightR r = true := fun r h => hr r (List.mem_append_right _ h)
  have hne := right_ne hs.right
  rw [List.length_append] at hl
  have hv1 : ¬ (validS s = false ∨ ¬ ((0 : Int) ≤ 3 ∧ (3 : Int) ≤ 60000)) := by rw [(validS_iff s).2 hs]; simp
  have hv9 : ¬ (validS s = false ∨ ¬ ((0 : Int) ≤ 9 ∧ (9 : Int) ≤ 60000)) := by rw [(validS_iff s).2 hs]; simp
  have h1 : ¬ ¬ (a.all rightR = true ∧ a.length ≤ 8) := not_not_intro ⟨List.all_eq_true.2 hra, by omega⟩
  have h2 : ¬ ¬ ((a ++ b).all rightR = true ∧ (a ++ b).length ≤ 8) := not_not_intro ⟨List.all_eq_true.2 hr, by rw [List.length_append]; omega⟩
  cases hd : runL doS s a with
  | none =>
    refine .inl ⟨231, ?_, by decide, ?_⟩
    · unfold fwdS migS
      rw [if_neg hv1, if_neg h1, hd]
    · unfold fwdS migS
      rw [if_neg hv9, if_neg h2, runL_app, hd]
  | some t =>
    obtain ⟨e1, e2⟩ := runL_len a s t (fun r h => (rightR_ok (hra r h)).1) hs.rise hne hd
    obtain ⟨r1, r2, r3⟩ := run_right a s t hra hs.rise hs.right hs.kept hd
    have hb3 : ¬ (16 < t.vals.length ∨ 16 < t.kept.length) := by omega
    have hV : ValidS (verS 3 t) := ⟨⟨(show (0 : Int) ≤ 3 by decide), (show (3 : Int) ≤ 60000 by decide)⟩, ⟨by show t.vals.length ≤ 16; omega, by show t.kept.length ≤ 16; omega⟩, r1, r2, r3⟩
    have h3 : ¬ ¬ (b.all rightR = true ∧ b.length ≤ 8) := not_not_intro ⟨List.all_eq_true.2 hrb, by omega⟩
    have hv3 : ¬ (validS (verS 3 t) = false ∨ ¬ ((0 : Int) ≤ 9 ∧ (9 : Int) ≤ 60000)) := by rw [(validS_iff _).2 hV]; simp
    refine .inr ⟨verS 3 t, ?_, ?_⟩
    · unfold fwdS migS
      rw [if_neg hv1, if_neg h1, hd]
      dsimp only
      rw [if_neg hb3]
    · unfold fwdS migS
      rw [if_neg hv3, if_neg h3, if_neg hv9, if_neg h2, runL_app, hd, run_ver doS do_ver 3]
      dsimp only
      cases runL doS t b with
      | none => rfl
      | some u => rfl
theorem ren_law {s : SetL} (r : RuleL) (hr : rightR r = true) (hk : r.kind = 1) :
    (¬ (hasV s.vals r.name = true ∧ hasV s.vals r.to = false) ∧ doS s r = none) ∨
    (hasV s.vals r.name = true ∧ hasV s.vals r.to = false ∧ ∃ l, doS s r = some ⟨s.version, l, s.kept⟩ ∧ hasV l r.name = false ∧ hasV l r.to = true ∧ (getV l r.to).val = (getV s.vals r.name).val ∧ (Rising s.vals → l.length = s.vals.length)) := by
  obtain ⟨hok, _⟩ := rightR_ok hr
  obtain ⟨_, hne⟩ := hok.to hk
  by_cases q : hasV s.vals r.name = true ∧ hasV s.vals r.to = false
  · obtain ⟨q1, q2⟩ := q
    have hnb : hasV (delV s.vals r.name) r.to = false := by rw [hasV_del, q2]; rfl
    refine .inr ⟨q1, q2, insV (delV s.vals r.name) ⟨r.to, (getV s.vals r.name).val⟩, ?_, ?_, ?_, ?_, ?_⟩
    · unfold doS movV
      rw [if_pos hk, if_pos ⟨q1, q2⟩]
      rfl
    · rw [hasV_ins, decide_eq_false (fun e : r.to = r.name => hne e.symm), hasV_del, decide_eq_true rfl]
      simp
    · rw [hasV_ins, decide_eq_true rfl]
      rfl
    · rw [getV_ins _ ⟨r.to, (getV s.vals r.name).val⟩ _ hnb, if_pos rfl]
    · intro hrise
      rw [insV_len, delV_len hrise, if_pos q1]
      have := List.length_pos_of_mem (getV_yes _ _ q1).1
      omega
  · refine .inl ⟨q, ?_⟩
    unfold doS movV
    rw [if_pos hk, if_neg q]
    rfl
theorem put_law {s : SetL} (r : RuleL) (hk : r.kind ≠ 1) : ∃ l, doS s r = some ⟨s.version, l, s.kept ++ [getV s.vals r.name]⟩ ∧ hasV l r.name = decide (r.kind = 2) ∧ (r.kind = 2 → (getV l r.name).val = r.val) := by
  have hnd : hasV (delV s.vals r.name) r.name = false := by rw [hasV_del, decide_eq_true rfl]; simp
  by_cases k2 : r.kind = 2
  · refine ⟨insV (delV s.vals r.name) ⟨r.name, r.val⟩, ?_, ?_, fun _ => ?_⟩
    · unfold doS
      rw [if_neg hk, if_pos k2]
    · rw [hasV_ins, decide_eq_true rfl, decide_eq_true k2]
      rfl
    · rw [getV_ins _ ⟨r.name, r.val⟩ _ hnd, if_pos rfl]
  · refine ⟨delV s.vals r.name, ?_, ?_, fun e => absurd e k2⟩
    · unfold doS
      rw [if_neg hk, if_neg k2]
    · rw [hnd, decide_eq_false k2]
theorem rise_uniq : ∀ {l m : List ValL}, Rising l → Rising m → (∀ x, x ∈ l ↔ x ∈ m) → l = m
  | [], [], _, _, _ => rfl
  | [], y :: m, _, _, h => by
    have := (h y).2 (List.mem_cons_self ..)
    cases this
  | x :: l, [], _, _, h => by
    have := (h x).1 (List.mem_cons_self ..)
    cases this
  | x :: l, y :: m, h1, h2, h => by
    obtain ⟨a1, a2⟩ := List.pairwise_cons.1 h1
    obtain ⟨b1, b2⟩ := List.pairwise_cons.1 h2
    have e : x = y := by
      rcases List.mem_cons.1 ((h x).1 (List.mem_cons_self ..)) with e | hx
      · exact e
      · rcases List.mem_cons.1 ((h y).2 (List.mem_cons_self ..)) with e | hy
        · exact e.symm
        · exact absurd (nm_tr (a1 y hy) (b1 x hx)) (nm_irr _)
    subst e
    refine congrArg (x :: ·) (rise_uniq a2 b2 fun z => ?_)
    have hz := h z
    constructor
    · intro hm
      rcases List.mem_cons.1 (hz.1 (List.mem_cons_of_mem _ hm)) with rfl | q
      · exact absurd (a1 _ hm) (nm_irr _)
      · exact q
    · intro hm
      rcases List.mem_cons.1 (hz.2 (List.mem_cons_of_mem _ hm)) with rfl | q
      · exact absurd (b1 _ hm) (nm_irr _)
      · exact q
def modV (n : Nm) (o : Option Nm) (l : List ValL) : List ValL := match o with
  | none => delV l n
  | some x => insV (delV l n) ⟨n, x⟩
def modS (n : Nm) (o : Option Nm) (s : SetL) : SetL := ⟨s.version, modV n o s.vals, s.kept⟩
theorem del_no (l : List ValL) (n : Nm) : hasV (delV l n) n = false := by rw [hasV_del, decide_eq_true rfl]; simp
theorem modV_mem (n : Nm) (o : Option Nm) (l : List ValL) (x : ValL) : x ∈ modV n o l ↔ (∃ y, o = some y ∧ x = ⟨n, y⟩) ∨ (x ∈ l ∧ x.name ≠ n) := by
  unfold modV
  cases o with
  | none => rw [delV_mem]; simp
  | some y => rw [insV_mem, delV_mem]; simp
theorem modV_rise {l : List ValL} (h : Rising l) (n : Nm) (o : Option Nm) : Rising (modV n o l) := by
  unfold modV
  cases o with
  | none => exact rising_del h n
  | some y => exact rising_ins (rising_del h n) ⟨n, y⟩ (del_no l n)
theorem modV_has (l : List ValL) (n m : Nm) (o : Option Nm) (h : m ≠ n) : hasV (modV n o l) m = hasV l m := by
  apply Bool.eq_iff_iff.2
  rw [hasV_iff, hasV_iff]
  constructor
  · rintro ⟨v, hv, rfl⟩
    rcases (modV_mem n o l v).1 hv with ⟨y, _, rfl⟩ | ⟨q, _⟩
    · exact absurd rfl h
    · exact ⟨v, q, rfl⟩
  · rintro ⟨v, hv, rfl⟩
    exact ⟨v, (modV_mem n o l v).2 (.inr ⟨hv, h⟩), rfl⟩
theorem getV_uniq {l : List ValL} (h : Rising l) {v : ValL} (hv : v ∈ l) : getV l v.name = v := by
  have hh : hasV l v.name = true := (hasV_iff _ _).2 ⟨v, hv, rfl⟩
  obtain ⟨g1, g2⟩ := getV_yes _ _ hh
  unfold Rising at h
  rw [List.pairwise_iff_getElem] at h
  obtain ⟨i, hi, e1⟩ := List.mem_iff_getElem.1 g1
  obtain ⟨j, hj, e2⟩ := List.mem_iff_getElem.1 hv
  rcases Nat.lt_trichotomy i j with q | q | q
  · have := h i j hi hj q
    rw [e1, e2, g2] at this
    exact absurd this (nm_irr _)
  · subst q
    exact e1.symm.trans e2
  · have := h j i hj hi q
    rw [e1, e2, g2] at this
    exact absurd this (nm_irr _)
theorem modV_get {l : List ValL} (hl : Rising l) (n m : Nm) (o : Option Nm) (h : m ≠ n) : getV (modV n o l) m = getV l m := by
  cases q : hasV l m with
  | false => rw [getV_no _ _ q, getV_no _ _ ((modV_has l n m o h).trans q)]
  | true =>
    obtain ⟨g1, g2⟩ := getV_yes _ _ q
    have hm : getV l m ∈ modV n o l := (modV_mem n o l _).2 (.inr ⟨g1, by rw [g2]; exact h⟩)
    have := getV_uniq (modV_rise hl n o) hm
    rwa [g2] at this
theorem modV_del {l : List ValL} (hl : Rising l) (n m : Nm) (o : Option Nm) (h : m ≠ n) : delV (modV n o l) m = modV n o (delV l m) := by
  refine rise_uniq (rising_del (modV_rise hl n o) m) (modV_rise (rising_del hl m) n o) fun x => ?_
  rw [delV_mem, modV_mem, modV_mem, delV_mem]
  constructor
  · rintro ⟨⟨y, h1, h2⟩ | ⟨h1, h2⟩, h3⟩
    · exact .inl ⟨y, h1, h2⟩
    · exact .inr ⟨⟨h1, h3⟩, h2⟩
  · rintro (⟨y, h1, rfl⟩ | ⟨⟨h1, h3⟩, h2⟩)
    · exact ⟨.inl ⟨y, h1, rfl⟩, fun e => h e.symm⟩
    · exact ⟨.inr ⟨h1, h2⟩, h3⟩
theorem modV_ins {l : List ValL} (hl : Rising l) (n : Nm) (o : Option Nm) (v : ValL) (h : v.name ≠ n) (hv : hasV l v.name = false) : insV (modV n o l) v = modV n o (insV l v) := by
  have hv2 : hasV (modV n o l) v.name = false := (modV_has l n v.name o h).trans hv
  refine rise_uniq (rising_ins (modV_rise hl n o) v hv2) (modV_rise (rising_ins hl v hv) n o) fun x => ?_
  rw [insV_mem, modV_mem, modV_mem, insV_mem]
  constructor
  · rintro (rfl | ⟨y, h1, h2⟩ | ⟨h1, h2⟩)
    · exact .inr ⟨.inl rfl, h⟩
    · exact .inl ⟨y, h1, h2⟩
    · exact .inr ⟨.inr h1, h2⟩
  · rintro (⟨y, h1, h2⟩ | ⟨rfl | h1, h2⟩)
    · exact .inr (.inl ⟨y, h1, h2⟩)
    · exact .inl rfl
    · exact .inr (.inr ⟨h1, h2⟩)
theorem mov_mod {l : List ValL} (hl : Rising l) (n : Nm) (o : Option Nm) (a b : Nm) (ha : a ≠ n) (hb : b ≠ n) : movV (modV n o l) a b = (movV l a b).map (modV n o) := by
  unfold movV
  rw [modV_has l n a o ha, modV_has l n b o hb, modV_get hl n a o ha, modV_del hl n a o ha]
  split
  · rename_i q
    have hnb : hasV (delV l a) b = false := by rw [hasV_del, q.2]; rfl
    rw [modV_ins (rising_del hl a) n o ⟨b, (getV l a).val⟩ hb hnb]
    rfl
  · rfl
theorem undo_mod {t : SetL} (hl : Rising t.vals) (n : Nm) (o : Option Nm) (r : RuleL) (h1 : r.name ≠ n) (h2 : r.kind = 1 → r.to ≠ n) : undoS (modS n o t) r = (undoS t r).map (modS n o) := by
  unfold undoS modS
  dsimp only
  split
  · rename_i k
    rw [mov_mod hl n o r.to r.name (h2 k) h1]
    cases movV t.vals r.to r.name <;> rfl
  · rw [modV_has t.vals n r.name o h1]
    split
    · rw [modV_del hl n r.name o h1]
      cases hp : popV t.kept r.name with
      | none => rfl
      | some p =>
        have hpn : p.1.name = [] ∨ p.1.name = r.name := by
          unfold popV at hp
          split at hp
          · cases hp
          · split at hp
            · rename_i q
              cases hp
              exact q
            · cases hp
        have e : putV (modV n o (delV t.vals r.name)) p.1 = modV n o (putV (delV t.vals r.name) p.1) := by
          unfold putV
          split
          · rfl
          · rename_i hne
            have en : p.1.name = r.name := hpn.resolve_left hne
            exact modV_ins (rising_del hl r.name) n o p.1 (by rw [en]; exact h1) (by rw [en]; exact del_no _ _)
        show some _ = some _
        dsimp only
        rw [e]
    · rfl
theorem undo_rise {t u : SetL} (hl : Rising t.vals) (r : RuleL) (hd : undoS t r = some u) : Rising u.vals := by
  unfold undoS at hd
  split at hd
  · cases hm : movV t.vals r.to r.name with
    | none => rw [hm] at hd; cases hd
    | some l =>
      rw [hm] at hd
      cases hd
      unfold movV at hm
      split at hm
      · rename_i q
        cases hm
        exact rising_ins (rising_del hl _) _ (by rw [hasV_del, q.2]; rfl)
      · cases hm
  · split at hd
    · cases hp : popV t.kept r.name with
      | none => rw [hp] at hd; cases hd
      | some p =>
        rw [hp] at hd
        cases hd
        have hpn : p.1.name = [] ∨ p.1.name = r.name := by
          unfold popV at hp
          split at hp
          · cases hp
          · split at hp
            · rename_i q
              cases hp
              exact q
            · cases hp
        show Rising (putV _ _)
        unfold putV
        split
        · exact rising_del hl _
        · rename_i hne
          exact rising_ins (rising_del hl _) _ (by rw [hpn.resolve_left hne]; exact del_no _ _)
    · cases hd
theorem run_mod (n : Nm) (o : Option Nm) : ∀ (l : List RuleL) (t : SetL), Rising t.vals → (∀ r ∈ l, r.name ≠ n ∧ (r.kind = 1 → r.to ≠ n)) → runL undoS (modS n o t) l = (runL undoS t l).map (modS n o)
  | [], t, _, _ => rfl
  | r :: l, t, h, hr => by
    obtain ⟨q1, q2⟩ := hr r (List.mem_cons_self ..)
    rw [runL, runL, undo_mod h n o r q1 q2]
    cases hd : undoS t r with
    | none => rfl
    | some u => exact run_mod n o l u (undo_rise h r hd) fun x hx => hr x (List.mem_cons_of_mem _ hx)
end Go.Proofs.YtpbgihhfcdggkaaGreatDoor
end
section
namespace Go.Proofs.YtpbgihhfcdggkaaGreatDoor
set_option linter.unusedSimpArgs false
theorem few_names : ∀ (A : List Nm) (l : List ValL), Rising l → (∀ v ∈ l, v.name ∈ A) → l.length ≤ A.length
  | [], l, _, h => by
    cases l with
    | nil => exact Nat.le_refl _
    | cons x l => exact absurd (h x (List.mem_cons_self ..)) (by simp)
  | a :: A, l, hr, h => by
    have ih := few_names A (delV l a) (rising_del hr a) fun v hv => by
      obtain ⟨h1, h2⟩ := (delV_mem _ _ _).1 hv
      rcases List.mem_cons.1 (h v h1) with e | q
      · exact absurd e h2
      · exact q
    have hl := delV_len hr a
    rw [List.length_cons]
    split at hl <;> omega
theorem names_do {s t : SetL} (A : List Nm) (r : RuleL) (h : ∀ v ∈ s.vals, v.name ∈ A) (h1 : r.name ∈ A) (h2 : r.kind = 1 → r.to ∈ A) (hd : doS s r = some t) : ∀ v ∈ t.vals, v.name ∈ A := by
  unfold doS at hd
  split at hd
  · rename_i k
    cases hm : movV s.vals r.name r.to with
    | none => rw [hm] at hd; cases hd
    | some l =>
      rw [hm] at hd
      cases hd
      unfold movV at hm
      split at hm
      · cases hm
        intro v hv
        rcases (insV_mem _ _ _).1 hv with rfl | hv
        · exact h2 k
        · exact h v ((delV_mem _ _ _).1 hv).1
      · cases hm
  · split at hd
    · cases hd
      intro v hv
      rcases (insV_mem _ _ _).1 hv with rfl | hv
      · exact h1
      · exact h v ((delV_mem _ _ _).1 hv).1
    · cases hd
      intro v hv
      exact h v ((delV_mem _ _ _).1 hv).1
theorem names_run (A : List Nm) : ∀ (l : List RuleL) (s t : SetL), (∀ v ∈ s.vals, v.name ∈ A) → (∀ r ∈ l, r.name ∈ A ∧ (r.kind = 1 → r.to ∈ A)) → runL doS s l = some t → ∀ v ∈ t.vals, v.name ∈ A
  | [], s, t, h, _, hd => by cases hd; exact h
  | r :: l, s, t, h, hr, hd => by
    rw [runL] at hd
    cases hu : doS s r with
    | none => rw [hu] at hd; cases hd
    | some u =>
      rw [hu] at hd
      obtain ⟨q1, q2⟩ := hr r (List.mem_cons_self ..)
      exact names_run A l u t (names_do A r h q1 q2 hu) (fun x hx => hr x (List.mem_cons_of_mem _ hx)) hd
theorem get_run (n : Nm) : ∀ (l : List RuleL) (s t : SetL), (∀ r ∈ l, r.name ≠ n ∧ (r.kind = 1 → r.to ≠ n)) → runL doS s l = some t → getV t.vals n = getV s.vals n ∧ hasV t.vals n = hasV s.vals n
  | [], s, t, _, hd => by cases hd; exact ⟨rfl, rfl⟩
  | r :: l, s, t, hr, hd => by
    rw [runL] at hd
    cases hu : doS s r with
    | none => rw [hu] at hd; cases hd
    | some u =>
      rw [hu] at hd
      obtain ⟨q1, q2⟩ := hr r (List.mem_cons_self ..)
      obtain ⟨e1, e2⟩ := getV_do r n q1 q2 hu
      obtain ⟨e3, e4⟩ := get_run n l u t (fun x hx => hr x (List.mem_cons_of_mem _ hx)) hd
      exact ⟨e3.trans e1, e4.trans e2⟩
theorem others_law {s t : SetL} (hs : ValidS s) (A : List Nm) (hA : A.length ≤ 8) (hn : ∀ v ∈ s.vals, v.name ∈ A) (hk : s.kept.length ≤ 4) (l : List RuleL) (hr : ∀ r ∈ l, rightR r = true) (hrA : ∀ r ∈ l, r.name ∈ A ∧ (r.kind = 1 → r.to ∈ A)) (hl : l.length ≤ 8) (hrun : runL doS s l = some t)
    (n : Nm) (hnA : n ∈ A) (hnb : nmB n = true) (hno : ∀ r ∈ l, r.name ≠ n ∧ (r.kind = 1 → r.to ≠ n)) (o : Option Nm) (ho : ∀ y, o = some y → txB y = true) :
    fwdS s l 7 = (verS 7 t, 0) ∧ getV t.vals n = getV s.vals n ∧ hasV t.vals n = hasV s.vals n ∧ backS (modS n o (verS 7 t)) l s.version = (modS n o s, 0) := by
  have hlen := few_names A s.vals hs.rise hn
  obtain ⟨b1, b2, _⟩ := back_law hs (by omega) hk l hr hl hrun 7 (by decide) (by decide)
  have hok : ∀ r ∈ l, RuleOk r := fun r h => (rightR_ok (hr r h)).1
  have hne := right_ne hs.right
  obtain ⟨u1, u2, _, _⟩ := back_run l s t hok hs.rise hne hrun
  obtain ⟨g1, g2⟩ := get_run n l s t hno hrun
  have htA := names_run A l s t hn hrA hrun
  have hmA : ∀ v ∈ modV n o t.vals, v.name ∈ A := fun v hv => by
    rcases (modV_mem n o t.vals v).1 hv with ⟨y, _, rfl⟩ | ⟨q, _⟩
    · exact hnA
    · exact htA v q
  have hml := few_names A (modV n o t.vals) (modV_rise u2 n o) hmA
  have hV : ValidS (modS n o (verS 7 t)) := by
    refine ⟨b2.ver, ⟨by show (modV n o t.vals).length ≤ 16; omega, b2.few.2⟩, modV_rise u2 n o, fun v hv => ?_, b2.kept⟩
    rcases (modV_mem n o t.vals v).1 hv with ⟨y, hy, rfl⟩ | ⟨q, _⟩
    · unfold rightV
      rw [Bool.and_eq_true]
      exact ⟨hnb, ho y hy⟩
    · exact b2.right v q
  have hsA : ∀ v ∈ modV n o s.vals, v.name ∈ A := fun v hv => by
    rcases (modV_mem n o s.vals v).1 hv with ⟨y, _, rfl⟩ | ⟨q, _⟩
    · exact hnA
    · exact hn v q
  have hsl := few_names A (modV n o s.vals) (modV_rise hs.rise n o) hsA
  refine ⟨b1, g1, g2, ?_⟩
  have hall : l.all rightR = true := List.all_eq_true.2 hr
  unfold backS migS
  rw [if_neg, if_neg (not_not_intro ⟨hall, hl⟩)]
  · have e1 : runL undoS (modS n o (verS 7 t)) l.reverse = some (modS n o (verS 7 s)) := by
      rw [run_mod n o l.reverse (verS 7 t) u2 fun r h => hno r (List.mem_reverse.1 h), run_ver undoS undo_ver 7, u1]
      rfl
    rw [e1]
    dsimp only
    rw [if_neg (by show ¬ (16 < (modV n o s.vals).length ∨ 16 < s.kept.length); omega)]
    rfl
  · rintro (q | q)
    · rw [(validS_iff _).2 hV] at q; cases q
    · exact q hs.ver
section
variable (dec : Int → List UInt8)
def printS (s : SetL) : List UInt8 := if validS s = true then printD (dec s.version) s.vals s.kept else []
def resP (p : List UInt8 → SetL) (s : List UInt8) : SetL × Int := if s = [] ∨ printS dec (p s) ≠ s then (zeroS, 3) else (p s, 0)
theorem printS_ne {s : SetL} (h : ValidS s) : printS dec s ≠ [] := by
  unfold printS printD joinB
  rw [if_pos ((validS_iff s).2 h), List.flatMap_cons]
  simp
theorem valid_of_print {s : SetL} (h : printS dec s ≠ []) : ValidS s := by
  unfold printS at h
  split at h
  · rename_i q
    exact (validS_iff s).1 q
  · exact absurd rfl h
theorem res_eq (p q : List UInt8 → SetL) (hp : ∀ s, ValidS s → p (printS dec s) = s) (hq : ∀ s, ValidS s → q (printS dec s) = s) (s : List UInt8) : resP dec p s = resP dec q s := by
  have key : ∀ (p q : List UInt8 → SetL), (∀ s, ValidS s → q (printS dec s) = s) → s ≠ [] → printS dec (p s) = s → q s = p s := fun p q hq h0 h => by
    have hv : ValidS (p s) := valid_of_print dec (by rw [h]; exact h0)
    have := hq _ hv
    rwa [h] at this
  unfold resP
  by_cases h0 : s = []
  · rw [if_pos (.inl h0), if_pos (.inl h0)]
  · by_cases h1 : printS dec (p s) = s
    · have e := key p q hq h0 h1
      rw [if_neg (by simp [h0, h1]), if_neg (by simp [h0, e, h1]), e]
    · by_cases h2 : printS dec (q s) = s
      · have e := key q p hp h0 h2
        rw [e] at h1
        exact absurd h2 h1
      · rw [if_pos (.inr h1), if_pos (.inr h2)]
theorem res_print (p : List UInt8 → SetL) (hp : ∀ s, ValidS s → p (printS dec s) = s) {s : SetL} (h : ValidS s) : resP dec p (printS dec s) = (s, 0) := by
  unfold resP
  rw [hp s h, if_neg]
  rintro (q | q)
  · exact printS_ne dec h q
  · exact q rfl
theorem res_only (p : List UInt8 → SetL) (s : List UInt8) (h : (resP dec p s).2 = 0) : printS dec (resP dec p s).1 = s := by
  unfold resP at h ⊢
  split
  · rename_i q
    rw [if_pos q] at h
    exact absurd h (by decide)
  · rename_i q
    exact Classical.byContradiction fun e => q (.inr e)
end
end Go.Proofs.YtpbgihhfcdggkaaGreatDoor
end
section
namespace Go.Proofs
open Go.Shelf
def Tryz.lays169_ren : Go.Shelf.Ren := ⟨fun | 169 => 48 | n => n, fun | 70 => 81 | 9 => 9 | 0 => 0 | 72 => 83 | 37 => 66 | 127 => 122 | 3 => 3 | 5 => 5 | n => n, fun | n => n⟩
theorem Tryz.lays169 : Go.Proofs.Lays.n169 Tryz.prog Tryz.lays169_ren := {
  mixed := by kernel_rfl
  f169 := Tryz.func48.trans (congrArg some (by kernel_rfl))
  t0 := Tryz.underlying0
  a0 := Tryz.isAgg0
  z0 := Tryz.sizeOf0
  v0 := Tryz.zeroValue0
  t3 := Tryz.underlying3
  a3 := Tryz.isAgg3
  z3 := Tryz.sizeOf3
  v3 := Tryz.zeroValue3
  t9 := Tryz.underlying9
  a9 := Tryz.isAgg9
  z9 := Tryz.sizeOf9
  v9 := Tryz.zeroValue9
  t37 := Tryz.underlying66
  a37 := Tryz.isAgg66
  z37 := Tryz.sizeOf66
  v37 := Tryz.zeroValue66
  t70 := Tryz.underlying81
  a70 := Tryz.isAgg81
  z70 := Tryz.sizeOf81
  v70 := Tryz.zeroValue81
  t72 := Tryz.underlying83
  a72 := Tryz.isAgg83
  z72 := Tryz.sizeOf83
  v72 := Tryz.zeroValue83
  t127 := Tryz.underlying122
  a127 := Tryz.isAgg122
  z127 := Tryz.sizeOf122
  v127 := Tryz.zeroValue122 }
theorem Tryz.Builder_Extra_169 : Builder.Extra Tryz.prog Tryz.lays169_ren := {
  sizeBuilder := by kernel_rfl
  liesBuilder := by kernel_rfl
  t5 := Tryz.underlying5
  a5 := Tryz.isAgg5
  z5 := Tryz.sizeOf5
  v5 := Tryz.zeroValue5
  infoByte := by kernel_rfl
  cellsByte := by kernel_rfl
  sizeByte := by kernel_rfl
  neB5 := by decide }
open Go.RowKit in
theorem Tryz.Builder_String_empty (B b : Nat) (w : World) (h : Lib.IsBuilder 83 5 B b [] w) (hBw : B ≤ w.heap.size) :
    Calls Tryz.prog 48 #[.pointer (some ⟨b, 0, none⟩)] w fun e w' => e = .returned (.string ⟨#[]⟩) ∧ Below B w w' := Any.Builder_String_empty Tryz.lays169 Tryz.Builder_Extra_169 B b w h hBw
def Tryz.lays156_ren : Go.Shelf.Ren := ⟨fun | 156 => 46 | 165 => 69 | 166 => 45 | 169 => 48 | 240 => 68 | 241 => 84 | 276 => 83 | 277 => 99 | n => n, fun | 31 => 49 | 9 => 9 | 3 => 3 | 4 => 4 | 0 => 0 | 20 => 20 | 72 => 83 | 76 => 86 | 70 => 81 | 37 => 66 | 75 => 85 | 127 => 122 | 164 => 133 | 5 => 5 | 80 => 91 | n => n, fun | n => n⟩
theorem Tryz.lays156 : Go.Proofs.Lays.n156 Tryz.prog Tryz.lays156_ren := {
  mixed := by kernel_rfl
  f156 := Tryz.func46.trans (congrArg some (by kernel_rfl))
  f165 := Tryz.func69.trans (congrArg some (by kernel_rfl))
  f166 := Tryz.func45.trans (congrArg some (by kernel_rfl))
  f169 := Tryz.func48.trans (congrArg some (by kernel_rfl))
  f240 := Tryz.func68.trans (congrArg some (by kernel_rfl))
  f241 := Tryz.func84.trans (congrArg some (by kernel_rfl))
  f276 := Tryz.func83.trans (congrArg some (by kernel_rfl))
  f277 := Tryz.func99.trans (congrArg some (by kernel_rfl))
  t0 := Tryz.underlying0
  a0 := Tryz.isAgg0
  z0 := Tryz.sizeOf0
  v0 := Tryz.zeroValue0
  t3 := Tryz.underlying3
  a3 := Tryz.isAgg3
  z3 := Tryz.sizeOf3
  v3 := Tryz.zeroValue3
  t4 := Tryz.underlying4
  a4 := Tryz.isAgg4
  z4 := Tryz.sizeOf4
  v4 := Tryz.zeroValue4
  t9 := Tryz.underlying9
  a9 := Tryz.isAgg9
  z9 := Tryz.sizeOf9
  v9 := Tryz.zeroValue9
  t20 := Tryz.underlying20
  a20 := Tryz.isAgg20
  z20 := Tryz.sizeOf20
  v20 := Tryz.zeroValue20
  t31 := Tryz.underlying49
  a31 := Tryz.isAgg49
  z31 := Tryz.sizeOf49
  v31 := Tryz.zeroValue49
  t37 := Tryz.underlying66
  a37 := Tryz.isAgg66
  z37 := Tryz.sizeOf66
  v37 := Tryz.zeroValue66
  t70 := Tryz.underlying81
  a70 := Tryz.isAgg81
  z70 := Tryz.sizeOf81
  v70 := Tryz.zeroValue81
  t72 := Tryz.underlying83
  a72 := Tryz.isAgg83
  z72 := Tryz.sizeOf83
  v72 := Tryz.zeroValue83
  t75 := Tryz.underlying85
  a75 := Tryz.isAgg85
  z75 := Tryz.sizeOf85
  v75 := Tryz.zeroValue85
  t76 := Tryz.underlying86
  a76 := Tryz.isAgg86
  z76 := Tryz.sizeOf86
  v76 := Tryz.zeroValue86
  t127 := Tryz.underlying122
  a127 := Tryz.isAgg122
  z127 := Tryz.sizeOf122
  v127 := Tryz.zeroValue122
  t164 := Tryz.underlying133
  a164 := Tryz.isAgg133
  z164 := Tryz.sizeOf133
  v164 := Tryz.zeroValue133 }
theorem Tryz.Builder_Extra_156 : Builder.Extra Tryz.prog Tryz.lays156_ren := {
  sizeBuilder := by kernel_rfl
  liesBuilder := by kernel_rfl
  t5 := Tryz.underlying5
  a5 := Tryz.isAgg5
  z5 := Tryz.sizeOf5
  v5 := Tryz.zeroValue5
  infoByte := by kernel_rfl
  cellsByte := by kernel_rfl
  sizeByte := by kernel_rfl
  neB5 := by decide }
open Go.RowKit in
theorem Tryz.strings_Join_none (a : Option Addr) (c : Nat) (sep : ByteArray) (w : World) :
    Calls Tryz.prog 46 #[.slice a 0 c, .string sep] w fun e w' => e = .returned (.string ⟨#[]⟩) ∧ w' = w := Any.strings_Join_none Tryz.lays156 Tryz.Builder_Extra_156 a c sep w
open Go.RowKit in
theorem Tryz.strings_Join (bk o c : Nat) (xs : List ByteArray) (sep : ByteArray) (w : World) (hcells : ∀ (j : Nat) x, xs[j]? = some x → w.cell? ⟨bk, o + j, none⟩ = some (.string x)) (hbk : bk < w.heap.size) (hN : xs.length ≤ 140737488355328) (hcap : xs.length ≤ c) (hlen : (Lib.join (xs.map (·.data.toList)) sep.data.toList).length ≤ 140737488355328) :
    Calls Tryz.prog 46 #[.slice (some ⟨bk, o, none⟩) xs.length c, .string sep] w fun e w' => e = .returned (.string ⟨(Lib.join (xs.map (·.data.toList)) sep.data.toList).toArray⟩) ∧ Below w.heap.size w w' := Any.strings_Join Tryz.lays156 Tryz.Builder_Extra_156 bk o c xs sep w hcells hbk hN hcap hlen
def Tryz.lays106_ren : Go.Shelf.Ren := ⟨fun | 106 => 67 | 213 => 82 | 265 => 98 | n => n, fun | 9 => 9 | 3 => 3 | n => n, fun | n => n⟩
theorem Tryz.lays106 : Go.Proofs.Lays.n106 Tryz.prog Tryz.lays106_ren := {
  mixed := by kernel_rfl
  f106 := Tryz.func67.trans (congrArg some (by kernel_rfl))
  f213 := Tryz.func82.trans (congrArg some (by kernel_rfl))
  f265 := Tryz.func98.trans (congrArg some (by kernel_rfl))
  t3 := Tryz.underlying3
  a3 := Tryz.isAgg3
  z3 := Tryz.sizeOf3
  v3 := Tryz.zeroValue3
  t9 := Tryz.underlying9
  a9 := Tryz.isAgg9
  z9 := Tryz.sizeOf9
  v9 := Tryz.zeroValue9 }
open Go.RowKit in
theorem Tryz.strings_Compare (a b : ByteArray) (w : World) :
    Calls Tryz.prog 67 #[.string a, .string b] w fun e w' => e = .returned (.int .i64 (Lib.compareBytes a.data.toList b.data.toList)) ∧ w' = w := Any.strings_Compare Tryz.lays106 a b w
def Tryz.lays103_ren : Go.Shelf.Ren := ⟨fun | 103 => 50 | 210 => 72 | 206 => 89 | n => n, fun | 9 => 9 | 4 => 4 | 24 => 93 | 3 => 3 | n => n, fun | n => n⟩
theorem Tryz.lays103 : Go.Proofs.Lays.n103 Tryz.prog Tryz.lays103_ren := {
  mixed := by kernel_rfl
  f103 := Tryz.func50.trans (congrArg some (by kernel_rfl))
  f206 := Tryz.func89.trans (congrArg some (by kernel_rfl))
  f210 := Tryz.func72.trans (congrArg some (by kernel_rfl))
  t3 := Tryz.underlying3
  a3 := Tryz.isAgg3
  z3 := Tryz.sizeOf3
  v3 := Tryz.zeroValue3
  t4 := Tryz.underlying4
  a4 := Tryz.isAgg4
  z4 := Tryz.sizeOf4
  v4 := Tryz.zeroValue4
  t9 := Tryz.underlying9
  a9 := Tryz.isAgg9
  z9 := Tryz.sizeOf9
  v9 := Tryz.zeroValue9
  t24 := Tryz.underlying93
  a24 := Tryz.isAgg93
  z24 := Tryz.sizeOf93
  v24 := Tryz.zeroValue93 }
open Go.RowKit in
theorem Tryz.strings_CutPrefix (s p : ByteArray) (w : World) :
    Calls Tryz.prog 50 #[.string s, .string p] w fun e w' => e = .returned (.tuple #[.string ⟨(Lib.trimPrefix s.data.toList p.data.toList).toArray⟩, .bool (Lib.hasPrefix s.data.toList p.data.toList)]) ∧ w' = w := Any.strings_CutPrefix Tryz.lays103 s p w
def Tryz.laysM171_ren : Go.Shelf.Ren := ⟨fun | 171 => 47 | 243 => 70 | 246 => 85 | 283 => 100 | 284 => 101 | 285 => 102 | 286 => 103 | 129 => 116 | 317 => 115 | 318 => 117 | 319 => 118 | 320 => 119 | 337 => 126 | 338 => 127 | n => n, fun | 3 => 3 | 9 => 9 | 2 => 2 | 4 => 4 | 171 => 147 | 0 => 0 | 53 => 148 | 37 => 66 | 5 => 5 | 173 => 151 | 212 => 165 | 51 => 166 | 20 => 20 | 213 => 167 | 46 => 119 | 232 => 182 | 233 => 183 | n => n, fun | 17 => 3 | 18 => 6 | 19 => 7 | n => n⟩
theorem Tryz.laysM171 : Go.Proofs.LaysM.n171 Tryz.prog Tryz.laysM171_ren := {
  mixed := by kernel_rfl
  f129 := Tryz.func116.trans (congrArg some (by kernel_rfl))
  f171 := Tryz.func47.trans (congrArg some (by kernel_rfl))
  f243 := Tryz.func70.trans (congrArg some (by kernel_rfl))
  f246 := Tryz.func85.trans (congrArg some (by kernel_rfl))
  f283 := Tryz.func100.trans (congrArg some (by kernel_rfl))
  f284 := Tryz.func101.trans (congrArg some (by kernel_rfl))
  f285 := Tryz.func102.trans (congrArg some (by kernel_rfl))
  f286 := Tryz.func103.trans (congrArg some (by kernel_rfl))
  f317 := Tryz.func115.trans (congrArg some (by kernel_rfl))
  f318 := Tryz.func117.trans (congrArg some (by kernel_rfl))
  f319 := Tryz.func118.trans (congrArg some (by kernel_rfl))
  f320 := Tryz.func119.trans (congrArg some (by kernel_rfl))
  f337 := Tryz.func126.trans (congrArg some (by kernel_rfl))
  f338 := Tryz.func127.trans (congrArg some (by kernel_rfl))
  t0 := Tryz.underlying0
  a0 := Tryz.isAgg0
  z0 := Tryz.sizeOf0
  v0 := Tryz.zeroValue0
  t2 := Tryz.underlying2
  a2 := Tryz.isAgg2
  z2 := Tryz.sizeOf2
  v2 := Tryz.zeroValue2
  t3 := Tryz.underlying3
  a3 := Tryz.isAgg3
  z3 := Tryz.sizeOf3
  v3 := Tryz.zeroValue3
  t4 := Tryz.underlying4
  a4 := Tryz.isAgg4
  z4 := Tryz.sizeOf4
  v4 := Tryz.zeroValue4
  t5 := Tryz.underlying5
  a5 := Tryz.isAgg5
  z5 := Tryz.sizeOf5
  v5 := Tryz.zeroValue5
  t9 := Tryz.underlying9
  a9 := Tryz.isAgg9
  z9 := Tryz.sizeOf9
  v9 := Tryz.zeroValue9
  t20 := Tryz.underlying20
  a20 := Tryz.isAgg20
  z20 := Tryz.sizeOf20
  v20 := Tryz.zeroValue20
  t37 := Tryz.underlying66
  a37 := Tryz.isAgg66
  z37 := Tryz.sizeOf66
  v37 := Tryz.zeroValue66
  t46 := Tryz.underlying119
  a46 := Tryz.isAgg119
  z46 := Tryz.sizeOf119
  v46 := Tryz.zeroValue119
  t51 := Tryz.underlying166
  a51 := Tryz.isAgg166
  z51 := Tryz.sizeOf166
  v51 := Tryz.zeroValue166
  t53 := Tryz.underlying148
  a53 := Tryz.isAgg148
  z53 := Tryz.sizeOf148
  v53 := Tryz.zeroValue148
  t171 := Tryz.underlying147
  a171 := Tryz.isAgg147
  z171 := Tryz.sizeOf147
  v171 := Tryz.zeroValue147
  t173 := Tryz.underlying151
  a173 := Tryz.isAgg151
  z173 := Tryz.sizeOf151
  v173 := Tryz.zeroValue151
  t212 := Tryz.underlying165
  a212 := Tryz.isAgg165
  z212 := Tryz.sizeOf165
  v212 := Tryz.zeroValue165
  t213 := Tryz.underlying167
  a213 := Tryz.isAgg167
  z213 := Tryz.sizeOf167
  t232 := Tryz.underlying182
  a232 := Tryz.isAgg182
  z232 := Tryz.sizeOf182
  v232 := Tryz.zeroValue182
  t233 := Tryz.underlying183
  a233 := Tryz.isAgg183
  z233 := Tryz.sizeOf183
  v233 := Tryz.zeroValue183
  g17 := by kernel_rfl
  g18 := by kernel_rfl
  g19 := by kernel_rfl
  i0 := by kernel_rfl
  i2 := by kernel_rfl
  i3 := by kernel_rfl
  i4 := by kernel_rfl
  i5 := by kernel_rfl
  i9 := by kernel_rfl
  i20 := by kernel_rfl
  i37 := by kernel_rfl
  i46 := by kernel_rfl
  i51 := by kernel_rfl
  i53 := by kernel_rfl
  i171 := by kernel_rfl
  i173 := by kernel_rfl
  i212 := by kernel_rfl
  i232 := by kernel_rfl
  i233 := by kernel_rfl
  m17 := by kernel_rfl
  m18 := by kernel_rfl
  m19 := by kernel_rfl }
open Go.RowKit Go.Sort Go.Lib in
theorem Tryz.strconv_Itoa (n : Int) (h0 : -9223372036854775808 ≤ n) (h1 : n ≤ 9223372036854775807) (w : World) (htab : Lib.TabIs Tryz.prog w "internal/strconv.uint64pow10" .u64 Lib.pow10Tab) :
    Calls Tryz.prog 47 #[.int .i64 n] w fun e w' => e = .returned (.string ⟨(Lib.itoa n).toArray⟩) ∧ ∃ k os, w' = grow (w.drewN k) os := Any.strconv_Itoa Tryz.laysM171 n h0 h1 w htab
def Tryz.laysC172_ren : Go.Shelf.Ren := ⟨fun | 172 => 51 | 244 => 73 | 245 => 74 | 247 => 90 | 279 => 91 | 280 => 92 | 281 => 93 | 282 => 94 | 287 => 107 | 316 => 108 | 171 => 47 | 205 => 109 | 321 => 121 | 322 => 122 | 243 => 70 | 246 => 85 | 283 => 100 | 284 => 101 | 285 => 102 | 286 => 103 | 129 => 116 | 317 => 115 | 318 => 117 | 319 => 118 | 320 => 119 | 337 => 126 | 338 => 127 | n => n, fun | 9 => 9 | 3 => 3 | 75 => 85 | 76 => 86 | 4 => 4 | 5 => 5 | 167 => 138 | 37 => 66 | 0 => 0 | 85 => 139 | 2 => 2 | 168 => 141 | 53 => 148 | 175 => 156 | 46 => 119 | 210 => 160 | 127 => 122 | 145 => 173 | 143 => 171 | 21 => 21 | 171 => 147 | 173 => 151 | 212 => 165 | 51 => 166 | 20 => 20 | 213 => 167 | 232 => 182 | 233 => 183 | 80 => 91 | n => n, fun | 15 => 1 | 16 => 2 | 17 => 3 | 18 => 6 | 19 => 7 | n => n⟩
theorem Tryz.laysC172 : Go.Proofs.LaysC.n172 Tryz.prog Tryz.laysC172_ren := {
  mixed := by kernel_rfl
  f129 := Tryz.func116.trans (congrArg some (by kernel_rfl))
  f171 := Tryz.func47.trans (congrArg some (by kernel_rfl))
  f172 := Tryz.func51.trans (congrArg some (by kernel_rfl))
  f205 := Tryz.func109.trans (congrArg some (by kernel_rfl))
  f243 := Tryz.func70.trans (congrArg some (by kernel_rfl))
  f244 := Tryz.func73.trans (congrArg some (by kernel_rfl))
  f245 := Tryz.func74.trans (congrArg some (by kernel_rfl))
  f246 := Tryz.func85.trans (congrArg some (by kernel_rfl))
  f247 := Tryz.func90.trans (congrArg some (by kernel_rfl))
  f279 := Tryz.func91.trans (congrArg some (by kernel_rfl))
  f280 := Tryz.func92.trans (congrArg some (by kernel_rfl))
  f281 := Tryz.func93.trans (congrArg some (by kernel_rfl))
  f282 := Tryz.func94.trans (congrArg some (by kernel_rfl))
  f283 := Tryz.func100.trans (congrArg some (by kernel_rfl))
  f284 := Tryz.func101.trans (congrArg some (by kernel_rfl))
  f285 := Tryz.func102.trans (congrArg some (by kernel_rfl))
  f286 := Tryz.func103.trans (congrArg some (by kernel_rfl))
  f287 := Tryz.func107.trans (congrArg some (by kernel_rfl))
  f316 := Tryz.func108.trans (congrArg some (by kernel_rfl))
  f317 := Tryz.func115.trans (congrArg some (by kernel_rfl))
  f318 := Tryz.func117.trans (congrArg some (by kernel_rfl))
  f319 := Tryz.func118.trans (congrArg some (by kernel_rfl))
  f320 := Tryz.func119.trans (congrArg some (by kernel_rfl))
  f321 := Tryz.func121.trans (congrArg some (by kernel_rfl))
  f322 := Tryz.func122.trans (congrArg some (by kernel_rfl))
  f337 := Tryz.func126.trans (congrArg some (by kernel_rfl))
  f338 := Tryz.func127.trans (congrArg some (by kernel_rfl))
  t0 := Tryz.underlying0
  a0 := Tryz.isAgg0
  z0 := Tryz.sizeOf0
  v0 := Tryz.zeroValue0
  t2 := Tryz.underlying2
  a2 := Tryz.isAgg2
  z2 := Tryz.sizeOf2
  v2 := Tryz.zeroValue2
  t3 := Tryz.underlying3
  a3 := Tryz.isAgg3
  z3 := Tryz.sizeOf3
  v3 := Tryz.zeroValue3
  t4 := Tryz.underlying4
  a4 := Tryz.isAgg4
  z4 := Tryz.sizeOf4
  v4 := Tryz.zeroValue4
  t5 := Tryz.underlying5
  a5 := Tryz.isAgg5
  z5 := Tryz.sizeOf5
  v5 := Tryz.zeroValue5
  t9 := Tryz.underlying9
  a9 := Tryz.isAgg9
  z9 := Tryz.sizeOf9
  v9 := Tryz.zeroValue9
  t20 := Tryz.underlying20
  a20 := Tryz.isAgg20
  z20 := Tryz.sizeOf20
  v20 := Tryz.zeroValue20
  t21 := Tryz.underlying21
  a21 := Tryz.isAgg21
  z21 := Tryz.sizeOf21
  v21 := Tryz.zeroValue21
  t37 := Tryz.underlying66
  a37 := Tryz.isAgg66
  z37 := Tryz.sizeOf66
  v37 := Tryz.zeroValue66
  t46 := Tryz.underlying119
  a46 := Tryz.isAgg119
  z46 := Tryz.sizeOf119
  v46 := Tryz.zeroValue119
  t51 := Tryz.underlying166
  a51 := Tryz.isAgg166
  z51 := Tryz.sizeOf166
  v51 := Tryz.zeroValue166
  t53 := Tryz.underlying148
  a53 := Tryz.isAgg148
  z53 := Tryz.sizeOf148
  v53 := Tryz.zeroValue148
  t75 := Tryz.underlying85
  a75 := Tryz.isAgg85
  z75 := Tryz.sizeOf85
  v75 := Tryz.zeroValue85
  t76 := Tryz.underlying86
  a76 := Tryz.isAgg86
  z76 := Tryz.sizeOf86
  v76 := Tryz.zeroValue86
  t85 := Tryz.underlying139
  a85 := Tryz.isAgg139
  z85 := Tryz.sizeOf139
  v85 := Tryz.zeroValue139
  t127 := Tryz.underlying122
  a127 := Tryz.isAgg122
  z127 := Tryz.sizeOf122
  v127 := Tryz.zeroValue122
  t143 := Tryz.underlying171
  a143 := Tryz.isAgg171
  z143 := Tryz.sizeOf171
  v143 := Tryz.zeroValue171
  t145 := Tryz.underlying173
  a145 := Tryz.isAgg173
  z145 := Tryz.sizeOf173
  v145 := Tryz.zeroValue173
  t167 := Tryz.underlying138
  a167 := Tryz.isAgg138
  z167 := Tryz.sizeOf138
  v167 := Tryz.zeroValue138
  t168 := Tryz.underlying141
  a168 := Tryz.isAgg141
  z168 := Tryz.sizeOf141
  v168 := Tryz.zeroValue141
  t171 := Tryz.underlying147
  a171 := Tryz.isAgg147
  z171 := Tryz.sizeOf147
  v171 := Tryz.zeroValue147
  t173 := Tryz.underlying151
  a173 := Tryz.isAgg151
  z173 := Tryz.sizeOf151
  v173 := Tryz.zeroValue151
  t175 := Tryz.underlying156
  a175 := Tryz.isAgg156
  z175 := Tryz.sizeOf156
  v175 := Tryz.zeroValue156
  t210 := Tryz.underlying160
  a210 := Tryz.isAgg160
  z210 := Tryz.sizeOf160
  v210 := Tryz.zeroValue160
  t212 := Tryz.underlying165
  a212 := Tryz.isAgg165
  z212 := Tryz.sizeOf165
  v212 := Tryz.zeroValue165
  t213 := Tryz.underlying167
  a213 := Tryz.isAgg167
  z213 := Tryz.sizeOf167
  t232 := Tryz.underlying182
  a232 := Tryz.isAgg182
  z232 := Tryz.sizeOf182
  v232 := Tryz.zeroValue182
  t233 := Tryz.underlying183
  a233 := Tryz.isAgg183
  z233 := Tryz.sizeOf183
  v233 := Tryz.zeroValue183
  g15 := by kernel_rfl
  g16 := by kernel_rfl
  g17 := by kernel_rfl
  g18 := by kernel_rfl
  g19 := by kernel_rfl
  t80 := Tryz.underlying91
  a80 := Tryz.isAgg91
  z80 := Tryz.sizeOf91
  v80 := Tryz.zeroValue91
  i0 := by kernel_rfl
  i2 := by kernel_rfl
  i3 := by kernel_rfl
  i4 := by kernel_rfl
  i5 := by kernel_rfl
  i9 := by kernel_rfl
  i20 := by kernel_rfl
  i21 := by kernel_rfl
  i37 := by kernel_rfl
  i46 := by kernel_rfl
  i51 := by kernel_rfl
  i53 := by kernel_rfl
  i75 := by kernel_rfl
  i76 := by kernel_rfl
  i80 := by kernel_rfl
  i85 := by kernel_rfl
  i127 := by kernel_rfl
  i143 := by kernel_rfl
  i145 := by kernel_rfl
  i167 := by kernel_rfl
  i168 := by kernel_rfl
  i171 := by kernel_rfl
  i173 := by kernel_rfl
  i175 := by kernel_rfl
  i210 := by kernel_rfl
  i212 := by kernel_rfl
  i232 := by kernel_rfl
  i233 := by kernel_rfl
  m15 := by kernel_rfl
  m16 := by kernel_rfl
  m17 := by kernel_rfl
  m18 := by kernel_rfl
  m19 := by kernel_rfl
  c0 := by kernel_rfl
  c2 := by kernel_rfl
  c3 := by kernel_rfl
  c4 := by kernel_rfl
  c5 := by kernel_rfl
  c9 := by kernel_rfl
  c20 := by kernel_rfl
  c21 := by kernel_rfl
  c37 := by kernel_rfl
  c46 := by kernel_rfl
  c51 := by kernel_rfl
  c53 := by kernel_rfl
  c75 := by kernel_rfl
  c76 := by kernel_rfl
  c80 := by kernel_rfl
  c85 := by kernel_rfl
  c127 := by kernel_rfl
  c143 := by kernel_rfl
  c145 := by kernel_rfl
  c167 := by kernel_rfl
  c168 := by kernel_rfl
  c171 := by kernel_rfl
  c173 := by kernel_rfl
  c175 := by kernel_rfl
  c210 := by kernel_rfl
  c212 := by kernel_rfl
  c213 := by kernel_rfl
  c232 := by kernel_rfl
  c233 := by kernel_rfl }
open Go.RowKit in
theorem Tryz.strconv_Atoi_ok (s : ByteArray) (hmax : s.size ≤ 9223372036854775806) (v : Int) (h : Lib.atoiAll s.data.toList = .ok v) (w : World) :
    Calls Tryz.prog 51 #[.string s] w fun e w' => e = .returned (.tuple #[.int .i64 v, .nilIface]) ∧ (w' = w ∨ ∃ t, w' = Lib.bytesWorld w 5 t) := Any.strconv_Atoi_ok Tryz.laysC172 s hmax v h w
open Go.RowKit in
theorem Tryz.strconv_Atoi_range (s : ByteArray) (hlim : s.size ≤ 281474976710656) (h : Lib.atoiAll s.data.toList = .range) (ev : Value) (w : World) (hv : w.cell? ⟨2, 0, none⟩ = some ev) (hev : ev = .nilIface ∨ ∃ te pe, ev = .iface te pe) :
    Calls Tryz.prog 51 #[.string s] w fun e w' => ∃ N, e = .returned (.tuple #[.int .i64 (Lib.atoiSat s.data.toList), .iface 141 (.pointer (some ⟨N, 0, none⟩))]) ∧ w.heap.size ≤ N ∧ w'.heap[N]? = some (.cells #[.string ⟨#[65, 116, 111, 105]⟩, .string s, ev] 160 (0, 0)) ∧ Below w.heap.size w w' := Any.strconv_Atoi_range Tryz.laysC172 s hlim h ev w hv hev
def Tryz.lays145_ren : Go.Shelf.Ren := ⟨fun | 145 => 52 | 220 => 75 | 219 => 95 | 217 => 110 | 225 => 111 | 224 => 112 | 267 => 113 | 266 => 123 | 314 => 124 | n => n, fun | 9 => 9 | 4 => 4 | 59 => 95 | 3 => 3 | 5 => 5 | 46 => 119 | 146 => 174 | 51 => 166 | n => n, fun | 1 => 0 | n => n⟩
theorem Tryz.lays145 : Go.Proofs.Lays.n145 Tryz.prog Tryz.lays145_ren := {
  mixed := by kernel_rfl
  f145 := Tryz.func52.trans (congrArg some (by kernel_rfl))
  f217 := Tryz.func110.trans (congrArg some (by kernel_rfl))
  f219 := Tryz.func95.trans (congrArg some (by kernel_rfl))
  f220 := Tryz.func75.trans (congrArg some (by kernel_rfl))
  f224 := Tryz.func112.trans (congrArg some (by kernel_rfl))
  f225 := Tryz.func111.trans (congrArg some (by kernel_rfl))
  f266 := Tryz.func123.trans (congrArg some (by kernel_rfl))
  f267 := Tryz.func113.trans (congrArg some (by kernel_rfl))
  f314 := Tryz.func124.trans (congrArg some (by kernel_rfl))
  t3 := Tryz.underlying3
  a3 := Tryz.isAgg3
  z3 := Tryz.sizeOf3
  v3 := Tryz.zeroValue3
  t4 := Tryz.underlying4
  a4 := Tryz.isAgg4
  z4 := Tryz.sizeOf4
  v4 := Tryz.zeroValue4
  t5 := Tryz.underlying5
  a5 := Tryz.isAgg5
  z5 := Tryz.sizeOf5
  v5 := Tryz.zeroValue5
  t9 := Tryz.underlying9
  a9 := Tryz.isAgg9
  z9 := Tryz.sizeOf9
  v9 := Tryz.zeroValue9
  t46 := Tryz.underlying119
  a46 := Tryz.isAgg119
  z46 := Tryz.sizeOf119
  v46 := Tryz.zeroValue119
  t51 := Tryz.underlying166
  a51 := Tryz.isAgg166
  z51 := Tryz.sizeOf166
  v51 := Tryz.zeroValue166
  t59 := Tryz.underlying95
  a59 := Tryz.isAgg95
  z59 := Tryz.sizeOf95
  v59 := Tryz.zeroValue95
  t146 := Tryz.underlying174
  a146 := Tryz.isAgg174
  z146 := Tryz.sizeOf174
  v146 := Tryz.zeroValue174
  g1 := by kernel_rfl }
open Go.RowKit Go.Lib in
theorem Tryz.strings_Cut (s sep : ByteArray) (m : Int) (w : World) (hs : s.size < 4294967281) (hm : w.cell? ⟨0, 0, none⟩ = some (.int .i64 m)) :
    Calls Tryz.prog 52 #[.string s, .string sep] w fun e w' => e = .returned (.tuple #[.string ⟨(Lib.cut s.data.toList sep.data.toList).1.toArray⟩, .string ⟨(Lib.cut s.data.toList sep.data.toList).2.1.toArray⟩, .bool (Lib.cut s.data.toList sep.data.toList).2.2]) ∧ ∃ n, w' = w.drewN n := Any.strings_Cut Tryz.lays145 s sep m w hs hm
def Tryz.laysGw17_ren : Go.Shelf.Ren := ⟨fun | 17 => 97 | 15 => 114 | 20 => 125 | n => n, fun | 9 => 9 | 23 => 144 | 4 => 4 | 3 => 3 | 0 => 0 | 21 => 21 | n => n, fun | n => n⟩
theorem Tryz.laysGw17 : Go.Proofs.LaysGw.n17 Tryz.prog Tryz.laysGw17_ren := {
  mixed := by kernel_rfl
  f15 := Tryz.func114.trans (congrArg some (by kernel_rfl))
  f17 := Tryz.func97.trans (congrArg some (by kernel_rfl))
  f20 := Tryz.func125.trans (congrArg some (by kernel_rfl))
  t0 := Tryz.underlying0
  a0 := Tryz.isAgg0
  z0 := Tryz.sizeOf0
  v0 := Tryz.zeroValue0
  i0 := by kernel_rfl
  t3 := Tryz.underlying3
  a3 := Tryz.isAgg3
  z3 := Tryz.sizeOf3
  v3 := Tryz.zeroValue3
  i3 := by kernel_rfl
  t4 := Tryz.underlying4
  a4 := Tryz.isAgg4
  z4 := Tryz.sizeOf4
  v4 := Tryz.zeroValue4
  i4 := by kernel_rfl
  t9 := Tryz.underlying9
  a9 := Tryz.isAgg9
  z9 := Tryz.sizeOf9
  v9 := Tryz.zeroValue9
  i9 := by kernel_rfl
  t21 := Tryz.underlying21
  a21 := Tryz.isAgg21
  z21 := Tryz.sizeOf21
  v21 := Tryz.zeroValue21
  i21 := by kernel_rfl
  t23 := Tryz.underlying144
  a23 := Tryz.isAgg144
  z23 := Tryz.sizeOf144
  v23 := Tryz.zeroValue144
  i23 := by kernel_rfl }
open Go.RowKit Go.Lib in
theorem Tryz.strings_ContainsFunc_runes (g : Nat) (lb : Array Value) (eg : ∀ args w, (callFunc g args).run Tryz.prog w = .ok (.enter g args) w) (p : Nat → Bool) (s : ByteArray) (w : World) (hp : PredAtRunes Tryz.prog g lb p w) :
    Calls Tryz.prog 97 #[.string s, .func (.func g) #[] lb] w fun e w' => e = .returned (.bool (decide (0 ≤ Lib.idxFunc p true s))) ∧ Below w.heap.size w w' := Any.strings_ContainsFunc_runes Tryz.laysGw17 g lb eg p s w hp
def Tryz.lays146_ren : Go.Shelf.Ren := ⟨fun | 146 => 49 | 221 => 71 | 268 => 86 | 138 => 87 | 143 => 88 | 195 => 104 | 197 => 105 | 218 => 106 | 219 => 95 | 260 => 120 | 217 => 110 | 225 => 111 | 224 => 112 | 267 => 113 | 266 => 123 | 314 => 124 | n => n, fun | 9 => 9 | 31 => 49 | 3 => 3 | 4 => 4 | 0 => 0 | 105 => 153 | 21 => 21 | 5 => 5 | 46 => 119 | 119 => 178 | 139 => 181 | 138 => 180 | 146 => 174 | 51 => 166 | n => n, fun | 1 => 0 | 3 => 4 | 4 => 5 | n => n⟩
theorem Tryz.lays146 : Go.Proofs.Lays.n146 Tryz.prog Tryz.lays146_ren := {
  mixed := by kernel_rfl
  f138 := Tryz.func87.trans (congrArg some (by kernel_rfl))
  f143 := Tryz.func88.trans (congrArg some (by kernel_rfl))
  f146 := Tryz.func49.trans (congrArg some (by kernel_rfl))
  f195 := Tryz.func104.trans (congrArg some (by kernel_rfl))
  f197 := Tryz.func105.trans (congrArg some (by kernel_rfl))
  f217 := Tryz.func110.trans (congrArg some (by kernel_rfl))
  f218 := Tryz.func106.trans (congrArg some (by kernel_rfl))
  f219 := Tryz.func95.trans (congrArg some (by kernel_rfl))
  f221 := Tryz.func71.trans (congrArg some (by kernel_rfl))
  f224 := Tryz.func112.trans (congrArg some (by kernel_rfl))
  f225 := Tryz.func111.trans (congrArg some (by kernel_rfl))
  f260 := Tryz.func120.trans (congrArg some (by kernel_rfl))
  f266 := Tryz.func123.trans (congrArg some (by kernel_rfl))
  f267 := Tryz.func113.trans (congrArg some (by kernel_rfl))
  f268 := Tryz.func86.trans (congrArg some (by kernel_rfl))
  f314 := Tryz.func124.trans (congrArg some (by kernel_rfl))
  t0 := Tryz.underlying0
  a0 := Tryz.isAgg0
  z0 := Tryz.sizeOf0
  v0 := Tryz.zeroValue0
  t3 := Tryz.underlying3
  a3 := Tryz.isAgg3
  z3 := Tryz.sizeOf3
  v3 := Tryz.zeroValue3
  t4 := Tryz.underlying4
  a4 := Tryz.isAgg4
  z4 := Tryz.sizeOf4
  v4 := Tryz.zeroValue4
  t5 := Tryz.underlying5
  a5 := Tryz.isAgg5
  z5 := Tryz.sizeOf5
  v5 := Tryz.zeroValue5
  t9 := Tryz.underlying9
  a9 := Tryz.isAgg9
  z9 := Tryz.sizeOf9
  v9 := Tryz.zeroValue9
  t21 := Tryz.underlying21
  a21 := Tryz.isAgg21
  z21 := Tryz.sizeOf21
  v21 := Tryz.zeroValue21
  t31 := Tryz.underlying49
  a31 := Tryz.isAgg49
  z31 := Tryz.sizeOf49
  v31 := Tryz.zeroValue49
  t46 := Tryz.underlying119
  a46 := Tryz.isAgg119
  z46 := Tryz.sizeOf119
  v46 := Tryz.zeroValue119
  t51 := Tryz.underlying166
  a51 := Tryz.isAgg166
  z51 := Tryz.sizeOf166
  v51 := Tryz.zeroValue166
  t105 := Tryz.underlying153
  a105 := Tryz.isAgg153
  z105 := Tryz.sizeOf153
  v105 := Tryz.zeroValue153
  t119 := Tryz.underlying178
  a119 := Tryz.isAgg178
  z119 := Tryz.sizeOf178
  t138 := Tryz.underlying180
  a138 := Tryz.isAgg180
  z138 := Tryz.sizeOf180
  v138 := Tryz.zeroValue180
  t139 := Tryz.underlying181
  a139 := Tryz.isAgg181
  z139 := Tryz.sizeOf181
  v139 := Tryz.zeroValue181
  t146 := Tryz.underlying174
  a146 := Tryz.isAgg174
  z146 := Tryz.sizeOf174
  v146 := Tryz.zeroValue174
  g1 := by kernel_rfl
  g3 := by kernel_rfl
  g4 := by kernel_rfl }
open Go.RowKit Go.Lib in
theorem Tryz.strings_Split (s sep : ByteArray) (m : Int) (w : World) (hs : s.size < 4294967281) (hm : w.cell? ⟨0, 0, none⟩ = some (.int .i64 m)) (h1 : 1 ≤ sep.size) :
    Calls Tryz.prog 49 #[.string s, .string sep] w fun e w' =>
      e = .returned (.slice (some ⟨w.heap.size, 0, none⟩) (Lib.countB s sep + 1) (Lib.countB s sep + 1)) ∧ w' = w.alloc (.cells ((Lib.splitB sep 0 (Lib.countB s sep) s).map Value.string).toArray 9) := Any.strings_Split Tryz.lays146 (by kernel_rfl) s sep m w hs hm h1
end Go.Proofs
end
section
namespace Go.Proofs.YtpbgihhfcdggkaaGreatDoor.V
open Go.RowKit
theorem phi {p : Prop} (h : p := by ((try dsimp only [V.EV.sub, V.EV.len]) <;> (repeat' (first | exact AllP.nil | with_reducible refine AllP.cons ?_ ?_ | with_reducible apply And.intro)) <;> (first | assumption | exact True.intro | exact rfl | (show eqOk _ _ = true; kernel_rfl) | omega | decide | (simp only [V.EV.sub, V.EV.len, List.length_cons, List.length_nil, List.length_append, List.length_drop, List.length_take]; omega) | (simp only [IntKind.bits]; omega) | (show IntKind.min _ ≤ _ ∧ _ ≤ IntKind.max _; decide) | (apply inR_i64 <;> omega) | (apply inR_i64 <;> (try simp only [Int.reduceToNat, Int.reducePow, Int.reduceSub, Int.reduceMul, Int.reduceAdd, Nat.reducePow, Nat.reduceAdd, Nat.reduceSub]) <;> omega) | (apply inR_u64 <;> omega) | (apply inR_u32 <;> omega) | (apply inR_u8' <;> omega) | (intro _; first | contradiction | (show eqOk _ _ = true; kernel_rfl) | assumption | exact rfl | omega | (show IntKind.min _ ≤ _ ∧ _ ≤ IntKind.max _; decide) | (apply inR_i64 <;> omega) | (apply inR_i64 <;> (try simp only [Int.reduceToNat, Int.reducePow, Int.reduceSub, Int.reduceMul, Int.reduceAdd, Nat.reducePow, Nat.reduceAdd, Nat.reduceSub]) <;> omega) | (apply inR_u64 <;> omega) | (apply inR_u32 <;> omega) | (apply inR_u8' <;> omega) | (apply And.intro <;> first | omega | (simp only [IntKind.bits]; omega))) | (simp; done) | (simp_all; done) | (simp_all; omega))) <;> fail) : p := h
theorem pur {p : Prop} (h : p := by ((repeat' (first | exact True.intro | assumption | apply And.intro))) <;> fail) : p := h
theorem purX {p : Prop} (h : p := by ((repeat' (first | exact True.intro | assumption | (intro _ _; simp [pureL, pureS, pureE]; done) | apply And.intro))) <;> fail) : p := h
theorem cnv {p : Prop} (h : p := by ((repeat' (first | exact Convs.nil | apply Convs.cons | exact Conv.refl _ pur | (refine Conv.may _ _ _ ?_ ?_; first | exact rfl | assumption | (decide +kernel) | (simp_all; done) | omega) | exact Conv.nils _ rfl | (refine Conv.all _ _ _ _ _ rfl rfl ?_ ?_ <;> first | rfl | exact True.intro | assumption | omega) | (refine Conv.gx _ _ _ _ _ (Conv.all _ _ _ _ _ rfl rfl ?_ ?_) ?_; exact rfl; (refine fun i hi => ?_; rcases i with _ | _ | _ | _ | _ | _ | i <;> first | exact ⟨trivial, trivial⟩ | exact trivial | (exfalso; simp only [List.length_cons, List.length_nil] at hi; omega)); (intro i hi; rcases i with _ | _ | _ | _ | _ | _ | i <;> first | rfl | (exfalso; simp only [List.length_cons, List.length_nil] at hi; omega))) | apply Conv.agg | apply Conv.tup | apply Conv.fn | (refine Conv.pr _ _ _ _ rfl ?_ rfl ?_ <;> first | exact pur | decide)))) <;> fail) : p := h
theorem cnvX {p : Prop} (h : p := by ((repeat' (first | exact Convs.nil | apply Convs.cons | exact Conv.refl _ purX | (refine Conv.may _ _ _ ?_ ?_; first | exact rfl | assumption | (decide +kernel) | (simp_all; done) | omega) | exact Conv.nils _ rfl | (refine Conv.all _ _ _ _ _ rfl rfl ?_ ?_ <;> first | rfl | exact True.intro | assumption | omega) | (refine Conv.gx _ _ _ _ _ (Conv.all _ _ _ _ _ rfl rfl ?_ ?_) ?_; exact rfl; (refine fun i hi => ?_; rcases i with _ | _ | _ | _ | _ | _ | i <;> first | exact ⟨trivial, trivial⟩ | exact trivial | (exfalso; simp only [List.length_cons, List.length_nil] at hi; omega)); (intro i hi; rcases i with _ | _ | _ | _ | _ | _ | i <;> first | rfl | (exfalso; simp only [List.length_cons, List.length_nil] at hi; omega))) | apply Conv.agg | apply Conv.tup | apply Conv.fn | (refine Conv.pr _ _ _ _ rfl ?_ rfl ?_ <;> first | exact purX | decide)))) <;> fail) : p := h
end Go.Proofs.YtpbgihhfcdggkaaGreatDoor.V
end
section
namespace Go.Proofs.YtpbgihhfcdggkaaGreatDoor
open Go.RowKit V
set_option maxRecDepth 100000
set_option maxHeartbeats 4000000
set_option linter.unusedSimpArgs false
set_option linter.unusedVariables false
@[reducible] def X64 : IntKind → Bool
  | .i64 => true
  | _ => false
theorem all_iff {α : Type} (l : List α) (p : α → Bool) (z : α) : l.all p = true ↔ ∀ i, i < l.length → p (l.getD i z) = true := by
  rw [List.all_eq_true]
  constructor
  · intro h i hi
    rw [List.getD_eq_getElem?_getD, List.getElem?_eq_getElem hi]
    exact h _ (List.getElem_mem hi)
  · intro h x hx
    obtain ⟨i, hi, rfl⟩ := List.mem_iff_getElem.1 hx
    have := h i hi
    rwa [List.getD_eq_getElem?_getD, List.getElem?_eq_getElem hi] at this
attribute [local irreducible] V.Sat V.DSat
def inB (a lo hi : Int) : Bool := bif decide (lo ≤ a) then decide (a ≤ hi) else false
theorem in_spec {Γ : Glob} (a lo hi : Int) : Fun Tryz.prog Γ 59 [.int .i64 a, .int .i64 lo, .int .i64 hi] (.bool (inB a lo hi)) := by
  refine Fun.mk 6 Tryz.func59 rfl Tryz.ntmps59 rfl rfl fun T w0 => ?_
  repeat' (first
    | ((with_reducible apply Sat.run (X := X64)); exact rfl; (first | exact True.intro | (exact phi) | skip)) | fail)
  (refine Sat.fin (Sat.end1 rfl rfl rfl True.intro (.refl _ pur) (by first | exact .inl rfl | exact .inr rfl) (fun _ h => h)) ?_; rfl)
theorem bad_ref (c : UInt8) : (bif bif bif decide ((c.toNat : Int) < 97) then true else decide (122 < (c.toNat : Int)) then bif decide ((c.toNat : Int) < 65) then true else decide (90 < (c.toNat : Int)) else false then bif decide ((c.toNat : Int) < 48) then true else decide (57 < (c.toNat : Int)) else false) = !nmC c := by
  unfold nmC
  apply Bool.eq_iff_iff.2
  simp [Bool.cond_eq_ite]
  omega
def badN (n : Nat) : Bool := bif bif decide ((n : Int) < 48) then true else decide (57 < (n : Int)) then bif decide (IntKind.u8.wrap ((BitVec.ofInt IntKind.u8.bits (n : Int) ||| BitVec.ofInt IntKind.u8.bits 32).toNat : Int) < 97) then true else decide (122 < IntKind.u8.wrap ((BitVec.ofInt IntKind.u8.bits (n : Int) ||| BitVec.ofInt IntKind.u8.bits 32).toNat : Int)) else false
theorem bad_nat : ∀ n, n < 256 → badN n = !nmC (UInt8.ofNat n) := by decide +kernel
theorem bad_prog (c : UInt8) : (bif bif decide ((c.toNat : Int) < 48) then true else decide (57 < (c.toNat : Int)) then bif decide (IntKind.u8.wrap ((BitVec.ofInt IntKind.u8.bits (c.toNat : Int) ||| BitVec.ofInt IntKind.u8.bits 32).toNat : Int) < 97) then true else decide (122 < IntKind.u8.wrap ((BitVec.ofInt IntKind.u8.bits (c.toNat : Int) ||| BitVec.ofInt IntKind.u8.bits 32).toNat : Int)) else false) = !nmC c := by
  have h := bad_nat c.toNat c.toNat_lt
  rw [UInt8.ofNat_toNat] at h
  exact h
theorem nmB_f {s : List UInt8} {x : Nat} (hx : x < s.length) (h : nmC (s.getD x 0) = false) : nmB s = false := by
  unfold nmB
  rw [show s.all nmC = false from Bool.eq_false_iff.2 fun e => by have q := (all_iff s nmC 0).1 e x hx; rw [h] at q; cases q]
  rfl
theorem txB_f {s : List UInt8} {x : Nat} (hx : x < s.length) (h : txC (s.getD x 0) = false) : txB s = false := by
  unfold txB
  rw [show s.all txC = false from Bool.eq_false_iff.2 fun e => by have q := (all_iff s txC 0).1 e x hx; rw [h] at q; cases q]
  rfl
theorem Name_spec (s : List UInt8) : Fun Tryz.prog [] 79 [.str s] (.bool (nmB s)) := by
  refine Fun.mkF 6 Tryz.func79 rfl Tryz.ntmps79 rfl rfl fun hf T w0 => ?_
  obtain ⟨hl, _⟩ := hf
  unfold factsS okLen at hl
  have hin := in_spec (Γ := []) (s.length : Int) 1 12
  repeat' (first
    | ((with_reducible apply Sat.run (X := X64)); exact rfl; (first | exact True.intro | (exact phi) | skip)) | fail)
  apply Sat.loop (α := Nat) (fun x => x ≤ s.length ∧ ∀ i, i < x → nmC (s.getD i 0) = true) (fun x => s.length - x) 0 (fun x => [(3, .int .i64 (x : Int))]) (fun _ => []) [] [] 0
  · intro x; exact rfl
  · intro x; exact rfl
  · exact rfl
  · exact rfl
  · (repeat' (first | exact AllP.nil | with_reducible refine AllP.cons ?_ ?_)) <;> first | exact rfl | exact trivial
  · exact ⟨Nat.zero_le _, fun i hi => by omega⟩
  · rintro x ⟨x1, x2⟩
    by_cases hx : x < s.length
    · repeat' (first
          | ((with_reducible apply Sat.run (X := X64)); exact rfl; (first | exact True.intro | (exact phi) | skip))
          | ((with_reducible apply Sat.drawn); kernel_rfl)
          | ((with_reducible apply DSat.run (X := X64)); exact rfl; (first | exact True.intro | (exact phi) | skip))
          | ((with_reducible apply DSat.fin); kernel_rfl)
          | ((with_reducible apply Sat.cond_t); exact rfl)
          | ((with_reducible apply Sat.cond_f); exact rfl)
          | ((with_reducible apply Sat.cond_pt); exact rfl; (try dsimp only [V.EV.sub, V.EV.len]); first | assumption | omega)
          | ((with_reducible apply Sat.cond_pf); exact rfl; (try dsimp only [V.EV.sub, V.EV.len]); first | assumption | omega)
          | ((with_reducible apply Sat.cond_p); exact rfl; all_goals intro h)
          | ((with_reducible apply Sat.cond); exact rfl; all_goals intro h) | fail)
      · (refine Sat.fin (Sat.end1 rfl rfl rfl True.intro (.refl _ pur) (by first | exact .inl rfl | exact .inr rfl) (fun _ h => h)) ?_; (rw [bad_ref, Int.toNat_natCast] at h; rw [nmB_f hx (by simpa using h)]))
      · rw [bad_ref, Int.toNat_natCast] at h
        refine Sat.back (x + 1) [] rfl ?_ ?_ ?_
        · (repeat' (first | exact AllP.nil | with_reducible refine AllP.cons ?_ ?_)) <;> first | exact rfl | exact trivial | exact Int.natCast_add_one _
        · refine ⟨by omega, fun i hi => ?_⟩
          rcases Nat.lt_succ_iff_lt_or_eq.1 hi with h1 | rfl
          · exact x2 i h1
          · simpa using h
        · omega
    · have hx2 : x = s.length := by omega
      subst hx2
      repeat' (first
        | ((with_reducible apply Sat.run (X := X64)); exact rfl; (first | exact True.intro | (exact phi) | skip))
        | ((with_reducible apply Sat.cond_pf); exact rfl; (try dsimp only [V.EV.sub, V.EV.len]); first | assumption | omega)
        | ((with_reducible apply Sat.callR (hin)); exact rfl; exact rfl; exact rfl; kernel_rfl; (exact cnv); exact rfl) | fail)
      (refine Sat.fin (Sat.end1 rfl rfl rfl True.intro (.refl _ pur) (by first | exact .inl rfl | exact .inr rfl) (fun _ h => h)) ?_; (refine congrArg SV.bool ?_; unfold nmB; rw [(all_iff s nmC 0).2 fun i hi => x2 i hi]; apply Bool.eq_iff_iff.2; simp [inB, Bool.cond_eq_ite]; omega))
theorem badT_ref (c : UInt8) : (bif decide ((c.toNat : Int) < 32) then true else decide (126 < (c.toNat : Int))) = !txC c := by
  unfold txC
  apply Bool.eq_iff_iff.2
  simp [Bool.cond_eq_ite]
  omega
theorem Text_spec (s : List UInt8) : Fun Tryz.prog [] 80 [.str s] (.bool (txB s)) := by
  refine Fun.mkF 6 Tryz.func80 rfl Tryz.ntmps80 rfl rfl fun hf T w0 => ?_
  obtain ⟨hl, _⟩ := hf
  unfold factsS okLen at hl
  repeat' (first
    | ((with_reducible apply Sat.run (X := X64)); exact rfl; (first | exact True.intro | (exact phi) | skip)) | fail)
  apply Sat.loop (α := Nat) (fun x => x ≤ s.length ∧ ∀ i, i < x → txC (s.getD i 0) = true) (fun x => s.length - x) 0 (fun x => [(3, .int .i64 (x : Int))]) (fun _ => []) [] [] 0
  · intro x; exact rfl
  · intro x; exact rfl
  · exact rfl
  · exact rfl
  · (repeat' (first | exact AllP.nil | with_reducible refine AllP.cons ?_ ?_)) <;> first | exact rfl | exact trivial
  · exact ⟨Nat.zero_le _, fun i hi => by omega⟩
  · rintro x ⟨x1, x2⟩
    by_cases hx : x < s.length
    · repeat' (first
          | ((with_reducible apply Sat.run (X := X64)); exact rfl; (first | exact True.intro | (exact phi) | skip))
          | ((with_reducible apply Sat.drawn); kernel_rfl)
          | ((with_reducible apply DSat.run (X := X64)); exact rfl; (first | exact True.intro | (exact phi) | skip))
          | ((with_reducible apply DSat.fin); kernel_rfl)
          | ((with_reducible apply Sat.cond_t); exact rfl)
          | ((with_reducible apply Sat.cond_f); exact rfl)
          | ((with_reducible apply Sat.cond_pt); exact rfl; (try dsimp only [V.EV.sub, V.EV.len]); first | assumption | omega)
          | ((with_reducible apply Sat.cond_pf); exact rfl; (try dsimp only [V.EV.sub, V.EV.len]); first | assumption | omega)
          | ((with_reducible apply Sat.cond_p); exact rfl; all_goals intro h)
          | ((with_reducible apply Sat.cond); exact rfl; all_goals intro h) | fail)
      · (refine Sat.fin (Sat.end1 rfl rfl rfl True.intro (.refl _ pur) (by first | exact .inl rfl | exact .inr rfl) (fun _ h => h)) ?_; (rw [badT_ref, Int.toNat_natCast] at h; rw [txB_f hx (by simpa using h)]))
      · rw [badT_ref, Int.toNat_natCast] at h
        refine Sat.back (x + 1) [] rfl ?_ ?_ ?_
        · (repeat' (first | exact AllP.nil | with_reducible refine AllP.cons ?_ ?_)) <;> first | exact rfl | exact trivial | exact Int.natCast_add_one _
        · refine ⟨by omega, fun i hi => ?_⟩
          rcases Nat.lt_succ_iff_lt_or_eq.1 hi with h1 | rfl
          · exact x2 i h1
          · simpa using h
        · omega
    · have hx2 : x = s.length := by omega
      subst hx2
      repeat' (first
        | ((with_reducible apply Sat.run (X := X64)); exact rfl; (first | exact True.intro | (exact phi) | skip))
        | ((with_reducible apply Sat.cond_pf); exact rfl; (try dsimp only [V.EV.sub, V.EV.len]); first | assumption | omega) | fail)
      (refine Sat.fin (Sat.end1 rfl rfl rfl True.intro (.refl _ pur) (by first | exact .inl rfl | exact .inr rfl) (fun _ h => h)) ?_; (refine congrArg SV.bool ?_; unfold txB; rw [(all_iff s txC 0).2 fun i hi => x2 i hi]; apply Bool.eq_iff_iff.2; simp; omega))
theorem name_spec (s : List UInt8) : Fun Tryz.prog [] 76 [.str s] (.bool (nmB s)) := by
  refine Fun.mkF 6 Tryz.func76 rfl Tryz.ntmps76 rfl rfl fun hf T w0 => ?_
  obtain ⟨hl, _⟩ := hf
  unfold factsS okLen at hl
  repeat' (first
    | ((with_reducible apply Sat.convS (e := 5)); exact rfl; kernel_rfl; kernel_rfl; kernel_rfl; exact rfl; exact rfl)
    | ((with_reducible apply Sat.run (X := X64)); exact rfl; (first | exact True.intro | (exact phi) | skip))
    | ((with_reducible apply Sat.cond); exact rfl; all_goals intro h) | fail)
  · (refine Sat.fin (Sat.end1 rfl rfl rfl True.intro (.refl _ pur) (by first | exact .inl rfl | exact .inr rfl) (fun _ h => h)) ?_; (refine congrArg SV.bool ?_; unfold nmB; apply Bool.eq_false_iff.2; intro e; simp [Bool.cond_eq_ite] at h e; rcases h with h | h; subst h; simp at e; omega))
  · apply Sat.loop (α := Nat) (fun x => x ≤ s.length ∧ ∀ i, i < x → nmC (s.getD i 0) = true) (fun x => s.length - x) 0 (fun x => [(15, .int .i64 (x : Int))]) (fun _ => []) [] [] 0
    · intro x; exact rfl
    · intro x; exact rfl
    · exact rfl
    · exact rfl
    · (repeat' (first | exact AllP.nil | with_reducible refine AllP.cons ?_ ?_)) <;> first | exact rfl | exact trivial
    · exact ⟨Nat.zero_le _, fun i hi => by omega⟩
    · rintro x ⟨x1, x2⟩
      by_cases hx : x < s.length
      · repeat' (first
            | ((with_reducible apply Sat.run (X := X64)); exact rfl; (first | exact True.intro | (exact phi) | skip))
            | ((with_reducible apply Sat.drawn); kernel_rfl)
            | ((with_reducible apply DSat.run (X := X64)); exact rfl; (first | exact True.intro | (exact phi) | skip))
            | ((with_reducible apply DSat.fin); kernel_rfl)
            | ((with_reducible apply Sat.cond_t); exact rfl)
            | ((with_reducible apply Sat.cond_f); exact rfl)
            | ((with_reducible apply Sat.cond_pt); exact rfl; (try dsimp only [V.EV.sub, V.EV.len]); first | assumption | omega)
            | ((with_reducible apply Sat.cond_pf); exact rfl; (try dsimp only [V.EV.sub, V.EV.len]); first | assumption | omega)
            | ((with_reducible apply Sat.cond_p); exact rfl; all_goals intro h)
            | ((with_reducible apply Sat.cond); exact rfl; all_goals intro h) | fail)
        · rename_i h0 h
          (refine Sat.fin (Sat.end1 rfl rfl rfl True.intro (.refl _ pur) (by first | exact .inl rfl | exact .inr rfl) (fun _ h => h)) ?_; (rw [bad_prog, Int.toNat_natCast] at h; rw [nmB_f hx (by simpa using h)]))
        · rename_i h0 h
          rw [bad_prog, Int.toNat_natCast] at h
          refine Sat.back (x + 1) [] rfl ?_ ?_ ?_
          · (repeat' (first | exact AllP.nil | with_reducible refine AllP.cons ?_ ?_)) <;> first | exact rfl | exact trivial | exact Int.natCast_add_one _
          · refine ⟨by omega, fun i hi => ?_⟩
            rcases Nat.lt_succ_iff_lt_or_eq.1 hi with h1 | rfl
            · exact x2 i h1
            · simpa using h
          · omega
      · have hx2 : x = s.length := by omega
        subst hx2
        repeat' (first
          | ((with_reducible apply Sat.run (X := X64)); exact rfl; (first | exact True.intro | (exact phi) | skip))
          | ((with_reducible apply Sat.cond_pf); exact rfl; (try dsimp only [V.EV.sub, V.EV.len]); first | assumption | omega) | fail)
        (refine Sat.fin (Sat.end1 rfl rfl rfl True.intro (.refl _ pur) (by first | exact .inl rfl | exact .inr rfl) (fun _ h => h)) ?_; (refine congrArg SV.bool ?_; unfold nmB; rw [(all_iff s nmC 0).2 fun i hi => x2 i hi]; simp [Bool.cond_eq_ite] at h; apply Bool.eq_iff_iff.2; simp; refine ⟨?_, ?_⟩; (have := List.length_pos_iff.2 h.1; omega); omega))
def oddB (x : Nat) : Bool := decide ((x : Int) < 32) || decide (126 < (x : Int))
theorem odd_gives (W : World) (x : Nat) (hx : x ≤ 1114111) : FnGives Tryz.prog 96 #[] #[encR x] (.bool (oddB x)) W := by
  have e : oddB x = oddB x := rfl
  conv at e => rhs; unfold oddB
  unfold FnGives
  rw [e]
  go_enter Tryz.func96, Tryz.ntmps96
  go_wp2
  all_goals (go_ret; refine ⟨?_, 0, ?_⟩)
  all_goals first | rfl | (simp_all; done) | trace_state
def oddR (s : List UInt8) : Bool := decide (0 ≤ Lib.idxFunc oddB true ⟨s.toArray⟩)
def runes_ren : Go.Shelf.Ren := ⟨fun | 15 => 114 | 17 => 97 | 20 => 125 | n => n, fun | 23 => 144 | n => n, fun | n => n⟩
theorem runes_lays : Go.Proofs.LaysGw.n17 Tryz.prog runes_ren := {
  mixed := by kernel_rfl
  f15 := Tryz.func114.trans (congrArg some (by kernel_rfl))
  f17 := Tryz.func97.trans (congrArg some (by kernel_rfl))
  f20 := Tryz.func125.trans (congrArg some (by kernel_rfl))
  t0 := Tryz.underlying0
  a0 := Tryz.isAgg0
  z0 := Tryz.sizeOf0
  v0 := Tryz.zeroValue0
  i0 := by kernel_rfl
  t3 := Tryz.underlying3
  a3 := Tryz.isAgg3
  z3 := Tryz.sizeOf3
  v3 := Tryz.zeroValue3
  i3 := by kernel_rfl
  t4 := Tryz.underlying4
  a4 := Tryz.isAgg4
  z4 := Tryz.sizeOf4
  v4 := Tryz.zeroValue4
  i4 := by kernel_rfl
  t9 := Tryz.underlying9
  a9 := Tryz.isAgg9
  z9 := Tryz.sizeOf9
  v9 := Tryz.zeroValue9
  i9 := by kernel_rfl
  t21 := Tryz.underlying21
  a21 := Tryz.isAgg21
  z21 := Tryz.sizeOf21
  v21 := Tryz.zeroValue21
  i21 := by kernel_rfl
  t23 := Tryz.underlying144
  a23 := Tryz.isAgg144
  z23 := Tryz.sizeOf144
  v23 := Tryz.zeroValue144
  i23 := by kernel_rfl }
theorem containsO (s : List UInt8) : Fun Tryz.prog [] 97 [.str s, .fn 96 []] (.bool (oddR s)) := by
  intro T w vs hT hG ht
  cases ht with
  | cons s1 v l vs1 hr hl =>
    cases hl with
    | cons s2 v2 l2 vs2 hr2 hl3 =>
      cases hl3
      cases hr
      cases hr2 with
      | fn _ _ us hu =>
        cases hu
        refine (Any.strings_ContainsFunc_runes runes_lays 96 #[] (enters_of Tryz.func96 (by kernel_rfl) rfl) oddB ⟨s.toArray⟩ w (fun W x hx _ => odd_gives W x hx)).mono ?_
        rintro e w' ⟨rfl, hb⟩
        exact ⟨_, rfl, .bool _, hb⟩
theorem decode_lo (s : ByteArray) (i : Nat) (h : (s.get! i).toNat < 128) : Utf8.decode s i = ((s.get! i).toNat, 1) := by
  unfold Utf8.decode
  simp only [Nat.add_zero]
  rw [if_pos h]
theorem decode_hi (s : ByteArray) (i : Nat) (h : ¬ (s.get! i).toNat < 128) : 128 ≤ (Utf8.decode s i).1 := by
  unfold Utf8.decode
  simp only [Nat.add_zero]
  rw [if_neg h]
  split
  · split
    · rename_i h2; exact h2
    · simp [Utf8.runeError]
  · split
    · split
      · rename_i h2; simp only [Bool.and_eq_true, decide_eq_true_eq, ge_iff_le] at h2; omega
      · simp [Utf8.runeError]
    · split
      · split
        · rename_i h2; simp only [Bool.and_eq_true, decide_eq_true_eq, ge_iff_le] at h2; omega
        · simp [Utf8.runeError]
      · simp [Utf8.runeError]
theorem odd_lo : ∀ x : Nat, x < 128 → oddB x = !txC (UInt8.ofNat x) := by decide +kernel
theorem odd_hi (x : Nat) (h : 128 ≤ x) : oddB x = true := by
  unfold oddB
  rw [decide_eq_true (p := 126 < (x : Int)) (by omega)]
  simp
theorem txC_hi (b : UInt8) (h : 128 ≤ b.toNat) : txC b = false := by
  unfold txC
  rw [decide_eq_false (p := b.toNat ≤ 126) (by omega)]
  simp
theorem odd_from (l : List UInt8) : ∀ (f pos : Nat), l.length ≤ pos + f → (0 ≤ Lib.idxFuncFrom oddB true ⟨l.toArray⟩ f pos ↔ ∃ i, pos ≤ i ∧ i < l.length ∧ txC (l.getD i 0) = false)
  | 0, pos, h => by
    simp only [Lib.idxFuncFrom]
    constructor
    · intro q; omega
    · rintro ⟨i, h1, h2, _⟩; omega
  | f + 1, pos, h => by
    simp only [Lib.idxFuncFrom]
    have hs : (ByteArray.size ⟨l.toArray⟩) = l.length := by simp [ByteArray.size]
    rw [hs]
    by_cases hp : pos < l.length
    · rw [if_pos hp]
      have hg : (ByteArray.get! ⟨l.toArray⟩ pos) = l.getD pos 0 := by
        show l.toArray[pos]! = _
        simp [hp, List.getD]
      by_cases hb : (l.getD pos 0).toNat < 128
      · rw [decode_lo _ _ (by rw [hg]; exact hb), hg]
        dsimp only
        rw [odd_lo _ hb, UInt8.ofNat_toNat]
        cases hc : txC (l.getD pos 0) with
        | false =>
          rw [if_pos (show (!false) = true from rfl)]
          exact ⟨fun _ => ⟨pos, Nat.le_refl _, hp, hc⟩, fun _ => by omega⟩
        | true =>
          rw [if_neg (by simp), odd_from l f (pos + 1) (by omega)]
          constructor
          · rintro ⟨i, h1, h2, h3⟩; exact ⟨i, by omega, h2, h3⟩
          · rintro ⟨i, h1, h2, h3⟩
            refine ⟨i, ?_, h2, h3⟩
            rcases Nat.lt_or_eq_of_le h1 with h4 | rfl
            · exact h4
            · rw [hc] at h3; cases h3
      · rw [odd_hi _ (decode_hi _ _ (by rw [hg]; exact hb)), if_pos rfl]
        exact ⟨fun _ => ⟨pos, Nat.le_refl _, hp, txC_hi _ (by omega)⟩, fun _ => by omega⟩
    · rw [if_neg hp]
      constructor
      · intro q; omega
      · rintro ⟨i, h1, h2, _⟩; omega
theorem odd_eq (s : List UInt8) : (!oddR s) = s.all txC := by
  have h := odd_from s s.length 0 (by omega)
  have e : oddR s = decide (0 ≤ Lib.idxFuncFrom oddB true ⟨s.toArray⟩ s.length 0) := rfl
  rw [e]
  refine Bool.eq_iff_iff.2 ?_
  rw [all_iff s txC 0, Bool.not_eq_true', decide_eq_false_iff_not, h]
  constructor
  · intro q i hi
    cases hc : txC (s.getD i 0) with
    | true => rfl
    | false => exact absurd ⟨i, Nat.zero_le _, hi, hc⟩ q
  · rintro q ⟨i, _, hi, hc⟩
    rw [q i hi] at hc
    cases hc
theorem text_spec (s : List UInt8) : Fun Tryz.prog [] 77 [.str s] (.bool (txB s)) := by
  have hc := containsO s
  refine Fun.mkF 6 Tryz.func77 rfl Tryz.ntmps77 rfl rfl fun hf T w0 => ?_
  obtain ⟨hl, _⟩ := hf
  unfold factsS okLen at hl
  repeat' (first
    | ((with_reducible apply Sat.run (X := X64)); exact rfl; (first | exact True.intro | (exact phi) | skip))
    | ((with_reducible apply Sat.callG1 (hc)); exact rfl; exact rfl; exact rfl; exact rfl; kernel_rfl; (intro hG; (exact cnv)); exact rfl) | fail)
  (refine Sat.fin (Sat.end1 rfl rfl rfl True.intro (.refl _ pur) (by first | exact .inl rfl | exact .inr rfl) (fun _ h => h)) ?_; (refine congrArg SV.bool ?_; unfold txB; rw [← odd_eq]; cases oddR s <;> apply Bool.eq_iff_iff.2 <;> simp [Bool.cond_eq_ite] <;> omega))
end Go.Proofs.YtpbgihhfcdggkaaGreatDoor
end
section
namespace Go.Proofs.YtpbgihhfcdggkaaGreatDoor
open Go.RowKit V
set_option maxRecDepth 100000
set_option maxHeartbeats 4000000
set_option linter.unusedSimpArgs false
set_option linter.unusedVariables false
attribute [local irreducible] V.Sat V.DSat
@[reducible] def valP (v : ValL) : List SV := [.str v.name, .str v.val]
@[reducible] def ValL.v (v : ValL) : SV := .agg (valP v)
@[reducible] def valE (l : List ValL) : EV := .g l.length 2 fun i => valP (l.getD i v00)
@[reducible] def SetL.v (s : SetL) : SV := .agg [.int .i64 s.version, .ro (valE s.vals), .ro (valE s.kept)]
theorem compare_spec (a b : List UInt8) : Fun Tryz.prog [] 67 [.str a, .str b] (.int .i64 (Lib.compareBytes a b)) := by
  intro T w vs hT hG ht
  cases ht with
  | cons s v l vs1 hr hl =>
    cases hl with
    | cons s2 v2 l2 vs2 hr2 hl3 =>
      cases hl3
      cases hr
      cases hr2
      refine (Tryz.strings_Compare ⟨a.toArray⟩ ⟨b.toArray⟩ w).mono ?_
      rintro e w' ⟨rfl, rfl⟩
      have : ∀ a b : List UInt8, -1 ≤ Lib.compareBytes a b ∧ Lib.compareBytes a b ≤ 1 := by
        intro a
        induction a with
        | nil => intro b; cases b <;> simp [Lib.compareBytes]
        | cons x r ih =>
          intro b
          cases b with
          | nil => simp [Lib.compareBytes]
          | cons y s =>
            simp only [Lib.compareBytes]
            split
            · omega
            · split
              · omega
              · exact ih s
      have hb := this a b
      exact ⟨_, rfl, .int _ _ (inR_i64 (by omega) (by omega)), Below.refl _ _⟩
def idxL {α : Type} (p : α → Bool) : List α → Nat → Int
  | [], _ => -1
  | a :: r, k => match p a with
    | true => (k : Int)
    | false => idxL p r (k + 1)
theorem idxL_at {α : Type} (p : α → Bool) (z : α) : ∀ (l : List α) (k x : Nat), (∀ i, i < x → p (l.getD i z) = false) → x < l.length → p (l.getD x z) = true → idxL p l k = ((k + x : Nat) : Int)
  | [], _, _, _, h, _ => by simp at h
  | a :: r, k, 0, _, _, h => by
    have : p a = true := h
    simp [idxL, this]
  | a :: r, k, x + 1, h1, h2, h3 => by
    have h0 : p a = false := h1 0 (by omega)
    simp only [idxL, h0]
    rw [idxL_at p z r (k + 1) x (fun i hi => by simpa using h1 (i + 1) (by omega)) (by simpa using h2) (by simpa using h3)]
    omega
theorem idxL_none {α : Type} (p : α → Bool) (z : α) : ∀ (l : List α) (k : Nat), (∀ i, i < l.length → p (l.getD i z) = false) → idxL p l k = -1
  | [], _, _ => rfl
  | a :: r, k, h => by
    have h0 : p a = false := h 0 (by simp)
    rw [idxL, h0]
    exact idxL_none p z r (k + 1) fun i hi => by simpa using h (i + 1) (by simpa using hi)
theorem idxL_any {α : Type} (p : α → Bool) : ∀ (l : List α) (k : Nat), decide (0 ≤ idxL p l k) = l.any p
  | [], _ => rfl
  | a :: r, k => by
    rw [idxL, List.any_cons]
    cases h : p a with
    | true => simp
    | false => simpa using idxL_any p r (k + 1)
theorem cmp_less (a b : List UInt8) : Lib.compareBytes a b < 0 ↔ Op.bytesLess a b = true := by
  induction a generalizing b with
  | nil => cases b <;> simp [Lib.compareBytes, Op.bytesLess]
  | cons x r ih =>
    cases b with
    | nil => simp [Lib.compareBytes, Op.bytesLess]
    | cons y s =>
      simp only [Lib.compareBytes, Op.bytesLess, Bool.or_eq_true, Bool.and_eq_true, decide_eq_true_eq, beq_iff_eq]
      split
      · rename_i h; simp [h]
      · rename_i h
        split
        · rename_i h2
          have : x ≠ y := fun e => by subst e; exact h h2
          simp [h, this]
        · rename_i h2
          have e : x = y := UInt8.toNat_inj.1 (by rw [UInt8.lt_iff_toNat_lt] at h h2; omega)
          subst e
          simp [ih s]
theorem pur_val (l : List ValL) : pureE (valE l) := fun _ _ => by simp [pureL, pureS, pureE]
theorem cmp_zero (a b : List UInt8) : Lib.compareBytes a b = 0 ↔ a = b := by
  induction a generalizing b with
  | nil => cases b <;> simp [Lib.compareBytes]
  | cons x r ih =>
    cases b with
    | nil => simp [Lib.compareBytes]
    | cons y s =>
      simp only [Lib.compareBytes]
      split
      · rename_i h
        refine ⟨fun q => by simp at q, fun q => ?_⟩
        cases q
        exact absurd h (by simp)
      · rename_i h
        split
        · rename_i h2
          refine ⟨fun q => by simp at q, fun q => ?_⟩
          cases q
          exact absurd h2 (by simp)
        · rename_i h2
          have e : x = y := UInt8.toNat_inj.1 (by rw [UInt8.lt_iff_toNat_lt] at h h2; omega)
          subst e
          rw [ih]
          simp
theorem cmp_lt (a b : List UInt8) : Lib.compareBytes a b < 0 ↔ a < b := by
  rw [cmp_less, Go.Proofs.bytesLess_eq, decide_eq_true_eq]
theorem cmp_spec (v : ValL) (n : Nm) : Fun Tryz.prog [] 43 [v.v, .str n] (.int .i64 (Lib.compareBytes v.name n)) := by
  have h := compare_spec v.name n
  refine Fun.mk 6 Tryz.func43 rfl Tryz.ntmps43 rfl rfl fun T w0 => ?_
  repeat' (first
    | ((with_reducible apply Sat.run (X := X64)); exact rfl; (first | exact True.intro | (exact phi) | skip))
    | ((with_reducible apply Sat.callR (h)); exact rfl; exact rfl; exact rfl; kernel_rfl; (exact cnvX); exact rfl) | fail)
  (refine Sat.fin (Sat.end1 rfl rfl rfl True.intro (.refl _ purX) (by first | exact .inl rfl | exact .inr rfl) (fun _ h => h)) ?_; rfl)
theorem right_spec (v : ValL) : Fun Tryz.prog [] 56 [v.v] (.bool (rightV v)) := by
  have h1 := name_spec v.name
  have h2 := text_spec v.val
  refine Fun.mk 6 Tryz.func56 rfl Tryz.ntmps56 rfl rfl fun T w0 => ?_
  repeat' (first
    | ((with_reducible apply Sat.run (X := X64)); exact rfl; (first | exact True.intro | (exact phi) | skip))
    | ((with_reducible apply Sat.callR (h1)); exact rfl; exact rfl; exact rfl; kernel_rfl; (exact cnvX); exact rfl)
    | ((with_reducible apply Sat.callG1 (h2)); exact rfl; exact rfl; exact rfl; exact rfl; kernel_rfl; (intro hG; (exact cnvX)); exact rfl) | fail)
  (refine Sat.fin (Sat.end1 rfl rfl rfl True.intro (.refl _ purX) (by first | exact .inl rfl | exact .inr rfl) (fun _ h => h)) ?_; (refine congrArg SV.bool ?_; unfold rightV; cases nmB v.name <;> rfl))
theorem Right_spec (v : ValL) : Fun Tryz.prog [] 60 [v.v] (.bool (rightV v)) := by
  have h1 := Name_spec v.name
  have h2 := Text_spec v.val
  refine Fun.mk 6 Tryz.func60 rfl Tryz.ntmps60 rfl rfl fun T w0 => ?_
  repeat' (first
    | ((with_reducible apply Sat.run (X := X64)); exact rfl; (first | exact True.intro | (exact phi) | skip))
    | ((with_reducible apply Sat.callR (h1)); exact rfl; exact rfl; exact rfl; kernel_rfl; (exact cnvX); exact rfl)
    | ((with_reducible apply Sat.callG1 (h2)); exact rfl; exact rfl; exact rfl; exact rfl; kernel_rfl; (intro hG; (exact cnvX)); exact rfl) | fail)
  (refine Sat.fin (Sat.end1 rfl rfl rfl True.intro (.refl _ purX) (by first | exact .inl rfl | exact .inr rfl) (fun _ h => h)) ?_; (refine congrArg SV.bool ?_; unfold rightV; cases nmB v.name <;> rfl))
theorem strange_spec (v : ValL) : Fun Tryz.prog [] 57 [v.v] (.bool (!okK v)) := by
  have h := right_spec v
  refine Fun.mk 6 Tryz.func57 rfl Tryz.ntmps57 rfl rfl fun T w0 => ?_
  repeat' (first
    | ((with_reducible apply Sat.run (X := X64)); exact rfl; (first | exact True.intro | (exact phi) | skip))
    | ((with_reducible apply Sat.callG1 (h)); exact rfl; exact rfl; exact rfl; exact rfl; kernel_rfl; (intro hG; (exact cnvX)); exact rfl) | fail)
  (refine Sat.fin (Sat.end1 rfl rfl rfl True.intro (.refl _ purX) (by first | exact .inl rfl | exact .inr rfl) (fun _ h => h)) ?_; (refine congrArg SV.bool ?_; unfold okK; rw [Bool.and_true]; cases (decide (v.name = []) && decide (v.val = [])) <;> rfl))
theorem indexFunc_val (p : ValL → Bool) (f : FuncId) (hcl : callable Tryz.prog f = true) (hp : ∀ v : ValL, Fun Tryz.prog [] f [v.v] (.bool (p v))) (l : List ValL) : Fun Tryz.prog [] 78 [.ro (valE l), .fn f []] (.int .i64 (idxL p l 0)) := by
  refine Fun.mkF 6 Tryz.func78 rfl Tryz.ntmps78 rfl rfl fun hf T w0 => ?_
  obtain ⟨⟨hl, _⟩, _⟩ := hf
  dsimp only [EV.len] at hl
  unfold okLen at hl
  repeat' (first
    | ((with_reducible apply Sat.run (X := X64)); exact rfl; (first | exact True.intro | (exact phi) | skip)) | fail)
  apply Sat.loop (α := Nat) (fun x => x ≤ l.length ∧ ∀ i, i < x → p (l.getD i v00) = false) (fun x => l.length - x) 0 (fun x => [(8, .int .i64 (x : Int))]) (fun _ => []) [] [] 0
  · intro x; exact rfl
  · intro x; exact rfl
  · exact rfl
  · exact rfl
  · ((repeat' (first | exact AllP.nil | with_reducible refine AllP.cons ?_ ?_)) <;> first | exact rfl | exact trivial | exact Int.natCast_add_one _ | exact ⟨rfl, rfl⟩ | exact ⟨rfl, rfl, rfl⟩ | exact ⟨rfl, rfl, rfl, rfl⟩ | exact ⟨rfl, .inl rfl⟩ | exact ⟨rfl, .inr rfl⟩ | exact pur | (intro _; exact rfl) | (intro _; exact trivial) | (intro _; exact pur) | exact pur_val _)
  · exact ⟨Nat.zero_le _, fun i hi => by omega⟩
  · rintro x ⟨x1, x2⟩
    have hc := hp (l.getD (x : Int).toNat v00)
    repeat' (first
      | ((with_reducible apply Sat.run (X := X64)); exact rfl; (first | exact True.intro | (exact phi) | skip))
      | ((with_reducible apply Sat.cond_p); exact rfl; all_goals (intro h; (try simp only [V.EV.sub, V.EV.len] at h)))
      | ((with_reducible apply Sat.cond); exact rfl; all_goals (intro h; (try simp only [V.EV.sub, V.EV.len, Bool.cond_true_left, Bool.cond_false_right, Bool.or_eq_true, Bool.and_eq_true, Bool.or_eq_false_iff, Bool.and_eq_false_iff, Bool.not_eq_true', Bool.not_eq_false', decide_eq_true_eq, decide_eq_false_iff_not, ne_eq] at h)))
      | ((with_reducible apply Sat.callR (hc)); exact rfl; exact rfl; exact rfl; exact hcl; (exact cnvX); exact rfl) | fail)
    · (refine Sat.fin (Sat.end1 rfl rfl rfl True.intro (.refl _ purX) (by first | exact .inl rfl | exact .inr rfl) (fun _ h => h)) ?_; (exact congrArg (SV.int .i64) ((idxL_at p v00 l 0 x x2 (by omega) h).trans (by simp))))
    · refine Sat.back (x + 1) [] rfl ?_ ?_ ?_
      · ((repeat' (first | exact AllP.nil | with_reducible refine AllP.cons ?_ ?_)) <;> first | exact rfl | exact trivial | exact Int.natCast_add_one _ | exact ⟨rfl, rfl⟩ | exact ⟨rfl, rfl, rfl⟩ | exact ⟨rfl, rfl, rfl, rfl⟩ | exact ⟨rfl, .inl rfl⟩ | exact ⟨rfl, .inr rfl⟩ | exact pur | (intro _; exact rfl) | (intro _; exact trivial) | (intro _; exact pur) | exact pur_val _)
      · refine ⟨by omega, fun i hi => ?_⟩
        rcases Nat.lt_succ_iff_lt_or_eq.1 hi with h1 | rfl
        · exact x2 i h1
        · exact h
      · omega
    · (refine Sat.fin (Sat.end1 rfl rfl rfl True.intro (.refl _ purX) (by first | exact .inl rfl | exact .inr rfl) (fun _ h => h)) ?_; (exact congrArg (SV.int .i64) (idxL_none p v00 l 0 fun i hi => x2 i (by omega))))
theorem containsFunc_val (p : ValL → Bool) (f : FuncId) (hcl : callable Tryz.prog f = true) (hp : ∀ v : ValL, Fun Tryz.prog [] f [v.v] (.bool (p v))) (l : List ValL) : Fun Tryz.prog [] 58 [.ro (valE l), .fn f []] (.bool (l.any p)) := by
  have hi := indexFunc_val p f hcl hp l
  refine Fun.mk 6 Tryz.func58 rfl Tryz.ntmps58 rfl rfl fun T w0 => ?_
  repeat' (first
    | ((with_reducible apply Sat.run (X := X64)); exact rfl; (first | exact True.intro | (exact phi) | skip))
    | ((with_reducible apply Sat.callR (hi)); exact rfl; exact rfl; exact rfl; kernel_rfl; (exact cnvX); exact rfl) | fail)
  (refine Sat.fin (Sat.end1 rfl rfl rfl True.intro (.refl _ purX) (by first | exact .inl rfl | exact .inr rfl) (fun _ h => h)) ?_; (exact congrArg SV.bool (idxL_any p l 0).symm))
theorem find_spec (l : List ValL) (n : Nm) : Fun Tryz.prog [] 35 [.ro (valE l), .str n] (.int .i64 (idxL (fun v => decide (v.name = n)) l 0)) := by
  refine Fun.mkF 6 Tryz.func35 rfl Tryz.ntmps35 rfl rfl fun hf T w0 => ?_
  obtain ⟨⟨hl, _⟩, _⟩ := hf
  dsimp only [EV.len] at hl
  unfold okLen at hl
  repeat' (first
    | ((with_reducible apply Sat.run (X := X64)); exact rfl; (first | exact True.intro | (exact phi) | skip)) | fail)
  apply Sat.loop (α := Nat) (fun x => x ≤ l.length ∧ ∀ i, i < x → decide ((l.getD i v00).name = n) = false) (fun x => l.length - x) 0 (fun x => [(5, .int .i64 (x : Int))]) (fun _ => []) [] [] 0
  · intro x; exact rfl
  · intro x; exact rfl
  · exact rfl
  · exact rfl
  · ((repeat' (first | exact AllP.nil | with_reducible refine AllP.cons ?_ ?_)) <;> first | exact rfl | exact trivial | exact Int.natCast_add_one _ | exact ⟨rfl, rfl⟩ | exact ⟨rfl, rfl, rfl⟩ | exact ⟨rfl, rfl, rfl, rfl⟩ | exact ⟨rfl, .inl rfl⟩ | exact ⟨rfl, .inr rfl⟩ | exact pur | (intro _; exact rfl) | (intro _; exact trivial) | (intro _; exact pur) | exact pur_val _)
  · exact ⟨Nat.zero_le _, fun i hi => by omega⟩
  · rintro x ⟨x1, x2⟩
    by_cases hx : x < l.length
    · repeat' (first
          | ((with_reducible apply Sat.run (X := X64)); exact rfl; (first | exact True.intro | (exact phi) | skip))
          | ((with_reducible apply Sat.drawn); kernel_rfl)
          | ((with_reducible apply DSat.run (X := X64)); exact rfl; (first | exact True.intro | (exact phi) | skip))
          | ((with_reducible apply DSat.fin); kernel_rfl)
          | ((with_reducible apply Sat.cond_t); exact rfl)
          | ((with_reducible apply Sat.cond_f); exact rfl)
          | ((with_reducible apply Sat.cond_pt); exact rfl; (try dsimp only [V.EV.sub, V.EV.len]); first | assumption | omega)
          | ((with_reducible apply Sat.cond_pf); exact rfl; (try dsimp only [V.EV.sub, V.EV.len]); first | assumption | omega)
          | ((with_reducible apply Sat.cond_p); exact rfl; all_goals intro h)
          | ((with_reducible apply Sat.cond); exact rfl; all_goals intro h) | fail)
      · (refine Sat.fin (Sat.end1 rfl rfl rfl True.intro (.refl _ purX) (by first | exact .inl rfl | exact .inr rfl) (fun _ h => h)) ?_; (rw [Int.toNat_natCast] at h; exact congrArg (SV.int .i64) ((idxL_at (fun v : ValL => decide (v.name = n)) v00 l 0 x x2 hx (decide_eq_true h)).trans (by simp))))
      · rw [Int.toNat_natCast] at h
        refine Sat.back (x + 1) [] rfl ?_ ?_ ?_
        · ((repeat' (first | exact AllP.nil | with_reducible refine AllP.cons ?_ ?_)) <;> first | exact rfl | exact trivial | exact Int.natCast_add_one _ | exact ⟨rfl, rfl⟩ | exact ⟨rfl, rfl, rfl⟩ | exact ⟨rfl, rfl, rfl, rfl⟩ | exact ⟨rfl, .inl rfl⟩ | exact ⟨rfl, .inr rfl⟩ | exact pur | (intro _; exact rfl) | (intro _; exact trivial) | (intro _; exact pur) | exact pur_val _)
        · refine ⟨by omega, fun i hi => ?_⟩
          rcases Nat.lt_succ_iff_lt_or_eq.1 hi with h1 | rfl
          · exact x2 i h1
          · exact decide_eq_false h
        · omega
    · repeat' (first
          | ((with_reducible apply Sat.run (X := X64)); exact rfl; (first | exact True.intro | (exact phi) | skip))
          | ((with_reducible apply Sat.drawn); kernel_rfl)
          | ((with_reducible apply DSat.run (X := X64)); exact rfl; (first | exact True.intro | (exact phi) | skip))
          | ((with_reducible apply DSat.fin); kernel_rfl)
          | ((with_reducible apply Sat.cond_t); exact rfl)
          | ((with_reducible apply Sat.cond_f); exact rfl)
          | ((with_reducible apply Sat.cond_pt); exact rfl; (try dsimp only [V.EV.sub, V.EV.len]); first | assumption | omega)
          | ((with_reducible apply Sat.cond_pf); exact rfl; (try dsimp only [V.EV.sub, V.EV.len]); first | assumption | omega)
          | ((with_reducible apply Sat.cond_p); exact rfl; all_goals intro h)
          | ((with_reducible apply Sat.cond); exact rfl; all_goals intro h) | fail)
      (refine Sat.fin (Sat.end1 rfl rfl rfl True.intro (.refl _ purX) (by first | exact .inl rfl | exact .inr rfl) (fun _ h => h)) ?_; (exact congrArg (SV.int .i64) (idxL_none (fun v : ValL => decide (v.name = n)) v00 l 0 fun i hi => x2 i (by omega))))
end Go.Proofs.YtpbgihhfcdggkaaGreatDoor
end
section
namespace Go.Proofs.YtpbgihhfcdggkaaGreatDoor
open Go.RowKit V
set_option maxRecDepth 100000
set_option maxHeartbeats 4000000
set_option linter.unusedSimpArgs false
set_option linter.unusedVariables false
attribute [local irreducible] V.Sat V.DSat
theorem valid_f1 (s : SetL) (h : ¬ ((0 ≤ s.version ∧ s.version ≤ 60000) ∧ s.vals.length ≤ 16 ∧ s.kept.length ≤ 16)) : validS s = false := by
  unfold validS
  apply Bool.eq_false_iff.2
  intro e
  simp only [Bool.and_eq_true, decide_eq_true_eq] at e
  exact h ⟨e.1, e.2.1⟩
theorem valid_f2 (s : SetL) (x : Nat) (hx : x < s.vals.length) (h : ¬ ValP s.vals x) : validS s = false := by
  unfold validS
  apply Bool.eq_false_iff.2
  intro e
  simp only [Bool.and_eq_true, decide_eq_true_eq] at e
  exact h (e.2.2.1 x hx)
theorem valid_t (s : SetL) (h : (0 ≤ s.version ∧ s.version ≤ 60000) ∧ s.vals.length ≤ 16 ∧ s.kept.length ≤ 16) (h2 : ∀ x, x < s.vals.length → ValP s.vals x) : validS s = s.kept.all okK := by
  unfold validS
  rw [decide_eq_true h.1, decide_eq_true h.2, decide_eq_true h2]
  simp
theorem Valid_spec (s : SetL) : Fun Tryz.prog [] 27 [s.v] (.bool (validS s)) := by
  have hk := containsFunc_val (fun v => !okK v) 57 (by kernel_rfl) strange_spec s.kept
  refine Fun.mkF 6 Tryz.func27 rfl Tryz.ntmps27 rfl rfl fun hf T w0 => ?_
  obtain ⟨⟨_, ⟨hl, _⟩, ⟨hl2, _⟩, _⟩, _⟩ := hf
  dsimp only [EV.len] at hl hl2
  unfold okLen at hl hl2
  repeat' (first
    | ((with_reducible apply Sat.run (X := X64)); exact rfl; (first | exact True.intro | (exact phi) | skip))
    | ((with_reducible apply Sat.cond); exact rfl; all_goals intro h) | fail)
  · (refine Sat.fin (Sat.end1 rfl rfl rfl True.intro (.refl _ purX) (by first | exact .inl rfl | exact .inr rfl) (fun _ h => h)) ?_; (rw [valid_f1 s]; intro q; obtain ⟨q1, q2, q3⟩ := q; have h' : (bif bif bif decide (s.version < 0) then true else decide (60000 < s.version) then true else decide ((16 : Int) < (s.vals.length : Int)) then true else decide ((16 : Int) < (s.kept.length : Int))) = true := h; simp at h'; omega))
  · have h0 : (0 ≤ s.version ∧ s.version ≤ 60000) ∧ s.vals.length ≤ 16 ∧ s.kept.length ≤ 16 := by have h' : (bif bif bif decide (s.version < 0) then true else decide (60000 < s.version) then true else decide ((16 : Int) < (s.vals.length : Int)) then true else decide ((16 : Int) < (s.kept.length : Int))) = false := h; simp at h'; omega
    apply Sat.loop (α := Nat) (fun x => x ≤ s.vals.length ∧ ∀ i, i < x → ValP s.vals i) (fun x => s.vals.length - x) 0 (fun x => [(29, .int .i64 (x : Int))]) (fun _ => []) [] [] 0
    · intro x; exact rfl
    · intro x; exact rfl
    · exact rfl
    · exact rfl
    · ((repeat' (first | exact AllP.nil | with_reducible refine AllP.cons ?_ ?_)) <;> first | exact rfl | exact trivial | exact Int.natCast_add_one _ | exact ⟨rfl, rfl⟩ | exact ⟨rfl, rfl, rfl⟩ | exact ⟨rfl, rfl, rfl, rfl⟩ | exact ⟨rfl, .inl rfl⟩ | exact ⟨rfl, .inr rfl⟩ | exact pur | (intro _; exact rfl) | (intro _; exact trivial) | (intro _; exact pur) | exact pur_val _)
    · exact ⟨Nat.zero_le _, fun i hi => by omega⟩
    · rintro x ⟨x1, x2⟩
      clear h
      by_cases hx : x < s.vals.length
      · have h1 := right_spec (s.vals.getD (x : Int).toNat v00)
        have h2 := cmp_spec (s.vals.getD ((x : Int) - 1).toNat v00) (s.vals.getD (x : Int).toNat v00).name
        repeat' (first
          | ((with_reducible apply Sat.run (X := X64)); exact rfl; (first | exact True.intro | (exact phi) | skip))
          | ((with_reducible apply Sat.drawn); kernel_rfl)
          | ((with_reducible apply DSat.run (X := X64)); exact rfl; (first | exact True.intro | (exact phi) | skip))
          | ((with_reducible apply DSat.fin); kernel_rfl)
          | ((with_reducible apply Sat.cond_pt); exact rfl; (try dsimp only [V.EV.sub, V.EV.len]); first | assumption | omega)
          | ((with_reducible apply Sat.cond); exact rfl; all_goals intro h)
          | ((with_reducible apply DSat.callR (h1)); exact rfl; exact rfl; exact rfl; kernel_rfl; (exact cnvX); exact rfl)
          | ((with_reducible apply DSat.callG1 (h2)); exact rfl; exact rfl; exact rfl; exact rfl; kernel_rfl; (intro hG; (exact cnvX)); exact rfl) | fail)
        · (refine Sat.fin (Sat.end1 rfl rfl rfl True.intro (.refl _ purX) (by first | exact .inl rfl | exact .inr rfl) (fun _ h => h)) ?_; (rw [valid_f2 s x hx]; intro q; obtain ⟨q1, q2⟩ := q; simp only [Int.toNat_natCast] at h; rw [q1] at h; simp only [Bool.not_true, cond_false] at h; by_cases h3 : 0 < x; (rw [show ((x : Int) - 1).toNat = x - 1 by omega, decide_eq_true (show (0 : Int) < (x : Int) by omega), cond_true, decide_eq_true_eq] at h; have q3 := (cmp_lt _ _).2 (q2 h3); omega); (rw [decide_eq_false (show ¬ (0 : Int) < (x : Int) by omega), cond_false] at h; cases h)))
        · have hv : ValP s.vals x := by
            simp only [Int.toNat_natCast] at h
            cases hr : rightV (s.vals.getD x v00) with
            | false => rw [hr] at h; simp at h
            | true =>
              refine ⟨hr, fun h3 => ?_⟩
              rw [hr, show ((x : Int) - 1).toNat = x - 1 by omega, decide_eq_true (show (0 : Int) < (x : Int) by omega)] at h
              simp only [Bool.not_true, cond_false, cond_true, decide_eq_false_iff_not] at h
              exact (cmp_lt _ _).1 (by omega)
          refine Sat.back (x + 1) [] rfl ?_ ?_ ?_
          · ((repeat' (first | exact AllP.nil | with_reducible refine AllP.cons ?_ ?_)) <;> first | exact rfl | exact trivial | exact Int.natCast_add_one _ | exact ⟨rfl, rfl⟩ | exact ⟨rfl, rfl, rfl⟩ | exact ⟨rfl, rfl, rfl, rfl⟩ | exact ⟨rfl, .inl rfl⟩ | exact ⟨rfl, .inr rfl⟩ | exact pur | (intro _; exact rfl) | (intro _; exact trivial) | (intro _; exact pur) | exact pur_val _)
          · refine ⟨by omega, fun i hi => ?_⟩
            rcases Nat.lt_succ_iff_lt_or_eq.1 hi with h1 | rfl
            · exact x2 i h1
            · exact hv
          · omega
      · have hx2 : x = s.vals.length := by omega
        subst hx2
        repeat' (first
          | ((with_reducible apply Sat.run (X := X64)); exact rfl; (first | exact True.intro | (exact phi) | skip))
          | ((with_reducible apply Sat.cond_pf); exact rfl; (try dsimp only [V.EV.sub, V.EV.len]); first | assumption | omega)
          | ((with_reducible apply Sat.callR (hk)); exact rfl; exact rfl; exact rfl; kernel_rfl; (exact cnvX); exact rfl) | fail)
        (refine Sat.fin (Sat.end1 rfl rfl rfl True.intro (.refl _ purX) (by first | exact .inl rfl | exact .inr rfl) (fun _ h => h)) ?_; (rw [valid_t s h0 x2, List.all_eq_not_any_not]))
theorem valP_b (l : List ValL) (x : Nat) : (bif !rightV (l.getD x v00) then true else bif decide (0 < (x : Int)) then !Op.bytesLess (l.getD ((x : Int) - 1).toNat v00).name (l.getD x v00).name else false) = false ↔ ValP l x := by
  unfold ValP
  rw [Go.Proofs.bytesLess_eq, show ((x : Int) - 1).toNat = x - 1 by omega]
  cases rightV (l.getD x v00) with
  | false => simp
  | true =>
    by_cases h3 : 0 < x
    · rw [decide_eq_true (show (0 : Int) < (x : Int) by omega)]
      simp [h3]
    · rw [decide_eq_false (show ¬ (0 : Int) < (x : Int) by omega)]
      simp [h3]
theorem okK_b (v : ValL) : (bif !(decide (v.name = []) && (decide (v.val = []) && true)) then !rightV v else false) = !okK v := by
  unfold okK
  rw [Bool.and_true]
  cases (decide (v.name = []) && decide (v.val = [])) <;> rfl
theorem ValidR_spec (s : SetL) : Fun Tryz.prog [] 28 [s.v] (.bool (validS s)) := by
  have hin := in_spec (Γ := []) s.version 0 60000
  refine Fun.mkF 7 Tryz.func28 rfl Tryz.ntmps28 rfl rfl fun hf T w0 => ?_
  obtain ⟨⟨_, ⟨hl, _⟩, ⟨hl2, _⟩, _⟩, _⟩ := hf
  dsimp only [EV.len] at hl hl2
  unfold okLen at hl hl2
  repeat' (first
    | ((with_reducible apply Sat.run (X := X64)); exact rfl; (first | exact True.intro | (exact phi) | skip))
    | ((with_reducible apply Sat.cond); exact rfl; all_goals intro h)
    | ((with_reducible apply Sat.callR (hin)); exact rfl; exact rfl; exact rfl; kernel_rfl; (exact cnvX); exact rfl) | fail)
  · (refine Sat.fin (Sat.end1 rfl rfl rfl True.intro (.refl _ purX) (by first | exact .inl rfl | exact .inr rfl) (fun _ h => h)) ?_; (rw [valid_f1 s]; intro q; obtain ⟨q1, q2, q3⟩ := q; have h' : (bif bif !(inB s.version 0 60000) then true else decide ((16 : Int) < (s.vals.length : Int)) then true else decide ((16 : Int) < (s.kept.length : Int))) = true := h; simp [inB] at h'; omega))
  · have h0 : (0 ≤ s.version ∧ s.version ≤ 60000) ∧ s.vals.length ≤ 16 ∧ s.kept.length ≤ 16 := by have h' : (bif bif !(inB s.version 0 60000) then true else decide ((16 : Int) < (s.vals.length : Int)) then true else decide ((16 : Int) < (s.kept.length : Int))) = false := h; simp [inB] at h'; omega
    apply Sat.loop (α := Nat) (fun x => x ≤ s.vals.length ∧ ∀ i, i < x → ValP s.vals i) (fun x => s.vals.length - x) 0 (fun x => [(3, .int .i64 (x : Int))]) (fun _ => []) [] [] 0
    · intro x; exact rfl
    · intro x; exact rfl
    · exact rfl
    · exact rfl
    · ((repeat' (first | exact AllP.nil | with_reducible refine AllP.cons ?_ ?_)) <;> first | exact rfl | exact trivial | exact Int.natCast_add_one _ | exact ⟨rfl, rfl⟩ | exact ⟨rfl, rfl, rfl⟩ | exact ⟨rfl, rfl, rfl, rfl⟩ | exact ⟨rfl, .inl rfl⟩ | exact ⟨rfl, .inr rfl⟩ | exact pur | (intro _; exact rfl) | (intro _; exact trivial) | (intro _; exact pur) | exact pur_val _)
    · exact ⟨Nat.zero_le _, fun i hi => by omega⟩
    · rintro x ⟨x1, x2⟩
      clear h
      by_cases hx : x < s.vals.length
      · have h1 := Right_spec (s.vals.getD (x : Int).toNat v00)
        repeat' (first
          | ((with_reducible apply Sat.run (X := X64)); exact rfl; (first | exact True.intro | (exact phi) | skip))
          | ((with_reducible apply Sat.drawn); kernel_rfl)
          | ((with_reducible apply DSat.run (X := X64)); exact rfl; (first | exact True.intro | (exact phi) | skip))
          | ((with_reducible apply DSat.fin); kernel_rfl)
          | ((with_reducible apply Sat.cond_pt); exact rfl; (try dsimp only [V.EV.sub, V.EV.len]); first | assumption | omega)
          | ((with_reducible apply Sat.cond); exact rfl; all_goals intro h)
          | ((with_reducible apply DSat.callR (h1)); exact rfl; exact rfl; exact rfl; kernel_rfl; (exact cnvX); exact rfl) | fail)
        · (refine Sat.fin (Sat.end1 rfl rfl rfl True.intro (.refl _ purX) (by first | exact .inl rfl | exact .inr rfl) (fun _ h => h)) ?_; (rw [Int.toNat_natCast] at h; rw [valid_f2 s x hx]; intro q; rw [(valP_b _ _).2 q] at h; cases h))
        · have hv : ValP s.vals x := by
            rw [Int.toNat_natCast] at h
            exact (valP_b _ _).1 h
          refine Sat.back (x + 1) [] rfl ?_ ?_ ?_
          · ((repeat' (first | exact AllP.nil | with_reducible refine AllP.cons ?_ ?_)) <;> first | exact rfl | exact trivial | exact Int.natCast_add_one _ | exact ⟨rfl, rfl⟩ | exact ⟨rfl, rfl, rfl⟩ | exact ⟨rfl, rfl, rfl, rfl⟩ | exact ⟨rfl, .inl rfl⟩ | exact ⟨rfl, .inr rfl⟩ | exact pur | (intro _; exact rfl) | (intro _; exact trivial) | (intro _; exact pur) | exact pur_val _)
          · refine ⟨by omega, fun i hi => ?_⟩
            rcases Nat.lt_succ_iff_lt_or_eq.1 hi with h1 | rfl
            · exact x2 i h1
            · exact hv
          · omega
      · have hx2 : x = s.vals.length := by omega
        subst hx2
        repeat' (first
          | ((with_reducible apply Sat.run (X := X64)); exact rfl; (first | exact True.intro | (exact phi) | skip))
          | ((with_reducible apply Sat.cond_pf); exact rfl; (try dsimp only [V.EV.sub, V.EV.len]); first | assumption | omega) | fail)
        apply Sat.loop (α := Nat) (fun x => x ≤ s.kept.length ∧ ∀ i, i < x → okK (s.kept.getD i v00) = true) (fun x => s.kept.length - x) 0 (fun x => [(4, .int .i64 (x : Int))]) (fun _ => []) [] [] 0
        · intro x; exact rfl
        · intro x; exact rfl
        · exact rfl
        · exact rfl
        · ((repeat' (first | exact AllP.nil | with_reducible refine AllP.cons ?_ ?_)) <;> first | exact rfl | exact trivial | exact Int.natCast_add_one _ | exact ⟨rfl, rfl⟩ | exact ⟨rfl, rfl, rfl⟩ | exact ⟨rfl, rfl, rfl, rfl⟩ | exact ⟨rfl, .inl rfl⟩ | exact ⟨rfl, .inr rfl⟩ | exact pur | (intro _; exact rfl) | (intro _; exact trivial) | (intro _; exact pur) | exact pur_val _)
        · exact ⟨Nat.zero_le _, fun i hi => by omega⟩
        · rintro x ⟨x3, x4⟩
          by_cases hx : x < s.kept.length
          · have h1 := Right_spec (s.kept.getD (x : Int).toNat v00)
            repeat' (first
              | ((with_reducible apply Sat.run (X := X64)); exact rfl; (first | exact True.intro | (exact phi) | skip))
              | ((with_reducible apply Sat.cond_pt); exact rfl; (try dsimp only [V.EV.sub, V.EV.len]); first | assumption | omega)
              | ((with_reducible apply Sat.cond); exact rfl; all_goals intro h)
              | ((with_reducible apply Sat.callG1 (h1)); exact rfl; exact rfl; exact rfl; exact rfl; kernel_rfl; (intro hG; (exact cnvX)); exact rfl) | fail)
            · (refine Sat.fin (Sat.end1 rfl rfl rfl True.intro (.refl _ purX) (by first | exact .inl rfl | exact .inr rfl) (fun _ h => h)) ?_; (rw [Int.toNat_natCast, okK_b] at h; rw [valid_t s h0 x2, show s.kept.all okK = false from Bool.eq_false_iff.2 fun e => by rw [(all_iff s.kept okK v00).1 e x hx] at h; cases h]))
            · have hv : okK (s.kept.getD x v00) = true := by
                rw [Int.toNat_natCast, okK_b] at h
                simpa using h
              refine Sat.back (x + 1) [] rfl ?_ ?_ ?_
              · ((repeat' (first | exact AllP.nil | with_reducible refine AllP.cons ?_ ?_)) <;> first | exact rfl | exact trivial | exact Int.natCast_add_one _ | exact ⟨rfl, rfl⟩ | exact ⟨rfl, rfl, rfl⟩ | exact ⟨rfl, rfl, rfl, rfl⟩ | exact ⟨rfl, .inl rfl⟩ | exact ⟨rfl, .inr rfl⟩ | exact pur | (intro _; exact rfl) | (intro _; exact trivial) | (intro _; exact pur) | exact pur_val _)
              · refine ⟨by omega, fun i hi => ?_⟩
                rcases Nat.lt_succ_iff_lt_or_eq.1 hi with h1 | rfl
                · exact x4 i h1
                · exact hv
              · omega
          · repeat' (first
                | ((with_reducible apply Sat.run (X := X64)); exact rfl; (first | exact True.intro | (exact phi) | skip))
                | ((with_reducible apply Sat.drawn); kernel_rfl)
                | ((with_reducible apply DSat.run (X := X64)); exact rfl; (first | exact True.intro | (exact phi) | skip))
                | ((with_reducible apply DSat.fin); kernel_rfl)
                | ((with_reducible apply Sat.cond_t); exact rfl)
                | ((with_reducible apply Sat.cond_f); exact rfl)
                | ((with_reducible apply Sat.cond_pt); exact rfl; (try dsimp only [V.EV.sub, V.EV.len]); first | assumption | omega)
                | ((with_reducible apply Sat.cond_pf); exact rfl; (try dsimp only [V.EV.sub, V.EV.len]); first | assumption | omega)
                | ((with_reducible apply Sat.cond_p); exact rfl; all_goals intro h)
                | ((with_reducible apply Sat.cond); exact rfl; all_goals intro h) | fail)
            (refine Sat.fin (Sat.end1 rfl rfl rfl True.intro (.refl _ purX) (by first | exact .inl rfl | exact .inr rfl) (fun _ h => h)) ?_; (rw [valid_t s h0 x2, (all_iff s.kept okK v00).2 fun i hi => x4 i (by omega)]))
end Go.Proofs.YtpbgihhfcdggkaaGreatDoor
end
section
namespace Go.Proofs.YtpbgihhfcdggkaaGreatDoor.V
open Go.RowKit
section
variable {C : Ctx} {Q0 : Exit → Act → World → Prop} {F F' : Tr} {M : Mem} {ids : List Nat} {k : List Kont} {full rest : List Oper}
theorem Sat.know (t : Nat) {g : Prop} {s : SV} (h1 : F.get t = some (.may g s)) (hg : g) (h2 : F.put t (some s) = some F') (hn : Sat C Q0 (.reg full rest F' M ids k)) : Sat C Q0 (.reg full rest F M ids k) := by
  intro U E a w hsup h
  refine hn U E a w hsup ⟨h.defers, h.size, fun t' s' hs => ?_, h.mem, h.own, h.fresh, h.kp, h.hid, h.glob, h.pin, h.held⟩
  rw [Tr.get_put F F' t (some s) h2] at hs
  split at hs
  · rename_i ht
    cases hs
    have := h.slots t _ h1
    rw [ht]
    generalize a.tmps.getD t undef = v at this
    cases this with
    | may1 _ _ _ _ hr => exact hr
    | may0 _ _ hn => exact absurd hg hn
  · exact h.slots t' s' hs
end
end Go.Proofs.YtpbgihhfcdggkaaGreatDoor.V
end
section
namespace Go.Proofs.YtpbgihhfcdggkaaGreatDoor
open Go.RowKit V
set_option maxRecDepth 100000
set_option maxHeartbeats 4000000
set_option linter.unusedSimpArgs false
set_option linter.unusedVariables false
attribute [local irreducible] V.Sat V.DSat
theorem rise_at {l : List ValL} (h : Rising l) (i k : Nat) (hik : i < k) (hk : k < l.length) : (l.getD i v00).name < (l.getD k v00).name := by
  rw [v_at l i (by omega), v_at l k hk]
  exact List.pairwise_iff_getElem.1 h i k (by omega) hk hik
theorem posV_at {l : List ValL} (h : Rising l) (n : Nm) (i : Nat) (hi : i ≤ l.length) (h1 : ∀ y, y < i → (l.getD y v00).name < n) (h2 : ∀ y, i ≤ y → y < l.length → ¬ (l.getD y v00).name < n) : posV l n = i := by
  have hle := posV_le l n
  rcases Nat.lt_trichotomy (posV l n) i with q | q | q
  · exact absurd (h1 _ q) (posV_ge h n _ (Nat.le_refl _) (by omega))
  · exact q
  · exact absurd (posV_lt l n i q) (h2 i (Nat.le_refl _) (by omega))
theorem idx_no (l : List ValL) (n : Nm) (h : hasV l n = false) : idxL (fun v : ValL => decide (v.name = n)) l 0 = -1 :=
  idxL_none _ v00 l 0 fun i hi => decide_eq_false ((hasV_no _ _).1 h _ (by rw [v_at l i hi]; exact List.getElem_mem _))
theorem idx_yes : ∀ (l : List ValL) (n : Nm), hasV l n = true → ∃ x, x < l.length ∧ idxL (fun v : ValL => decide (v.name = n)) l 0 = ((x : Nat) : Int) ∧ getV l n = l.getD x v00 := by
  intro l n h
  have key : ∀ (l : List ValL) (k : Nat), hasV l n = true → ∃ x, x < l.length ∧ idxL (fun v : ValL => decide (v.name = n)) l k = ((k + x : Nat) : Int) ∧ getV l n = l.getD x v00 := by
    intro l
    induction l with
    | nil => intro k h; cases h
    | cons a l ih =>
      intro k h
      by_cases q : a.name = n
      · refine ⟨0, Nat.zero_lt_succ _, ?_, ?_⟩
        · rw [idxL, decide_eq_true q]; rfl
        · rw [getV, decide_eq_true q]; rfl
      · have hl : hasV l n = true := by
          unfold hasV at h ⊢
          rw [List.any_cons, decide_eq_false q, Bool.false_or] at h
          exact h
        obtain ⟨x, h1, h2, h3⟩ := ih (k + 1) hl
        refine ⟨x + 1, Nat.succ_lt_succ h1, ?_, ?_⟩
        · rw [idxL, decide_eq_false q]
          dsimp only
          rw [h2]
          congr 1
          omega
        · rw [getV, decide_eq_false q, cond_false, h3]
          rfl
  obtain ⟨x, h1, h2, h3⟩ := key l 0 h
  exact ⟨x, h1, by rw [h2, Nat.zero_add], h3⟩
theorem bsf_spec (l : List ValL) (n : Nm) (hr : Rising l) (hlen : l.length ≤ 1000000) : Fun Tryz.prog [] 42 [.ro (valE l), .str n, .fn 43 []] (.tup [.int .i64 ((posV l n : Nat) : Int), .bool (hasV l n)]) := by
  refine Fun.mkF 6 Tryz.func42 rfl Tryz.ntmps42 rfl rfl fun hf T w0 => ?_
  repeat' (first
    | ((with_reducible apply Sat.run (X := X64)); exact rfl; (first | exact True.intro | (exact phi) | skip)) | fail)
  apply Sat.loop (α := Nat × Nat) (fun x => x.1 ≤ x.2 ∧ x.2 ≤ l.length ∧ (∀ i, i < x.1 → (l.getD i v00).name < n) ∧ ∀ i, x.2 ≤ i → i < l.length → ¬ (l.getD i v00).name < n) (fun x => x.2 - x.1) (0, l.length) (fun x => [(9, .int .i64 (x.1 : Int)), (10, .int .i64 (x.2 : Int))]) (fun _ => []) [] [] 0
  · intro x; exact rfl
  · intro x; exact rfl
  · exact rfl
  · exact rfl
  · ((repeat' (first | exact AllP.nil | with_reducible refine AllP.cons ?_ ?_)) <;> first | exact rfl | exact trivial | exact Int.natCast_add_one _ | exact ⟨rfl, rfl⟩ | exact ⟨rfl, rfl, rfl⟩ | exact ⟨rfl, rfl, rfl, rfl⟩ | exact ⟨rfl, .inl rfl⟩ | exact ⟨rfl, .inr rfl⟩ | exact pur | (intro _; exact rfl) | (intro _; exact trivial) | (intro _; exact pur) | exact pur_val _)
  · exact ⟨Nat.zero_le _, Nat.le_refl _, fun i hi => by omega, fun i hi h2 => by omega⟩
  · rintro x ⟨x1, x2, x3, x4⟩
    by_cases hx : x.1 < x.2
    · have hm : (x.1 + x.2) / 2 < l.length := by omega
      have he : (IntKind.u64.wrap ((x.1 : Int) + (x.2 : Int))).fdiv (2 ^ min (Int.toNat 1) IntKind.u64.bits) = (((x.1 + x.2) / 2 : Nat) : Int) := by
        have h1 : IntKind.u64.wrap ((x.1 : Int) + (x.2 : Int)) = (x.1 : Int) + (x.2 : Int) := by rw [IntKind.wrap_u64]; omega
        rw [h1, show (2 : Int) ^ min (Int.toNat 1) IntKind.u64.bits = 2 from rfl, Int.fdiv_eq_ediv_of_nonneg _ (by omega)]
        omega
      have hc := cmp_spec (l.getD (((x.1 + x.2) / 2 : Nat) : Int).toNat v00) n
      repeat' (first
        | (rw [he])
        | ((with_reducible apply Sat.run (X := X64)); exact rfl; (first | exact True.intro | (exact phi) | skip))
        | ((with_reducible apply Sat.cond_pt); exact rfl; (try dsimp only [V.EV.sub, V.EV.len]); first | assumption | omega)
        | ((with_reducible apply Sat.cond_p); exact rfl; all_goals intro h)
        | ((with_reducible apply Sat.callR (hc)); exact rfl; exact rfl; exact rfl; kernel_rfl; (exact cnvX); exact rfl) | fail)
      · rw [Int.toNat_natCast, cmp_lt] at h
        refine Sat.back ((x.1 + x.2) / 2 + 1, x.2) [] rfl ?_ ?_ ?_
        · ((repeat' (first | exact AllP.nil | with_reducible refine AllP.cons ?_ ?_)) <;> first | exact rfl | exact trivial | exact Int.natCast_add_one _ | exact ⟨rfl, rfl⟩ | exact ⟨rfl, rfl, rfl⟩ | exact ⟨rfl, rfl, rfl, rfl⟩ | exact ⟨rfl, .inl rfl⟩ | exact ⟨rfl, .inr rfl⟩ | exact pur | (intro _; exact rfl) | (intro _; exact trivial) | (intro _; exact pur) | exact pur_val _)
        · refine ⟨by omega, x2, fun i hi => ?_, x4⟩
          rcases Nat.lt_or_ge i ((x.1 + x.2) / 2) with q | q
          · have h2 := rise_at hr i ((x.1 + x.2) / 2) q hm
            exact nm_tr h2 h
          · rw [show i = (x.1 + x.2) / 2 by omega]
            exact h
        · dsimp only
          omega
      · rw [Int.toNat_natCast, cmp_lt] at h
        refine Sat.back (x.1, (x.1 + x.2) / 2) [] rfl ?_ ?_ ?_
        · ((repeat' (first | exact AllP.nil | with_reducible refine AllP.cons ?_ ?_)) <;> first | exact rfl | exact trivial | exact Int.natCast_add_one _ | exact ⟨rfl, rfl⟩ | exact ⟨rfl, rfl, rfl⟩ | exact ⟨rfl, rfl, rfl, rfl⟩ | exact ⟨rfl, .inl rfl⟩ | exact ⟨rfl, .inr rfl⟩ | exact pur | (intro _; exact rfl) | (intro _; exact trivial) | (intro _; exact pur) | exact pur_val _)
        · refine ⟨by omega, by omega, x3, fun i hi hl => ?_⟩
          rcases Nat.eq_or_lt_of_le hi with q | q
          · rw [← q]
            exact h
          · intro h3
            exact h (nm_tr (rise_at hr ((x.1 + x.2) / 2) i q hl) h3)
        · dsimp only
          omega
    · have hx2 : x.2 = x.1 := by omega
      have hpos := posV_at hr n x.1 (by omega) x3 (by rw [hx2] at x4; exact x4)
      have hp := posV_has hr n
      rw [hpos] at hp
      have hc := cmp_spec (l.getD (x.1 : Int).toNat v00) n
      by_cases hlt : x.1 < l.length
      · have hg : decide ((x.1 : Int) < ((EV.g l.length 2 fun i => valP (l.getD i v00)).len : Int)) = true := decide_eq_true (by show (x.1 : Int) < (l.length : Int); omega)
        repeat' (first
          | ((with_reducible apply Sat.run (X := X64)); exact rfl; (first | exact True.intro | (exact phi) | skip))
          | ((with_reducible apply Sat.cond_pf); exact rfl; (try dsimp only [V.EV.sub, V.EV.len]); first | assumption | omega) | fail)
        refine Sat.gon rfl hg (Sat.know 40 rfl hg rfl (Sat.know 44 rfl hg rfl (Sat.know 45 rfl hg rfl ?_)))
        repeat' (first
          | ((with_reducible apply Sat.run (X := X64)); exact rfl; (first | exact True.intro | (exact phi) | skip))
          | ((with_reducible apply Sat.callR (hc)); exact rfl; exact rfl; exact rfl; kernel_rfl; (exact cnvX); exact rfl) | fail)
        have hb : hasV l n = decide (Lib.compareBytes (l.getD (x.1 : Int).toNat v00).name n = 0) := by
          rw [Int.toNat_natCast]
          apply Bool.eq_iff_iff.2
          rw [hp, decide_eq_true_eq, cmp_zero]
          exact ⟨fun h => h.2, fun h => ⟨hlt, h⟩⟩
        (refine Sat.fin (Sat.end2 rfl rfl rfl rfl True.intro True.intro (.refl _ purX) (.refl _ purX) (by first | exact .inl rfl | exact .inr rfl) (fun _ h => h)) ?_; (rw [hpos, hb, hg]; rfl))
      · have hg : ¬ decide ((x.1 : Int) < ((EV.g l.length 2 fun i => valP (l.getD i v00)).len : Int)) = true := by rw [decide_eq_true_eq]; show ¬ (x.1 : Int) < (l.length : Int); omega
        have hgf : decide ((x.1 : Int) < ((EV.g l.length 2 fun i => valP (l.getD i v00)).len : Int)) = false := by simpa using hg
        have hb : hasV l n = false := by
          cases q : hasV l n with
          | false => rfl
          | true => exact absurd (hp.1 q).1 hlt
        repeat' (first
          | ((with_reducible apply Sat.run (X := X64)); exact rfl; (first | exact True.intro | (exact phi) | skip))
          | ((with_reducible apply Sat.cond_pf); exact rfl; (try dsimp only [V.EV.sub, V.EV.len]); first | assumption | omega)
          | ((with_reducible apply Sat.goffM ((.int .i64 0))); exact rfl; (first | (decide +kernel) | assumption); exact rfl) | fail)
        (refine Sat.fin (Sat.end2 rfl rfl rfl rfl True.intro True.intro (.refl _ purX) (.refl _ purX) (by first | exact .inl rfl | exact .inr rfl) (fun _ h => h)) ?_; (rw [hpos, hb, hgf]; rfl))
def getB (s : SetL) (n : Nm) : Nm × Int := if hasV s.vals n = true then ((getV s.vals n).val, 0) else ([], 231)
theorem Get_spec (s : SetL) (n : Nm) (hr : Rising s.vals) (hlen : s.vals.length ≤ 1000000) : Fun Tryz.prog [] 20 [s.v, .str n] (.tup [.str (getB s n).1, .int .i64 (getB s n).2]) := by
  have hb := bsf_spec s.vals n hr hlen
  have hp := posV_has hr n
  refine Fun.mk 6 Tryz.func20 rfl Tryz.ntmps20 rfl rfl fun T w0 => ?_
  cases hh : hasV s.vals n with
  | false =>
    rw [hh] at hb
    repeat' (first
      | ((with_reducible apply Sat.run (X := X64)); exact rfl; (first | exact True.intro | (exact phi) | skip))
      | ((with_reducible apply Sat.cond_t); exact rfl)
      | ((with_reducible apply Sat.callR (hb)); exact rfl; exact rfl; exact rfl; kernel_rfl; (exact cnvX); exact rfl) | fail)
    (refine Sat.fin (Sat.end2 rfl rfl rfl rfl True.intro True.intro (.refl _ purX) (.refl _ purX) (by first | exact .inl rfl | exact .inr rfl) (fun _ h => h)) ?_; (unfold getB; rw [if_neg (by rw [hh]; simp)]))
  | true =>
    have h2 := hp.1 hh
    rw [hh] at hb
    have hlt := h2.1
    repeat' (first
      | ((with_reducible apply Sat.run (X := X64)); exact rfl; (first | exact True.intro | (exact phi) | skip))
      | ((with_reducible apply Sat.cond_f); exact rfl)
      | ((with_reducible apply Sat.callR (hb)); exact rfl; exact rfl; exact rfl; kernel_rfl; (exact cnvX); exact rfl) | fail)
    (refine Sat.fin (Sat.end2 rfl rfl rfl rfl True.intro True.intro (.refl _ purX) (.refl _ purX) (by first | exact .inl rfl | exact .inr rfl) (fun _ h => h)) ?_; (unfold getB; rw [if_pos hh, (delV_pos hr n hh).2]; rfl))
theorem GetR_spec (s : SetL) (n : Nm) (hlen : s.vals.length ≤ 1000000) : Fun Tryz.prog [] 22 [s.v, .str n] (.tup [.str (getB s n).1, .int .i64 (getB s n).2]) := by
  have hb := find_spec s.vals n
  refine Fun.mk 6 Tryz.func22 rfl Tryz.ntmps22 rfl rfl fun T w0 => ?_
  cases hh : hasV s.vals n with
  | false =>
    rw [idx_no _ _ hh] at hb
    repeat' (first
      | ((with_reducible apply Sat.run (X := X64)); exact rfl; (first | exact True.intro | (exact phi) | skip))
      | ((with_reducible apply Sat.cond_t); exact rfl)
      | ((with_reducible apply Sat.callR (hb)); exact rfl; exact rfl; exact rfl; kernel_rfl; (exact cnvX); exact rfl) | fail)
    (refine Sat.fin (Sat.end2 rfl rfl rfl rfl True.intro True.intro (.refl _ purX) (.refl _ purX) (by first | exact .inl rfl | exact .inr rfl) (fun _ h => h)) ?_; (unfold getB; rw [if_neg (by rw [hh]; simp)]))
  | true =>
    obtain ⟨x, hx, e1, e2⟩ := idx_yes _ _ hh
    rw [e1] at hb
    repeat' (first
      | ((with_reducible apply Sat.run (X := X64)); exact rfl; (first | exact True.intro | (exact phi) | skip))
      | ((with_reducible apply Sat.cond_f); exact rfl)
      | ((with_reducible apply Sat.callR (hb)); exact rfl; exact rfl; exact rfl; kernel_rfl; (exact cnvX); exact rfl) | fail)
    (refine Sat.fin (Sat.end2 rfl rfl rfl rfl True.intro True.intro (.refl _ purX) (.refl _ purX) (by first | exact .inl rfl | exact .inr rfl) (fun _ h => h)) ?_; (unfold getB; rw [if_pos hh, e2]; rfl))
end Go.Proofs.YtpbgihhfcdggkaaGreatDoor
end
section
namespace Go.Proofs.YtpbgihhfcdggkaaGreatDoor.V
open Go.RowKit
def InlQ (C : Ctx) (Rr : Ending → World → Prop) (a : Act) (e : Ending) (w' : World) : Prop :=
  a.defers = C.D → a.tmps.size = C.N → (∀ p, p ∈ C.hold → ∀ id b, p.pe id = some b → C.pins.elem id = true) → Rr e w'
section
variable {C : Ctx} {Q0 : Exit → Act → World → Prop} {F F' : Tr} {M M' : Mem} {ids : List Nat} {k : List Kont} {Rr : Ending → World → Prop}
theorem St.callsQ {Ra : Act → Ending → World → Prop} {f : FuncId} {svs : List SV} {vs : List Value} {fn : Func} {c : Code} {N' : Nat} {F0 G : Tr} {φ : List Prop} {pins' : List Nat} {U : Nat → Prop} {E : Env} {a : Act} {w : World} (hsup : Sup ids U) (hst : St C F M U E a w) (ht : Tup E (trk C.T0 M E) w svs vs)
    (hf : C.P.funcs[f]? = some fn) (hN : fn.ntmps = N') (hb : fn.body = some c) (hle : Nat.ble svs.length N' = true) (hF0 : ∃ dep, argT 0 svs (Tr.mk dep) = some F0)
    (hp : ∃ kill, pinsOf kill C.pins M = some pins') (hG : keepT pins' F = some (G, φ)) (hφ : AllP φ)
    (h : ∀ a E, Sat ⟨C.P, C.W0, C.S, C.T0, C.Γ, N', pins', ⟨pinE pins'.elem E, G, fun t => a.tmps.getD t undef, []⟩ :: C.hold, C.wide⟩ (bodyPost C.P fn (InlQ C (Ra a) a)) (.code c F0 M ids [])) :
    Calls C.P f vs.toArray w (Ra a) := by
  obtain ⟨dep, hF0⟩ := hF0
  obtain ⟨kill, hp⟩ := hp
  have hlen := ht.len
  have hle' := Nat.le_of_ble_eq_true hle
  have hsub := pinsK_sub hp
  have hkeep := keepT_ok hG hφ
  refine (calls_of_wp hf hb (h a E U E _ w hsup ⟨rfl, ?_, fun t s hs => ?_, hst.mem, hst.own, hst.fresh, hst.kp, hst.hid, hst.glob, fun p hp id b h1 => ?_, fun p hp t s hs => ?_⟩)).mono ?_
  · simp only [Array.size_append, List.size_toArray, Array.size_replicate, hlen, hN]; omega
  · rcases argT_get hF0 ht t s hs with ⟨q1, _⟩ | ⟨_, v, q2, q3⟩ | ⟨_, q2⟩
    · omega
    · have hlt : t < vs.length := by simpa using (List.getElem?_eq_some_iff.1 q2).1
      have : (vs.toArray ++ Array.replicate (fn.ntmps - vs.toArray.size) undef).getD t undef = v := by
        rw [Array.getD_eq_getD_getElem?, Array.getElem?_append_left (by simpa using hlt)]
        simp only [Nat.sub_zero] at q2
        simp [q2]
      rw [this]
      exact q3
    · rw [mk_get] at q2; cases q2
  · rcases List.mem_cons.1 hp with rfl | hp
    · dsimp only [pinE] at h1
      split at h1
      · rename_i hi; exact ⟨hi, h1⟩
      · cases h1
    · obtain ⟨q1, q2⟩ := hst.pin p hp id b h1
      exact ⟨hsub id q1, q2⟩
  · rcases List.mem_cons.1 hp with rfl | hp
    · obtain ⟨q1, q2⟩ := hkeep t s hs
      exact (hst.slots t s q1).keep q2
    · exact hst.held p hp t s hs
  · intro e w' hI
    exact hI hst.defers hst.size fun p hp id b h => (hst.pin p hp id b h).1
def ASat (C : Ctx) (Q0 : Exit → Act → World → Prop) (k : List Kont) (full : List Oper) (n : Nat) (listed : Array Bool) (F : Tr) (M : Mem) (ids : List Nat) : Prop :=
  ∀ U E a w, Sup ids U → St C F M U E a w → wpAny C.P .any full.toArray (Kq C.P Q0 k) n listed a w
def AOp (C : Ctx) (Q0 : Exit → Act → World → Prop) (k : List Kont) (full : List Oper) (n : Nat) (listed : Array Bool) (i : Nat) (F : Tr) (M : Mem) (ids : List Nat) : Prop :=
  ∀ U E a w, Sup ids U → St C F M U E a w → wpOp C.P full.toArray (Kq C.P Q0 k) i (wpAny C.P .any full.toArray (Kq C.P Q0 k) n (listed.setIfInBounds i true)) a w
variable {full : List Oper} {n : Nat} {listed : Array Bool}
theorem Sat.anyR {id : Nat} {ops : List Oper} (hm : C.P.follows .mixedOrders = true) (h : ASat C Q0 k ops ops.length (Array.replicate ops.length false) F M ids) : Sat C Q0 (.code (.region id ⟨ops⟩ true) F M ids k) :=
  fun U E a w hsup hst => wp_region_any hm (by simpa using h U E a w.drew hsup hst.drew)
theorem ASat.done (hr : Region.ready .any full.toArray listed = []) (h : Sat C Q0 (.ext .normal F M ids k)) : ASat C Q0 k full n listed F M ids :=
  fun U E a w hs hst => wpAny_done hr (h U E a w hs hst) n
theorem ASat.one (i : Nat) (hr : Region.ready .any full.toArray listed = [i]) (h : AOp C Q0 k full n listed i F M ids) : ASat C Q0 k full (n + 1) listed F M ids :=
  fun U E a w hs hst => wpAny_all hr (by simp) fun j hj => by
    cases List.mem_singleton.1 hj
    exact h U E a w hs hst
theorem ASat.two (i j : Nat) (hr : Region.ready .any full.toArray listed = [i, j]) (h : AOp C Q0 k full n listed i F M ids) (h2 : AOp C Q0 k full n listed j F M ids) : ASat C Q0 k full (n + 1) listed F M ids :=
  fun U E a w hs hst => wpAny_all hr (by simp) fun x hx => by
    rcases List.mem_cons.1 hx with rfl | hx
    · exact h U E a w hs hst
    · cases List.mem_singleton.1 hx
      exact h2 U E a w hs hst
theorem AOp.step {X : IntKind → Bool} {i : Nat} {o : Oper} {φ : List Prop} {ids' : List Nat} (hi : full[i]? = some o) (hg : o.guard = none) (he : stepV X C.P C.Γ C.N o F M ids = some ⟨F', M', ids', φ⟩) (hφ : AllP φ)
    (h : ASat C Q0 k full n (listed.setIfInBounds i true) F' M' ids') : AOp C Q0 k full n listed i F M ids := by
  intro U E a w hs hst
  obtain ⟨U', E', w', hs', hw⟩ := stepV_ok hst hs he hφ.all
  refine wpOp_plain hi hg ?_
  unfold Oper.wp
  rcases hw with ⟨x, hrun, hst'⟩ | ⟨hrun, hst'⟩
  · rw [hrun]; exact h _ _ _ _ hs' hst'
  · rw [hrun]; exact h _ _ _ _ hs' hst'
def noMem : Op → Bool
  | .move _ | .fieldAddr _ _ _ | .nilCheck _ => true
  | _ => false
theorem ev0_run {X : IntKind → Bool} {P : Program} {Γ : Glob} {E : Env} {a : Act} {w : World} {T : Nat → Prop} (V : Vw Γ F M E T a w) {op : Op} {r : SV} {φ : List Prop} (hn : noMem op = true) (h : ev1 X P Γ F M op = some (φ, r)) (hφ : All φ) :
    ∃ v, Rep E T w r v ∧ ∀ w', ∀ o : Oper, o.op = op → (execOp a.eval o).run P w' = .ok (.value v) w' := by
  cases op with
  | move x =>
    have h : op1 Γ F x (fun s => some ([], s)) = some (φ, r) := h
    obtain ⟨s, φ', hs, hk, hφ'⟩ := op1_inv V h hφ
    simp only [Option.some.injEq, Prod.mk.injEq] at hk; obtain ⟨_, rfl⟩ := hk
    exact ⟨_, hs, fun w' o ho => by unfold execOp; simp [ho]⟩
  | fieldAddr s x f =>
    have h : (match offF P s f with | some o => op1 Γ F x (fieldAddrV o) | none => none) = some (φ, r) := h
    split at h
    · rename_i o' ho'
      obtain ⟨s, φ', hs, hk, hφ'⟩ := op1_inv V h hφ
      obtain ⟨u, h1, h2⟩ := fieldAddrV_run ho' hk hs
      exact ⟨u, h1, fun w' o ho => by unfold execOp; simp [ho, h2 w']⟩
    · cases h
  | nilCheck x =>
    have h : op1 Γ F x _ = some (φ, r) := h
    obtain ⟨s, φ', hs, hk, hφ'⟩ := op1_inv V h hφ
    generalize hx : a.eval x = vx at hs
    split at hk
    all_goals first | (cases hk; done) | skip
    all_goals
      simp only [Option.some.injEq, Prod.mk.injEq] at hk; obtain ⟨_, rfl⟩ := hk
      refine ⟨vx, hs, fun w' o ho => ?_⟩
      cases hs
      unfold execOp
      simp [ho, hx]
  | _ => cases hn
theorem ASat.take {X : IntKind → Bool} (i : Nat) {o : Oper} {φ : List Prop} {v : SV} (hi : full[i]? = some o) (hg : o.guard = none) (hn : noMem o.op = true) (hs : Region.noSelect full.toArray = true) (hf : Region.free .any full.toArray listed i = true)
    (hr : (Region.ready .any full.toArray listed).contains i = true) (hQ : ∀ c a d v w, Q0 (.panic c) (a.put d v) w → Q0 (.panic c) a w) (he : ev1 X C.P C.Γ F M o.op = some (φ, v)) (hφ : AllP φ) (hp : putD C.N F o.dst (some v) some = some F')
    (h : ASat C Q0 k full n (listed.setIfInBounds i true) F' M ids) : ASat C Q0 k full (n + 1) listed F M ids := by
  intro U E a w hsup hst
  obtain ⟨F1, h1, h2⟩ := putD_inv hp
  cases h1
  obtain ⟨u, hu, hrun⟩ := ev0_run hst.vw hn he hφ.all
  refine wpAny_take (oi := o) (v := u) (by simpa using hi) hs hf hr (fun c a w hq => (Kq_panic k).2 (hQ c a _ _ w ((Kq_panic k).1 hq))) (.inl ⟨by simp [Region.wanted, hg], fun w' => hrun w' o rfl⟩) ?_
  exact h U E _ w hsup (hst.putD h2 fun s' hs' => by cases hs'; exact hu)
theorem bodyPost_put {P : Program} {fn : Func} {R : Ending → World → Prop} : ∀ c (a : Act) (d : Option Tmp) (v : Value) (w : World), bodyPost P fn R (.panic c) (a.put d v) w → bodyPost P fn R (.panic c) a w := by
  intro c a d v w h
  cases d with
  | none => exact h
  | some d => exact h
theorem AOp.call {i : Nat} {d : Option Tmp} {x : Operand} {f : FuncId} {xs : List Operand} {ats : Array TypeId} {type : TypeId} {pos : String} {after : Array Edge} {svs : List SV} {fn : Func} {c : Code} {N' : Nat} {F0 G : Tr} {φ : List Prop} {pins' : List Nat} (dep : Nat) (kill : List Nat)
    (hi : full[i]? = some ⟨d, .call ⟨.value x, ⟨xs⟩, ats⟩, type, pos, after, none⟩)
    (hf : C.P.funcs[f]? = some fn) (hN : fn.ntmps = N') (hx : argsF C.Γ F x xs = some (f, svs)) (hb : fn.body = some c) (hc : callable C.P f = true) (hle : Nat.ble svs.length N' = true) (hF0 : argT 0 svs (Tr.mk dep) = some F0)
    (hp : pinsOf kill C.pins M = some pins') (hG : keepT pins' F = some (G, φ)) (hφ : AllP φ)
    (h : ∀ a E, Sat ⟨C.P, C.W0, C.S, C.T0, C.Γ, N', pins', ⟨pinE pins'.elem E, G, fun t => a.tmps.getD t undef, []⟩ :: C.hold, C.wide⟩ (bodyPost C.P fn (InlQ C (fun e w' => (∃ v, e = .returned v ∧ wpAny C.P .any full.toArray (Kq C.P Q0 k) n (listed.setIfInBounds i true) (a.put d v) w') ∨ ∃ ch, e = .panicked ch ∧ Q0 (.panic ch) a w') a)) (.code c F0 M ids [])) :
    AOp C Q0 k full n listed i F M ids := by
  intro U E a w hsup hst
  refine wpOp_plain hi rfl ?_
  unfold Oper.wp
  obtain ⟨vs, ht, hex⟩ := argsF_ok hst.vw hx
  rw [hex, run_callFunc_go hc]
  refine (St.callsQ (Ra := fun a e w' => (∃ v, e = .returned v ∧ wpAny C.P .any full.toArray (Kq C.P Q0 k) n (listed.setIfInBounds i true) (a.put d v) w') ∨ ∃ ch, e = .panicked ch ∧ Q0 (.panic ch) a w') hsup hst ht hf hN hb hle ⟨dep, hF0⟩ ⟨kill, hp⟩ hG hφ h).mono ?_
  rintro e w' (⟨v, rfl, hv⟩ | ⟨ch, rfl, hv⟩)
  · exact hv
  · exact (Kq_panic k).2 hv
end
end Go.Proofs.YtpbgihhfcdggkaaGreatDoor.V
end
section
namespace Go.Proofs.YtpbgihhfcdggkaaGreatDoor.V
open Go.RowKit
section
variable {C : Ctx} {Q0 : Exit → Act → World → Prop} {F F' : Tr} {M M' : Mem} {ids : List Nat} {k : List Kont}
theorem Sat.defer {P : Program} {W0 : World} {S T0 : Nat → Prop} {Γ : Glob} {N : Nat} {pins pins' : List Nat} {p : Hold} {H : List Hold} {wide : Bool} {full rest : List Oper} {d : Option Tmp} {x : Operand} {ats : Array TypeId} {type : TypeId} {pos : String} {after : Array Edge} {f : FuncId} {i : Nat} (kill : List Nat)
    (hds : p.ds = []) (hx : opd Γ F x = some (.fn f [.ptr i 0])) (hp : pinsOf kill pins M = some pins') (hk : pins'.elem i = true) (hd : putD N F d none some = some F')
    (h : ∀ E b, Sat ⟨P, W0, S, T0, Γ, N, pins', ⟨pinE pins'.elem E, .n .e (some (.ptr i 0)) .e, fun _ => .pointer (some ⟨b, 0, none⟩), [⟨.fn (.func f) #[.pointer (some ⟨b, 0, none⟩)], #[]⟩]⟩ :: p :: H, wide⟩ Q0 (.reg full rest F' M ids k)) :
    Sat ⟨P, W0, S, T0, Γ, N, pins, p :: H, wide⟩ Q0 (.reg full (⟨d, .defer ⟨.value x, ⟨[]⟩, ats⟩, type, pos, after, none⟩ :: rest) F M ids k) := by
  intro U E a w hsup hst
  obtain ⟨F1, e1, e2⟩ := putD_inv hd
  cases e1
  refine wpList_plain rfl fun K hK => ?_
  unfold Oper.wp
  have hsub := pinsK_sub hp
  have hr := opd_rep hst.vw hx
  obtain ⟨b, hv, hE⟩ : ∃ b, a.eval x = .func (.func f) #[] #[.pointer (some ⟨b, 0, none⟩)] ∧ E i = some (some b) := by
    generalize a.eval x = v at hr
    cases hr with
    | fn _ _ vs hu =>
      cases hu with
      | cons _ v1 _ vs1 hr1 hu1 =>
        cases hu1
        cases hr1 with
        | ptr _ _ b hb => exact ⟨b, rfl, hb⟩
  have e : (execOp a.eval ⟨d, .defer ⟨.value x, ⟨[]⟩, ats⟩, type, pos, after, none⟩).run P w = .ok (.defer ⟨.fn (.func f) #[.pointer (some ⟨b, 0, none⟩)], #[]⟩) w := by
    unfold execOp resolve
    simp [hv, Deferred.ofValue]
  rw [e]
  have hD : a.defers = [] := hst.defers.trans hds
  have hst' : St ⟨P, W0, S, T0, Γ, N, pins', ⟨pinE pins'.elem E, .n .e (some (.ptr i 0)) .e, fun _ => .pointer (some ⟨b, 0, none⟩), [⟨.fn (.func f) #[.pointer (some ⟨b, 0, none⟩)], #[]⟩]⟩ :: p :: H, wide⟩ F M U E { a with defers := (⟨.fn (.func f) #[.pointer (some ⟨b, 0, none⟩)], #[]⟩ : Deferred) :: a.defers } w := by
    refine ⟨by rw [hD]; rfl, hst.size, hst.slots, hst.mem, hst.own, hst.fresh, hst.kp, hst.hid, hst.glob, fun q hq id x h1 => ?_, fun q hq t s hs => ?_⟩
    · rcases List.mem_cons.1 hq with rfl | hq
      · dsimp only [pinE] at h1
        split at h1
        · rename_i hi; exact ⟨hi, h1⟩
        · cases h1
      · obtain ⟨q1, q2⟩ := hst.pin q hq id x h1
        exact ⟨hsub id q1, q2⟩
    · rcases List.mem_cons.1 hq with rfl | hq
      · cases t with
        | zero =>
          cases hs
          exact .ptr i 0 b ((pinE_at (p := fun a => List.elem a pins') hk).trans hE)
        | succ t =>
          simp only [Tr.get] at hs
          split at hs <;> cases hs
      · exact hst.held q hq t s hs
  exact hK _ _ (h E b U E _ w hsup (hst'.putD e2 fun s' hs' => by cases hs'))
def IdleOk (P : Program) (f : FuncId) : Prop := ∀ b w, CallsD P f #[.pointer (some ⟨b, 0, none⟩)] .returning w fun e u' w' => e = .returned (.tuple #[]) ∧ u' = .returning ∧ w' = w
def CatchOk (P : Program) (f : FuncId) (t : TypeId) (v : Value) : Prop := ∀ b w x, w.cell? ⟨b, 0, none⟩ = some x → x.oneCell' = true → w.frozen? ⟨b, 0, none⟩ = false →
    CallsD P f #[.pointer (some ⟨b, 0, none⟩)] (.panicking [{ v := .iface t (.agg #[]), recovered := false }]) w fun e u' w' => e = .returned (.tuple #[]) ∧ u' = .panicking [{ v := .iface t (.agg #[]), recovered := true }] ∧ ∃ w1, Below w.heap.size w w1 ∧ w' = w1.setCell ⟨b, 0, none⟩ v
end
structure Once (P : Prop) : Prop where
  out : P
theorem cutP {G : Prop} (P : Prop) (h1 : Once P → G) (h2 : P) : G := h1 ⟨h2⟩
end Go.Proofs.YtpbgihhfcdggkaaGreatDoor.V
end
section
namespace Go.Proofs.YtpbgihhfcdggkaaGreatDoor.V
open Go.RowKit
def rn : List (Nat × Nat) → Nat → Option Nat
  | [], _ => none
  | (i, j) :: r, k => match Nat.beq i k with
    | true => some j
    | false => rn r k
def inv : List (Nat × Nat) → Nat → Option Nat
  | [], _ => none
  | (i, j) :: r, k => match Nat.beq j k with
    | true => some i
    | false => inv r k
mutual
def rnS (ρ : List (Nat × Nat)) : SV → Option (List Prop × SV)
  | .ptr i o => match rn ρ i with
    | some j => some ([], .ptr j o)
    | none => none
  | .pel i b z n o => match rn ρ i with
    | some j => some ([], .pel j b z n o)
    | none => none
  | .row i b z u n => match rn ρ i with
    | some j => some ([], .row j b z u n)
    | none => none
  | .bsl i n => match rn ρ i with
    | some j => some ([], .bsl j n)
    | none => none
  | .rop e i j => match kpE e with
    | some φ => some (φ, .rop e i j)
    | none => none
  | .ro e => match kpE e with
    | some φ => some (φ, .ro e)
    | none => none
  | .arr n e => match kpE e with
    | some φ => some (φ, .arr n e)
    | none => none
  | .agg l => match rnL ρ l with
    | some (φ, l') => some (φ, .agg l')
    | none => none
  | .tup l => match rnL ρ l with
    | some (φ, l') => some (φ, .tup l')
    | none => none
  | .fn f l => match rnL ρ l with
    | some (φ, l') => some (φ, .fn f l')
    | none => none
  | .mv f l => match rnL ρ l with
    | some (φ, l') => some (φ, .mv f l')
    | none => none
  | .ifc t s => match rnS ρ s with
    | some (φ, s') => some (φ, .ifc t s')
    | none => none
  | .may g s => match rnS ρ s with
    | some (φ, s') => some (φ, .may g s')
    | none => none
  | s => some ([], s)
def rnL (ρ : List (Nat × Nat)) : List SV → Option (List Prop × List SV)
  | [] => some ([], [])
  | s :: r => match rnS ρ s with
    | some (φ, s') => match rnL ρ r with
      | some (ψ, r') => some (φ ++ ψ, s' :: r')
      | none => none
    | none => none
end
theorem rnS_one {ρ : List (Nat × Nat)} {s s' : SV} {φ : List Prop} (h : rnS ρ s = some (φ, s')) (h1 : s.one = true) : s'.one = true := by
  cases s <;> simp only [rnS] at h <;> first
    | (simp only [Option.some.injEq, Prod.mk.injEq] at h; obtain ⟨_, rfl⟩ := h; exact h1)
    | (split at h <;> first | (simp only [Option.some.injEq, Prod.mk.injEq] at h; obtain ⟨_, rfl⟩ := h; first | rfl | (simp [SV.one] at h1)) | cases h)
section
variable {ρ : List (Nat × Nat)} {E E' : Env} {T : Nat → Prop} {w : World}
mutual
theorem rnS_ok (hE : ∀ i j x, rn ρ i = some j → E i = some x → E' j = some x) : ∀ {s s' : SV} {φ : List Prop} {v : Value}, rnS ρ s = some (φ, s') → AllP φ → Rep E T w s v → Rep E' T w s' v
  | .ptr i o, s', φ, v, h, hφ, hr => by
    simp only [rnS] at h
    split at h
    · rename_i j hj
      simp only [Option.some.injEq, Prod.mk.injEq] at h; obtain ⟨_, rfl⟩ := h
      cases hr with
      | ptr _ _ b hb => exact .ptr j o b (hE i j _ hj hb)
    · cases h
  | .pel i b z n o, s', φ, v, h, hφ, hr => by
    simp only [rnS] at h
    split at h
    · rename_i j hj
      simp only [Option.some.injEq, Prod.mk.injEq] at h; obtain ⟨_, rfl⟩ := h
      cases hr with
      | pel _ _ _ _ _ b hb => exact .pel j _ _ _ _ b (hE i j _ hj hb)
    · cases h
  | .row i b z u n, s', φ, v, h, hφ, hr => by
    simp only [rnS] at h
    split at h
    · rename_i j hj
      simp only [Option.some.injEq, Prod.mk.injEq] at h; obtain ⟨_, rfl⟩ := h
      cases hr with
      | row _ _ _ _ _ b o c n t hb hs ho hl ok => exact .row j _ _ _ _ b o c n t (hE i j _ hj hb) hs ho hl ok
      | row0 _ _ _ _ _ hb hl => exact .row0 j _ _ _ _ (hE i j _ hj hb) hl
    · cases h
  | .bsl i n, s', φ, v, h, hφ, hr => by
    simp only [rnS] at h
    split at h
    · rename_i j hj
      simp only [Option.some.injEq, Prod.mk.injEq] at h; obtain ⟨_, rfl⟩ := h
      cases hr with
      | bsl _ _ b n t hb hs hl ok => exact .bsl j _ b n t (hE i j _ hj hb) hs hl ok
      | bsl0 _ _ hb hl => exact .bsl0 j _ (hE i j _ hj hb) hl
    · cases h
  | .rop e i j, s', φ, v, h, hφ, hr => by
    simp only [rnS] at h
    split at h
    · rename_i ψ hk
      simp only [Option.some.injEq, Prod.mk.injEq] at h; obtain ⟨rfl, rfl⟩ := h
      exact hr.free_ (by simp only [pureS]; exact kpE_ok hk hφ)
    · cases h
  | .ro e, s', φ, v, h, hφ, hr => by
    simp only [rnS] at h
    split at h
    · rename_i ψ hk
      simp only [Option.some.injEq, Prod.mk.injEq] at h; obtain ⟨rfl, rfl⟩ := h
      exact hr.free_ (by simp only [pureS]; exact kpE_ok hk hφ)
    · cases h
  | .arr n e, s', φ, v, h, hφ, hr => by
    simp only [rnS] at h
    split at h
    · rename_i ψ hk
      simp only [Option.some.injEq, Prod.mk.injEq] at h; obtain ⟨rfl, rfl⟩ := h
      exact hr.free_ (by simp only [pureS]; exact kpE_ok hk hφ)
    · cases h
  | .agg l, s', φ, v, h, hφ, hr => by
    simp only [rnS] at h
    split at h
    · rename_i ψ l' hk
      simp only [Option.some.injEq, Prod.mk.injEq] at h; obtain ⟨rfl, rfl⟩ := h
      cases hr with
      | agg _ cs hi => exact .agg _ cs (rnL_items hE hk hφ hi)
    · cases h
  | .tup l, s', φ, v, h, hφ, hr => by
    simp only [rnS] at h
    split at h
    · rename_i ψ l' hk
      simp only [Option.some.injEq, Prod.mk.injEq] at h; obtain ⟨rfl, rfl⟩ := h
      cases hr with
      | tup _ vs hi => exact .tup _ vs (rnL_tup hE hk hφ hi)
    · cases h
  | .fn f l, s', φ, v, h, hφ, hr => by
    simp only [rnS] at h
    split at h
    · rename_i ψ l' hk
      simp only [Option.some.injEq, Prod.mk.injEq] at h; obtain ⟨rfl, rfl⟩ := h
      cases hr with
      | fn _ _ vs hi => exact .fn _ _ vs (rnL_tup hE hk hφ hi)
    · cases h
  | .mv f l, s', φ, v, h, hφ, hr => by
    simp only [rnS] at h
    split at h
    · rename_i ψ l' hk
      simp only [Option.some.injEq, Prod.mk.injEq] at h; obtain ⟨rfl, rfl⟩ := h
      cases hr with
      | mv _ _ vs hi => exact .mv _ _ vs (rnL_tup hE hk hφ hi)
    · cases h
  | .ifc t s, s', φ, v, h, hφ, hr => by
    simp only [rnS] at h
    split at h
    · rename_i ψ s1 hk
      simp only [Option.some.injEq, Prod.mk.injEq] at h; obtain ⟨rfl, rfl⟩ := h
      cases hr with
      | ifc _ _ u hi => exact .ifc _ _ u (rnS_ok hE hk hφ hi)
    · cases h
  | .may g s, s', φ, v, h, hφ, hr => by
    simp only [rnS] at h
    split at h
    · rename_i ψ s1 hk
      simp only [Option.some.injEq, Prod.mk.injEq] at h; obtain ⟨rfl, rfl⟩ := h
      cases hr with
      | may1 _ _ _ hg hi => exact .may1 _ _ _ hg (rnS_ok hE hk hφ hi)
      | may0 _ _ hg => exact .may0 _ _ hg
    · cases h
  | .bool b, s', φ, v, h, hφ, hr => by simp only [rnS, Option.some.injEq, Prod.mk.injEq] at h; obtain ⟨_, rfl⟩ := h; exact hr.free_ (by simp only [pureS])
  | .int k n, s', φ, v, h, hφ, hr => by simp only [rnS, Option.some.injEq, Prod.mk.injEq] at h; obtain ⟨_, rfl⟩ := h; exact hr.free_ (by simp only [pureS])
  | .str l, s', φ, v, h, hφ, hr => by simp only [rnS, Option.some.injEq, Prod.mk.injEq] at h; obtain ⟨_, rfl⟩ := h; exact hr.free_ (by simp only [pureS])
  | .nilp, s', φ, v, h, hφ, hr => by simp only [rnS, Option.some.injEq, Prod.mk.injEq] at h; obtain ⟨_, rfl⟩ := h; exact hr.free_ (by simp only [pureS])
  | .nils, s', φ, v, h, hφ, hr => by simp only [rnS, Option.some.injEq, Prod.mk.injEq] at h; obtain ⟨_, rfl⟩ := h; exact hr.free_ (by simp only [pureS])
  | .nili, s', φ, v, h, hφ, hr => by simp only [rnS, Option.some.injEq, Prod.mk.injEq] at h; obtain ⟨_, rfl⟩ := h; exact hr.free_ (by simp only [pureS])
  | .nilf, s', φ, v, h, hφ, hr => by simp only [rnS, Option.some.injEq, Prod.mk.injEq] at h; obtain ⟨_, rfl⟩ := h; exact hr.free_ (by simp only [pureS])
  | .anyi k, s', φ, v, h, hφ, hr => by simp only [rnS, Option.some.injEq, Prod.mk.injEq] at h; obtain ⟨_, rfl⟩ := h; exact hr.free_ (by simp only [pureS])
  | .val x, s', φ, v, h, hφ, hr => by simp only [rnS, Option.some.injEq, Prod.mk.injEq] at h; obtain ⟨_, rfl⟩ := h; exact hr.free_ (by simp only [pureS])
theorem rnL_items (hE : ∀ i j x, rn ρ i = some j → E i = some x → E' j = some x) : ∀ {l l' : List SV} {φ : List Prop} {cs : List Value}, rnL ρ l = some (φ, l') → AllP φ → Items E T w l cs → Items E' T w l' cs
  | [], l', φ, cs, h, hφ, hr => by
    simp only [rnL, Option.some.injEq, Prod.mk.injEq] at h; obtain ⟨_, rfl⟩ := h
    cases hr
    exact .nil
  | s :: r, l', φ, cs, h, hφ, hr => by
    simp only [rnL] at h
    split at h
    · rename_i ψ s1 hk
      split at h
      · rename_i ψ2 r1 hk2
        simp only [Option.some.injEq, Prod.mk.injEq] at h; obtain ⟨rfl, rfl⟩ := h
        obtain ⟨q1, q2⟩ := AllP.app hφ
        cases hr with
        | one _ c _ cs h1 hr hl => exact .one _ c _ cs (rnS_one hk h1) (rnS_ok hE hk q1 hr) (rnL_items hE hk2 q2 hl)
        | arr n e _ c1 cs hr hl =>
          have e1 : s1 = .arr n e := by
            simp only [rnS] at hk
            split at hk
            · simp only [Option.some.injEq, Prod.mk.injEq] at hk; exact hk.2.symm
            · cases hk
          have hr' := rnS_ok hE hk q1 hr
          subst e1
          exact .arr n e _ c1 cs hr' (rnL_items hE hk2 q2 hl)
      · cases h
    · cases h
theorem rnL_tup (hE : ∀ i j x, rn ρ i = some j → E i = some x → E' j = some x) : ∀ {l l' : List SV} {φ : List Prop} {vs : List Value}, rnL ρ l = some (φ, l') → AllP φ → Tup E T w l vs → Tup E' T w l' vs
  | [], l', φ, vs, h, hφ, hr => by
    simp only [rnL, Option.some.injEq, Prod.mk.injEq] at h; obtain ⟨_, rfl⟩ := h
    cases hr
    exact .nil
  | s :: r, l', φ, vs, h, hφ, hr => by
    simp only [rnL] at h
    split at h
    · rename_i ψ s1 hk
      split at h
      · rename_i ψ2 r1 hk2
        simp only [Option.some.injEq, Prod.mk.injEq] at h; obtain ⟨rfl, rfl⟩ := h
        obtain ⟨q1, q2⟩ := AllP.app hφ
        cases hr with
        | cons _ v _ vs hr hl => exact .cons _ v _ vs (rnS_ok hE hk q1 hr) (rnL_tup hE hk2 q2 hl)
      · cases h
    · cases h
end
end
def rnB (ρ : List (Nat × Nat)) : Blk → Option (List Prop × Blk)
  | .cells t l => match rnL ρ l with
    | some (φ, l') => some (φ, .cells t l')
    | none => none
  | .row t e => match kpE e with
    | some φ => some (φ, .row t e)
    | none => none
  | .obj _ => none
theorem rnB_ok {ρ : List (Nat × Nat)} {E E' : Env} {T : Nat → Prop} {w : World} (hE : ∀ i j x, rn ρ i = some j → E i = some x → E' j = some x) {b : Nat} {B B' : Blk} {φ : List Prop} (h : rnB ρ B = some (φ, B')) (hφ : AllP φ) (hB : BOk E T w b B) : BOk E' T w b B' := by
  cases B with
  | cells t l =>
    simp only [rnB] at h
    split at h
    · rename_i ψ l' hk
      simp only [Option.some.injEq, Prod.mk.injEq] at h; obtain ⟨rfl, rfl⟩ := h
      obtain ⟨cs, h1, h2⟩ := hB
      exact ⟨cs, h1, rnL_items hE hk hφ h2⟩
    · cases h
  | row t e =>
    simp only [rnB] at h
    split at h
    · rename_i ψ hk
      simp only [Option.some.injEq, Prod.mk.injEq] at h; obtain ⟨rfl, rfl⟩ := h
      have hp := kpE_ok hk hφ
      obtain ⟨cs, c, h1, h2, h3, h4, h5⟩ := hB
      exact ⟨cs, c, h1, h2, h3, h4, fun i hi => Items.free_ (h5 i hi) (hp.items hi)⟩
    · cases h
  | obj o => cases h
theorem rnB_row {ρ : List (Nat × Nat)} {t : TypeId} {e : EV} {B' : Blk} {φ : List Prop} (h : rnB ρ (.row t e) = some (φ, B')) : B' = .row t e := by
  simp only [rnB] at h
  split at h
  · simp only [Option.some.injEq, Prod.mk.injEq] at h; exact h.2.symm
  · cases h
def rnMK {α : Type} (ρ : List (Nat × Nat)) : Mem → List Prop → (Mem → List Prop → Option α) → Option α
  | [], φ, K => K [] φ
  | (i, B) :: r, φ, K => match rn ρ i with
    | some j => match rnB ρ B with
      | some (ψ, B') => fB B' fun B' => fP ψ fun ψ => rnMK ρ r (ψ ++ φ) fun r' φ' => K ((j, B') :: r') φ'
      | none => none
    | none => none
theorem rnMK_ok {α : Type} {ρ : List (Nat × Nat)} (hρ : ∀ i i' j, rn ρ i = some j → rn ρ i' = some j → i = i') : ∀ {M : Mem} {φ : List Prop} {K : Mem → List Prop → Option α} {r : α}, rnMK ρ M φ K = some r →
    ∃ M' φ', K M' φ' = some r ∧ (AllP φ' → AllP φ ∧ ∀ j B', find M' j = some B' → ∃ i B ψ, rn ρ i = some j ∧ find M i = some B ∧ rnB ρ B = some (ψ, B') ∧ AllP ψ)
  | [], φ, K, r, h => ⟨[], φ, h, fun hφ => ⟨hφ, fun j B' hf => by simp [find] at hf⟩⟩
  | (i, B) :: M, φ, K, r, h => by
    simp only [rnMK] at h
    split at h
    · rename_i j hj
      split at h
      · rename_i ψ B' hB
        rw [fB_eq, fP_eq] at h
        obtain ⟨M', φ', h1, h2⟩ := rnMK_ok hρ h
        refine ⟨_, φ', h1, fun hφ => ?_⟩
        obtain ⟨q1, q2⟩ := h2 hφ
        obtain ⟨q3, q4⟩ := AllP.app q1
        refine ⟨q4, fun k B2 hf => ?_⟩
        rw [find_cons] at hf
        split at hf
        · rename_i e
          cases hf
          subst e
          exact ⟨i, B, ψ, hj, by rw [find_cons, if_pos rfl], hB, q3⟩
        · rename_i hne
          obtain ⟨i2, B3, ψ2, k1, k2, k3, k4⟩ := q2 k B2 hf
          refine ⟨i2, B3, ψ2, k1, ?_, k3, k4⟩
          rw [find_cons, if_neg]
          · exact k2
          · intro e
            subst e
            rw [hj] at k1
            exact hne (Option.some.inj k1).symm
      · cases h
    · cases h
def drop1 : List Nat → Mem → Mem
  | _, [] => []
  | js, (i, B) :: r => match js.elem i with
    | true => drop1 js r
    | false => (i, B) :: drop1 js r
theorem find_drop1 (js : List Nat) : ∀ (M : Mem) (k : Nat), find (drop1 js M) k = if js.elem k = true then none else find M k
  | [], k => by simp [drop1, find]
  | (i, B) :: r, k => by
    simp only [drop1]
    split
    · rename_i h
      rw [find_drop1 js r, find_cons]
      split
      · rfl
      · rename_i h2
        rw [if_neg]
        intro e
        subst e
        exact h2 h
    · rename_i h
      rw [find_cons, find_cons, find_drop1 js r]
      split
      · rename_i e
        subst e
        rw [if_neg (by rw [h]; simp)]
      · rfl
theorem find_app : ∀ (A B : Mem) (k : Nat), find (A ++ B) k = match find A k with
    | some x => some x
    | none => find B k
  | [], B, k => rfl
  | (i, X) :: A, B, k => by
    rw [List.cons_append, find_cons, find_cons, find_app A B k]
    split <;> rfl
def grabOk (τ ρ : List (Nat × Nat)) (M : Mem) : Mem → Option (List Prop)
  | [] => some []
  | (i, B) :: r => match rn ρ i with
    | some j => match rn τ j with
      | some i' => match Nat.beq i' i with
        | true => match find M j with
          | some B1 => match rnB τ B1 with
            | some (φ, B2) => match grabOk τ ρ M r with
              | some ψ => some ((B2 = B) :: (φ ++ ψ))
              | none => none
            | none => none
          | none => none
        | false => none
      | none => none
    | none => none
theorem grab_at {τ ρ : List (Nat × Nat)} {M : Mem} : ∀ {M0 : Mem} {φ : List Prop}, grabOk τ ρ M M0 = some φ → AllP φ → ∀ i B, find M0 i = some B → ∃ j B1 ψ, rn ρ i = some j ∧ rn τ j = some i ∧ find M j = some B1 ∧ rnB τ B1 = some (ψ, B) ∧ AllP ψ
  | [], φ, h, hφ, i, B, hf => by simp [find] at hf
  | (i0, B0) :: r, φ, h, hφ, i, B, hf => by
    simp only [grabOk] at h
    split at h
    · rename_i j hj
      split at h
      · rename_i i' hi'
        split at h
        · rename_i hb
          rw [Nat.eq_of_beq_eq_true hb] at hi'
          split at h
          · rename_i B1 hB1
            split at h
            · rename_i ψ B2 hB2
              split at h
              · rename_i ψ2 hr
                simp only [Option.some.injEq] at h
                subst h
                obtain ⟨q0, q⟩ := hφ
                subst q0
                obtain ⟨q1, q2⟩ := AllP.app q
                rw [find_cons] at hf
                split at hf
                · rename_i e
                  cases hf
                  subst e
                  exact ⟨j, B1, ψ, hj, hi', hB1, hB2, q1⟩
                · exact grab_at hr q2 i B hf
              · cases h
            · cases h
          · cases h
        · cases h
      · cases h
    · cases h
def imgs (ρ : List (Nat × Nat)) : Mem → List Nat
  | [] => []
  | (i, _) :: r => match rn ρ i with
    | some j => j :: imgs ρ r
    | none => imgs ρ r
theorem imgs_at {ρ : List (Nat × Nat)} : ∀ {M0 : Mem} {i j : Nat} {B : Blk}, find M0 i = some B → rn ρ i = some j → (imgs ρ M0).elem j = true
  | [], i, j, B, h, _ => by simp [find] at h
  | (i0, B0) :: r, i, j, B, h, hj => by
    rw [find_cons] at h
    simp only [imgs]
    split at h
    · rename_i e
      subst e
      rw [hj]
      simp [List.elem]
    · have := imgs_at h hj
      split
      · rw [List.elem]; split <;> first | rfl | exact this
      · exact this
def okN (τ ρ : List (Nat × Nat)) (dom news : List Nat) (M : Mem) : Bool :=
  dom.all (fun i => match rn ρ i with
    | some j => (match rn τ j with
      | some i' => Nat.beq i i'
      | none => false) && (hasB M j && !(news.elem j))
    | none => false)
  && (τ.all (fun p => dom.elem p.2 && match rn ρ p.2 with
    | some j => Nat.beq j p.1
    | none => false)
  && (ρ.all (fun p => dom.elem p.1 || news.elem p.2)
  && ρ.all (fun p => match inv ρ p.2 with
    | some i => Nat.beq i p.1
    | none => false)))
theorem rn_mem : ∀ {ρ : List (Nat × Nat)} {i j : Nat}, rn ρ i = some j → (i, j) ∈ ρ
  | [], i, j, h => by simp [rn] at h
  | (a, b) :: r, i, j, h => by
    simp only [rn] at h
    split at h
    · rename_i e
      cases h
      rw [Nat.eq_of_beq_eq_true e]
      exact List.mem_cons_self ..
    · exact List.mem_cons_of_mem _ (rn_mem h)
structure OkN (τ ρ : List (Nat × Nat)) (dom news : List Nat) (M : Mem) : Prop where
  have_ : ∀ i, dom.elem i = true → ∃ j, rn ρ i = some j ∧ rn τ j = some i ∧ (find M j).isSome = true ∧ news.elem j = false
  back : ∀ j i, rn τ j = some i → dom.elem i = true ∧ rn ρ i = some j
  new : ∀ i j, rn ρ i = some j → dom.elem i = true ∨ news.elem j = true
  iv : ∀ i j, rn ρ i = some j → inv ρ j = some i
theorem okN_ok {τ ρ : List (Nat × Nat)} {dom news : List Nat} {M : Mem} (h : okN τ ρ dom news M = true) : OkN τ ρ dom news M := by
  unfold okN at h
  simp only [Bool.and_eq_true] at h
  obtain ⟨h1, h2, h3, h4⟩ := h
  refine ⟨fun i hi => ?_, fun j i hj => ?_, fun i j hj => ?_, fun i j hj => ?_⟩
  · have := List.all_eq_true.1 h1 i (List.elem_iff.1 hi)
    split at this
    · rename_i j hj
      simp only [Bool.and_eq_true, Bool.not_eq_true'] at this
      obtain ⟨q1, q2, q3⟩ := this
      split at q1
      · rename_i i' hi'
        rw [← Nat.eq_of_beq_eq_true q1] at hi'
        exact ⟨j, hj, hi', hasB_iff.1 q2, q3⟩
      · cases q1
    · cases this
  · have := List.all_eq_true.1 h2 (j, i) (rn_mem hj)
    simp only [Bool.and_eq_true] at this
    obtain ⟨q1, q2⟩ := this
    split at q2
    · rename_i j' hj'
      rw [Nat.eq_of_beq_eq_true q2] at hj'
      exact ⟨q1, hj'⟩
    · cases q2
  · have := List.all_eq_true.1 h3 (i, j) (rn_mem hj)
    simpa using this
  · have := List.all_eq_true.1 h4 (i, j) (rn_mem hj)
    dsimp only at this
    split at this
    · rename_i i' hi'
      rw [Nat.eq_of_beq_eq_true this] at hi'
      exact hi'
    · cases this
end Go.Proofs.YtpbgihhfcdggkaaGreatDoor.V
end
