/-
  Joined texts: Vm: A walk by abstract values: append.
  Vn: A walk by abstract values: a run through regions and code, as far as nothing has to be decided.
  Vo: A walk by abstract values: the rules.
  Vp: A walk by abstract values: contracts, calls, ends.
  Vq: A walk by abstract values: what is known more does not change what is reckoned.
  Vr: A walk by abstract values: regions that draw their order, and write. They are reckoned once, in the text's order; what does not wait for one another must not meet.
  Vs: A walk by abstract values: regions that draw their order, and write: the law.
  Vt: A walk by abstract values: regions that draw their order, and write: the rules.
  Vu: A walk by abstract values: one state seen as another (blocks under other numbers, given up, or not there yet); loops.
  Vv: A walk by abstract values: one state seen as another; loops.
  Vw: What a law is given, as abstract values: from the readings of the arguments.
  Vx: From a law's contract in abstract values to its row's step.
  Vy: A row of one's own is given up: it is read alone from here on.
  Vz: A walk by abstract values: calls that are walked where they stand (what they write is seen by the caller).
  Ca: Panics: an operation that panics; a panic that leaves a call walked where it stands.
-/
import Derived.Test.YtpbgihhfcdggkaaGreatDoorQA
import Derived.Orders
import Derived.Deep.LoopGhost
import Derived.LoopN
import Derived.Deep.Slices
import Derived.LaidMore
import Derived.FollowTie
import Derived.WalkSmall
section
namespace Go.Proofs.YtpbgihhfcdggkaaGreatDoor.V
open Go.RowKit
section
variable {P : Program} {Γ : Glob} {C : Ctx} {F : Tr} {M : Mem} {U : Nat → Prop} {nx : Nat} {E : Env} {a : Act} {w : World} {T : Nat → Prop}
theorem flat_inv {sz : Nat} (hs : 0 < sz) : ∀ {xs : List (List Value)}, (∀ x ∈ xs, x.length = sz) → ∀ {k : Nat} {u : Value}, xs.flatten[k]? = some u → ∃ i j, k = i * sz + j ∧ i < xs.length ∧ (xs.getD i [])[j]? = some u
  | [], _, k, u, h => by simp at h
  | x :: xs, hx, k, u, h => by
    have hxl := hx x (List.mem_cons_self ..)
    rw [List.flatten_cons] at h
    by_cases hk : k < sz
    · rw [List.getElem?_append_left (by omega)] at h
      exact ⟨0, k, by simp, by simp, by simpa using h⟩
    · rw [List.getElem?_append_right (by omega)] at h
      obtain ⟨i, j, h1, h2, h3⟩ := flat_inv hs (fun y hy => hx y (List.mem_cons_of_mem _ hy)) h
      exact ⟨i + 1, j, by rw [Nat.add_mul]; omega, by simpa using h2, by simpa using h3⟩
def cellsN (c : Nat → List Value) (n : Nat) : List (List Value) := (List.range n).map c
theorem cellsN_getD {c : Nat → List Value} {n i : Nat} (h : i < n) : (cellsN c n).getD i [] = c i := by simp [cellsN, List.getD, h]
theorem cellsN_len (c : Nat → List Value) (n : Nat) : (cellsN c n).length = n := by simp [cellsN]
theorem cellsN_all {c : Nat → List Value} {n sz : Nat} (h : ∀ i, i < n → (c i).length = sz) : ∀ x ∈ cellsN c n, x.length = sz := by
  intro x hx
  simp only [cellsN, List.mem_map, List.mem_range] at hx
  obtain ⟨i, hi, rfl⟩ := hx
  exact h i hi
theorem cellsN_ones {c : Nat → List Value} {e : EV} (h : ∀ i, i < e.len → Items E T w (e.items i) (c i)) : ∀ u ∈ (cellsN c e.len).flatten, u.oneCell' = true := by
  intro u hu
  obtain ⟨x, hx, hux⟩ := List.mem_flatten.1 hu
  simp only [cellsN, List.mem_map, List.mem_range] at hx
  obtain ⟨i, hi, rfl⟩ := hx
  exact (h i hi).ones u hux
theorem srcE_ok (H : MOk E T M w) {e0 e2 : EV} {q : Bool} {s : SV} {v : Value} {φ : List Prop} {tx sz : Nat} (h : srcE M e0 q s = some (φ, e2)) (hφ : All φ) (hr : Rep E T w s v) (hs : e2.sz = sz) (hz : 0 < sz) (h0 : e0.len = 0)
    (hk : (∃ e', P.underlying tx = some (.slice e')) ∨ (∃ l, s = .str l) ∧ P.underlying tx = some .string) (hstr : ∀ l, s = .str l → P.underlying tx = some .string) :
    ∃ c : Nat → List Value, Src P sz tx v e2.len (cellsN c e2.len).flatten w ∧ (∀ i, i < e2.len → (c i).length = sz) ∧ ∀ i, i < e2.len → Items E T w (e2.items i) (c i) := by
  have mem : ∀ {b o n k : Nat} {c : Nat → List Value}, n = e2.len → (∀ i, i < e2.len → (c i).length = sz) → (∀ i j v, i < e2.len → (c i)[j]? = some v → w.cell? ⟨b, o + (i * sz + j), none⟩ = some v) → (∀ i, i < e2.len → Items E T w (e2.items i) (c i)) →
      (∃ e', P.underlying tx = some (.slice e')) → Src P sz tx (.slice (some ⟨b, o, none⟩) n k) e2.len (cellsN c e2.len).flatten w := by
    rintro b o n k c rfl h1 h2 h3 ⟨e', he'⟩
    refine Src.ofSlice w he' ⟨b, o, none⟩ e2.len k _ (by rw [flat_len (cellsN_all h1), cellsN_len]) (fun j u hj => ?_) (cellsN_ones h3)
    obtain ⟨i, j', rfl, hi, hu⟩ := flat_inv hz (cellsN_all h1) hj
    rw [cellsN_len] at hi
    rw [cellsN_getD hi] at hu
    rw [Addr.add_mk]
    exact h2 i j' u hi hu
  have hk' : (∀ l, s ≠ .str l) → ∃ e', P.underlying tx = some (.slice e') := fun hne => by
    rcases hk with h1 | ⟨⟨l, hl⟩, _⟩
    · exact h1
    · exact absurd hl (hne l)
  unfold srcE at h
  split at h
  · simp at h
    obtain ⟨rfl, rfl⟩ := h
    have hk2 := hk' (fun l => by simp)
    cases hr with
    | ro0 _ hl =>
      obtain ⟨e', he'⟩ := hk2
      refine ⟨fun _ => [], ?_, fun i hi => by omega, fun i hi => by omega⟩
      have := Src.ofNil (P := P) w (size := sz) he' 0
      rw [hl]
      simpa [cellsN] using this
    | ro1 _ a0 hl =>
      obtain ⟨e', he'⟩ := hk2
      refine ⟨fun _ => [], ?_, fun i hi => by omega, fun i hi => by omega⟩
      have := Src.ofSlice (P := P) w (size := sz) he' a0 0 0 [] (by simp) (fun j u hj => by simp at hj) (fun u hu => by cases hu)
      rw [hl]
      simpa [cellsN] using this
    | ro _ b o n k c hT hn hc hrr he hl ok hb =>
      subst hs
      exact ⟨c, mem he hn (fun i j v hi hj => by rw [← Nat.add_assoc]; exact hc i j v hi hj) hrr hk2, hn, hrr⟩
  · simp at h
    obtain ⟨rfl, rfl⟩ := h
    obtain ⟨e', he'⟩ := hk' (fun l => by simp)
    cases hr
    refine ⟨fun _ => [], ?_, fun i hi => by omega, fun i hi => by omega⟩
    have := Src.ofNil (P := P) w (size := sz) he' 0
    rw [h0]
    simpa [cellsN] using this
  · rename_i l
    split at h
    · simp at h
      obtain ⟨rfl, rfl⟩ := h
      have hu := hstr l rfl
      cases hr with
      | str _ ok =>
        subst hs
        refine ⟨fun i => [.int .u8 ((l.getD i 0).toNat : Int)], ?_, fun i _ => rfl, fun i hi => .one _ _ _ _ rfl (.int _ _ (inR_u8 _)) .nil⟩
        have := Src.ofString (P := P) w hu ⟨l.toArray⟩
        have e1 : (ByteArray.mk l.toArray).size = l.length := by simp [ByteArray.size]
        have e2 : byteCells ⟨l.toArray⟩ = (cellsN (fun i => [.int .u8 ((l.getD i 0).toNat : Int)]) l.length).flatten := by
          unfold byteCells cellsN
          apply List.ext_getElem?
          intro j
          by_cases hj : j < l.length
          · have hg := flat_get (sz := 1) (xs := (List.range l.length).map fun i => [Value.int .u8 ((l.getD i 0).toNat : Int)]) (fun x hx => by simp only [List.mem_map] at hx; obtain ⟨_, _, rfl⟩ := hx; rfl) (i := j) (j := 0) (v := .int .u8 ((l.getD j 0).toNat : Int)) (by simpa using hj) (by simp [List.getD, hj])
            rw [show j * 1 + 0 = j by omega] at hg
            rw [hg, List.getElem?_map, List.getElem?_eq_getElem hj]
            simp [List.getD, hj]
          · rw [List.getElem?_eq_none (by simpa using hj), List.getElem?_eq_none]
            rw [flat_len (sz := 1) (fun x hx => by simp only [List.mem_map] at hx; obtain ⟨_, _, rfl⟩ := hx; rfl)]
            simpa using hj
        rw [e1, e2] at this
        exact this
    · cases h
  · rename_i id base sz' sub len
    split at h
    · rename_i e he
      split at h
      · rename_i hes
        have := Nat.eq_of_beq_eq_true hes
        subst this
        simp at h
        obtain ⟨rfl, rfl⟩ := h
        have hle := hφ.one
        have hk2 := hk' (fun l => by simp)
        have hlen : (e.sub sub len).len = len := EV.sub_len hle
        rw [EV.sub_sz] at hs
        subst hs
        cases hr with
        | row0 _ _ _ _ _ hE hl =>
          subst hl
          obtain ⟨e', he'⟩ := hk2
          refine ⟨fun _ => [], ?_, fun i hi => by omega, fun i hi => by omega⟩
          have := Src.ofNil (P := P) w (size := e.sz) he' 0
          rw [hlen]
          simpa [cellsN] using this
        | row _ _ _ _ _ b o k n t hE hsh ho hl ok =>
          obtain ⟨c, hlt, hn, hc, hrr⟩ := runAt_cells H he hE
          refine ⟨fun i => c (sub + i), mem hlen.symm (fun i hi => hn _ (by omega)) (fun i j v hi hj => ?_) (fun i hi => ?_) hk2, fun i hi => hn _ (by omega), fun i hi => ?_⟩
          · obtain ⟨ho1, _⟩ := ho (by omega)
            have := hc (sub + i) j v (by omega) hj
            rw [Nat.add_mul] at this
            rw [ho1]
            rw [← this]
            congr 2
            omega
          · rw [EV.sub_items (by omega)]
            exact hrr _ (by omega)
          · rw [EV.sub_items (by omega)]
            exact hrr _ (by omega)
      · cases h
    · cases h
  · cases h
theorem EV.app_ok {e e2 e' : EV} (h : e.app e2 = some e') : e'.len = e.len + e2.len ∧ e'.sz = e.sz ∧ e2.sz = e.sz ∧ ∀ i, i < e.len + e2.len → e'.items i = if i < e.len then e.items i else e2.items (i - e.len) := by
  unfold EV.app at h
  split at h
  · rename_i l m
    simp at h
    subst h
    refine ⟨by simp [EV.len], rfl, rfl, fun i hi => ?_⟩
    by_cases hlt : i < (EV.u8 l).len
    · rw [if_pos hlt]
      have hlt' : i < l.length := hlt
      simp [EV.items, List.getD, List.getElem?_append_left hlt']
    · rw [if_neg hlt]
      have hge : l.length ≤ i := Nat.le_of_not_lt hlt
      simp [EV.items, EV.len, List.getD, List.getElem?_append_right hge]
  · rename_i k l k' m
    split at h
    · rename_i hk
      have := kindB_eq hk
      subst this
      simp at h
      subst h
      refine ⟨by simp [EV.len], rfl, rfl, fun i hi => ?_⟩
      by_cases hlt : i < (EV.ints k l).len
      · rw [if_pos hlt]
        have hlt' : i < l.length := hlt
        simp [EV.items, List.getD, List.getElem?_append_left hlt']
      · rw [if_neg hlt]
        have hge : l.length ≤ i := Nat.le_of_not_lt hlt
        simp [EV.items, EV.len, List.getD, List.getElem?_append_right hge]
    · cases h
  · split at h
    · rename_i hk
      have := Nat.eq_of_beq_eq_true hk
      subst this
      simp at h
      subst h
      exact ⟨rfl, rfl, rfl, fun i hi => rfl⟩
    · cases h
  · cases h
theorem setCells_setRow (g : Nat) (t : TypeId) : ∀ (vs : List Value) (o : Nat) (cur : Array Value) (w : World), w.heap[g]? = some (.cells cur t (0, 0)) → o + vs.length ≤ cur.size →
    w.setCells g o vs = w.setRow g (cur.toList.take o ++ vs ++ cur.toList.drop (o + vs.length)).toArray
  | [], o, cur, w, hg, _ => by
    simp only [World.setCells, List.append_nil, List.length_nil, Nat.add_zero, List.take_append_drop, Array.toArray_toList]
    exact (setRow_self w g cur t (0, 0) hg).symm
  | v :: vs, o, cur, w, hg, hl => by
    simp only [World.setCells]
    rw [setCell_eq_setRow w g o cur t (0, 0) v hg]
    rw [setCells_setRow g t vs (o + 1) (cur.setIfInBounds o v) _ (setRow_heap w g cur _ t _ hg) (by simp at hl ⊢; omega), setRow_setRow]
    congr 2
    have e := list_seg_step cur.toList o v vs (by simp at hl ⊢; omega)
    simpa [Array.toList_setIfInBounds, Nat.add_assoc, Nat.add_comm 1] using e
theorem app_seg {e e2 e' : EV} {sz : Nat} {c c2 : Nat → List Value} {cs rest : List Value} (h : e.app e2 = some e') (hs : e.sz = sz) (h1 : ∀ i, i < e.len → (c i).length = sz) (h2 : ∀ i j v, i < e.len → (c i)[j]? = some v → cs[i * sz + j]? = some v) (h3 : ∀ i, i < e.len → Items E T w (e.items i) (c i))
    (g1 : ∀ i, i < e2.len → (c2 i).length = sz) (g3 : ∀ i, i < e2.len → Items E T w (e2.items i) (c2 i)) (hle : e.len * sz ≤ cs.length) :
    ∃ c' : Nat → List Value, (∀ i, i < e'.len → (c' i).length = e'.sz) ∧ (∀ i j v, i < e'.len → (c' i)[j]? = some v → (cs.take (e.len * sz) ++ (cellsN c2 e2.len).flatten ++ rest)[i * e'.sz + j]? = some v) ∧ ∀ i, i < e'.len → Items E T w (e'.items i) (c' i) := by
  obtain ⟨k1, k2, k3, k4⟩ := EV.app_ok h
  have ht : (cs.take (e.len * sz)).length = e.len * sz := by simp; omega
  refine ⟨fun i => if i < e.len then c i else c2 (i - e.len), fun i hi => ?_, fun i j v hi hj => ?_, fun i hi => ?_⟩
  · rw [k2, hs]
    dsimp only
    split
    · rename_i hlt; exact h1 i hlt
    · rename_i hge; exact g1 _ (by omega)
  · rw [k2, hs]
    dsimp only at hj
    split at hj
    · rename_i hlt
      have := h2 i j v hlt hj
      have hj2 : j < sz := by rw [← h1 i hlt]; exact (List.getElem?_eq_some_iff.1 hj).1
      have hm : (i + 1) * sz ≤ e.len * sz := Nat.mul_le_mul_right _ hlt
      rw [Nat.add_mul] at hm
      rw [List.append_assoc, List.getElem?_append_left (by omega), List.getElem?_take, if_pos (by omega)]
      exact this
    · rename_i hge
      have hi2 : i - e.len < e2.len := by omega
      have hf := flat_get (sz := sz) (xs := cellsN c2 e2.len) (cellsN_all g1) (i := i - e.len) (j := j) (v := v) (by rw [cellsN_len]; exact hi2) (by rw [cellsN_getD hi2]; exact hj)
      have hm : i * sz = e.len * sz + (i - e.len) * sz := by rw [← Nat.add_mul]; congr 1; omega
      have hlt2 : (i - e.len) * sz + j < ((cellsN c2 e2.len).flatten).length := (List.getElem?_eq_some_iff.1 hf).1
      rw [List.append_assoc, List.getElem?_append_right (by omega), ht, List.getElem?_append_left (by omega), ← hf]
      congr 1
      omega
  · rw [k4 i (by omega)]
    dsimp only
    split
    · rename_i hlt; exact h3 i hlt
    · rename_i hge; exact g3 _ (by omega)
def SrcZ (P : Program) (tx : TypeId) (x : Value) (n : Nat) (news : List Value) (zv : Value) (b : Nat) : Prop :=
  (∃ k, P.underlying tx = some (.int k)) ∧ (∃ k, x = .int k n) ∧ 0 < n ∧ n * b ≤ 140737488355328 ∧ okLen n ∧ news.toArray = Builtin.zeroCells zv.cells n ∧ ∀ u ∈ news, u.oneCell' = true
theorem zeros_flat {zv : Value} {n sz : Nat} (hz : zv.cells.toList.length = sz) (h0 : 0 < sz) : (cellsN (fun _ => zv.cells.toList) n).flatten.toArray = Builtin.zeroCells zv.cells n := by
  have hs : zv.cells.size = sz := by simpa using hz
  have hl : (cellsN (fun _ => zv.cells.toList) n).flatten.length = n * sz := by rw [flat_len (cellsN_all (fun _ _ => hz)), cellsN_len]
  refine Array.ext (by rw [size_zeroCells, hs, List.size_toArray, hl]) (fun k h1 h2 => ?_)
  have hk : k < n * sz := by rw [List.size_toArray, hl] at h1; exact h1
  have hi : k / sz < n := Nat.div_lt_of_lt_mul (by rw [Nat.mul_comm]; exact hk)
  have hj : k % sz < zv.cells.toList.length := by rw [hz]; exact Nat.mod_lt _ h0
  have hg := flat_get (i := k / sz) (j := k % sz) (v := zv.cells.toList[k % sz]) (cellsN_all (c := fun _ => zv.cells.toList) (n := n) (fun _ _ => hz)) (by rw [cellsN_len]; exact hi) (by rw [cellsN_getD hi, List.getElem?_eq_getElem hj])
  rw [show k / sz * sz + k % sz = k by rw [Nat.mul_comm]; exact Nat.div_add_mod k sz] at hg
  rw [List.getElem_toArray]
  rw [List.getElem?_eq_some_iff] at hg
  obtain ⟨_, hg⟩ := hg
  rw [hg]
  simp only [Builtin.zeroCells, Array.getElem_map, Array.getElem_range, hs]
  have hj' : k % sz < zv.cells.size := by rw [hs]; exact Nat.mod_lt _ h0
  rw [getElem!_pos zv.cells (k % sz) hj']
  simp
theorem run_append_room_z (w : World) (t tx ty e : TypeId) (i : TypeInfo) (z : Value) (ht : P.underlying t = some (.slice e)) (hi : P.info? e = some i) (hz : i.zero = some z) (h0 : 0 < i.size) (b off sLen sCap : Nat) (x : Value) (n : Nat) (news : List Value) (hs : SrcZ P tx x n news z i.bytes)
    (hroom : sLen + n ≤ sCap) (hc : ∀ j, j < news.length → (w.cell? ⟨b, off + sLen * i.size + j, none⟩).isSome = true) (hf : ∀ j, j < news.length → w.frozen? ⟨b, off + sLen * i.size + j, none⟩ = false) :
    (Builtin.append_ #[t, tx] ty #[.slice (some ⟨b, off, none⟩) sLen sCap, x]).run P w = .ok (.slice (some ⟨b, off, none⟩) (sLen + n) sCap) (w.setCells b (off + sLen * i.size) news) := by
  obtain ⟨⟨k, hk⟩, ⟨k', rfl⟩, hn0, h3, h4, h5, h6⟩ := hs
  have hst := run_storeCells_cells (P := P) b (off + sLen * i.size) news 0 w (by simpa using hc) (by simpa using hf) h6
  simp only [Nat.add_zero] at hst
  unfold okLen at h4
  have hw : IntKind.i64.wrap (n : Int) = n := by rw [IntKind.wrap_i64]; omega
  have h48i : ¬ (281474976710656 < (n : Int) * (i.bytes : Int)) := by
    rw [← Int.natCast_mul]
    omega
  have hneg : ¬ ((n : Int) < 0) := by omega
  · have hns : ¬ (n = 0 ∨ i.size = 0) := by omega
    have hns2 : ¬ (n * i.size = 0) := fun h => hns (Nat.mul_eq_zero.1 h)
    have h7 : (Builtin.zeroCells z.cells n).toList = news := by rw [← h5]
    simp [Builtin.append_, run_underlying ht, run_underlying hk, sizeOf, typeInfo, zeroValue, hi, hz, hw, h48i, hneg, hns2, hroom, Addr.add_lit, asInt, asIntOf, h7, hst]
theorem run_append_grow_z (w : World) (t tx ty e : TypeId) (i : TypeInfo) (z : Value) (ht : P.underlying t = some (.slice e)) (hi : P.info? e = some i) (hz : i.zero = some z) (h0 : 0 < i.size) (base : Option Addr) (sLen sCap : Nat) (olds : List Value)
    (hold : (Builtin.firstCells i.size sLen (.slice base sLen sCap)).run P w.drew = .ok olds.toArray w.drew) (x : Value) (n : Nat) (news : List Value) (hs : SrcZ P tx x n news z i.bytes)
    (hg : sCap < sLen + n) (h63 : ((sLen + n : Nat) : Int) ≤ 9223372036854775807) (hfit : Builtin.nextslicecap (sLen + n) sCap * i.bytes ≤ 281474976710656) :
    (Builtin.append_ #[t, tx] ty #[.slice base sLen sCap, x]).run P w =
      .ok (.slice (some ⟨w.heap.size, 0, none⟩) (sLen + n) (grownCap w (sLen + n) sCap e))
        (w.drew.alloc (.cells ((olds ++ news).toArray ++ Builtin.zeroCells z.cells (grownCap w (sLen + n) sCap e - (sLen + n))) e)) := by
  obtain ⟨⟨k, hk⟩, ⟨k', rfl⟩, hn0, h3, h4, h5, h6⟩ := hs
  have hn : ¬ (sLen + n ≤ sCap) := by omega
  have h63' : ¬ (9223372036854775807 < ((sLen : Int) + (n : Int))) := by omega
  have h48' : ¬ (281474976710656 < Builtin.nextslicecap (sLen + n) sCap * i.bytes) := by omega
  unfold okLen at h4
  have hw : IntKind.i64.wrap (n : Int) = n := by rw [IntKind.wrap_i64]; omega
  have h48i : ¬ (281474976710656 < (n : Int) * (i.bytes : Int)) := by
    rw [← Int.natCast_mul]
    omega
  have hneg : ¬ ((n : Int) < 0) := by omega
  · have hns : ¬ (n = 0 ∨ i.size = 0) := by omega
    have hns2 : ¬ (n * i.size = 0) := fun h => hns (Nat.mul_eq_zero.1 h)
    simp [Builtin.append_, run_underlying ht, run_underlying hk, sizeOf, typeInfo, zeroValue, hi, hz, hw, h48i, hneg, hns2, hn, h63', h48', Question.forced, hold, newRow, grownCap, asInt, asIntOf, ← h5]
    congr 2
    apply Array.ext'
    simp [List.append_assoc]
def SrcA (P : Program) (sz : Nat) (tx : TypeId) (x : Value) (n : Nat) (news : List Value) (w : World) (zv : Value) (b : Nat) : Prop := Src P sz tx x n news w ∨ SrcZ P tx x n news zv b
theorem run_append_room_a (w : World) (t tx ty e : TypeId) (i : TypeInfo) (z : Value) (ht : P.underlying t = some (.slice e)) (hi : P.info? e = some i) (hz : i.zero = some z) (h0 : 0 < i.size) (b off sLen sCap : Nat) (x : Value) (n : Nat) (news : List Value) (hs : SrcA P i.size tx x n news w z i.bytes)
    (hroom : sLen + n ≤ sCap) (hc : ∀ j, j < news.length → (w.cell? ⟨b, off + sLen * i.size + j, none⟩).isSome = true) (hf : ∀ j, j < news.length → w.frozen? ⟨b, off + sLen * i.size + j, none⟩ = false) :
    (Builtin.append_ #[t, tx] ty #[.slice (some ⟨b, off, none⟩) sLen sCap, x]).run P w = .ok (.slice (some ⟨b, off, none⟩) (sLen + n) sCap) (w.setCells b (off + sLen * i.size) news) := by
  rcases hs with hs | hs
  · exact run_append_room_src w t tx ty e i ht hi b off sLen sCap x n news hs hroom hc hf
  · exact run_append_room_z w t tx ty e i z ht hi hz h0 b off sLen sCap x n news hs hroom hc hf
theorem run_append_grow_a (w : World) (t tx ty e : TypeId) (i : TypeInfo) (z : Value) (ht : P.underlying t = some (.slice e)) (hi : P.info? e = some i) (hz : i.zero = some z) (h0 : 0 < i.size) (base : Option Addr) (sLen sCap : Nat) (olds : List Value)
    (hold : (Builtin.firstCells i.size sLen (.slice base sLen sCap)).run P w.drew = .ok olds.toArray w.drew) (x : Value) (n : Nat) (news : List Value) (hs : SrcA P i.size tx x n news w z i.bytes)
    (hg : sCap < sLen + n) (h63 : ((sLen + n : Nat) : Int) ≤ 9223372036854775807) (hfit : Builtin.nextslicecap (sLen + n) sCap * i.bytes ≤ 281474976710656) :
    (Builtin.append_ #[t, tx] ty #[.slice base sLen sCap, x]).run P w =
      .ok (.slice (some ⟨w.heap.size, 0, none⟩) (sLen + n) (grownCap w (sLen + n) sCap e))
        (w.drew.alloc (.cells ((olds ++ news).toArray ++ Builtin.zeroCells z.cells (grownCap w (sLen + n) sCap e - (sLen + n))) e)) := by
  rcases hs with hs | hs
  · exact run_append_grow_src w t tx ty e i z ht hi hz base sLen sCap olds hold x n news hs hg h63 hfit
  · exact run_append_grow_z w t tx ty e i z ht hi hz h0 base sLen sCap olds hold x n news hs hg h63 hfit
theorem append_fin (h : St C F M U E a w) (hU : U nx) {o : Option Nat} {b : Option Nat} {elem : TypeId} {e' : EV} {w' : World} {cs' : List Value} {c' : Nat → List Value} (hw : Chg (mine M E) w w') (hos : w'.os = w.os) (ht : w'.tape = w.tape) (ho : w'.output = w.output)
    (hx : ∀ x, b = some x → x < w'.heap.size ∧ (w.heap.size ≤ x ∨ ∃ id B0, o = some id ∧ find M id = some B0 ∧ E id = some (some x)))
    (hk : ∀ k B1 y, find (delO M o) k = some B1 → E k = some (some y) → w'.heap[y]? = w.heap[y]?)
    (hb : ∀ x, b = some x → w'.heap[x]? = some (.cells cs'.toArray elem (0, 0))) (hl : e'.len * e'.sz ≤ cs'.length) (h1 : ∀ i, i < e'.len → (c' i).length = e'.sz) (h2 : ∀ i j v, i < e'.len → (c' i)[j]? = some v → cs'[i * e'.sz + j]? = some v)
    (h3 : ∀ i, i < e'.len → Items E (trk C.T0 M E) w (e'.items i) (c' i)) (hn : b = none → e'.len = 0) : St C F ((nx, .row elem e') :: delO M o) (rest U nx) (envWith E nx b) a w' := by
  have hnx := h.fresh nx hU
  refine h.mov hU hw hos ht ho hx hk (fun x hbx => ⟨cs', c', hb x hbx, hl, h1, h2, fun i hi => (h3 i hi).mono (envWith_old hnx) (fun y hy hT => ?_) (hw.weak fun _ => .inl)⟩) (fun hb => ⟨elem, e', rfl, hn hb⟩)
  rcases hT with ⟨id, B', hf, hE⟩ | h0
  · unfold envWith at hE
    split at hE
    · simp at hE
      rcases (hx y hE).2 with h5 | ⟨id', B0, _, h6, h7⟩
      · omega
      · exact .inl ⟨id', B0, h6, h7⟩
    · rename_i he
      rw [find_cons, if_neg he] at hf
      exact .inl ⟨id, B', (find_delO hf).1, hE⟩
  · exact .inr h0
theorem grownCap_ok (w : World) (need old : Nat) (e : TypeId) (h : okLen need) : okLen (grownCap w need old e) := by
  have := grownCap_le_maxLen w need old e (by unfold okLen at h; simp [maxLen]; exact h)
  simpa [okLen, maxLen] using this
theorem exec_append {o : Oper} {s x : Operand} {t t' : TypeId} (ho : o.op = .call ⟨.builtin .append, ⟨[s, x]⟩, ⟨[t, t']⟩⟩) {v : Value} {w' : World} (h : (Builtin.append_ #[t, t'] o.type #[a.eval s, a.eval x]).run P w = .ok v w') : (execOp a.eval o).run P w = .ok (.value v) w' := by
  obtain ⟨cs, hc⟩ := exec_call_builtin (a := a) ho
  rw [hc]
  simp only [builtin, Sem.run_bind]
  rw [show ([t, t'] : List TypeId).toArray = #[t, t'] from rfl, show (List.map a.eval [s, x]).toArray = #[a.eval s, a.eval x] from rfl, h]
  rfl
theorem append_nil (h : St C F M U E a w) (hU : U nx) {elem t t' sz b : Nat} {s x : Operand} {zv : Value} {i : TypeInfo} {od : Option Nat} {e0 e2 e' : EV} {c2 : Nat → List Value} {o : Oper} (hu : C.P.underlying t = some (.slice elem)) (hi : C.P.info? elem = some i) (his : i.size = sz) (hz : i.zero = some zv) (hby : i.bytes = b) (hzl : zv.cells.toList.length = sz)
    (hsz0 : 0 < sz) (hsrc : SrcA C.P sz t' (a.eval x) e2.len (cellsN c2 e2.len).flatten w zv b) (g1 : ∀ i, i < e2.len → (c2 i).length = sz) (g3 : ∀ i, i < e2.len → Items E (trk C.T0 M E) w (e2.items i) (c2 i)) (happ : e0.app e2 = some e') (h0 : e0.len = 0) (hs0 : e0.sz = sz) (hs : a.eval s = .slice none 0 0) (hfit : e2.len * b ≤ 140737488355328) (hok : okLen e2.len)
    (ho : o.op = .call ⟨.builtin .append, ⟨[s, x]⟩, ⟨[t, t']⟩⟩) :
    ∃ v E' w', (execOp a.eval o).run C.P w = .ok (.value v) w' ∧ Rep E' (trk C.T0 ((nx, .row elem e') :: delO M od) E') w' (.row nx 0 sz 0 e2.len) v ∧ St C F ((nx, .row elem e') :: delO M od) (rest U nx) E' a w' := by
  obtain ⟨k1, k2, k3, k4⟩ := EV.app_ok happ
  rw [h0, Nat.zero_add] at k1
  by_cases hn : e2.len = 0
  · have hr : (Builtin.append_ #[t, t'] o.type #[a.eval s, a.eval x]).run C.P w = .ok (.slice none 0 0) w := by
      rcases hsrc with hsrc | hsrc
      · have hc := hsrc.cells
        rw [hn] at hc
        rcases hsrc.kind with ⟨e'', hk⟩ | hk <;> simp [Builtin.append_, hs, run_underlying hu, run_underlying hk, sizeOf, typeInfo, hi, his, hsrc.len, hn, hc]
      · have := hsrc.2.2.1
        omega
    refine ⟨_, envWith E nx none, w, exec_append ho hr, ?_, ?_⟩
    · rw [hn]; exact .row0 _ _ _ _ _ (by simp [envWith]) rfl
    · exact append_fin (cs' := []) (c' := fun _ => []) h hU (Chg.refl _ w) rfl rfl rfl (fun x hx => by cases hx) (fun _ _ _ _ _ => rfl) (fun x hx => by cases hx) (by rw [k1, hn]; simp) (fun i hi => by omega) (fun i j v hi => by omega) (fun i hi => by omega) (fun _ => by rw [k1, hn])
  · have hr := run_append_grow_a (P := C.P) w t t' o.type elem i zv hu hi hz (his ▸ hsz0) none 0 0 [] (by rw [run_firstCells_none]) (a.eval x) e2.len _ (by rw [his, hby]; exact hsrc) (by omega) (by unfold okLen at hok; omega) (by rw [hby]; exact growslice_fits (by omega) (by simpa using hfit))
    rw [← hs] at hr
    simp only [Nat.zero_add, List.nil_append] at hr
    refine ⟨_, envWith E nx (some w.heap.size), _, exec_append ho hr, ?_, ?_⟩
    · refine row_rep (elem := elem) (cs := ((cellsN c2 e2.len).flatten.toArray ++ Builtin.zeroCells zv.cells (grownCap w e2.len 0 elem - e2.len)).toList) (cap := grownCap w e2.len 0 elem) (by simp [envWith]) ?_ ?_ (grownCap_ge ..) (grownCap_ok _ _ _ _ hok)
      · rw [show w.heap.size = w.drew.heap.size from rfl, heap_alloc_new]; try simp
      · have := grownCap_ge w e2.len 0 elem
        rw [Array.toList_append, List.length_append, Array.length_toList, Array.length_toList, size_zeroCells, List.size_toArray, flat_len (cellsN_all g1), cellsN_len, show zv.cells.size = sz by simpa using hzl, ← Nat.add_mul]
        congr 1
        omega
    · obtain ⟨c', q1, q2, q3⟩ := app_seg (c := fun _ => []) (cs := []) (rest := (Builtin.zeroCells zv.cells (grownCap w e2.len 0 elem - e2.len)).toList) happ hs0 (fun i hi => by omega) (fun i j v hi => by omega) (fun i hi => by omega) g1 g3 (by rw [h0]; simp)
      refine append_fin (cs' := ((cellsN c2 e2.len).flatten.toArray ++ Builtin.zeroCells zv.cells (grownCap w e2.len 0 elem - e2.len)).toList) (c' := c') h hU ((Chg.drew _ w).trans (Chg.alloc _ w.drew _)) rfl rfl rfl (fun x hx => ?_) (fun k B1 y hf hE => ?_) (fun x hx => ?_) ?_ q1 (by simpa [h0] using q2) q3 (fun hb => by cases hb)
      · simp at hx; subst hx
        exact ⟨by rw [alloc_size]; exact Nat.lt_succ_self _, .inl (Nat.le_refl _)⟩
      · obtain ⟨B2, hB2⟩ : ∃ B2, find M k = some B2 := ⟨B1, (find_delO hf).1⟩
        exact Below.heap_alloc w.drew _ y (h.mem.at hB2 hE).1
      · simp at hx; subst hx
        rw [show w.heap.size = w.drew.heap.size from rfl, heap_alloc_new]; try simp
      · rw [k1, k2, hs0, Array.toList_append, List.length_append, Array.length_toList, List.size_toArray, flat_len (cellsN_all g1), cellsN_len]
        omega
theorem append_row (h : St C F M U E a w) (hU : U nx) {elem t t' sz b id bb o0 k0 : Nat} {s x : Operand} {zv : Value} {i : TypeInfo} {e e2 e' : EV} {c2 : Nat → List Value} {o : Oper} (hu : C.P.underlying t = some (.slice elem)) (hi : C.P.info? elem = some i) (his : i.size = sz) (hz : i.zero = some zv) (hby : i.bytes = b) (hzl : zv.cells.toList.length = sz)
    (hsz0 : 0 < sz) (hsrc : SrcA C.P sz t' (a.eval x) e2.len (cellsN c2 e2.len).flatten w zv b) (g1 : ∀ i, i < e2.len → (c2 i).length = sz) (g3 : ∀ i, i < e2.len → Items E (trk C.T0 M E) w (e2.items i) (c2 i)) (happ : e.app e2 = some e') (hs0 : e.sz = sz)
    (hf : find M id = some (.row elem e)) (hE : E id = some (some bb)) (hs : a.eval s = .slice (some ⟨bb, o0, none⟩) e.len k0) (hk0 : k0 ≠ 0 → o0 = 0 ∧ ∃ t n, w.shape? bb = some (t, n) ∧ k0 * sz ≤ n) (hl0 : e.len ≤ k0) (hok0 : okLen k0)
    (hfit : (e.len + e2.len) * b ≤ 140737488355328) (hok : okLen (e.len + e2.len)) (ho : o.op = .call ⟨.builtin .append, ⟨[s, x]⟩, ⟨[t, t']⟩⟩) :
    ∃ v E' w', (execOp a.eval o).run C.P w = .ok (.value v) w' ∧ Rep E' (trk C.T0 ((nx, .row elem e') :: delO M (some id)) E') w' (.row nx 0 sz 0 (e.len + e2.len)) v ∧ St C F ((nx, .row elem e') :: delO M (some id)) (rest U nx) E' a w' := by
  obtain ⟨k1, k2, k3, k4⟩ := EV.app_ok happ
  obtain ⟨hlt, cs, c, hh, hle, hc1, hc2, hc3⟩ := h.mem.at hf hE
  rw [hs0] at hle hc1
  have hc2' : ∀ i j v, i < e.len → (c i)[j]? = some v → cs[i * sz + j]? = some v := fun i j v hi hj => by have := hc2 i j v hi hj; rwa [hs0] at this
  have hnl : ((cellsN c2 e2.len).flatten).length = e2.len * sz := by rw [flat_len (cellsN_all g1), cellsN_len]
  by_cases hroom : e.len + e2.len ≤ k0
  ·
    have hfits : k0 ≠ 0 → o0 = 0 ∧ k0 * sz ≤ cs.length := fun hk => by
      obtain ⟨q1, t1, n1, q2, q3⟩ := hk0 hk
      refine ⟨q1, ?_⟩
      simp [World.shape?, hh] at q2
      omega
    have hcell : ∀ j, j < ((cellsN c2 e2.len).flatten).length → o0 = 0 ∧ e.len * sz + j < cs.length := fun j hj => by
      rw [hnl] at hj
      have hk : k0 ≠ 0 := fun hk => by
        have : e2.len = 0 := by omega
        rw [this] at hj; simp at hj
      obtain ⟨q1, q2⟩ := hfits hk
      refine ⟨q1, ?_⟩
      have : (e.len + e2.len) * sz ≤ k0 * sz := Nat.mul_le_mul_right _ hroom
      rw [Nat.add_mul] at this
      omega
    have hr := run_append_room_a (P := C.P) w t t' o.type elem i zv hu hi hz (his ▸ hsz0) bb o0 e.len k0 (a.eval x) e2.len _ (by rw [his, hby]; exact hsrc) hroom
      (fun j hj => by
        obtain ⟨q1, q2⟩ := hcell j hj
        rw [q1, his, cell_blk hh, Nat.zero_add, List.getElem?_eq_getElem q2]; rfl)
      (fun j hj => by simp [World.frozen?, hh])
    rw [← hs] at hr
    have hw' : w.setCells bb (o0 + e.len * i.size) (cellsN c2 e2.len).flatten = w.setRow bb (cs.take (e.len * sz) ++ (cellsN c2 e2.len).flatten ++ cs.drop (e.len * sz + e2.len * sz)).toArray ∧ (e.len * sz + e2.len * sz ≤ cs.length) := by
      by_cases hn : e2.len = 0
      · have hnil : (cellsN c2 e2.len).flatten = [] := List.eq_nil_of_length_eq_zero (by rw [hnl, hn]; simp)
        rw [hnil, hn]
        simp only [World.setCells, List.append_nil, Nat.zero_mul, Nat.add_zero, List.take_append_drop]
        exact ⟨(setRow_self w bb cs.toArray elem (0, 0) hh).symm, hle⟩
      · have hk : k0 ≠ 0 := by omega
        obtain ⟨q1, q2⟩ := hfits hk
        have q3 : (e.len + e2.len) * sz ≤ k0 * sz := Nat.mul_le_mul_right _ hroom
        rw [Nat.add_mul] at q3
        refine ⟨?_, by omega⟩
        rw [q1, his, Nat.zero_add, setCells_setRow bb elem _ _ cs.toArray w hh (by rw [hnl]; simp; omega), hnl]
    obtain ⟨hw1, hw2⟩ := hw'
    rw [hw1] at hr
    have hlen' : (cs.take (e.len * sz) ++ (cellsN c2 e2.len).flatten ++ cs.drop (e.len * sz + e2.len * sz)).length = cs.length := by
      rw [List.length_append, List.length_append, List.length_take, List.length_drop, hnl]; omega
    have hTb : mine M E bb := ⟨id, _, hf, hE⟩
    have hchg := Chg.setRow hh hTb hlen'
    obtain ⟨c', q1, q2, q3⟩ := app_seg (rest := cs.drop (e.len * sz + e2.len * sz)) happ hs0 hc1 hc2' hc3 g1 g3 hle
    refine ⟨_, envWith E nx (some bb), _, exec_append ho hr, ?_, ?_⟩
    · refine .row nx 0 sz 0 _ bb o0 k0 cs.length elem (by simp [envWith]) ?_ (fun hk => ⟨by rw [(hfits hk).1]; simp, by simpa using (hfits hk).2⟩) hroom hok0
      have := setRow_heap w bb cs.toArray (cs.take (e.len * sz) ++ (cellsN c2 e2.len).flatten ++ cs.drop (e.len * sz + e2.len * sz)).toArray elem (0, 0) hh
      simp only [World.shape?, this]
      simp only [List.size_toArray, hlen']
    · refine append_fin (cs' := cs.take (e.len * sz) ++ (cellsN c2 e2.len).flatten ++ cs.drop (e.len * sz + e2.len * sz)) (c' := c') h hU hchg rfl rfl rfl (fun y hy => ?_) (fun k B1 y hfk hEk => ?_) (fun y hy => ?_) ?_ q1 q2 q3 (fun hb => by cases hb)
      · simp at hy; subst hy
        exact ⟨by simpa using hlt, .inr ⟨id, _, rfl, hf, hE⟩⟩
      · obtain ⟨hfk', hne⟩ := find_delO hfk
        have hyb : y ≠ bb := fun e' => by
          subst e'
          exact hne (by rw [h.mem.inj k id y (by rw [hfk']; rfl) (by rw [hf]; rfl) hEk hE])
        exact setRow_other w bb y _ hyb
      · simp at hy; subst hy
        exact setRow_heap w bb cs.toArray _ elem (0, 0) hh
      · rw [k1, k2, hs0, hlen', Nat.add_mul]; exact hw2
  ·
    have hold : (Builtin.firstCells i.size e.len (.slice (some ⟨bb, o0, none⟩) e.len k0)).run C.P w.drew = .ok (cs.take (e.len * sz)).toArray w.drew := by
      by_cases hn : e.len = 0
      · rw [hn]
        simp [Builtin.firstCells, loadCells, loadCellsFrom]
      · obtain ⟨q1, t1, n1, q2, q3⟩ := hk0 (by omega)
        refine run_firstCells_some w.drew i.size e.len _ _ _ _ (by rw [his, List.length_take]; omega) (fun j u hj => ?_)
        rw [Addr.add_mk, q1, Nat.zero_add]
        have : w.cell? ⟨bb, j, none⟩ = some u := by
          rw [cell_blk hh]
          rw [List.getElem?_take] at hj
          split at hj
          · exact hj
          · cases hj
        exact this
    have hr := run_append_grow_a (P := C.P) w t t' o.type elem i zv hu hi hz (his ▸ hsz0) (some ⟨bb, o0, none⟩) e.len k0 _ hold (a.eval x) e2.len _ (by rw [his, hby]; exact hsrc) (by omega) (by unfold okLen at hok; omega) (by rw [hby]; exact growslice_fits (by omega) hfit)
    rw [← hs] at hr
    obtain ⟨c', q1, q2, q3⟩ := app_seg (rest := (Builtin.zeroCells zv.cells (grownCap w (e.len + e2.len) k0 elem - (e.len + e2.len))).toList) happ hs0 hc1 hc2' hc3 g1 g3 hle
    have hce : (((cs.take (e.len * sz) ++ (cellsN c2 e2.len).flatten).toArray ++ Builtin.zeroCells zv.cells (grownCap w (e.len + e2.len) k0 elem - (e.len + e2.len))) : Array Value) = (cs.take (e.len * sz) ++ (cellsN c2 e2.len).flatten ++ (Builtin.zeroCells zv.cells (grownCap w (e.len + e2.len) k0 elem - (e.len + e2.len))).toList).toArray := by
      apply Array.ext'; simp
    rw [hce] at hr
    have htl : (cs.take (e.len * sz)).length = e.len * sz := by rw [List.length_take]; omega
    refine ⟨_, envWith E nx (some w.heap.size), _, exec_append ho hr, ?_, ?_⟩
    · refine row_rep (elem := elem) (cs := cs.take (e.len * sz) ++ (cellsN c2 e2.len).flatten ++ (Builtin.zeroCells zv.cells (grownCap w (e.len + e2.len) k0 elem - (e.len + e2.len))).toList) (cap := grownCap w (e.len + e2.len) k0 elem) (by simp [envWith]) ?_ ?_ (grownCap_ge ..) (grownCap_ok _ _ _ _ hok)
      · rw [show w.heap.size = w.drew.heap.size from rfl, heap_alloc_new]
      · have := grownCap_ge w (e.len + e2.len) k0 elem
        rw [List.length_append, List.length_append, htl, hnl, Array.length_toList, size_zeroCells, show zv.cells.size = sz by simpa using hzl, ← Nat.add_mul, ← Nat.add_mul]
        congr 1
        omega
    · refine append_fin (c' := c') h hU ((Chg.drew _ w).trans (Chg.alloc _ w.drew _)) rfl rfl rfl (fun y hy => ?_) (fun k B1 y hfk hEk => ?_) (fun y hy => ?_) ?_ q1 q2 q3 (fun hb => by cases hb)
      · simp at hy; subst hy
        exact ⟨by rw [alloc_size]; exact Nat.lt_succ_self _, .inl (Nat.le_refl _)⟩
      · exact Below.heap_alloc w.drew _ y (h.mem.at (find_delO hfk).1 hEk).1
      · simp at hy; subst hy
        rw [show w.heap.size = w.drew.heap.size from rfl, heap_alloc_new]
      · rw [k1, k2, hs0, List.length_append, List.length_append, htl, hnl, Nat.add_mul]
        omega
theorem okLen_fit {n b : Nat} (h : n * (b + 1) ≤ 140737488355328) : okLen n := by
  have : n * 1 ≤ n * (b + 1) := Nat.mul_le_mul_left _ (by omega)
  unfold okLen
  omega
theorem srcZ_ok (H : MOk E T M w) {elem b : Nat} {zv : Value} {e0 e2 : EV} {s : SV} {v : Value} {φ : List Prop} {tx sz : Nat} (h : srcZ P M elem zv (b + 1) e0 s = some (φ, e2)) (hφ : All φ) (hr : Rep E T w s v) (hs : e2.sz = sz) (hz : 0 < sz) (h0 : e0.len = 0) (hzl : zv.cells.toList.length = sz)
    (hk : ((∀ k m, s ≠ .int k m) ∧ ((∃ e', P.underlying tx = some (.slice e')) ∨ (∃ l, s = .str l) ∧ P.underlying tx = some .string)) ∨ ∃ k, P.underlying tx = some (.int k)) (hki : (∃ k, P.underlying tx = some (.int k)) → ∃ k m, s = .int k m) (hstr : ∀ l, s = .str l → P.underlying tx = some .string) :
    ∃ c : Nat → List Value, SrcA P sz tx v e2.len (cellsN c e2.len).flatten w zv (b + 1) ∧ (∀ i, i < e2.len → (c i).length = sz) ∧ ∀ i, i < e2.len → Items E T w (e2.items i) (c i) := by
  unfold srcZ at h
  split at h
  · split at h
    · rename_i e he
      simp at h
      obtain ⟨rfl, rfl⟩ := h
      obtain ⟨k1, k2⟩ := zeroE_ok (E := E) (T := T) (w := w) he hs hzl
      rcases hk with ⟨h1, _⟩ | hk
      · exact absurd rfl (h1 _ _)
      have hfit := hφ.one
      cases hr with
      | int _ _ hin =>
        refine ⟨fun _ => zv.cells.toList, .inr ⟨hk, ⟨_, by rw [k1]; rfl⟩, by omega, by rw [k1]; exact hfit, by rw [k1]; exact okLen_fit hfit, by rw [k1]; exact zeros_flat hzl hz, ?_⟩, fun _ _ => hzl, fun i hi => k2 i (by rw [← k1]; exact hi)⟩
        exact cellsN_ones (fun i hi => k2 i (by rw [← k1]; exact hi))
    · cases h
  · cases h
  · rename_i hne1 hne2
    rcases hk with ⟨_, hk⟩ | hk
    · obtain ⟨c, q1, q2, q3⟩ := srcE_ok H h hφ hr hs hz h0 hk hstr
      exact ⟨c, .inl q1, q2, q3⟩
    · obtain ⟨k, m, rfl⟩ := hki hk
      cases h
theorem appendE_ok (h : St C F M U E a w) (hU : U nx) {t t' : TypeId} {s x : Operand} {ss sx : SV} {φ : List Prop} {od : Option Nat} {B : Blk} {v : SV} {o : Oper} (hs : Rep E (trk C.T0 M E) w ss (a.eval s)) (hx : Rep E (trk C.T0 M E) w sx (a.eval x)) (he : appendE C.P M nx t ss sx = some (.mov φ od B v))
    (hk : ((∀ k m, sx ≠ .int k m) ∧ ((∃ e', C.P.underlying t' = some (.slice e')) ∨ (∃ l, sx = .str l) ∧ C.P.underlying t' = some .string)) ∨ ∃ k, C.P.underlying t' = some (.int k)) (hki : (∃ k, C.P.underlying t' = some (.int k)) → ∃ k m, sx = .int k m) (hstr : ∀ l, sx = .str l → C.P.underlying t' = some .string) (ho : o.op = .call ⟨.builtin .append, ⟨[s, x]⟩, ⟨[t, t']⟩⟩) : EffOk C F M U nx E a w o (.mov φ od B v) := by
  intro hφ
  unfold appendE at he
  split at he
  case h_2 => cases he
  rename_i elem hu
  split at he
  case h_2 => cases he
  rename_i z b zv hsz hby hz
  split at he
  case h_1 => cases he
  rename_i e0 he0
  split at he
  case h_2 => cases he
  rename_i hb
  simp only [Bool.and_eq_true] at hb
  have z1 := Nat.eq_of_beq_eq_true hb.1
  have z2 := Nat.eq_of_beq_eq_true hb.2
  split at he
  case h_2 => cases he
  rename_i φs e2 hsrc
  split at he
  case h_2 => cases he
  rename_i hes
  have z3 := Nat.eq_of_beq_eq_true hes
  obtain ⟨i, hi, hiz⟩ := bind_zero hz
  obtain ⟨i', hi', his⟩ := sizeF_info hsz
  rw [hi] at hi'
  cases hi'
  have hbb : i.bytes = b + 1 := by unfold bytesF at hby; rw [hi] at hby; simpa using hby
  have h0 : e0.len = 0 := (zeroE_ok (E := E) (T := trk C.T0 M E) (w := w) he0 z2 z1).1
  split at he
  · split at he
    · rename_i e' happ
      simp at he
      obtain ⟨rfl, rfl, rfl, rfl⟩ := he
      obtain ⟨hφ1, hφ2⟩ := hφ.app
      have hfit := hφ2.one
      obtain ⟨c2, q1, q2, q3⟩ := srcZ_ok h.mem hsrc hφ1 hx z3 (by omega) h0 z1 hk hki hstr
      generalize hsv : a.eval s = sv at hs
      cases hs
      exact append_nil h hU hu hi his hiz hbb z1 (by omega) q1 q2 q3 happ h0 z2 hsv hfit (okLen_fit hfit) ho
    · cases he
  · rename_i id base sz sub len
    split at he
    case h_2 => cases he
    rename_i hq
    simp only [Bool.and_eq_true] at hq
    have p1 := Nat.eq_of_beq_eq_true hq.1.1
    have p2 := Nat.eq_of_beq_eq_true hq.1.2
    have p3 := Nat.eq_of_beq_eq_true hq.2
    subst p1
    subst p2
    subst p3
    split at he
    case h_2 => cases he
    rename_i t1 e hf
    split at he
    case h_2 => cases he
    rename_i hq2
    simp only [Bool.and_eq_true] at hq2
    have p4 := Nat.eq_of_beq_eq_true hq2.1
    have p5 := Nat.eq_of_beq_eq_true hq2.2
    subst p4
    split at he
    case h_2 => cases he
    rename_i e' happ
    simp at he
    obtain ⟨rfl, rfl, rfl, rfl⟩ := he
    obtain ⟨hφ1, hφ2⟩ := hφ.app
    have hlen : len = e.len := hφ2 _ (List.mem_cons_self ..)
    have hfit : (len + e2.len) * (b + 1) ≤ 140737488355328 := hφ2 _ (List.mem_cons_of_mem _ (List.mem_cons_self ..))
    subst hlen
    obtain ⟨c2, q1, q2, q3⟩ := srcZ_ok h.mem hsrc hφ1 hx z3 (by omega) h0 z1 hk hki hstr
    generalize hsv : a.eval s = sv at hs
    cases hs with
    | row0 _ _ _ _ _ hE hl =>
      have := append_nil (od := some id) h hU hu hi his hiz hbb z1 (by omega) q1 q2 q3 happ hl p5 hsv (by rw [hl, Nat.zero_add] at hfit; exact hfit) (okLen_fit (b := b) (by rw [hl, Nat.zero_add] at hfit; exact hfit)) ho
      rw [hl, Nat.zero_add]
      exact this
    | row _ _ _ _ _ bb o0 k0 n t2 hE hsh hoo hl ok =>
      exact append_row h hU hu hi his hiz hbb z1 (by omega) q1 q2 q3 happ p5 hf hE hsv (fun hk0 => ⟨by have := (hoo hk0).1; simpa using this, t2, n, hsh, by have := (hoo hk0).2; simpa using this⟩) hl ok hfit (okLen_fit hfit) ho
  · cases he
theorem ev2_run (h : St C F M U E a w) (hU : U nx) {op : Op} {eff : Eff} {o : Oper} (he : ev2 C.P C.Γ F M nx op = some eff) (ho : o.op = op) : EffOk C F M U nx E a w o eff := by
  unfold ev2 at he
  split at he
  · split at he
    · rename_i l hl
      simp at he; subst he
      exact alloc_ok h hU hl ho
    · cases he
  · split at he
    · rename_i s hs
      split at he
      · rename_i l hl
        simp at he; subst he
        exact box_ok h hU hs hl ho
      · cases he
    · cases he
  · split at he
    · rename_i sp hsp
      split at he
      · rename_i s hs
        split at he
        · rename_i φ id B v hst
          simp at he; subst he
          cases v with
          | some v =>
            exfalso
            unfold storeE at hst
            repeat' split at hst
            all_goals simp at hst
          | none =>
            intro hφ
            obtain ⟨h3, h5⟩ := hφ.app
            obtain ⟨h4, h2⟩ := h5.app
            exact store_ok h (condOf_all h3 (opd_rep h.vw hsp)) (condOf_all h4 (opd_rep h.vw hs)) hst h2 ho
        · cases he
      · cases he
    · cases he
  · split at he
    · rename_i elem hu
      split at he
      · rename_i sz hsz
        split at he
        · rename_i zv l hz hsm hp
          split at he
          · rename_i e hzl hlit
            simp at he; subst he
            exact buildSlice_ok h hU hu hsz hz hsm hp hzl hlit ho
          · cases he
        · cases he
      · cases he
    · cases he
  · split at he
    · rename_i elem hu
      split at he
      · rename_i sz b n m hsz hb hl hc
        split at he
        · rename_i zv hz
          split at he
          · rename_i e hze
            split at he
            · rename_i hq
              simp at he; subst he
              exact makeSlice_ok h hU hu hsz hb hl hc hz hze hq ho
            · cases he
          · cases he
        · cases he
      · cases he
    · cases he
  · split at he
    · rename_i sa sb e' hsa hsb hu
      split at he
      · cases he
      · cases he
      · rename_i hne hne2
        cases eff with
        | mov φ od B v => exact appendE_ok h hU (opd_rep h.vw hsa) (opd_rep h.vw hsb) he (.inl ⟨fun k m => hne2 k m, .inl ⟨e', hu⟩⟩) (fun ⟨k, hk⟩ => by rw [hu] at hk; cases hk) (fun l hl => (hne l hl).elim) ho
        | val _ _ | new _ _ _ | upd _ _ _ _ =>
          exfalso
          unfold appendE at he
          repeat' split at he
          all_goals simp at he
    · rename_i sa l hsa hsb hu
      cases eff with
      | mov φ od B v => exact appendE_ok h hU (opd_rep h.vw hsa) (opd_rep h.vw hsb) he (.inl ⟨fun k m => by simp, .inr ⟨⟨l, rfl⟩, hu⟩⟩) (fun ⟨k, hk⟩ => by rw [hu] at hk; cases hk) (fun _ _ => hu) ho
      | val _ _ | new _ _ _ | upd _ _ _ _ =>
        exfalso
        unfold appendE at he
        repeat' split at he
        all_goals simp at he
    · rename_i sa k n kk hsa hsb hu
      cases eff with
      | mov φ od B v => exact appendE_ok h hU (opd_rep h.vw hsa) (opd_rep h.vw hsb) he (.inr ⟨kk, hu⟩) (fun _ => ⟨k, n, rfl⟩) (fun l hl => by cases hl) ho
      | val _ _ | new _ _ _ | upd _ _ _ _ =>
        exfalso
        unfold appendE at he
        repeat' split at he
        all_goals simp at he
    · cases he
  · cases he
end
end Go.Proofs.YtpbgihhfcdggkaaGreatDoor.V
end
section
namespace Go.Proofs.YtpbgihhfcdggkaaGreatDoor.V
open Go.RowKit
inductive Kont where
  | seq (c : Code)
  | blk (id : Nat)
  | lp (I : Act → World → Prop)
inductive Ex where
  | normal
  | exit (id : Nat)
  | ret
def Ex.out : Ex → Exit
  | .normal => .normal
  | .exit id => .exit id
  | .ret => .ret
inductive Cfg where
  | reg (full rest : List Oper) (F : Tr) (M : Mem) (ids : List Nat) (k : List Kont)
  | qreg (full rest : List Oper) (F : Tr) (M : Mem) (ids : List Nat) (k : List Kont)
  | code (c : Code) (F : Tr) (M : Mem) (ids : List Nat) (k : List Kont)
  | ext (e : Ex) (F : Tr) (M : Mem) (ids : List Nat) (k : List Kont)
def Sup : List Nat → (Nat → Prop) → Prop
  | [], _ => True
  | i :: r, U => U i ∧ Sup r (rest U i)
def ids0 : List Nat := 0 :: 1 :: 2 :: 3 :: 4 :: 5 :: 6 :: 7 :: 8 :: 9 :: 10 :: 11 :: 12 :: 13 :: 14 :: 15 :: 16 :: 17 :: 18 :: 19 :: 20 :: 21 :: 22 :: 23 :: 24 :: 25 :: 26 :: 27 :: 28 :: 29 :: 30 :: 31 :: 32 :: 33 :: 34 :: 35 :: 36 :: 37 :: 38 :: 39 :: 40 :: 41 :: 42 :: 43 :: 44 :: 45 :: 46 :: 47 :: 48 :: 49 :: 50 :: 51 :: 52 :: 53 :: 54 :: 55 :: 56 :: 57 :: 58 :: 59 :: []
def dstOf : List Oper → Nat → Option Tmp
  | [], _ => none
  | o :: _, 0 => o.dst
  | _ :: r, n + 1 => dstOf r n
def guardH (F : Tr) (full : List Oper) (j : Nat) (want : Bool) : Option Prop :=
  match dstOf full j with
  | some d => match F.get d with
    | some (.bool b) => some (b = want)
    | some (.may g (.bool b)) => some (g ∧ b = want)
    | _ => none
  | none => none
def fE {α : Type} (e : EV) (K : EV → Option α) : Option α :=
  match e with
  | .u8 l => K (.u8 l)
  | .ints k l => K (.ints k l)
  | .g n sz f => K (.g n sz f)
def fH {α : Type} (s : SV) (K : SV → Option α) : Option α :=
  match s with
  | .bool b => K (.bool b)
  | .int k n => K (.int k n)
  | .str l => K (.str l)
  | .nilp => K .nilp
  | .ptr id off => K (.ptr id off)
  | .pel id base sz i j => K (.pel id base sz i j)
  | .rop e i j => K (.rop e i j)
  | .nils => K .nils
  | .row id base sz sub len => K (.row id base sz sub len)
  | .ro e => K (.ro e)
  | .agg l => K (.agg l)
  | .arr n e => K (.arr n e)
  | .tup l => K (.tup l)
  | .fn f cap => K (.fn f cap)
  | .mv f cap => K (.mv f cap)
  | .ifc t v => K (.ifc t v)
  | .nili => K .nili
  | .nilf => K .nilf
  | .may g v => K (.may g v)
  | .bsl id len => K (.bsl id len)
  | .anyi k => K (.anyi k)
  | .val x => K (.val x)
def fL {α : Type} : List SV → (List SV → Option α) → Option α
  | [], K => K []
  | s :: r, K => fH s fun s' => fL r fun r' => K (s' :: r')
def fP {α : Type} : List Prop → (List Prop → Option α) → Option α
  | [], K => K []
  | p :: r, K => fP r fun r' => K (p :: r')
def fS {α : Type} (s : SV) (K : SV → Option α) : Option α :=
  match s with
  | .bool b => K (.bool b)
  | .int k n => K (.int k n)
  | .str l => K (.str l)
  | .nilp => K .nilp
  | .ptr id off => K (.ptr id off)
  | .pel id base sz i j => K (.pel id base sz i j)
  | .rop e i j => fE e fun e' => K (.rop e' i j)
  | .nils => K .nils
  | .row id base sz sub len => K (.row id base sz sub len)
  | .ro e => fE e fun e' => K (.ro e')
  | .agg l => fL l fun l' => K (.agg l')
  | .arr n e => fE e fun e' => K (.arr n e')
  | .tup l => fL l fun l' => K (.tup l')
  | .fn f cap => fL cap fun l' => K (.fn f l')
  | .mv f cap => fL cap fun l' => K (.mv f l')
  | .ifc t v => K (.ifc t v)
  | .nili => K .nili
  | .nilf => K .nilf
  | .may g v => K (.may g v)
  | .bsl id len => K (.bsl id len)
  | .anyi k => K (.anyi k)
  | .val x => K (.val x)
def fB {α : Type} (B : Blk) (K : Blk → Option α) : Option α :=
  match B with
  | .cells t l => fL l fun l' => K (.cells t l')
  | .row t e => fE e fun e' => K (.row t e')
  | .obj o => K (.obj o)
def fM {α : Type} : Mem → (Mem → Option α) → Option α
  | [], K => K []
  | (i, B) :: r, K => fM r fun r' => K ((i, B) :: r')
theorem fE_eq {α : Type} {e : EV} {K : EV → Option α} : fE e K = K e := by cases e <;> rfl
theorem fH_eq {α : Type} {s : SV} {K : SV → Option α} : fH s K = K s := by cases s <;> rfl
theorem fL_eq {α : Type} : ∀ {l : List SV} {K : List SV → Option α}, fL l K = K l
  | [], _ => rfl
  | s :: r, K => by simp only [fL, fH_eq]; exact fL_eq
theorem fP_eq {α : Type} : ∀ {l : List Prop} {K : List Prop → Option α}, fP l K = K l
  | [], _ => rfl
  | s :: r, K => by simp only [fP]; exact fP_eq
theorem fS_eq {α : Type} {s : SV} {K : SV → Option α} : fS s K = K s := by
  cases s <;> simp only [fS, fE_eq, fL_eq]
theorem fB_eq {α : Type} {B : Blk} {K : Blk → Option α} : fB B K = K B := by
  cases B <;> simp only [fB, fE_eq, fL_eq]
theorem fM_eq {α : Type} : ∀ {M : Mem} {K : Mem → Option α}, fM M K = K M
  | [], _ => rfl
  | (i, B) :: r, K => by simp only [fM]; exact fM_eq
structure Res where
  F : Tr
  M : Mem
  ids : List Nat
  φ : List Prop
def putD {α : Type} (N : Nat) (F : Tr) (d : Option Tmp) (v : Option SV) (K : Tr → Option α) : Option α :=
  match d with
  | none => K F
  | some d => match Nat.blt d N with
    | true => F.putK d v K
    | false => none
def stepV (X : IntKind → Bool) (P : Program) (Γ : Glob) (N : Nat) (o : Oper) (F : Tr) (M : Mem) (ids : List Nat) : Option Res :=
  match ev1 X P Γ F M o.op with
  | some (φ, v) => fS v fun v' => putD N F o.dst (some v') fun F' => some ⟨F', M, ids, φ⟩
  | none => match ids with
    | [] => none
    | i :: ids' => match ev2 P Γ F M i o.op with
      | some (.new φ B v) => fB B fun B' => fS v fun v' => putD N F o.dst (some v') fun F' => some ⟨F', (i, B') :: M, ids', φ⟩
      | some (.upd φ id B none) => fB B fun B' => match upd M id B' with
        | some M' => fM M' fun M2 => putD N F o.dst none fun F' => some ⟨F', M2, i :: ids', φ⟩
        | none => none
      | some (.mov φ od B v) => fB B fun B' => fS v fun v' => fM (delO M od) fun M' => putD N F o.dst (some v') fun F' => some ⟨F', (i, B') :: M', ids', φ⟩
      | _ => none
def step1 (X : IntKind → Bool) (P : Program) (Γ : Glob) (N : Nat) (full : List Oper) (o : Oper) (F : Tr) (M : Mem) (ids : List Nat) : Option Res :=
  match o.guard with
  | none => stepV X P Γ N o F M ids
  | some (j, want) => match guardH F full j want with
    | some H => match ev1 X P Γ F M o.op with
      | some (φ, v) => fS v fun v' => putD N F o.dst (some (.may H v')) fun F' => some ⟨F', M, ids, φ.map (H → ·)⟩
      | none => none
    | none => none
def stepQ (X : IntKind → Bool) (P : Program) (Γ : Glob) (N : Nat) (full : List Oper) (o : Oper) (F : Tr) (M : Mem) : Option (Tr × List Prop) :=
  match ev1 X P Γ F M o.op with
  | some (φ, v) => match o.guard with
    | none => fS v fun v' => putD N F o.dst (some v') fun F' => some (F', φ)
    | some (j, want) => match guardH F full j want with
      | some H => fS v fun v' => putD N F o.dst (some (.may H v')) fun F' => some (F', φ.map (H → ·))
      | none => none
  | none => none
structure Stop where
  rest : List Oper
  F : Tr
  M : Mem
  ids : List Nat
  φ : List Prop
def runR (X : IntKind → Bool) (P : Program) (Γ : Glob) (N : Nat) (full : List Oper) : List Oper → Tr → Mem → List Nat → List Prop → Option Stop
  | [], F, M, ids, φ => some ⟨[], F, M, ids, φ⟩
  | o :: r, F, M, ids, φ => match step1 X P Γ N full o F M ids with
    | none => some ⟨o :: r, F, M, ids, φ⟩
    | some ⟨F', M', ids', φ'⟩ => runR X P Γ N full r F' M' ids' (φ' ++ φ)
def runQ (X : IntKind → Bool) (P : Program) (Γ : Glob) (N : Nat) (full : List Oper) (M : Mem) (ids : List Nat) : List Oper → Tr → List Prop → Option Stop
  | [], F, φ => some ⟨[], F, M, ids, φ⟩
  | o :: r, F, φ => match stepQ X P Γ N full o F M with
    | none => some ⟨o :: r, F, M, ids, φ⟩
    | some (F', φ') => runQ X P Γ N full M ids r F' (φ' ++ φ)
def runC (X : IntKind → Bool) (P : Program) (Γ : Glob) (N : Nat) : Nat → Cfg → List Prop → Option (Cfg × List Prop)
  | 0, c, φ => some (c, φ)
  | n + 1, .reg full rest F M ids k, φ => match runR X P Γ N full rest F M ids φ with
    | none => none
    | some ⟨[], F', M', ids', φ'⟩ => runC X P Γ N n (.ext .normal F' M' ids' k) φ'
    | some ⟨o :: r, F', M', ids', φ'⟩ => some (.reg full (o :: r) F' M' ids' k, φ')
  | n + 1, .qreg full rest F M ids k, φ => match runQ X P Γ N full M ids rest F φ with
    | none => none
    | some ⟨[], F', M', ids', φ'⟩ => runC X P Γ N n (.ext .normal F' M' ids' k) φ'
    | some ⟨o :: r, F', M', ids', φ'⟩ => some (.qreg full (o :: r) F' M' ids' k, φ')
  | n + 1, .code c F M ids k, φ => match c with
    | .skip => runC X P Γ N n (.ext .normal F M ids k) φ
    | .label _ => runC X P Γ N n (.ext .normal F M ids k) φ
    | .seq a b => runC X P Γ N n (.code a F M ids (.seq b :: k)) φ
    | .block id b => runC X P Γ N n (.code b F M ids (.blk id :: k)) φ
    | .region _ ⟨ops⟩ false => runC X P Γ N n (.reg ops ops F M ids k) φ
    | .exit id => runC X P Γ N n (.ext (.exit id) F M ids k) φ
    | .ret => runC X P Γ N n (.ext .ret F M ids k) φ
    | c => some (.code c F M ids k, φ)
  | n + 1, .ext e F M ids k, φ => match e, k with
    | .normal, .seq b :: k => runC X P Γ N n (.code b F M ids k) φ
    | .normal, .blk _ :: k => runC X P Γ N n (.ext .normal F M ids k) φ
    | .exit i, .seq _ :: k => runC X P Γ N n (.ext (.exit i) F M ids k) φ
    | .exit i, .blk j :: k => match Nat.beq i j with
      | true => runC X P Γ N n (.ext .normal F M ids k) φ
      | false => runC X P Γ N n (.ext (.exit i) F M ids k) φ
    | .exit i, .lp _ :: k => runC X P Γ N n (.ext (.exit i) F M ids k) φ
    | .ret, .seq _ :: k => runC X P Γ N n (.ext .ret F M ids k) φ
    | .ret, .blk _ :: k => runC X P Γ N n (.ext .ret F M ids k) φ
    | .ret, .lp _ :: k => runC X P Γ N n (.ext .ret F M ids k) φ
    | e, k => some (.ext e F M ids k, φ)
def moves (X : IntKind → Bool) (P : Program) (Γ : Glob) (N : Nat) : Cfg → Bool
  | .reg full (o :: _) F M ids _ => (step1 X P Γ N full o F M ids).isSome
  | .reg _ [] _ _ _ _ => true
  | .qreg full (o :: _) F M _ _ => (stepQ X P Γ N full o F M).isSome
  | .qreg _ [] _ _ _ _ => true
  | .code c _ _ _ _ => match c with
    | .skip | .label _ | .seq _ _ | .block _ _ | .exit _ | .ret => true
    | .region _ _ d => !d
    | _ => false
  | .ext e _ _ _ k => match e, k with
    | .normal, .seq _ :: _ | .normal, .blk _ :: _ => true
    | .exit _, _ :: _ | .ret, _ :: _ => true
    | _, _ => false
def runS (X : IntKind → Bool) (C : Ctx) (c : Cfg) : Option (Cfg × List Prop) :=
  match moves X C.P C.Γ C.N c with
  | true => match runC X C.P C.Γ C.N 1000 c [] with
    | some (c', φ) => fP φ fun φ' => some (c', φ')
    | none => none
  | false => none
def Kq (P : Program) (Q0 : Exit → Act → World → Prop) : List Kont → Exit → Act → World → Prop
  | [] => Q0
  | .seq c :: k => Exit.then (fun a w => c.wp P (Kq P Q0 k) a w) (Kq P Q0 k)
  | .blk id :: k => Exit.inBlock id (Kq P Q0 k)
  | .lp I :: k => Exit.then I (Kq P Q0 k)
def Sat (C : Ctx) (Q0 : Exit → Act → World → Prop) : Cfg → Prop
  | .reg full rest F M ids k => ∀ U E a w, Sup ids U → St C F M U E a w → wpList C.P full.toArray (Kq C.P Q0 k) rest a w
  | .qreg full rest F M ids k => ∀ U E a w, Sup ids U → St C F M U E a w → wpQuiet C.P full.toArray (fun w' => Below w.heap.size w w') (fun a' => ∀ w', Below w.heap.size w w' → Kq C.P Q0 k .normal a' w') rest a
  | .code c F M ids k => ∀ U E a w, Sup ids U → St C F M U E a w → c.wp C.P (Kq C.P Q0 k) a w
  | .ext e F M ids k => ∀ U E a w, Sup ids U → St C F M U E a w → Kq C.P Q0 k e.out a w
section
variable {X : IntKind → Bool} {C : Ctx} {Q0 : Exit → Act → World → Prop} {F F' : Tr} {M M' : Mem} {ids ids' : List Nat} {U : Nat → Prop} {E : Env} {a : Act} {w : World} {full : List Oper}
theorem putD_inv {α : Type} {N : Nat} {d : Option Tmp} {v : Option SV} {K : Tr → Option α} {r : α} (h : putD N F d v K = some r) : ∃ F', K F' = some r ∧ ((d = none ∧ F' = F) ∨ ∃ k, d = some k ∧ Nat.blt k N = true ∧ F.put k v = some F') := by
  unfold putD at h
  split at h
  · exact ⟨F, h, .inl ⟨rfl, rfl⟩⟩
  · rename_i k
    split at h
    · rename_i hk
      obtain ⟨F', h1, h2⟩ := Tr.putK_eq F k v K r h
      exact ⟨F', h2, .inr ⟨k, rfl, hk, h1⟩⟩
    · cases h
theorem St.putD (h : St C F M U E a w) {d : Option Tmp} {s : Option SV} {v : Value} (hF : (d = none ∧ F' = F) ∨ ∃ k, d = some k ∧ Nat.blt k C.N = true ∧ F.put k s = some F') (hr : ∀ s', s = some s' → Rep E (trk C.T0 M E) w s' v) : St C F' M U E (a.put d v) w := by
  rcases hF with ⟨rfl, rfl⟩ | ⟨k, rfl, hk, hp⟩
  · exact h
  · exact h.put hk hp hr
def Went (C : Ctx) (F' : Tr) (M' : Mem) (ids' : List Nat) (a : Act) (w : World) (o : Oper) : Prop :=
  ∃ U' E' w', Sup ids' U' ∧ ((∃ x, (execOp a.eval o).run C.P w = .ok (.value x) w' ∧ St C F' M' U' E' (a.put o.dst x) w') ∨ ((execOp a.eval o).run C.P w = .ok .skip w' ∧ St C F' M' U' E' (a.put o.dst undef) w'))
theorem stepV_ok (h : St C F M U E a w) (hs : Sup ids U) {o : Oper} {r : Res} (he : stepV X C.P C.Γ C.N o F M ids = some r) (hφ : All r.φ) : Went C r.F r.M r.ids a w o := by
  unfold stepV at he
  split at he
  · rename_i φ v hv
    rw [fS_eq] at he
    obtain ⟨F', h1, h2⟩ := putD_inv he
    simp at h1
    subst h1
    obtain ⟨x, hx, hrun⟩ := ev1_run h.vw hv hφ
    exact ⟨U, E, w, hs, .inl ⟨x, hrun w (Below.refl _ _) o rfl, h.putD h2 fun s' hs' => by cases hs'; exact hx⟩⟩
  · split at he
    · cases he
    · rename_i i ids'
      obtain ⟨hi, hs'⟩ := hs
      split at he
      · rename_i φ B v hv
        rw [fB_eq, fS_eq] at he
        obtain ⟨F', h1, h2⟩ := putD_inv he
        simp at h1
        subst h1
        obtain ⟨x, E', w', hrun, hx, hst⟩ := ev2_run h hi hv rfl hφ
        exact ⟨_, E', w', hs', .inl ⟨x, hrun, hst.putD h2 fun s' hs' => by cases hs'; exact hx⟩⟩
      · rename_i φ id B hv
        rw [fB_eq] at he
        split at he
        · rename_i M1 hM1
          rw [fM_eq] at he
          obtain ⟨F', h1, h2⟩ := putD_inv he
          simp at h1
          subst h1
          obtain ⟨M2, w', hM2, hrun, hst⟩ := ev2_run h hi hv rfl hφ
          rw [hM1] at hM2
          cases hM2
          exact ⟨_, E, w', ⟨hi, hs'⟩, .inr ⟨hrun, hst.putD h2 fun s' hs' => by cases hs'⟩⟩
        · cases he
      · rename_i φ od B v hv
        rw [fB_eq, fS_eq, fM_eq] at he
        obtain ⟨F', h1, h2⟩ := putD_inv he
        simp at h1
        subst h1
        obtain ⟨x, E', w', hrun, hx, hst⟩ := ev2_run h hi hv rfl hφ
        exact ⟨_, E', w', hs', .inl ⟨x, hrun, hst.putD h2 fun s' hs' => by cases hs'; exact hx⟩⟩
      · cases he
theorem dstOf_eq : ∀ (l : List Oper) (j : Nat), dstOf l j = (l[j]?).bind (·.dst)
  | [], j => by simp [dstOf]
  | o :: r, 0 => by simp [dstOf]
  | o :: r, j + 1 => by simp [dstOf, dstOf_eq r j]
theorem guardH_ok (h : St C F M U E a w) {j : Nat} {want : Bool} {H : Prop} (hg : guardH F full j want = some H) : (yielded full.toArray a.tmps j == some want) = true ↔ H := by
  unfold guardH at hg
  split at hg
  · rename_i d hd
    rw [dstOf_eq] at hd
    have hy : yielded full.toArray a.tmps j = match a.tmps[d]? with | some (.bool b) => some b | _ => none := by
      unfold yielded
      simp only [List.getElem?_toArray, hd, Option.bind_some]
      cases a.tmps[d]? with
      | none => rfl
      | some z => cases z <;> rfl
    have hget : a.tmps.getD d undef = (a.tmps[d]?).getD undef := Array.getD_eq_getD_getElem? ..
    split at hg
    · rename_i b hb
      have hg' := Option.some.inj hg
      subst hg'
      have hr := h.slots d _ hb
      generalize hv : a.tmps.getD d undef = v at hr
      cases hr
      rw [hget] at hv
      cases hq : a.tmps[d]? with
      | none => rw [hq] at hv; simp [undef] at hv
      | some z =>
        rw [hq] at hv
        simp at hv
        subst hv
        rw [hy, hq]
        simp
    · rename_i g b hb
      have hg' := Option.some.inj hg
      subst hg'
      have hr := h.slots d _ hb
      generalize hv : a.tmps.getD d undef = v at hr
      rw [hget] at hv
      cases hr with
      | may1 _ _ _ hgg hr =>
        cases hr
        cases hq : a.tmps[d]? with
        | none => rw [hq] at hv; simp [undef] at hv
        | some z =>
          rw [hq] at hv
          simp at hv
          subst hv
          rw [hy, hq]
          simp [hgg]
      | may0 _ _ hgg =>
        rw [hy]
        cases hq : a.tmps[d]? with
        | none => simp [hgg]
        | some z =>
          rw [hq] at hv
          simp at hv
          subst hv
          simp [undef, hgg]
    · cases hg
  · cases hg
theorem All.imp {φ : List Prop} {H : Prop} (h : All (φ.map (H → ·))) (hH : H) : All φ := fun p hp => h (H → p) (List.mem_map.2 ⟨p, hp, rfl⟩) hH
theorem step1_ok (h : St C F M U E a w) (hs : Sup ids U) {o : Oper} {r : Res} {rest : List Oper} {Q : Exit → Act → World → Prop} (he : step1 X C.P C.Γ C.N full o F M ids = some r) (hφ : All r.φ)
    (hn : ∀ U E a w, Sup r.ids U → St C r.F r.M U E a w → wpList C.P full.toArray Q rest a w) : wpList C.P full.toArray Q (o :: rest) a w := by
  unfold step1 at he
  split at he
  · rename_i hg
    obtain ⟨U', E', w', hs', hw⟩ := stepV_ok h hs he hφ
    refine wpList_plain hg fun K hK => ?_
    unfold Oper.wp
    rcases hw with ⟨x, hrun, hst⟩ | ⟨hrun, hst⟩
    · rw [hrun]; exact hK _ _ (hn _ _ _ _ hs' hst)
    · rw [hrun]; exact hK _ _ (hn _ _ _ _ hs' hst)
  · rename_i j want hg
    split at he
    · rename_i H hH
      have hiff := guardH_ok (full := full) h hH
      split at he
      · rename_i φ v hv
        rw [fS_eq] at he
        obtain ⟨F', h1, h2⟩ := putD_inv he
        simp at h1
        subst h1
        refine wpList_step fun K hK => ?_
        simp only [Region.wanted, hg]
        split
        · rename_i hy
          have hHt := hiff.1 hy
          obtain ⟨x, hx, hrun⟩ := ev1_run h.vw hv (All.imp hφ hHt)
          unfold Oper.wp
          rw [hrun w (Below.refl _ _) o rfl]
          exact hK _ _ (hn _ _ _ _ hs (h.putD h2 fun s' hs' => by cases hs'; exact .may1 _ _ _ hHt hx))
        · rename_i hy
          have hHf : ¬ H := fun hh => hy (hiff.2 hh)
          exact hK _ _ (hn _ _ _ _ hs (h.putD h2 fun s' hs' => by cases hs'; exact .may0 _ _ hHf))
      · cases he
    · cases he
theorem runR_ok {Q : Exit → Act → World → Prop} : ∀ (rest : List Oper) {F : Tr} {M : Mem} {ids : List Nat} {φ : List Prop} {s : Stop}, runR X C.P C.Γ C.N full rest F M ids φ = some s → All s.φ →
    (∀ U E a w, Sup s.ids U → St C s.F s.M U E a w → wpList C.P full.toArray Q s.rest a w) → All φ ∧ ∀ U E a w, Sup ids U → St C F M U E a w → wpList C.P full.toArray Q rest a w
  | [], F, M, ids, φ, s, h, hφ, hn => by
    simp only [runR, Option.some.injEq] at h
    subst h
    exact ⟨hφ, hn⟩
  | o :: r, F, M, ids, φ, s, h, hφ, hn => by
    simp only [runR] at h
    split at h
    · simp only [Option.some.injEq] at h
      subst h
      exact ⟨hφ, hn⟩
    · rename_i F' M' ids' φ' hst
      obtain ⟨h1, h2⟩ := runR_ok r h hφ hn
      obtain ⟨h3, h4⟩ := h1.app
      exact ⟨h4, fun U E a w hs hS => step1_ok hS hs hst h3 h2⟩
theorem St.below (h : St C F M U E a w) {w' : World} (hb : Below w.heap.size w w') : St C F M U E a w' := by
  refine h.go (fun _ _ h => h) (fun _ _ h => h) (Chg.of_below hb) hb.os hb.tape hb.output ⟨fun id B hf => ?_, h.mem.inj⟩ h.own h.fresh
  rcases h.mem.blk id B hf with ⟨b, h1, h2, h3⟩ | h1
  · left
    exact ⟨b, h1, Nat.lt_of_lt_of_le h2 hb.size, h3.mono (fun _ _ h => h) (fun _ _ h => h) (Chg.of_below hb) (hb.block b h2)⟩
  · right; exact h1
theorem stepQ_ok (h : St C F M U E a w) {o : Oper} {φ : List Prop} {rest : List Oper} {Q : Act → Prop} (he : stepQ X C.P C.Γ C.N full o F M = some (F', φ)) (hφ : All φ)
    (hn : ∀ a, St C F' M U E a w → wpQuiet C.P full.toArray (fun w' => Below w.heap.size w w') Q rest a) : wpQuiet C.P full.toArray (fun w' => Below w.heap.size w w') Q (o :: rest) a := by
  unfold stepQ at he
  split at he
  · rename_i φ0 v hv
    split at he
    · rename_i hg
      rw [fS_eq] at he
      obtain ⟨F1, h1, h2⟩ := putD_inv he
      simp at h1
      obtain ⟨rfl, rfl⟩ := h1
      obtain ⟨x, hx, hrun⟩ := ev1_run h.vw hv hφ
      refine wpQuiet_step fun K hK => ?_
      simp only [Region.wanted, hg, if_true]
      refine ⟨x, fun w' hw' => ?_, hK _ (hn _ (h.putD h2 fun s' hs' => by cases hs'; exact hx))⟩
      unfold Oper.quietAt
      rw [hrun w' hw' o rfl]
      exact ⟨rfl, rfl⟩
    · rename_i j want hg
      split at he
      · rename_i H hH
        have hiff := guardH_ok (full := full) h hH
        rw [fS_eq] at he
        obtain ⟨F1, h1, h2⟩ := putD_inv he
        simp at h1
        obtain ⟨rfl, rfl⟩ := h1
        refine wpQuiet_step fun K hK => ?_
        simp only [Region.wanted, hg]
        split
        · rename_i hy
          have hHt := hiff.1 hy
          obtain ⟨x, hx, hrun⟩ := ev1_run h.vw hv (All.imp hφ hHt)
          refine ⟨x, fun w' hw' => ?_, hK _ (hn _ (h.putD h2 fun s' hs' => by cases hs'; exact .may1 _ _ _ hHt hx))⟩
          unfold Oper.quietAt
          rw [hrun w' hw' o rfl]
          exact ⟨rfl, rfl⟩
        · rename_i hy
          have hHf : ¬ H := fun hh => hy (hiff.2 hh)
          exact hK _ (hn _ (h.putD h2 fun s' hs' => by cases hs'; exact .may0 _ _ hHf))
      · cases he
  · cases he
theorem runQ_ok {Q : Act → Prop} : ∀ (rest : List Oper) {F : Tr} {φ : List Prop} {s : Stop}, runQ X C.P C.Γ C.N full M ids rest F φ = some s → All s.φ →
    s.M = M ∧ s.ids = ids ∧ All φ ∧ ∀ U E w, (∀ a, St C s.F M U E a w → wpQuiet C.P full.toArray (fun w' => Below w.heap.size w w') Q s.rest a) → ∀ a, St C F M U E a w → wpQuiet C.P full.toArray (fun w' => Below w.heap.size w w') Q rest a
  | [], F, φ, s, h, hφ => by
    simp only [runQ, Option.some.injEq] at h
    subst h
    exact ⟨rfl, rfl, hφ, fun U E w hn a hS => hn a hS⟩
  | o :: r, F, φ, s, h, hφ => by
    simp only [runQ] at h
    split at h
    · simp only [Option.some.injEq] at h
      subst h
      exact ⟨rfl, rfl, hφ, fun U E w hn a hS => hn a hS⟩
    · rename_i F' φ' hst
      obtain ⟨e1, e2, h1, h2⟩ := runQ_ok (Q := Q) r h hφ
      obtain ⟨h3, h4⟩ := h1.app
      exact ⟨e1, e2, h4, fun U E w hn a hS => stepQ_ok hS hst h3 (h2 U E w hn)⟩
end
end Go.Proofs.YtpbgihhfcdggkaaGreatDoor.V
end
section
namespace Go.Proofs.YtpbgihhfcdggkaaGreatDoor.V
open Go.RowKit
def AllP : List Prop → Prop
  | [] => True
  | p :: r => p ∧ AllP r
theorem AllP.nil : AllP [] := trivial
theorem AllP.cons {p : Prop} {r : List Prop} (h : p) (hr : AllP r) : AllP (p :: r) := ⟨h, hr⟩
theorem AllP.all : ∀ {φ : List Prop}, AllP φ → All φ
  | [], _, p, hp => by cases hp
  | q :: r, h, p, hp => by
    rcases List.mem_cons.1 hp with rfl | hp
    · exact h.1
    · exact AllP.all h.2 p hp
section
variable {X : IntKind → Bool} {C : Ctx} {Q0 : Exit → Act → World → Prop} {F F' : Tr} {M M' : Mem} {ids ids' : List Nat} {k : List Kont}
theorem Kq_exit_blk {i j : Nat} {a : Act} {w : World} {Q : Exit → Act → World → Prop} : Exit.inBlock j Q (.exit i) a w = if i = j then Q .normal a w else Q (.exit i) a w := rfl
theorem runC_ok : ∀ (n : Nat) {c c' : Cfg} {φ φ' : List Prop}, runC X C.P C.Γ C.N n c φ = some (c', φ') → All φ' → Sat C Q0 c' → All φ ∧ Sat C Q0 c
  | 0, c, c', φ, φ', h, hφ, hs => by
    simp only [runC, Option.some.injEq, Prod.mk.injEq] at h
    obtain ⟨rfl, rfl⟩ := h
    exact ⟨hφ, hs⟩
  | n + 1, .reg full rest F M ids k, c', φ, φ', h, hφ, hs => by
    simp only [runC] at h
    split at h
    · cases h
    · rename_i F' M' ids' φ1 hr
      obtain ⟨h1, h2⟩ := runC_ok n h hφ hs
      obtain ⟨h3, h4⟩ := runR_ok (Q := Kq C.P Q0 k) rest hr h1 (fun U E a w hsup hst => wpList_nil (h2 U E a w hsup hst))
      exact ⟨h3, h4⟩
    · rename_i o r F' M' ids' φ1 hr
      simp only [Option.some.injEq, Prod.mk.injEq] at h
      obtain ⟨rfl, rfl⟩ := h
      obtain ⟨h3, h4⟩ := runR_ok (Q := Kq C.P Q0 k) rest hr hφ (fun U E a w hsup hst => hs U E a w hsup hst)
      exact ⟨h3, h4⟩
  | n + 1, .qreg full rest F M ids k, c', φ, φ', h, hφ, hs => by
    simp only [runC] at h
    split at h
    · cases h
    · rename_i F' M' ids' φ1 hr
      obtain ⟨h1, h2⟩ := runC_ok n h hφ hs
      have hq := fun (w : World) => runQ_ok (Q := fun a' => ∀ w', Below w.heap.size w w' → Kq C.P Q0 k .normal a' w') rest hr h1
      obtain ⟨e1, e2, h3, _⟩ := hq default
      dsimp only at e1 e2
      subst e1
      subst e2
      refine ⟨h3, fun U E a w hsup hst => ?_⟩
      obtain ⟨_, _, _, h4⟩ := hq w
      exact h4 U E w (fun a' hst' => wpQuiet_nil fun w' hw' => h2 U E a' w' hsup (hst'.below hw')) a hst
    · rename_i o r F' M' ids' φ1 hr
      simp only [Option.some.injEq, Prod.mk.injEq] at h
      obtain ⟨rfl, rfl⟩ := h
      have hq := fun (w : World) => runQ_ok (Q := fun a' => ∀ w', Below w.heap.size w w' → Kq C.P Q0 k .normal a' w') rest hr hφ
      obtain ⟨e1, e2, h3, _⟩ := hq default
      dsimp only at e1 e2
      subst e1
      subst e2
      refine ⟨h3, fun U E a w hsup hst => ?_⟩
      obtain ⟨_, _, _, h4⟩ := hq w
      exact h4 U E w (fun a' hst' => hs U E a' w hsup hst') a hst
  | n + 1, .code c F M ids k, c', φ, φ', h, hφ, hs => by
    simp only [runC] at h
    split at h
    · obtain ⟨h1, h2⟩ := runC_ok n h hφ hs
      exact ⟨h1, fun U E a w hsup hst => wp_skip (h2 U E a w hsup hst)⟩
    · obtain ⟨h1, h2⟩ := runC_ok n h hφ hs
      exact ⟨h1, fun U E a w hsup hst => wp_label (h2 U E a w hsup hst)⟩
    · obtain ⟨h1, h2⟩ := runC_ok n h hφ hs
      exact ⟨h1, fun U E a w hsup hst => wp_seq (h2 U E a w hsup hst)⟩
    · obtain ⟨h1, h2⟩ := runC_ok n h hφ hs
      exact ⟨h1, fun U E a w hsup hst => wp_block (h2 U E a w hsup hst)⟩
    · obtain ⟨h1, h2⟩ := runC_ok n h hφ hs
      exact ⟨h1, fun U E a w hsup hst => wp_region_lit (h2 U E a w hsup hst)⟩
    · obtain ⟨h1, h2⟩ := runC_ok n h hφ hs
      exact ⟨h1, fun U E a w hsup hst => wp_exit (h2 U E a w hsup hst)⟩
    · obtain ⟨h1, h2⟩ := runC_ok n h hφ hs
      exact ⟨h1, fun U E a w hsup hst => wp_ret (h2 U E a w hsup hst)⟩
    · simp only [Option.some.injEq, Prod.mk.injEq] at h
      obtain ⟨rfl, rfl⟩ := h
      exact ⟨hφ, hs⟩
  | n + 1, .ext e F M ids k, c', φ, φ', h, hφ, hs => by
    simp only [runC] at h
    split at h
    · obtain ⟨h1, h2⟩ := runC_ok n h hφ hs
      exact ⟨h1, fun U E a w hsup hst => h2 U E a w hsup hst⟩
    · obtain ⟨h1, h2⟩ := runC_ok n h hφ hs
      exact ⟨h1, fun U E a w hsup hst => h2 U E a w hsup hst⟩
    · obtain ⟨h1, h2⟩ := runC_ok n h hφ hs
      exact ⟨h1, fun U E a w hsup hst => h2 U E a w hsup hst⟩
    · split at h
      · rename_i hij
        have := Nat.eq_of_beq_eq_true hij
        subst this
        obtain ⟨h1, h2⟩ := runC_ok n h hφ hs
        refine ⟨h1, fun U E a w hsup hst => ?_⟩
        have := h2 U E a w hsup hst
        simp only [Kq, Ex.out, Kq_exit_blk, if_true]
        exact this
      · rename_i hij
        have hne := Nat.ne_of_beq_eq_false hij
        obtain ⟨h1, h2⟩ := runC_ok n h hφ hs
        refine ⟨h1, fun U E a w hsup hst => ?_⟩
        have := h2 U E a w hsup hst
        simp only [Kq, Ex.out, Kq_exit_blk, if_neg hne]
        exact this
    · obtain ⟨h1, h2⟩ := runC_ok n h hφ hs
      exact ⟨h1, fun U E a w hsup hst => h2 U E a w hsup hst⟩
    · obtain ⟨h1, h2⟩ := runC_ok n h hφ hs
      exact ⟨h1, fun U E a w hsup hst => h2 U E a w hsup hst⟩
    · obtain ⟨h1, h2⟩ := runC_ok n h hφ hs
      exact ⟨h1, fun U E a w hsup hst => h2 U E a w hsup hst⟩
    · obtain ⟨h1, h2⟩ := runC_ok n h hφ hs
      exact ⟨h1, fun U E a w hsup hst => h2 U E a w hsup hst⟩
    · simp only [Option.some.injEq, Prod.mk.injEq] at h
      obtain ⟨rfl, rfl⟩ := h
      exact ⟨hφ, hs⟩
theorem Sat.run {c c' : Cfg} {φ : List Prop} (h : runS X C c = some (c', φ)) (hφ : AllP φ) (hn : Sat C Q0 c') : Sat C Q0 c := by
  unfold runS at h
  split at h
  · split at h
    · rename_i c1 φ1 hr
      rw [fP_eq] at h
      simp only [Option.some.injEq, Prod.mk.injEq] at h
      obtain ⟨rfl, rfl⟩ := h
      exact (runC_ok 1000 hr hφ.all hn).2
    · cases h
  · cases h
theorem Sat.cond {c : Operand} {x y : Code} {b : Bool} (hb : opd C.Γ F c = some (.bool b)) (h1 : b = true → Sat C Q0 (.code x F M ids k)) (h2 : b = false → Sat C Q0 (.code y F M ids k)) : Sat C Q0 (.code (.cond c x y) F M ids k) := by
  intro U E a w hsup hst
  have hr := opd_rep hst.vw hb
  generalize hv : a.eval c = v at hr
  cases hr
  exact wp_cond_split hv (fun h => h1 h U E a w hsup hst) (fun h => h2 h U E a w hsup hst)
theorem Sat.cond_t {c : Operand} {x y : Code} (hb : opd C.Γ F c = some (.bool true)) (h1 : Sat C Q0 (.code x F M ids k)) : Sat C Q0 (.code (.cond c x y) F M ids k) := Sat.cond hb (fun _ => h1) (fun h => by cases h)
theorem Sat.cond_f {c : Operand} {x y : Code} (hb : opd C.Γ F c = some (.bool false)) (h2 : Sat C Q0 (.code y F M ids k)) : Sat C Q0 (.code (.cond c x y) F M ids k) := Sat.cond hb (fun h => by cases h) (fun _ => h2)
theorem Sat.cond_p {c : Operand} {x y : Code} {p : Prop} {i : Decidable p} (hb : opd C.Γ F c = some (.bool (@decide p i))) (h1 : p → Sat C Q0 (.code x F M ids k)) (h2 : ¬ p → Sat C Q0 (.code y F M ids k)) : Sat C Q0 (.code (.cond c x y) F M ids k) :=
  Sat.cond hb (fun h => h1 (of_decide_eq_true h)) (fun h => h2 (of_decide_eq_false h))
theorem Sat.cond_pt {c : Operand} {x y : Code} {p : Prop} {i : Decidable p} (hb : opd C.Γ F c = some (.bool (@decide p i))) (hp : p) (h1 : Sat C Q0 (.code x F M ids k)) : Sat C Q0 (.code (.cond c x y) F M ids k) :=
  Sat.cond_p hb (fun _ => h1) (fun h => absurd hp h)
theorem Sat.cond_pf {c : Operand} {x y : Code} {p : Prop} {i : Decidable p} (hb : opd C.Γ F c = some (.bool (@decide p i))) (hp : ¬ p) (h2 : Sat C Q0 (.code y F M ids k)) : Sat C Q0 (.code (.cond c x y) F M ids k) :=
  Sat.cond_p hb (fun h => absurd h hp) (fun _ => h2)
theorem Sat.gon {full rest : List Oper} {d : Option Tmp} {op : Op} {type : TypeId} {pos : String} {after : Array Edge} {j : Nat} {want : Bool} {H : Prop} (hH : guardH F full j want = some H) (hh : H) (h : Sat C Q0 (.reg full (⟨d, op, type, pos, after, none⟩ :: rest) F M ids k)) :
    Sat C Q0 (.reg full (⟨d, op, type, pos, after, some (j, want)⟩ :: rest) F M ids k) := by
  intro U E a w hsup hst
  have hy := (guardH_ok (full := full) hst hH).2 hh
  have := h U E a w hsup hst
  unfold wpList at this ⊢
  simp only [Region.wanted, if_true] at this
  simp only [Region.wanted, hy, if_true]
  exact this
mutual
inductive Conv (M : Mem) : SV → SV → Prop
  | refl (s : SV) (h : pureS s) : Conv M s s
  | nils (e : EV) (h : e.len = 0) : Conv M .nils (.ro e)
  | row (id base sz sub len : Nat) (e : EV) (h : runAt M id base = some e) (hz : e.sz = sz) (hl : sub + len ≤ e.len) (hp : pureE e) : Conv M (.row id base sz sub len) (.ro (e.sub sub len))
  | all (id base sz len : Nat) (e : EV) (h : runAt M id base = some e) (hz : e.sz = sz) (hl : len = e.len) (hp : pureE e) : Conv M (.row id base sz 0 len) (.ro e)
  | agg (l l' : List SV) (h : Convs M l l') : Conv M (.agg l) (.agg l')
  | tup (l l' : List SV) (h : Convs M l l') : Conv M (.tup l) (.tup l')
  | may (g : Prop) (s s' : SV) (hg : g) (h : Conv M s s') : Conv M (.may g s) s'
  | eq (s s' s2 : SV) (h : Conv M s s') (e : s' = s2) : Conv M s s2
  | gx (s : SV) (n sz : Nat) (f g : Nat → List SV) (h : Conv M s (.ro (.g n sz f))) (he : ∀ i, i < n → f i = g i) : Conv M s (.ro (.g n sz g))
  | fn (f : FuncId) (l l' : List SV) (h : Convs M l l') : Conv M (.fn f l) (.fn f l')
  | pr (id : Nat) (t : TypeId) (l : List SV) (n : Nat) (hf : find M id = some (.cells t l)) (hp : pureL l) (hw : wI l = n) (hn : 0 < n) : Conv M (.ptr id 0) (.rop (.g 1 n fun _ => l) 0 0)
inductive Convs (M : Mem) : List SV → List SV → Prop
  | nil : Convs M [] []
  | cons (s s' : SV) (l l' : List SV) (h : Conv M s s') (hl : Convs M l l') : Convs M (s :: l) (s' :: l')
end
end
end Go.Proofs.YtpbgihhfcdggkaaGreatDoor.V
end
section
namespace Go.Proofs.YtpbgihhfcdggkaaGreatDoor.V
open Go.RowKit
section
variable {E : Env} {T T' : Nat → Prop} {M : Mem} {w : World}
theorem Conv.one_ : ∀ {s s' : SV}, Conv M s s' → s.one = true → s'.one = true
  | _, _, .refl s h, h1 => h1
  | _, _, .nils e h, h1 => rfl
  | _, _, .row id base sz sub len e h hz hl hp, h1 => rfl
  | _, _, .all id base sz len e h hz hl hp, h1 => rfl
  | _, _, .agg l l' h, h1 => by simp [SV.one] at h1
  | _, _, .tup l l' h, h1 => by simp [SV.one] at h1
  | _, _, .may g s s' hg h, h1 => by simp [SV.one] at h1
  | _, _, .eq s s' s2 h e, h1 => by subst e; exact Conv.one_ h h1
  | _, _, .gx _ _ _ _ _ _ _, _ => rfl
  | _, _, .fn _ _ _ _, _ => rfl
  | _, _, .pr _ _ _ _ _ _ _ _, _ => rfl
theorem Conv.arr_ {n : Nat} {e : EV} : ∀ {s s' : SV}, Conv M s s' → s = .arr n e → s' = .arr n e ∧ pureE e
  | _, _, .refl s h, h1 => by subst h1; exact ⟨rfl, by simpa only [pureS] using h⟩
  | _, _, .nils e h, h1 => by cases h1
  | _, _, .row id base sz sub len e h hz hl hp, h1 => by cases h1
  | _, _, .all id base sz len e h hz hl hp, h1 => by cases h1
  | _, _, .agg l l' h, h1 => by cases h1
  | _, _, .tup l l' h, h1 => by cases h1
  | _, _, .may g s s' hg h, h1 => by cases h1
  | _, _, .eq s s' s2 h e, h1 => by subst e; exact Conv.arr_ h h1
  | _, _, .gx _ _ _ _ _ h _, h1 => by have := (Conv.arr_ h h1).1; cases this
  | _, _, .fn _ _ _ _, h1 => by cases h1
  | _, _, .pr _ _ _ _ _ _ _ _, h1 => by cases h1
theorem runAt_find {id base : Nat} {e : EV} (h : runAt M id base = some e) : (find M id).isSome = true := by
  unfold runAt at h
  split at h
  · rename_i hf; rw [hf]; rfl
  · rename_i hf; rw [hf]; rfl
  · cases h
theorem ro_of_row (H : MOk E T M w) (hT : ∀ b, b < w.heap.size → T' b → T b) (ho : ∀ id b, (find M id).isSome = true → E id = some (some b) → ¬ T' b) {id base sub len : Nat} {e : EV} {v : Value} (h : runAt M id base = some e) (hl : sub + len ≤ e.len) (hp : pureE e) (hr : Rep E T w (.row id base e.sz sub len) v) {e' : EV}
    (he1 : e'.len = len) (he2 : e'.sz = e.sz) (he3 : ∀ i, i < len → e'.items i = e.items (sub + i)) : Rep (fun _ => none) T' w (.ro e') v := by
  cases hr with
  | row0 _ _ _ _ _ hE h0 => exact .ro0 _ (by omega)
  | row _ _ _ _ _ b o c n t hE hs hoo hlc ok =>
    obtain ⟨cc, hlt, hn, hc, hrr⟩ := runAt_cells H h hE
    refine .ro e' b o len c (fun i => cc (sub + i)) (ho id b (runAt_find h) hE) (fun i hi => ?_) (fun i j v hi hj => ?_) (fun i hi => ?_) he1.symm hlc ok hlt
    · rw [he2]; exact hn _ (by omega)
    · have hcz : c ≠ 0 := by omega
      obtain ⟨h1, _⟩ := hoo hcz
      have := hc (sub + i) j v (by omega) hj
      rw [he2, h1]
      rw [Nat.add_mul] at this
      rw [← this]
      congr 2
      omega
    · rw [he3 i (by omega)]
      have h1 := hrr (sub + i) (by omega)
      have h2 : Items (fun _ => none) T w (e.items (sub + i)) (cc (sub + i)) := Items.free_ h1 (hp.items (by omega))
      exact h2.mono (fun _ _ h => h) hT (Chg.refl _ w)
mutual
theorem Conv.ok (H : MOk E T M w) (hT : ∀ b, b < w.heap.size → T' b → T b) (ho : ∀ id b, (find M id).isSome = true → E id = some (some b) → ¬ T' b) : ∀ {s s' : SV} {v : Value}, Conv M s s' → Rep E T w s v → Rep (fun _ => none) T' w s' v
  | _, _, v, .refl s h, hr => by
    have h1 : Rep (fun _ => none) T w s v := Rep.free_ hr h
    exact h1.mono (fun _ _ h => h) hT (Chg.refl _ w)
  | _, _, v, .nils e h, hr => by cases hr; exact .ro0 _ h
  | _, _, v, .row id base sz sub len e h hz hl hp, hr => by
    subst hz
    exact ro_of_row H hT ho h hl hp hr (EV.sub_len hl) (EV.sub_sz ..) (fun i hi => EV.sub_items hi)
  | _, _, v, .all id base sz len e h hz hl hp, hr => by
    subst hz
    exact ro_of_row H hT ho h (by omega) hp hr hl.symm rfl (fun i hi => by rw [Nat.zero_add])
  | _, _, v, .agg l l' h, hr => by
    cases hr with
    | agg _ cs hI => exact .agg _ _ (Convs.items H hT ho h hI)
  | _, _, v, .tup l l' h, hr => by
    cases hr with
    | tup _ vs ht => exact .tup _ _ (Convs.tups H hT ho h ht)
  | _, _, v, .may g s s' hg h, hr => Conv.ok H hT ho h (hr.unmay hg)
  | _, _, v, .eq s s' s2 h e, hr => by subst e; exact Conv.ok H hT ho h hr
  | _, _, v, .gx s n sz f g h he, hr => by
    have h1 := Conv.ok H hT ho h hr
    cases h1 with
    | ro0 _ h0 => exact .ro0 _ h0
    | ro1 _ a h0 => exact .ro1 _ a h0
    | ro _ b o n' k c hT' hn hc hrr hle hl ok hb =>
      refine .ro _ b o n' k c hT' hn hc (fun i hi => ?_) hle hl ok hb
      have := hrr i hi
      simp only [EV.items] at this ⊢
      rw [← he i hi]
      exact this
  | _, _, v, .fn f l l' h, hr => by
    cases hr with
    | fn _ _ vs ht => exact .fn _ _ _ (Convs.tups H hT ho h ht)
  | _, _, v, .pr id t l n hf hp hw hn, hr => by
    cases hr with
    | ptr _ _ b hE =>
      obtain ⟨hlt, cs, hh, hI⟩ := H.at hf hE
      have h2 : Items (fun _ => none) T w l cs := Items.free_ hI hp
      have h3 : Rep (fun _ => none) T' w (.rop (.g 1 n fun _ => l) 0 0) (.pointer (some ⟨b, 0 + 0 * n + 0, none⟩)) := by
        refine .rop (.g 1 n fun _ => l) 0 0 b 0 (fun _ => cs) (ho id b (by rw [hf]; rfl) hE) (fun i _ => ?_) (fun i j v hi hj => ?_) (fun i _ => h2.mono (fun _ _ h => h) hT (Chg.refl _ w)) Nat.one_pos hn hlt
        · show cs.length = n
          rw [← wI_len hI, hw]
        · have hi : i < 1 := hi
          obtain rfl : i = 0 := by omega
          have e : 0 + 0 * (EV.g 1 n fun _ => l).sz + j = j := by simp
          rw [e, cell_blk hh]
          exact hj
      simpa using h3
theorem Convs.items (H : MOk E T M w) (hT : ∀ b, b < w.heap.size → T' b → T b) (ho : ∀ id b, (find M id).isSome = true → E id = some (some b) → ¬ T' b) : ∀ {l l' : List SV} {cs : List Value}, Convs M l l' → Items E T w l cs → Items (fun _ => none) T' w l' cs
  | _, _, cs, .nil, hI => by cases hI; exact .nil
  | _, _, cs, .cons s s' l l' h hl, hI => by
    cases hI with
    | one _ c _ r h1 hr hI' => exact .one _ _ _ _ (h.one_ h1) (Conv.ok H hT ho h hr) (Convs.items H hT ho hl hI')
    | arr n e _ c1 r hr hI' =>
      obtain ⟨e1, hp⟩ := h.arr_ rfl
      subst e1
      have h1 : Rep (fun _ => none) T w (.arr n e) (.agg c1.toArray) := Rep.free_ hr (by simpa only [pureS] using hp)
      exact .arr _ _ _ _ _ (h1.mono (fun _ _ h => h) hT (Chg.refl _ w)) (Convs.items H hT ho hl hI')
theorem Convs.tups (H : MOk E T M w) (hT : ∀ b, b < w.heap.size → T' b → T b) (ho : ∀ id b, (find M id).isSome = true → E id = some (some b) → ¬ T' b) : ∀ {l l' : List SV} {vs : List Value}, Convs M l l' → Tup E T w l vs → Tup (fun _ => none) T' w l' vs
  | _, _, vs, .nil, ht => by cases ht; exact .nil
  | _, _, vs, .cons s s' l l' h hl, ht => by
    cases ht with
    | cons _ v _ r hr ht' => exact .cons _ _ _ _ (Conv.ok H hT ho h hr) (Convs.tups H hT ho hl ht')
end
end
def Fun (P : Program) (Γ : Glob) (f : FuncId) (args : List SV) (res : SV) : Prop :=
  ∀ (T : Nat → Prop) (w : World) (vs : List Value), (∀ b, T b → b < w.heap.size) → GOk Γ T w → Tup E0 T w args vs →
    Calls P f vs.toArray w fun e w' => ∃ v, e = .returned v ∧ Rep E0 T w' res v ∧ Below w.heap.size w w'
def rigid : SV → Bool
  | .bool _ | .int _ _ | .str _ | .nilp | .nils | .nili | .nilf => true
  | .agg l => rigids l
  | .tup l => rigids l
  | .arr _ e => match e with
    | .u8 _ | .ints _ _ => true
    | _ => false
  | _ => false
where
  rigids : List SV → Bool
  | [] => true
  | s :: r => rigid s && rigids r
theorem u8_items_rigid {E E' : Env} {T T' : Nat → Prop} {w w' : World} {e : EV} {i : Nat} {cs : List Value} (he : (∃ l, e = .u8 l) ∨ ∃ k l, e = .ints k l) (h : Items E T w (e.items i) cs) : Items E' T' w' (e.items i) cs := by
  rcases he with ⟨l, rfl⟩ | ⟨k, l, rfl⟩
  · simp only [EV.items] at h ⊢
    obtain ⟨c, r, rfl, h1, h2⟩ := h.head rfl
    cases h1 with
    | int _ _ hr =>
      cases h2
      exact .one _ _ _ _ rfl (.int _ _ hr) .nil
  · simp only [EV.items] at h ⊢
    obtain ⟨c, r, rfl, h1, h2⟩ := h.head rfl
    cases h1 with
    | int _ _ hr =>
      cases h2
      exact .one _ _ _ _ rfl (.int _ _ hr) .nil
section
variable {E E' : Env} {T T' : Nat → Prop} {w w' : World}
mutual
theorem Rep.rigid_ : ∀ {s : SV} {v : Value}, Rep E T w s v → rigid s = true → Rep E' T' w' s v
  | _, _, .bool b, _ => .bool b
  | _, _, .int k n h, _ => .int k n h
  | _, _, .str l h, _ => .str l h
  | _, _, .nilp, _ => .nilp
  | _, _, .nils, _ => .nils
  | _, _, .nili, _ => .nili
  | _, _, .nilf, _ => .nilf
  | _, _, .agg l cs h, hp => .agg l cs (Items.rigid_ h (by simpa only [rigid] using hp))
  | _, _, .tup l vs h, hp => .tup l vs (Tup.rigid_ h (by simpa only [rigid] using hp))
  | _, _, .arr n e cs c hn hl he h1 hc hr, hp => by
    refine .arr n e cs c hn hl he h1 hc (fun i hi => u8_items_rigid ?_ (hr i hi))
    cases e with
    | u8 l => exact .inl ⟨l, rfl⟩
    | ints k l => exact .inr ⟨k, l, rfl⟩
    | g n sz f => simp [rigid] at hp
  | _, _, .ptr id off b h, hp => by simp [rigid] at hp
  | _, _, .pel id base sz i j b h, hp => by simp [rigid] at hp
  | _, _, .rop e i j b o c hT' hn hc hr hi hj hb, hp => by simp [rigid] at hp
  | _, _, .row id base sz sub len b o c n t h hs ho hl ok, hp => by simp [rigid] at hp
  | _, _, .row0 id base sz sub len h hl, hp => by simp [rigid] at hp
  | _, _, .ro0 e h, hp => by simp [rigid] at hp
  | _, _, .ro1 e a h, hp => by simp [rigid] at hp
  | _, _, .ro e b o n k c hT' hn hc hr he hl ok hb, hp => by simp [rigid] at hp
  | _, _, .fn f l vs h, hp => by simp [rigid] at hp
  | _, _, .mv f l vs h, hp => by simp [rigid] at hp
  | _, _, .ifc t s v h, hp => by simp [rigid] at hp
  | _, _, .may1 g s v h hr, hp => by simp [rigid] at hp
  | _, _, .may0 g s h, hp => by simp [rigid] at hp
  | _, _, .val x, hp => by simp [rigid] at hp
theorem Items.rigid_ : ∀ {l : List SV} {cs : List Value}, Items E T w l cs → rigid.rigids l = true → Items E' T' w' l cs
  | _, _, .nil, _ => .nil
  | _, _, .one s c l cs h hr hl, hp => by
    simp only [rigid.rigids, Bool.and_eq_true] at hp
    exact .one s c l cs h (Rep.rigid_ hr hp.1) (Items.rigid_ hl hp.2)
  | _, _, .arr n e l c1 cs hr hl, hp => by
    simp only [rigid.rigids, Bool.and_eq_true] at hp
    exact .arr n e l c1 cs (Rep.rigid_ hr hp.1) (Items.rigid_ hl hp.2)
theorem Tup.rigid_ : ∀ {l : List SV} {vs : List Value}, Tup E T w l vs → rigid.rigids l = true → Tup E' T' w' l vs
  | _, _, .nil, _ => .nil
  | _, _, .cons s v l vs hr hl, hp => by
    simp only [rigid.rigids, Bool.and_eq_true] at hp
    exact .cons s v l vs (Rep.rigid_ hr hp.1) (Tup.rigid_ hl hp.2)
end
end
section
variable {E E' : Env} {T T' : Nat → Prop} {w w' : World}
end
section
variable {X : IntKind → Bool} {C : Ctx} {Q0 : Exit → Act → World → Prop} {F F' : Tr} {M M' : Mem} {ids ids' : List Nat} {k : List Kont}
def callable (P : Program) (f : FuncId) : Bool :=
  match P.funcs[f]? with
  | some fn => !(fn.name == "runtime.NumGoroutine") && fn.body.isSome
  | none => false
theorem run_callFunc_go {P : Program} {f : FuncId} {args : Array Value} (h : callable P f = true) (w : World) : (callFunc f args).run P w = .ok (.enter f args) w := by
  unfold callable at h
  split at h
  · rename_i fn hf
    simp only [Bool.and_eq_true, Bool.not_eq_true'] at h
    have hne : ¬ fn.name = "runtime.NumGoroutine" := by simpa using h.1
    have hb : ¬ fn.body = none := by intro hbo; rw [hbo] at h; simp at h
    simp [callFunc, hf, hne, hb]
  · cases h
theorem St.hid_ {U : Nat → Prop} {E : Env} {a : Act} {w : World} (h : St C F M U E a w) (hn : C.wide = false) (b : Nat) (hb : C.T0 b) : b < C.W0.heap.size ∧ ¬ C.S b := by
  rcases h.hid b hb with h1 | h1
  · exact h1
  · rw [hn] at h1; cases h1
theorem St.lt {U : Nat → Prop} {E : Env} {a : Act} {w : World} (h : St C F M U E a w) (hn : C.wide = false) : ∀ b, trk C.T0 M E b → b < w.heap.size := by
  rintro b (⟨id, B, hf, hE⟩ | h0)
  · exact (h.mem.at hf hE).1
  · exact Nat.lt_of_lt_of_le (h.hid_ hn b h0).1 h.kp.chg.size
theorem St.apart {U : Nat → Prop} {E : Env} {a : Act} {w : World} (h : St C F M U E a w) (hn : C.wide = false) : ∀ id b, (find M id).isSome = true → E id = some (some b) → ¬ C.T0 b := by
  intro id b hf hE h0
  obtain ⟨h1, h2⟩ := h.hid_ hn b h0
  rcases h.own id b hf hE with h3 | h3
  · omega
  · exact h2 h3
def opdsC (Γ : Glob) (F : Tr) : List Operand → Option (List SV)
  | [] => some []
  | x :: r => match opd Γ F x with
    | some s => match opdsC Γ F r with
      | some l => some (s :: l)
      | none => none
    | none => none
theorem opdsC_tup {Γ : Glob} {E : Env} {T : Nat → Prop} {a : Act} {w : World} (V : Vw Γ F M E T a w) : ∀ {l : List Operand} {r : List SV}, opdsC Γ F l = some r → Tup E T w r (l.map a.eval)
  | [], r, h => by simp [opdsC] at h; subst h; exact .nil
  | x :: l, r, h => by
    simp only [opdsC] at h
    split at h
    · rename_i s hs
      split at h
      · rename_i l' hl
        simp at h
        subst h
        exact .cons _ _ _ _ (opd_rep V hs) (opdsC_tup V hl)
      · cases h
    · cases h
def argsF (Γ : Glob) (F : Tr) (x : Operand) (xs : List Operand) : Option (FuncId × List SV) :=
  match opd Γ F x with
  | some (.fn f cap) => match opdsC Γ F xs with
    | some svs => match cap with
      | [] => some (f, svs)
      | c :: r => fL (svs ++ (c :: r)) fun l => some (f, l)
    | none => none
  | some (.mv f first) => match opdsC Γ F xs with
    | some svs => fL (first ++ svs) fun l => some (f, l)
    | none => none
  | _ => none
theorem Tup.app {E : Env} {T : Nat → Prop} {w : World} : ∀ {l m : List SV} {vs us : List Value}, Tup E T w l vs → Tup E T w m us → Tup E T w (l ++ m) (vs ++ us)
  | _, _, _, _, .nil, h => h
  | _, _, _, _, .cons s v l vs hr hl, h => .cons s v _ _ hr (Tup.app hl h)
theorem execOp_call_fn {a : Act} {dst : Option Tmp} {s : Operand} {f : FuncId} {xs : Array Operand} {first cap : Array Value} {ats : Array TypeId} {ty : TypeId} {pos : String} {after : Array Edge} {guard : Option (Nat × Bool)} (hs : a.eval s = .func (.func f) first cap) :
    execOp a.eval ⟨dst, .call ⟨.value s, xs, ats⟩, ty, pos, after, guard⟩ = callFunc f (first ++ xs.map a.eval ++ cap) := by
  unfold execOp resolve
  simp only [hs, Deferred.ofValue]
  rfl
theorem argsF_ok {Γ : Glob} {E : Env} {T : Nat → Prop} {a : Act} {w : World} (V : Vw Γ F M E T a w) {x : Operand} {xs : List Operand} {f : FuncId} {svs : List SV} (h : argsF Γ F x xs = some (f, svs)) :
    ∃ vs, Tup E T w svs vs ∧ ∀ (d : Option Tmp) (ats : Array TypeId) (type : TypeId) (pos : String) (after : Array Edge) (guard : Option (Nat × Bool)), execOp a.eval ⟨d, .call ⟨.value x, ⟨xs⟩, ats⟩, type, pos, after, guard⟩ = callFunc f vs.toArray := by
  unfold argsF at h
  split at h
  · rename_i f' cap hf
    have hr := opd_rep V hf
    split at h
    · rename_i svs' hx
      have ht := opdsC_tup V hx
      generalize hv : a.eval x = v at hr
      cases hr with
      | fn _ _ us hu =>
        have hq : f = f' ∧ svs = svs' ++ cap := by
          split at h
          · simp only [Option.some.injEq, Prod.mk.injEq] at h
            exact ⟨h.1.symm, by simp [h.2]⟩
          · rw [fL_eq] at h
            simp only [Option.some.injEq, Prod.mk.injEq] at h
            exact ⟨h.1.symm, h.2.symm⟩
        obtain ⟨rfl, rfl⟩ := hq
        refine ⟨xs.map a.eval ++ us, ht.app hu, fun d ats type pos after guard => ?_⟩
        rw [execOp_call_fn hv]
        congr 1
        simp
    · cases h
  · rename_i f' first hf
    have hr := opd_rep V hf
    split at h
    · rename_i svs' hx
      have ht := opdsC_tup V hx
      generalize hv : a.eval x = v at hr
      cases hr with
      | mv _ _ us hu =>
        rw [fL_eq] at h
        simp only [Option.some.injEq, Prod.mk.injEq] at h
        obtain ⟨rfl, rfl⟩ := h
        refine ⟨us ++ xs.map a.eval, hu.app ht, fun d ats type pos after guard => ?_⟩
        rw [execOp_call_fn hv]
        congr 1
        simp
    · cases h
  · cases h
theorem Sat.call {full rest : List Oper} {d : Option Tmp} {x : Operand} {f : FuncId} {xs : List Operand} {ats : Array TypeId} {type : TypeId} {pos : String} {after : Array Edge} {svs args : List SV} {res : SV}
    (hspec : Fun C.P C.Γ f args res) (hn : C.wide = false) (hx : argsF C.Γ F x xs = some (f, svs)) (hc : callable C.P f = true) (hconv : Convs [] svs args) (hp : putD C.N F d (some res) some = some F') (h : Sat C Q0 (.reg full rest F' M ids k)) :
    Sat C Q0 (.reg full (⟨d, .call ⟨.value x, ⟨xs⟩, ats⟩, type, pos, after, none⟩ :: rest) F M ids k) := by
  intro U E a w hsup hst
  obtain ⟨F1, h1, h2⟩ := putD_inv hp
  cases h1
  refine wpList_plain rfl fun K hK => ?_
  unfold Oper.wp
  obtain ⟨vs, ht, hex⟩ := argsF_ok hst.vw hx
  rw [hex, run_callFunc_go hc]
  have hH : MOk E (trk C.T0 M E) [] w := ⟨fun id B hf => by simp [find] at hf, fun id id' b hf => by simp [find] at hf⟩
  have ht' := Convs.tups (T' := trk C.T0 M E) hH (fun _ _ h => h) (fun id b hf => by simp [find] at hf) hconv ht
  refine (hspec (trk C.T0 M E) w _ (hst.lt hn) hst.glob ht').mono ?_
  rintro e w' ⟨v, rfl, hr, hb⟩
  exact hK _ _ (h U E _ w' hsup ((hst.below hb).putD h2 fun s' hs' => by cases hs'; exact hr.up))
theorem callR_core {f : FuncId} {svs args : List SV} {res : SV} {U : Nat → Prop} {E : Env} {a : Act} {w : World} (hst : St C F M U E a w) (hn : C.wide = false) (hspec : Fun C.P C.Γ f args res) {vs : List Value} (ht : Tup E (trk C.T0 M E) w svs vs) (hconv : Convs M svs args) (hrig : rigid res = true) :
    Calls C.P f vs.toArray w fun e w' => ∃ v, e = .returned v ∧ (∀ (E : Env) (T : Nat → Prop) (w : World), Rep E T w res v) ∧ Below w.heap.size w w' := by
  have ht' := Convs.tups (T' := C.T0) hst.mem (fun _ _ h => .inr h) (hst.apart hn) hconv ht
  refine (hspec C.T0 w _ (fun b hb => hst.lt hn b (.inr hb)) (hst.glob.mono (fun _ _ h => .inr h) (Chg.refl _ w)) ht').mono ?_
  rintro e w' ⟨v, rfl, hr, hb⟩
  exact ⟨v, rfl, fun E T w => hr.rigid_ hrig, hb⟩
theorem Sat.callR {full rest : List Oper} {d : Option Tmp} {x : Operand} {f : FuncId} {xs : List Operand} {ats : Array TypeId} {type : TypeId} {pos : String} {after : Array Edge} {svs args : List SV} {res : SV}
    (hspec : Fun C.P C.Γ f args res) (hn : C.wide = false) (hrig : rigid res = true) (hx : argsF C.Γ F x xs = some (f, svs)) (hc : callable C.P f = true) (hconv : Convs M svs args) (hp : putD C.N F d (some res) some = some F') (h : Sat C Q0 (.reg full rest F' M ids k)) :
    Sat C Q0 (.reg full (⟨d, .call ⟨.value x, ⟨xs⟩, ats⟩, type, pos, after, none⟩ :: rest) F M ids k) := by
  intro U E a w hsup hst
  obtain ⟨F1, h1, h2⟩ := putD_inv hp
  cases h1
  refine wpList_plain rfl fun K hK => ?_
  unfold Oper.wp
  obtain ⟨vs, ht, hex⟩ := argsF_ok hst.vw hx
  rw [hex, run_callFunc_go hc]
  refine (callR_core hst hn hspec ht hconv hrig).mono ?_
  rintro e w' ⟨v, rfl, hr, hb⟩
  exact hK _ _ (h U E _ w' hsup ((hst.below hb).putD h2 fun s' hs' => by cases hs'; exact hr _ _ _))
theorem Sat.callG {full rest : List Oper} {d : Option Tmp} {x : Operand} {f : FuncId} {xs : List Operand} {ats : Array TypeId} {type : TypeId} {pos : String} {after : Array Edge} {svs args : List SV} {res : SV} {j : Nat} {want : Bool} {H : Prop}
    (hH : guardH F full j want = some H) (hspec : H → Fun C.P C.Γ f args res) (hn : C.wide = false) (hrig : rigid res = true) (hx : argsF C.Γ F x xs = some (f, svs)) (hc : callable C.P f = true) (hconv : H → Convs M svs args) (hp : putD C.N F d (some (.may H res)) some = some F') (h : Sat C Q0 (.reg full rest F' M ids k)) :
    Sat C Q0 (.reg full (⟨d, .call ⟨.value x, ⟨xs⟩, ats⟩, type, pos, after, some (j, want)⟩ :: rest) F M ids k) := by
  intro U E a w hsup hst
  obtain ⟨F1, h1, h2⟩ := putD_inv hp
  cases h1
  have hiff := guardH_ok (full := full) hst hH
  refine wpList_step fun K hK => ?_
  by_cases hy : (yielded full.toArray a.tmps j == some want) = true
  · simp only [Region.wanted, hy, if_true]
    have hh := hiff.1 hy
    unfold Oper.wp
    obtain ⟨vs, ht, hex⟩ := argsF_ok hst.vw hx
    rw [hex, run_callFunc_go hc]
    refine (callR_core hst hn (hspec hh) ht (hconv hh) hrig).mono ?_
    rintro e w' ⟨v, rfl, hr, hb⟩
    exact hK _ _ (h U E _ w' hsup ((hst.below hb).putD h2 fun s' hs' => by cases hs'; exact .may1 _ _ _ hh (hr _ _ _)))
  · simp only [Region.wanted, hy]
    have hh : ¬ H := fun hh => hy (hiff.2 hh)
    exact hK _ _ (h U E _ w hsup (hst.putD h2 fun s' hs' => by cases hs'; exact .may0 _ _ hh))
theorem Sat.callG1 {full rest : List Oper} {d : Option Tmp} {x : Operand} {f : FuncId} {xs : List Operand} {ats : Array TypeId} {type : TypeId} {pos : String} {after : Array Edge} {svs args : List SV} {res : SV} {j : Nat} {want : Bool} {H : Prop}
    (hspec : Fun C.P C.Γ f args res) (hn : C.wide = false) (hH : guardH F full j want = some H) (hrig : rigid res = true) (hx : argsF C.Γ F x xs = some (f, svs)) (hc : callable C.P f = true) (hconv : H → Convs M svs args) (hp : putD C.N F d (some (.may H res)) some = some F') (h : Sat C Q0 (.reg full rest F' M ids k)) :
    Sat C Q0 (.reg full (⟨d, .call ⟨.value x, ⟨xs⟩, ats⟩, type, pos, after, some (j, want)⟩ :: rest) F M ids k) := Sat.callG hH (fun _ => hspec) hn hrig hx hc hconv hp h
def resV (P : Program) (F : Tr) (M : Mem) : ResultVar → R
  | .tmp t => withφ [] (F.get t)
  | .cell p t => match F.get p with
    | some s => loadV P M t s
    | none => none
theorem resV_ok {U : Nat → Prop} {E : Env} {a : Act} {w : World} (hst : St C F M U E a w) {r : ResultVar} {φ : List Prop} {s : SV} (h : resV C.P F M r = some (φ, s)) (hφ : AllP φ) :
    ∃ v, Rep E (trk C.T0 M E) w s v ∧ (match r with
    | .tmp t => (pure (a.tmps.getD t undef) : Sem Value)
    | .cell p t => do loadVar t (← asAddr (a.tmps.getD p undef))).run C.P w = .ok v w := by
  unfold resV at h
  split at h
  · obtain ⟨_, h'⟩ := withφ_inv h
    exact ⟨_, hst.slots _ _ h', rfl⟩
  · rename_i p t
    split at h
    · rename_i s' hs'
      obtain ⟨u, h1, h2⟩ := loadV_run (P := C.P) hst.mem h hφ.all (hst.slots _ _ hs')
      refine ⟨u, h1, ?_⟩
      have := h2 w (Below.refl _ _)
      have hp : ∃ ad, a.tmps.getD p undef = .pointer (some ad) := by
        have hr := hst.slots _ _ hs'
        generalize a.tmps.getD p undef = v at hr
        unfold loadV at h
        split at h
        · cases hr; exact ⟨_, rfl⟩
        · cases hr; exact ⟨_, rfl⟩
        · cases hr; exact ⟨_, rfl⟩
        · cases h
      obtain ⟨ad, had⟩ := hp
      rw [had] at this ⊢
      simpa [Instr.loadAt, Instr.sureAddr, asAddr] using this
    · cases h
def Post (T : Nat → Prop) (w0 : World) (res : SV) (e : Ending) (w' : World) : Prop := ∃ v, e = .returned v ∧ Rep E0 T w' res v ∧ Below w0.heap.size w0 w'
theorem St.post {U : Nat → Prop} {E : Env} {a : Act} {w : World} (h : St C F M U E a w) (hS : ∀ b, ¬ C.S b) : Below C.W0.heap.size C.W0 w := ⟨h.kp.os, h.kp.tape, h.kp.output, h.kp.chg.size, fun b hb => h.kp.chg.keep b hb (hS b)⟩
theorem mapM_run1 {P : Program} {w : World} {f : ResultVar → Sem Value} {r : ResultVar} {v : Value} (h1 : (f r).run P w = .ok v w) :
    ((do let vs ← (#[r] : Array ResultVar).mapM f; pure (if h : vs.size = 1 then vs[0] else .tuple vs)) : Sem Value).run P w = .ok v w := by simp [h1]
theorem mapM_run2 {P : Program} {w : World} {f : ResultVar → Sem Value} {r r' : ResultVar} {v v' : Value} (h1 : (f r).run P w = .ok v w) (h2 : (f r').run P w = .ok v' w) :
    ((do let vs ← (#[r, r'] : Array ResultVar).mapM f; pure (if h : vs.size = 1 then vs[0] else .tuple vs)) : Sem Value).run P w = .ok (.tuple #[v, v']) w := by simp [h1, h2]
theorem end_core {fn : Func} {R : Ending → World → Prop} {e : Ex} (hD : C.D = []) (he : e = .ret ∨ e = .normal) (h : ∀ U E a w, Sup ids U → St C F M U E a w → ∃ v, (results fn a.tmps).run C.P w = .ok v w ∧ R (.returned v) w) : Sat C (bodyPost C.P fn R) (.ext e F M ids []) := by
  intro U E a w hsup hst
  obtain ⟨v, h1, h2⟩ := h U E a w hsup hst
  rcases he with rfl | rfl <;> exact ⟨hst.defers.trans hD, v, h1, h2⟩
theorem Sat.end1 {fn : Func} {res : SV} {e : Ex} {r : ResultVar} {φ : List Prop} {s : SV} (hn : C.wide = false) (hr : fn.results = #[r]) (h1 : resV C.P F M r = some (φ, s)) (hφ : AllP φ) (hc : Conv M s res) (he : e = .ret ∨ e = .normal) (hS : ∀ b, ¬ C.S b) (hD : C.D = [] := by exact rfl) :
    Sat C (bodyPost C.P fn (Post C.T0 C.W0 res)) (.ext e F M ids []) := end_core hD he fun U E a w _ hst => by
  obtain ⟨v, q1, q2⟩ := resV_ok hst h1 hφ
  refine ⟨v, ?_, v, rfl, Conv.ok hst.mem (fun _ _ h => .inr h) (hst.apart hn) hc q1, hst.post hS⟩
  unfold results
  rw [hr]
  exact mapM_run1 q2
theorem Sat.end2 {fn : Func} {res res' : SV} {e : Ex} {r r' : ResultVar} {φ φ' : List Prop} {s s' : SV} (hn : C.wide = false) (hr : fn.results = #[r, r']) (h1 : resV C.P F M r = some (φ, s)) (h2 : resV C.P F M r' = some (φ', s')) (hφ : AllP φ) (hφ' : AllP φ') (hc : Conv M s res) (hc' : Conv M s' res') (he : e = .ret ∨ e = .normal) (hS : ∀ b, ¬ C.S b) (hD : C.D = [] := by exact rfl) :
    Sat C (bodyPost C.P fn (Post C.T0 C.W0 (.tup [res, res']))) (.ext e F M ids []) := end_core hD he fun U E a w _ hst => by
  obtain ⟨v, q1, q2⟩ := resV_ok hst h1 hφ
  obtain ⟨v', q1', q2'⟩ := resV_ok hst h2 hφ'
  have t1 := Conv.ok hst.mem (fun _ _ h => .inr h) (hst.apart hn) hc q1
  have t2 := Conv.ok hst.mem (fun _ _ h => .inr h) (hst.apart hn) hc' q1'
  refine ⟨.tuple #[v, v'], ?_, _, rfl, .tup _ [v, v'] (.cons _ _ _ _ t1 (.cons _ _ _ _ t2 .nil)), hst.post hS⟩
  unfold results
  rw [hr]
  exact mapM_run2 q2 q2'
theorem Sat.end0 {fn : Func} {e : Ex} (hr : fn.results = #[]) (he : e = .ret ∨ e = .normal) (hS : ∀ b, ¬ C.S b) (hD : C.D = [] := by exact rfl) : Sat C (bodyPost C.P fn (Post C.T0 C.W0 (.tup []))) (.ext e F M ids []) := end_core hD he fun _ _ _ _ _ hst =>
  ⟨_, results_none hr _ _ _, _, rfl, .tup _ [] .nil, hst.post hS⟩
theorem Sat.fin {fn : Func} {res res' : SV} {c : Cfg} {P : Program} {T : Nat → Prop} {w : World} (h : Sat C (bodyPost P fn (Post T w res')) c) (he : res = res') : Sat C (bodyPost P fn (Post T w res)) c := he ▸ h
theorem inR_i64 {n : Int} (h1 : -9223372036854775808 ≤ n) (h2 : n ≤ 9223372036854775807) : inR .i64 n := by simp [inR, IntKind.min, IntKind.max, IntKind.signed, IntKind.bits]; omega
theorem inR_u64 {n : Int} (h1 : 0 ≤ n) (h2 : n ≤ 18446744073709551615) : inR .u64 n := by simp [inR, IntKind.min, IntKind.max, IntKind.signed, IntKind.bits]; omega
theorem inR_u32 {n : Int} (h1 : 0 ≤ n) (h2 : n ≤ 4294967295) : inR .u32 n := by simp [inR, IntKind.min, IntKind.max, IntKind.signed, IntKind.bits]; omega
theorem inR_u8' {n : Int} (h1 : 0 ≤ n) (h2 : n ≤ 255) : inR .u8 n := by simp [inR, IntKind.min, IntKind.max, IntKind.signed, IntKind.bits]; omega
def argT : Nat → List SV → Tr → Option Tr
  | _, [], F => some F
  | n, s :: r, F => F.putK n (some s) fun F' => argT (n + 1) r F'
theorem mk_get : ∀ (d t : Nat), (Tr.mk d).get t = none
  | 0, t => rfl
  | d + 1, 0 => rfl
  | d + 1, t + 1 => by
    simp only [Tr.mk, Tr.get]
    split <;> exact mk_get d _
theorem argT_get {E : Env} {T : Nat → Prop} {w : World} : ∀ {n : Nat} {l : List SV} {F F' : Tr} {vs : List Value}, argT n l F = some F' → Tup E T w l vs → ∀ t s, F'.get t = some s → (t < n ∧ F.get t = some s) ∨ (n ≤ t ∧ ∃ v, vs[t - n]? = some v ∧ Rep E T w s v) ∨ (n + l.length ≤ t ∧ F.get t = some s)
  | n, [], F, F', vs, h, _, t, s, hs => by
    simp [argT] at h
    subst h
    rcases Nat.lt_or_ge t n with h1 | h1
    · exact .inl ⟨h1, hs⟩
    · exact .inr (.inr ⟨by simpa using h1, hs⟩)
  | n, x :: l, F, F', vs, h, ht, t, s, hs => by
    obtain ⟨F1, h1, h2⟩ := Tr.putK_eq F n (some x) _ F' h
    cases ht with
    | cons _ v _ vs' hr ht' =>
      have hg := Tr.get_put F F1 n (some x) h1
      rcases argT_get h2 ht' t s hs with ⟨q1, q2⟩ | ⟨q1, u, q2, q3⟩ | ⟨q1, q2⟩
      · rw [hg] at q2
        split at q2
        · rename_i e
          subst e
          cases q2
          exact .inr (.inl ⟨Nat.le_refl _, v, by simp, hr⟩)
        · rename_i e
          exact .inl ⟨by omega, q2⟩
      · refine .inr (.inl ⟨by omega, u, ?_, q3⟩)
        rw [show t - n = (t - (n + 1)) + 1 by omega, List.getElem?_cons_succ]
        exact q2
      · rw [hg, if_neg (by omega)] at q2
        exact .inr (.inr ⟨by simp; omega, q2⟩)
theorem Tup.len {E : Env} {T : Nat → Prop} {w : World} : ∀ {l : List SV} {vs : List Value}, Tup E T w l vs → vs.length = l.length
  | _, _, .nil => rfl
  | _, _, .cons s v l vs hr hl => by have := hl.len; simp [this]
theorem Fun.mk {P : Program} {Γ : Glob} {f : FuncId} {fn : Func} {c : Code} {N : Nat} {args : List SV} {res : SV} {F : Tr} (dep : Nat) (hf : P.funcs[f]? = some fn) (hb : fn.body = some c) (hN : fn.ntmps = N) (hle : Nat.ble args.length N = true) (hF : argT 0 args (Tr.mk dep) = some F)
    (h : ∀ (T : Nat → Prop) (w : World), Sat ⟨P, w, fun _ => False, T, Γ, N, [], [], false⟩ (bodyPost P fn (Post T w res)) (.code c F [] ids0 [])) : Fun P Γ f args res := by
  intro T w vs hT hG ht
  have hle' := Nat.le_of_ble_eq_true hle
  have hlen := ht.len
  refine calls_of_wp hf hb (h T w (fun _ => True) E0 _ w ?_ ⟨rfl, ?_, fun t s hs => ?_, ⟨fun id B hf => by simp [find] at hf, fun id id' b hf => by simp [find] at hf⟩, fun id b hf => by simp [find] at hf, fun _ _ => rfl, ⟨rfl, rfl, rfl, Chg.refl _ w⟩, fun b hb => .inl ⟨hT b hb, fun h => h⟩, hG.mono (fun b _ hb => by rcases hb with ⟨id, B, hf, _⟩ | h0 <;> first | (simp [find] at hf; done) | exact h0) (Chg.refl _ w), fun p hp => (by cases hp), fun p hp => (by cases hp)⟩)
  · have : ∀ (l : List Nat) (n : Nat) (U : Nat → Prop), (∀ i, i < l.length → l[i]? = some (n + i)) → (∀ k, n ≤ k → U k) → Sup l U := by
      intro l
      induction l with
      | nil => intro n _ _ _; trivial
      | cons i r ih =>
        intro n U hl hU
        have hi : i = n := by simpa using hl 0 (by simp)
        refine ⟨hU i (by omega), ih (n + 1) _ (fun j hj => ?_) fun k hk => ⟨hU k (by omega), by omega⟩⟩
        have := hl (j + 1) (by simpa using hj)
        simpa [Nat.add_assoc, Nat.add_comm 1 j] using this
    exact this ids0 0 _ (by decide) fun _ _ => trivial
  · simp only [Array.size_append, List.size_toArray, Array.size_replicate, hlen, hN]; omega
  · rcases argT_get hF ht t s hs with ⟨q1, _⟩ | ⟨_, v, q2, q3⟩ | ⟨_, q2⟩
    · omega
    · have hlt : t < vs.length := by simpa using (List.getElem?_eq_some_iff.1 q2).1
      have : (vs.toArray ++ Array.replicate (fn.ntmps - vs.toArray.size) undef).getD t undef = v := by
        rw [Array.getD_eq_getD_getElem?, Array.getElem?_append_left (by simpa using hlt)]
        simp only [Nat.sub_zero] at q2
        simp [q2]
      rw [this]
      exact q3.mono (fun _ _ h => h) (fun b _ hb => by rcases hb with ⟨id, B, hf, _⟩ | h0 <;> first | (simp [find] at hf; done) | exact h0) (Chg.refl _ w)
    · rw [mk_get] at q2; cases q2
end
end Go.Proofs.YtpbgihhfcdggkaaGreatDoor.V
end
section
namespace Go.Proofs.YtpbgihhfcdggkaaGreatDoor.V
open Go.RowKit
section
variable {X : IntKind → Bool} {P : Program} {Γ : Glob} {F F' : Tr} {M M' : Mem}
def OLe (Γ : Glob) (F F' : Tr) (l : List Operand) : Prop := ∀ x ∈ l, ∀ s, opd Γ F x = some s → opd Γ F' x = some s
def MLe (M M' : Mem) : Prop := ∀ id B, find M id = some B → find M' id = some B
theorem op1_le {x : Operand} {k k' : SV → R} {r : List Prop × SV} (hx : ∀ s, opd Γ F x = some s → opd Γ F' x = some s) (hk : ∀ s r, k s = some r → k' s = some r) (h : op1 Γ F x k = some r) : op1 Γ F' x k' = some r := by
  unfold op1 at *
  cases hs : opd Γ F x with
  | none => simp [hs] at h
  | some s =>
    rw [hs] at h
    rw [hx s hs]
    cases s
    case may g s' =>
      simp only at h ⊢
      cases hq : k s' with
      | none => simp [hq] at h
      | some q => rw [hq] at h; rw [hk _ _ hq]; exact h
    all_goals exact hk _ _ h
theorem opds_le : ∀ {l : List Operand} {r : List SV}, OLe Γ F F' l → opds Γ F l = some r → opds Γ F' l = some r
  | [], r, _, h => h
  | x :: l, r, hx, h => by
    unfold opds at *
    cases hs : opd Γ F x with
    | none => simp [hs] at h
    | some s =>
      rw [hs] at h
      rw [hx x (List.mem_cons_self ..) s hs]
      cases s
      case may g s' => exact h
      all_goals
        simp only at h ⊢
        cases hq : opds Γ F l with
        | none => simp [hq] at h
        | some q => rw [hq] at h; rw [opds_le (fun y hy => hx y (List.mem_cons_of_mem _ hy)) hq]; exact h
theorem partsF_le : ∀ {l : List (Nat × Operand)} {r : List (Nat × SV)}, OLe Γ F F' (l.map (·.2)) → partsF Γ F l = some r → partsF Γ F' l = some r
  | [], r, _, h => h
  | (i, x) :: l, r, hx, h => by
    unfold partsF at *
    cases hs : opd Γ F x with
    | none => simp [hs] at h
    | some s =>
      rw [hs] at h
      rw [hx x (by simp) s hs]
      cases s
      case may g s' => exact h
      all_goals
        simp only at h ⊢
        cases hq : partsF Γ F l with
        | none => simp [hq] at h
        | some q => rw [hq] at h; rw [partsF_le (fun y hy => hx y (by simp only [List.map_cons]; exact List.mem_cons_of_mem _ hy)) hq]; exact h
theorem partsC_le : ∀ {l : List (Nat × Operand)} {r : List Prop × List (Nat × SV)}, OLe Γ F F' (l.map (·.2)) → partsC Γ F l = some r → partsC Γ F' l = some r
  | [], r, _, h => h
  | (i, x) :: l, r, hx, h => by
    unfold partsC at *
    cases hs : opd Γ F x with
    | none => simp [hs] at h
    | some s =>
      rw [hs] at h
      rw [hx x (by simp) s hs]
      cases s
      all_goals
        simp only at h ⊢
        cases hq : partsC Γ F l with
        | none => simp [hq] at h
        | some q => rw [hq] at h; rw [partsC_le (fun y hy => hx y (by simp only [List.map_cons]; exact List.mem_cons_of_mem _ hy)) hq]; exact h
theorem runAt_le (hM : MLe M M') {id b : Nat} {e : EV} (h : runAt M id b = some e) : runAt M' id b = some e := by
  unfold runAt at *
  cases hf : find M id with
  | none => simp [hf] at h
  | some B => rw [hM _ _ hf]; rw [hf] at h; exact h
theorem runAt_same {id b : Nat} (h : find M id = find M' id) : runAt M id b = runAt M' id b := by
  unfold runAt
  rw [h]
theorem loadV_le (hM : MLe M M') {t : TypeId} (s : SV) (r : List Prop × SV) (h : loadV P M t s = some r) : loadV P M' t s = some r := by
  unfold loadV at *
  cases s <;> try exact h
  case ptr id off =>
    simp only at *
    cases hf : find M id with
    | none => simp [hf] at h
    | some B => rw [hM _ _ hf]; rw [hf] at h; exact h
  case pel id base sz i j =>
    simp only at *
    cases hf : runAt M id base with
    | none => simp [hf] at h
    | some B => rw [runAt_le hM hf]; rw [hf] at h; exact h
theorem indexAddrV_le (hM : MLe M M') {t : TypeId} {n : Int} {s : SV} {r : List Prop × SV} (h : indexAddrV P M t n s = some r) : indexAddrV P M' t n s = some r := by
  unfold indexAddrV at *
  cases hu : P.underlying t with
  | none => simp [hu] at h
  | some d =>
    rw [hu] at h
    cases d <;> try exact h
    case array m elem =>
      simp only at *
      cases hs : sizeF P elem with
      | none => simp [hs] at h
      | some z =>
        rw [hs] at h
        cases z with
        | zero => exact h
        | succ z =>
          cases s <;> try exact h
          case ptr id off =>
            simp only at *
            cases hf : find M id with
            | none => simp [runAt, hf] at h
            | some B =>
              rw [← runAt_same (hf.trans (hM _ _ hf).symm), hM _ _ hf]
              rw [hf] at h
              exact h
theorem convV_le (hM : MLe M M') {a b : TypeId} (s : SV) (r : List Prop × SV) (h : convV X P M a b s = some r) : convV X P M' a b s = some r := by
  cases s
  case row id base sz sub len =>
    unfold convV at *
    simp only at *
    cases hf : runAt M id base with
    | none =>
      rw [hf] at h
      simp only at h
      repeat' split at h
      all_goals cases h
    | some B => rw [runAt_le hM hf]; rw [hf] at h; exact h
  case ro e => cases e <;> exact h
  all_goals exact h
theorem sliceV_le (hM : MLe M M') {t : TypeId} {lo hi : Option Nat} {φ : List Prop} (s : SV) (r : List Prop × SV) (h : sliceV P M t lo hi φ s = some r) : sliceV P M' t lo hi φ s = some r := by
  unfold sliceV at *
  cases hu : P.underlying t with
  | none => simp [hu] at h
  | some d =>
    rw [hu] at h
    cases d <;> try exact h
    case array m elem =>
      simp only at *
      cases hs : sizeF P elem with
      | none => simp [hs] at h
      | some z =>
        rw [hs] at h
        cases z with
        | zero => exact h
        | succ z =>
          cases s <;> try exact h
          case ptr id off =>
            simp only at *
            cases hf : runAt M id off with
            | none => simp [hf] at h
            | some e => rw [runAt_le hM hf]; rw [hf] at h; exact h
theorem op1_le2 {x y : Operand} {k k' : SV → SV → R} {r : List Prop × SV} (hx : ∀ s, opd Γ F x = some s → opd Γ F' x = some s) (hy : ∀ s, opd Γ F y = some s → opd Γ F' y = some s) (hk : ∀ s t r, k s t = some r → k' s t = some r)
    (h : op1 Γ F x (fun a => op1 Γ F y (k a)) = some r) : op1 Γ F' x (fun a => op1 Γ F' y (k' a)) = some r :=
  op1_le hx (fun s _ hr => op1_le hy (fun t r hr => hk s t r hr) hr) h
theorem ev1_le {op : Op} {r : List Prop × SV} (hx : OLe Γ F F' op.operands.toList) (hM : MLe M M') (h : ev1 X P Γ F M op = some r) : ev1 X P Γ F' M' op = some r := by
  unfold ev1 at h
  split at h
  · exact op1_le (hx _ (by simp [Op.operands])) (fun _ _ h => h) h
  · exact op1_le (hx _ (by simp [Op.operands])) (fun _ _ h => h) h
  · rename_i c x y
    refine op1_le (hx _ (by simp [Op.operands])) (fun s r hr => ?_) h
    cases s <;> try exact hr
    simp only at *
    cases ha : opd Γ F x with
    | none => simp [ha] at hr
    | some sa =>
      rw [ha] at hr
      rw [hx x (by simp [Op.operands]) _ ha]
      cases hb : opd Γ F y with
      | none => simp [hb] at hr
      | some sb =>
        rw [hb] at hr
        rw [hx y (by simp [Op.operands]) _ hb]
        exact hr
  · exact op1_le (hx _ (by simp [Op.operands])) (fun s r hr => loadV_le hM s r hr) h
  · rename_i s x f
    unfold ev1
    dsimp only
    cases hq : offF P s f with
    | none => simp [hq] at h
    | some o =>
      rw [hq] at h
      exact op1_le (hx _ (by simp [Op.operands])) (fun _ _ h => h) h
  · refine op1_le2 (hx _ (by simp [Op.operands])) (hx _ (by simp [Op.operands])) (fun s t r hr => ?_) h
    cases t <;> try exact hr
    exact indexAddrV_le hM hr
  · exact op1_le2 (hx _ (by simp [Op.operands])) (hx _ (by simp [Op.operands])) (fun s t r hr => hr) h
  · exact op1_le (hx _ (by simp [Op.operands])) (fun _ _ h => h) h
  · exact op1_le2 (hx _ (by simp [Op.operands])) (hx _ (by simp [Op.operands])) (fun s t r hr => hr) h
  · exact op1_le (hx _ (by simp [Op.operands])) (fun _ _ h => h) h
  · exact op1_le (hx _ (by simp [Op.operands])) (fun s r hr => convV_le hM s r hr) h
  · exact op1_le (hx _ (by simp [Op.operands])) (fun _ _ h => h) h
  · rename_i f cs
    unfold ev1
    dsimp only
    cases hq : opds Γ F cs with
    | none => simp [hq] at h
    | some l =>
      rw [hq] at h
      rw [opds_le (fun y hy => hx y (by simpa [Op.operands] using hy)) hq]
      exact h
  · rename_i f z fs
    unfold ev1
    dsimp only
    cases hq : opds Γ F (z :: fs) with
    | none => simp [hq] at h
    | some l =>
      rw [hq] at h
      rw [opds_le (fun y hy => hx y (by simpa [Op.operands] using hy)) hq]
      exact h
  · rename_i t x
    unfold ev1
    dsimp only
    split at h
    · rename_i hq
      first | rw [hq] | skip
      exact op1_le (hx _ (by simp [Op.operands])) (fun _ _ h => h) h
    · cases h
  · exact op1_le (hx _ (by simp [Op.operands])) (fun _ _ h => h) h
  · rename_i t x lo hi
    refine op1_le (hx _ (by simp [Op.operands])) (fun s r hr => ?_) h
    cases lo with
    | none => cases hi with
      | none => exact sliceV_le hM _ _ hr
      | some y =>
        refine op1_le (hx y (by simp [Op.operands])) (fun q r hr => ?_) hr
        cases q <;> try exact hr
        exact sliceV_le hM _ _ hr
    | some z => cases hi with
      | none =>
        refine op1_le (hx z (by simp [Op.operands])) (fun q r hr => ?_) hr
        cases q <;> try exact hr
        exact sliceV_le hM _ _ hr
      | some y =>
        refine op1_le (hx z (by simp [Op.operands])) (fun q r hr => ?_) hr
        cases q <;> try exact hr
        refine op1_le (hx y (by simp [Op.operands])) (fun q r hr => ?_) hr
        cases q <;> try exact hr
        exact sliceV_le hM _ _ hr
  · rename_i t ps
    unfold ev1
    dsimp only
    cases hq : partsC Γ F ps with
    | none => simp [hq] at h
    | some l =>
      rw [hq] at h
      rw [partsC_le (fun y hy => hx y (by simpa [Op.operands] using hy)) hq]
      exact h
  · rename_i b xs ats
    unfold ev1
    unfold bifV at *
    split at h
    · exact op1_le (hx _ (by simp [Op.operands, Call.operands])) (fun _ _ h => h) h
    · exact op1_le2 (hx _ (by simp [Op.operands, Call.operands])) (hx _ (by simp [Op.operands, Call.operands])) (fun s t r hr => hr) h
    · exact op1_le2 (hx _ (by simp [Op.operands, Call.operands])) (hx _ (by simp [Op.operands, Call.operands])) (fun s t r hr => hr) h
    · cases h
  · cases h
theorem srcE_le (hM : MLe M M') {e0 : EV} {u : Bool} {s : SV} {r : List Prop × EV} (h : srcE M e0 u s = some r) : srcE M' e0 u s = some r := by
  unfold srcE at *
  cases s <;> try exact h
  case row id base sz sub len =>
    simp only at *
    cases hf : runAt M id base with
    | none => simp [hf] at h
    | some B => rw [runAt_le hM hf]; rw [hf] at h; exact h
theorem srcZ_le (hM : MLe M M') {elem : TypeId} {zv : Value} {b : Nat} {e0 : EV} {x : SV} {q : List Prop × EV} (h : srcZ P M elem zv b e0 x = some q) : srcZ P M' elem zv b e0 x = some q := by
  unfold srcZ at *
  split at h
  · exact h
  · cases h
  · exact srcE_le hM h
theorem storeE_le (hM : MLe M M') {t : TypeId} {p s : SV} {e : Eff} (h : storeE P M t p s = some e) : storeE P M' t p s = some e := by
  unfold storeE at *
  split at h
  · rename_i x n hx hn
    split at h
    · cases p <;> try exact h
      case ptr id off =>
        simp only at *
        cases hf : find M id with
        | none => simp [hf] at h
        | some B => rw [hM _ _ hf]; rw [hf] at h; exact h
      case pel id base sz i j =>
        simp only at *
        cases hf : find M id with
        | none => simp [hf] at h
        | some B => rw [hM _ _ hf]; rw [hf] at h; exact h
    · cases h
  · cases h
theorem appendE_le (hM : MLe M M') {nx : Nat} {t : TypeId} {s x : SV} {e : Eff} (h : appendE P M nx t s x = some e) : appendE P M' nx t s x = some e := by
  unfold appendE at *
  split at h
  · rename_i elem hu
    split at h
    · rename_i z b zv h1 h2 h3
      split at h
      · cases h
      · rename_i e0 he0
        split at h
        · rename_i hc
          cases hq : srcZ P M elem zv (b + 1) e0 x with
          | none => simp [hq] at h
          | some q =>
            rw [hq] at h
            rw [srcZ_le hM hq]
            simp only at *
            split at h
            · cases s <;> try exact h
              case row id base sz sub len =>
                simp only at *
                cases hf : find M id with
                | none =>
                  rw [hf] at h
                  simp only at h
                  split at h <;> cases h
                | some B => rw [hM _ _ hf]; rw [hf] at h; exact h
            · cases h
        · cases h
    · cases h
  · cases h
theorem ev2_le {op : Op} {nx : Nat} {e : Eff} (hx : OLe Γ F F' op.operands.toList) (hM : MLe M M') (h : ev2 P Γ F M nx op = some e) : ev2 P Γ F' M' nx op = some e := by
  unfold ev2 at h
  split at h
  · exact h
  · rename_i t x
    unfold ev2
    dsimp only
    cases hs : opd Γ F x with
    | none => simp [hs] at h
    | some s =>
      rw [hs] at h
      rw [hx x (by simp [Op.operands]) _ hs]
      exact h
  · rename_i t p x
    unfold ev2
    dsimp only
    cases hs : opd Γ F p with
    | none => simp [hs] at h
    | some s =>
      rw [hs] at h
      rw [hx p (by simp [Op.operands]) _ hs]
      simp only at *
      cases hq : opd Γ F x with
      | none => simp [hq] at h
      | some q =>
        rw [hq] at h
        rw [hx x (by simp [Op.operands]) _ hq]
        simp only at *
        cases hz : storeE P M t (core s) (core q) with
        | none => simp [hz] at h
        | some z =>
          rw [hz] at h
          rw [storeE_le hM hz]
          exact h
  · rename_i t n ps
    unfold ev2
    dsimp only
    cases hq : partsF Γ F ps with
    | none =>
      rw [hq] at h
      repeat' split at h
      all_goals first | (cases h; done) | (simp_all; done)
    | some l =>
      rw [partsF_le (fun y hy => hx y (by simpa [Op.operands] using hy)) hq]
      rw [hq] at h
      exact h
  · rename_i t l c
    unfold ev2
    dsimp only
    cases hl : opd Γ F l with
    | none =>
      rw [hl] at h
      repeat' split at h
      all_goals first | (cases h; done) | (simp_all; done)
    | some sl =>
      cases hc : opd Γ F c with
      | none =>
        rw [hc] at h
        repeat' split at h
        all_goals first | (cases h; done) | (simp_all; done)
      | some sc =>
        rw [hx l (by simp [Op.operands]) _ hl, hx c (by simp [Op.operands]) _ hc]
        rw [hl, hc] at h
        exact h
  · rename_i s x t t'
    unfold ev2
    dsimp only
    cases hl : opd Γ F s with
    | none => simp [hl] at h
    | some sl =>
      cases hc : opd Γ F x with
      | none => simp [hl, hc] at h
      | some sc =>
        rw [hx s (by simp [Op.operands, Call.operands]) _ hl, hx x (by simp [Op.operands, Call.operands]) _ hc]
        rw [hl, hc] at h
        split at h
        · rename_i ha hb hu
          split at h
          · cases h
          · cases h
          · rename_i hne hne2
            cases ha
            cases hb
            try simp only [hu]
            cases sc <;> first | exact appendE_le hM h | exact absurd rfl (hne _) | exact absurd rfl (hne2 _ _)
        · rename_i ha hb hu
          cases ha
          cases hb
          try simp only [hu]
          exact appendE_le hM h
        · rename_i ha hb hu
          cases ha
          cases hb
          try simp only [hu]
          exact appendE_le hM h
        · cases h
  · cases h
end
end Go.Proofs.YtpbgihhfcdggkaaGreatDoor.V
end
section
namespace Go.Proofs.YtpbgihhfcdggkaaGreatDoor.V
open Go.RowKit
structure Ent where
  j : Nat
  dst : Option Tmp
  val : Option SV
  nid : Option Nat
  ch : List (Nat × Option Blk)
  foot : List Nat
  all : Bool
def look : List (Nat × Option Blk) → Nat → Option (Option Blk)
  | [], _ => none
  | (i, B) :: r, k => match Nat.beq i k with
    | true => some B
    | false => look r k
mutual
def idsOf : SV → List Nat
  | .ptr id _ => [id]
  | .pel id _ _ _ _ => [id]
  | .row id _ _ _ _ => [id]
  | .bsl id _ => [id]
  | .may _ s => idsOf s
  | .agg l => idsL l
  | .tup l => idsL l
  | .fn _ l => idsL l
  | .mv _ l => idsL l
  | .ifc _ s => idsOf s
  | _ => []
def idsL : List SV → List Nat
  | [] => []
  | s :: r => idsOf s ++ idsL r
end
def footF (Γ : Glob) (F : Tr) : List Operand → List Nat
  | [] => []
  | x :: r => match opd Γ F x with
    | some s => idsOf s ++ footF Γ F r
    | none => footF Γ F r
def footO (Γ : Glob) (F : Tr) : Op → List Nat
  | .move _ => []
  | .assign _ => []
  | .fieldAddr _ _ _ => []
  | .nilCheck _ => []
  | op => footF Γ F op.operands.toList
def keep (M : Mem) : List Nat → Mem
  | [] => []
  | i :: r => match find M i with
    | some B => (i, B) :: keep M r
    | none => keep M r
def fN {α : Type} : List Nat → (List Nat → Option α) → Option α
  | [], K => K []
  | i :: r, K => fN r fun r' => K (i :: r')
theorem fN_eq {α : Type} : ∀ {l : List Nat} {K : List Nat → Option α}, fN l K = K l
  | [], _ => rfl
  | i :: r, K => by simp only [fN]; exact fN_eq
structure DRes where
  e : Ent
  F : Tr
  M : Mem
  ids : List Nat
  φ : List Prop
def odCh : Option Nat → List (Nat × Option Blk)
  | some d => [(d, none)]
  | none => []
def dstep (X : IntKind → Bool) (P : Program) (Γ : Glob) (N : Nat) (full : List Oper) (i : Nat) (o : Oper) (F : Tr) (M : Mem) (ids : List Nat) : Option DRes :=
  fN (footO Γ F o.op) fun foot =>
  match ev1 X P Γ F (keep M foot) o.op with
  | some (φ, v) => match o.guard with
    | none => fS v fun v' => putD N F o.dst (some v') fun F' => some ⟨⟨i, o.dst, some v', none, [], foot, false⟩, F', M, ids, φ⟩
    | some (j, want) => match guardH F full j want with
      | some H => fS v fun v' => putD N F o.dst (some (.may H v')) fun F' => some ⟨⟨i, o.dst, some (.may H v'), none, [], foot, false⟩, F', M, ids, φ.map (H → ·)⟩
      | none => none
  | none => match o.guard with
    | some _ => none
    | none => match ids with
      | [] => none
      | k :: ids' => match ev2 P Γ F (keep M foot) k o.op with
        | some (.new φ B v) => fB B fun B' => fS v fun v' => putD N F o.dst (some v') fun F' => some ⟨⟨i, o.dst, some v', some k, [(k, some B')], foot, false⟩, F', (k, B') :: M, ids', φ⟩
        | some (.upd φ id B none) => fB B fun B' => match upd M id B' with
          | some M' => fM M' fun M2 => putD N F o.dst none fun F' => some ⟨⟨i, o.dst, none, none, [(id, some B')], foot, false⟩, F', M2, k :: ids', φ⟩
          | none => none
        | some (.mov φ od B v) => fB B fun B' => fS v fun v' => fM (delO M od) fun M' => putD N F o.dst (some v') fun F' => some ⟨⟨i, o.dst, some v', some k, (k, some B') :: odCh od, foot, false⟩, F', (k, B') :: M', ids', φ⟩
        | _ => none
theorem keep_find {M : Mem} : ∀ {l : List Nat} {id : Nat} {B : Blk}, find (keep M l) id = some B → id ∈ l ∧ find M id = some B
  | [], id, B, h => by simp [keep, find] at h
  | i :: r, id, B, h => by
    simp only [keep] at h
    split at h
    · rename_i B' hB
      rw [find_cons] at h
      split at h
      · rename_i e
        subst e
        cases h
        exact ⟨List.mem_cons_self .., hB⟩
      · have := keep_find h
        exact ⟨List.mem_cons_of_mem _ this.1, this.2⟩
    · have := keep_find h
      exact ⟨List.mem_cons_of_mem _ this.1, this.2⟩
section
variable {X : IntKind → Bool} {C : Ctx} {Q0 : Exit → Act → World → Prop} {F F' F0 : Tr} {M M' M0 : Mem} {ids ids' ids1 : List Nat} {k : List Kont} {full : List Oper}
theorem St.ext {U U' : Nat → Prop} {E : Env} {a : Act} {w : World} (h : St C F M U E a w) (hF : ∀ t, F'.get t = F.get t) (hM : ∀ id, find M' id = find M id) (hU : ∀ k, U' k → U k) : St C F' M' U' E a w := by
  have hm : ∀ b, trk C.T0 M' E b ↔ trk C.T0 M E b := fun b => by simp [trk, mine, hM]
  have ht : trk C.T0 M' E = trk C.T0 M E := funext fun b => propext (hm b)
  exact ⟨h.defers, h.size, fun t s hs => by rw [ht]; exact h.slots t s (by rw [← hF]; exact hs), ⟨fun id B hf => by rw [ht]; exact h.mem.blk id B (by rw [← hM]; exact hf), fun id id' b h1 h2 => h.mem.inj id id' b (by rw [← hM]; exact h1) (by rw [← hM]; exact h2)⟩,
    fun id b hf => h.own id b (by rw [← hM]; exact hf), fun k hk => h.fresh k (hU k hk), h.kp, h.hid, by rw [ht]; exact h.glob, h.pin, by rw [ht]; exact h.held⟩
theorem St.putG {U : Nat → Prop} {E : Env} {a : Act} {w : World} (h : St C F M U E a w) {d : Option Tmp} {s : Option SV} {v : Value} (hd : ∀ k, d = some k → k < C.N) (hF : ∀ t, F'.get t = if d = some t then s else F.get t)
    (hr : ∀ s', s = some s' → Rep E (trk C.T0 M E) w s' v) : St C F' M U E (a.put d v) w := by
  cases d with
  | none => exact h.ext (fun t => by simpa using hF t) (fun _ => rfl) (fun _ h => h)
  | some d =>
    refine ⟨h.defers, by simp [Act.put, h.size], fun t s' hs => ?_, h.mem, h.own, h.fresh, h.kp, h.hid, h.glob, h.pin, h.held⟩
    rw [getD_put h.size (hd d rfl)]
    rw [hF] at hs
    split at hs
    · rename_i e
      cases e
      rw [if_pos rfl]
      exact hr s' hs
    · rename_i e
      rw [if_neg fun e' => e (by rw [e'])]
      exact h.slots t s' hs
theorem putD_get {N : Nat} {d : Option Tmp} {v : Option SV} (h : (d = none ∧ F' = F) ∨ ∃ k, d = some k ∧ Nat.blt k N = true ∧ F.put k v = some F') : (∀ k, d = some k → k < N) ∧ ∀ t, F'.get t = if d = some t then v else F.get t := by
  rcases h with ⟨rfl, rfl⟩ | ⟨k, rfl, h1, h2⟩
  · exact ⟨fun k hk => (by cases hk), fun t => by simp⟩
  · refine ⟨fun k' hk => by cases hk; simpa using h1, fun t => ?_⟩
    rw [Tr.get_put F F' k v h2]
    by_cases e : t = k
    · subst e; simp
    · rw [if_neg e, if_neg fun e' => e (by cases e'; rfl)]
def OpOk (C : Ctx) (full : List Oper) (o : Oper) (e : Ent) (g : Nat → Option SV) (m : Nat → Option Blk) : Prop :=
  ∀ (Q : Exit → Act → World → Prop) (K : Act → World → Prop) (F : Tr) (M : Mem) (U : Nat → Prop) (E : Env) (a : Act) (w : World),
    (∀ t ∈ o.looksAt full.toArray, F.get t = g t) → (∀ id ∈ e.foot, find M id = m id) → (e.all = true → (∀ t, F.get t = g t) ∧ ∀ id, find M id = m id) → (∀ k, e.nid = some k → U k) → St C F M U E a w →
    (∀ F' M' U' E' a' w', (∀ t, F'.get t = if o.dst = some t then e.val else F.get t) → (∀ id, find M' id = (look e.ch id).getD (find M id)) → (∀ k, U' k ↔ U k ∧ e.nid ≠ some k) → St C F' M' U' E' a' w' → K a' w') →
    wpOp C.P full.toArray Q e.j K a w
theorem looks_op {o : Oper} {t : Nat} (h : Operand.tmp t ∈ o.op.operands.toList) : t ∈ o.looksAt full.toArray :=
  List.mem_append_left _ (List.mem_filterMap.2 ⟨_, h, rfl⟩)
theorem looks_le {o : Oper} {g : Nat → Option SV} (h : ∀ t ∈ o.looksAt full.toArray, F'.get t = g t) (hg : ∀ t, g t = F.get t) : OLe C.Γ F F' o.op.operands.toList := fun x hx s hs => by
  cases x with
  | tmp t => exact (h t (looks_op hx)).trans ((hg t).trans hs)
  | _ => exact hs
theorem foot_le {l : List Nat} {m : Nat → Option Blk} (h : ∀ id ∈ l, find M' id = m id) (hm : ∀ id, m id = find M id) : MLe (keep M l) M' := fun id B hf => by
  obtain ⟨h1, h2⟩ := keep_find hf
  rw [h id h1, hm, h2]
theorem wpOp_plain {o : Oper} {i : Nat} {Q : Exit → Act → World → Prop} {K : Act → World → Prop} {a : Act} {w : World} (hi : full[i]? = some o) (hg : o.guard = none) (h : o.wp C.P a w K Q) : wpOp C.P full.toArray Q i K a w := by
  unfold wpOp
  simp only [List.getElem?_toArray, hi]
  simp only [Region.wanted, hg, if_true]
  exact .inl h
def trOf : Nat → (Nat → Option SV) → Tr
  | 0, _ => .e
  | d + 1, g => .n (trOf d fun k => g (2 * k + 1)) (g 0) (trOf d fun k => g (2 * k + 2))
theorem trOf_get : ∀ (d : Nat) (g : Nat → Option SV) (t : Nat), t + 1 < 2 ^ d → (trOf d g).get t = g t
  | 0, g, t, h => by simp at h
  | d + 1, g, 0, h => rfl
  | d + 1, g, t + 1, h => by
    simp only [trOf, Tr.get]
    have hp : 2 ^ (d + 1) = 2 * 2 ^ d := by rw [Nat.pow_succ, Nat.mul_comm]
    cases hb : Nat.beq (Nat.mod t 2) 0 with
    | true =>
      have h2 := par_t hb
      simp only
      rw [trOf_get d _ _ (by show t / 2 + 1 < _; omega)]
      show g (2 * (t / 2) + 1) = _
      congr 1
      omega
    | false =>
      have h2 := par_f hb
      simp only
      rw [trOf_get d _ _ (by show t / 2 + 1 < _; omega)]
      show g (2 * (t / 2) + 2) = _
      congr 1
      omega
theorem tr_any (g : Nat → Option SV) (N : Nat) (hg : ∀ t, N ≤ t → g t = none) : ∃ F : Tr, ∀ t, F.get t = g t := by
  have key : ∀ (d : Nat) (g : Nat → Option SV) (t : Nat), 2 ^ d ≤ t + 1 → (trOf d g).get t = none := by
    intro d
    induction d with
    | zero => intro g t _; rfl
    | succ d ih =>
      intro g t ht
      have hp : 2 ^ (d + 1) = 2 * 2 ^ d := by rw [Nat.pow_succ, Nat.mul_comm]
      have h1 : 0 < 2 ^ d := Nat.pow_pos (by omega)
      cases t with
      | zero => omega
      | succ t =>
        simp only [trOf, Tr.get]
        cases hb : Nat.beq (Nat.mod t 2) 0 with
        | true => have h2 := par_t hb; exact ih _ _ (by show _ ≤ t / 2 + 1; omega)
        | false => have h2 := par_f hb; exact ih _ _ (by show _ ≤ t / 2 + 1; omega)
  refine ⟨trOf (N + 1) g, fun t => ?_⟩
  have hlt : N < 2 ^ N := Nat.lt_two_pow_self
  have hp : 2 ^ (N + 1) = 2 * 2 ^ N := by rw [Nat.pow_succ, Nat.mul_comm]
  by_cases h : t + 1 < 2 ^ (N + 1)
  · exact trOf_get _ _ _ h
  · rw [key _ _ _ (by omega), hg t (by omega)]
theorem Tr.bound : ∀ F : Tr, ∃ N, ∀ t, N ≤ t → F.get t = none
  | .e => ⟨0, fun _ _ => rfl⟩
  | .n l x r => by
    obtain ⟨n1, h1⟩ := Tr.bound l
    obtain ⟨n2, h2⟩ := Tr.bound r
    refine ⟨2 * (n1 + n2) + 3, fun t ht => ?_⟩
    cases t with
    | zero => omega
    | succ t =>
      simp only [Tr.get]
      cases hb : Nat.beq (Nat.mod t 2) 0 with
      | true => exact h1 _ (by show _ ≤ t / 2; omega)
      | false => exact h2 _ (by show _ ≤ t / 2; omega)
theorem tr_put (F : Tr) (d : Option Tmp) (s : Option SV) : ∃ F' : Tr, ∀ t, F'.get t = if d = some t then s else F.get t := by
  obtain ⟨n, hn⟩ := Tr.bound F
  refine tr_any _ (max n ((d.getD 0) + 1)) fun t ht => ?_
  rw [if_neg, hn t (by omega)]
  intro e
  subst e
  simp at ht
  omega
theorem appendE_upd {nx : Nat} {t : TypeId} {s x : SV} {φ : List Prop} {id : Nat} {B : Blk} {v : Option SV} : appendE C.P M nx t s x ≠ some (.upd φ id B v) := fun h => by
  unfold appendE at h
  repeat' split at h
  all_goals simp at h
theorem ev2_upd {U : Nat → Prop} {E : Env} {a : Act} {w : World} (h : St C F M U E a w) {nx : Nat} {o : Oper} {φ : List Prop} {id : Nat} {B : Blk} (he : ev2 C.P C.Γ F M nx o.op = some (.upd φ id B none)) (hφ : All φ) :
    ∃ M' w', upd M id B = some M' ∧ (execOp a.eval o).run C.P w = .ok .skip w' ∧ St C F M' U E a w' := by
  generalize ho : o.op = op at he
  unfold ev2 at he
  split at he
  case h_3 =>
    split at he
    · rename_i sp hsp
      split at he
      · rename_i s hs
        split at he
        · rename_i hst
          simp only [Option.some.injEq, Eff.upd.injEq] at he
          obtain ⟨rfl, rfl, rfl, rfl⟩ := he
          obtain ⟨h5, h2⟩ := hφ.app
          obtain ⟨h3, h4⟩ := h5.app
          exact store_ok h (condOf_all h3 (opd_rep h.vw hsp)) (condOf_all h4 (opd_rep h.vw hs)) hst h2 ho
        · cases he
      · cases he
    · cases he
  all_goals (repeat' split at he)
  all_goals first | (exfalso; exact appendE_upd he) | (simp at he; done)
theorem dstep_ok {o : Oper} {i : Nat} {r : DRes} (hi : full[i]? = some o) (h : dstep X C.P C.Γ C.N full i o F M ids = some r) (hφ : All r.φ) :
    OpOk C full o r.e F.get (find M) ∧ r.e.j = i ∧ r.e.dst = o.dst ∧ (∀ t, r.F.get t = if o.dst = some t then r.e.val else F.get t) ∧ (∀ id, find r.M id = (look r.e.ch id).getD (find M id)) ∧ ids = r.e.nid.toList ++ r.ids := by
  unfold dstep at h
  rw [fN_eq] at h
  split at h
  · rename_i φ v hv
    split at h
    · rename_i hg
      rw [fS_eq] at h
      obtain ⟨F', h1, h2⟩ := putD_inv h
      simp at h1
      subst h1
      obtain ⟨p1, p2⟩ := putD_get h2
      refine ⟨fun Q K Fa Ma U E a w q1 q2 _ q3 hst hK => ?_, rfl, rfl, p2, fun id => rfl, rfl⟩
      obtain ⟨x, hx, hrun⟩ := ev1_run hst.vw (ev1_le (looks_le q1 fun _ => rfl) (foot_le q2 fun _ => rfl) hv) hφ
      obtain ⟨F2, hF2⟩ := tr_put Fa o.dst (some v)
      refine wpOp_plain hi hg ?_
      unfold Oper.wp
      rw [hrun w (Below.refl _ _) o rfl]
      exact hK F2 Ma U E _ w hF2 (fun id => rfl) (fun k => by simp) (hst.putG p1 hF2 fun s' hs' => by cases hs'; exact hx)
    · rename_i j want hg
      split at h
      · rename_i H hH
        rw [fS_eq] at h
        obtain ⟨F', h1, h2⟩ := putD_inv h
        simp at h1
        subst h1
        obtain ⟨p1, p2⟩ := putD_get h2
        refine ⟨fun Q K Fa Ma U E a w q1 q2 _ q3 hst hK => ?_, rfl, rfl, p2, fun id => rfl, rfl⟩
        have hH' : guardH Fa full j want = some H := by
          unfold guardH at hH ⊢
          split at hH
          · rename_i d hd
            rw [dstOf_eq] at hd
            have : d ∈ o.looksAt full.toArray := List.mem_append_right _ (by simp only [hg]; simp only [List.getElem?_toArray, hd]; simp)
            rw [← dstOf_eq] at hd
            rw [q1 d this]
            exact hH
          · cases hH
        have hiff := guardH_ok (full := full) hst hH'
        unfold wpOp
        simp only [List.getElem?_toArray, hi]
        by_cases hy : (yielded full.toArray a.tmps j == some want) = true
        · have hh := hiff.1 hy
          simp only [Region.wanted, hg, hy, if_true]
          obtain ⟨x, hx, hrun⟩ := ev1_run hst.vw (ev1_le (looks_le q1 fun _ => rfl) (foot_le q2 fun _ => rfl) hv) (All.imp hφ hh)
          obtain ⟨F2, hF2⟩ := tr_put Fa o.dst (some (.may H v))
          left
          unfold Oper.wp
          rw [hrun w (Below.refl _ _) o rfl]
          exact hK F2 Ma U E _ w hF2 (fun id => rfl) (fun k => by simp) (hst.putG p1 hF2 fun s' hs' => by cases hs'; exact .may1 _ _ _ hh hx)
        · have hh : ¬ H := fun hh => hy (hiff.2 hh)
          simp only [Region.wanted, hg, hy]
          obtain ⟨F2, hF2⟩ := tr_put Fa o.dst (some (.may H v))
          exact hK F2 Ma U E _ w hF2 (fun id => rfl) (fun k => by simp) (hst.putG p1 hF2 fun s' hs' => by cases hs'; exact .may0 _ _ hh)
      · cases h
  · split at h
    · cases h
    · rename_i hg
      split at h
      · cases h
      · rename_i k ids'
        split at h
        · rename_i φ B v hv
          rw [fB_eq, fS_eq] at h
          obtain ⟨F', h1, h2⟩ := putD_inv h
          simp at h1
          subst h1
          obtain ⟨p1, p2⟩ := putD_get h2
          refine ⟨fun Q K Fa Ma U E a w q1 q2 _ q3 hst hK => ?_, rfl, rfl, p2, fun id => ?_, rfl⟩
          · obtain ⟨x, E', w', hrun, hx, hst'⟩ := ev2_run hst (q3 k rfl) (ev2_le (looks_le q1 fun _ => rfl) (foot_le q2 fun _ => rfl) hv) rfl hφ
            obtain ⟨F2, hF2⟩ := tr_put Fa o.dst (some v)
            refine wpOp_plain hi hg ?_
            unfold Oper.wp
            rw [hrun]
            refine hK F2 _ _ E' _ w' hF2 (fun id => ?_) (fun q => ?_) (hst'.putG p1 hF2 fun s' hs' => by cases hs'; exact hx)
            · rw [find_cons]
              simp only [look]
              split
              · rename_i e; subst e; simp
              · rename_i e; rw [show Nat.beq k id = false from by cases hq : Nat.beq k id with | true => exact absurd (Nat.eq_of_beq_eq_true hq).symm e | false => rfl]; rfl
            · simp only [rest, ne_eq, Option.some.injEq]
              exact ⟨fun ⟨z1, z2⟩ => ⟨z1, fun z => z2 z.symm⟩, fun ⟨z1, z2⟩ => ⟨z1, fun z => z2 z.symm⟩⟩
          · rw [find_cons]
            simp only [look]
            split
            · rename_i e; subst e; simp
            · rename_i e; rw [show Nat.beq k id = false from by cases hq : Nat.beq k id with | true => exact absurd (Nat.eq_of_beq_eq_true hq).symm e | false => rfl]; rfl
        · rename_i φ id0 B hv
          rw [fB_eq] at h
          split at h
          · rename_i M1 hM1
            rw [fM_eq] at h
            obtain ⟨F', h1, h2⟩ := putD_inv h
            simp at h1
            subst h1
            obtain ⟨p1, p2⟩ := putD_get h2
            have hlook : ∀ (Mx My : Mem) (_ : upd Mx id0 B = some My) (id : Nat), find My id = (look [(id0, some B)] id).getD (find Mx id) := fun Mx My hu id => by
              rw [find_upd hu]
              simp only [look]
              split
              · rename_i e; subst e; simp
              · rename_i e; rw [show Nat.beq id0 id = false from by cases hq : Nat.beq id0 id with | true => exact absurd (Nat.eq_of_beq_eq_true hq).symm e | false => rfl]; rfl
            refine ⟨fun Q K Fa Ma U E a w q1 q2 _ q3 hst hK => ?_, rfl, rfl, p2, hlook _ _ hM1, rfl⟩
            obtain ⟨M2, w', hM2, hrun, hst'⟩ := ev2_upd hst (ev2_le (looks_le q1 fun _ => rfl) (foot_le q2 fun _ => rfl) hv) hφ
            obtain ⟨F2, hF2⟩ := tr_put Fa o.dst none
            refine wpOp_plain hi hg ?_
            unfold Oper.wp
            rw [hrun]
            exact hK F2 M2 U E _ w' hF2 (hlook _ _ hM2) (fun k => by simp) (hst'.putG p1 hF2 fun s' hs' => by cases hs')
          · cases h
        · rename_i φ od B v hv
          rw [fB_eq, fS_eq, fM_eq] at h
          obtain ⟨F', h1, h2⟩ := putD_inv h
          simp at h1
          subst h1
          obtain ⟨p1, p2⟩ := putD_get h2
          have hlook : ∀ (Mx : Mem) (id : Nat), find ((k, B) :: delO Mx od) id = (look ((k, some B) :: odCh od) id).getD (find Mx id) := fun Mx id => by
            rw [find_cons]
            simp only [look]
            split
            · rename_i e; subst e; simp
            · rename_i e
              rw [show Nat.beq k id = false from by cases hq : Nat.beq k id with | true => exact absurd (Nat.eq_of_beq_eq_true hq).symm e | false => rfl]
              cases od with
              | none => rfl
              | some d =>
                simp only [delO, odCh, look, find_del]
                split
                · rename_i e; subst e; simp
                · rename_i e; rw [show Nat.beq d id = false from by cases hq : Nat.beq d id with | true => exact absurd (Nat.eq_of_beq_eq_true hq).symm e | false => rfl]; rfl
          refine ⟨fun Q K Fa Ma U E a w q1 q2 _ q3 hst hK => ?_, rfl, rfl, p2, hlook M, rfl⟩
          obtain ⟨x, E', w', hrun, hx, hst'⟩ := ev2_run hst (q3 k rfl) (ev2_le (looks_le q1 fun _ => rfl) (foot_le q2 fun _ => rfl) hv) rfl hφ
          obtain ⟨F2, hF2⟩ := tr_put Fa o.dst (some v)
          refine wpOp_plain hi hg ?_
          unfold Oper.wp
          rw [hrun]
          refine hK F2 _ _ E' _ w' hF2 (hlook Ma) (fun q => ?_) (hst'.putG p1 hF2 fun s' hs' => by cases hs'; exact hx)
          simp only [rest, ne_eq, Option.some.injEq]
          exact ⟨fun ⟨z1, z2⟩ => ⟨z1, fun z => z2 z.symm⟩, fun ⟨z1, z2⟩ => ⟨z1, fun z => z2 z.symm⟩⟩
        · cases h
end
end Go.Proofs.YtpbgihhfcdggkaaGreatDoor.V
end
section
namespace Go.Proofs.YtpbgihhfcdggkaaGreatDoor.V
open Go.RowKit
def pmStep (acc : List (List Nat)) : List Edge → List Nat
  | [] => []
  | e :: r => match Region.binds .any e with
    | true => e.on :: (acc.getD e.on [] ++ pmStep acc r)
    | false => pmStep acc r
def dedup : List Nat → List Nat → List Nat
  | [], acc => acc
  | i :: r, acc => match acc.elem i with
    | true => dedup r acc
    | false => dedup r (i :: acc)
def pmsOf : List Oper → List (List Nat) → List (List Nat)
  | [], acc => acc
  | o :: r, acc => pmsOf r (acc ++ [dedup (pmStep acc o.after.toList) []])
def subB : List Nat → List Nat → Bool
  | [], _ => true
  | i :: r, l => l.elem i && subB r l
def waitB (full : List Oper) (pms : List (List Nat)) : Nat → Bool
  | 0 => true
  | i + 1 => waitB full pms i && match full[i]?, pms[i]? with
    | some o, some m => (o.after.toList.all fun e => !Region.binds .any e || Nat.blt e.on i) && subB m (pmStep pms o.after.toList)
    | _, _ => false
def opB (full : List Oper) (pms : List (List Nat)) (i : Nat) (o : Oper) (m : List Nat) : Nat → Bool
  | 0 => true
  | j + 1 => opB full pms i o m j && (Nat.beq i j || match full[j]?, pms[j]? with
    | some o', some m' => (match o'.dst with
      | some t => (!((o.looksAt full.toArray).elem t) && o.dst != some t) || m.elem j || m'.elem i
      | none => true)
    | _, _ => false)
def slotB (full : List Oper) (pms : List (List Nat)) : Nat → Bool
  | 0 => true
  | i + 1 => slotB full pms i && match full[i]?, pms[i]? with
    | some o, some m => opB full pms i o m full.length
    | _, _ => false
def disj : List Nat → List Nat → Bool
  | [], _ => true
  | i :: r, l => !(l.elem i) && disj r l
def wrs : List (Nat × Option Blk) → List Nat
  | [] => []
  | (i, _) :: r => i :: wrs r
def apartB (e e' : Ent) : Bool := disj (wrs e.ch) e'.foot && disj (wrs e'.ch) e.foot && disj (wrs e.ch) (wrs e'.ch) && !(e.all || e'.all)
def pairB (m : List Nat) (e : Ent) : List Ent → Bool
  | [] => true
  | e' :: r => (apartB e e' || m.elem e'.j) && pairB m e r
def pairsB (pms : List (List Nat)) : List Ent → Bool
  | [] => true
  | e :: r => pairB (pms.getD e.j []) e r && pairsB pms r
def drawnB (full : List Oper) (pms : List (List Nat)) (hist : List Ent) : Bool :=
  waitB full pms full.length && slotB full pms full.length && pairsB pms hist
theorem subB_mem : ∀ {l l' : List Nat}, subB l l' = true → ∀ i ∈ l, i ∈ l'
  | [], _, _, i, hi => by cases hi
  | j :: r, l', h, i, hi => by
    simp only [subB, Bool.and_eq_true] at h
    rcases List.mem_cons.1 hi with rfl | hi
    · simpa using h.1
    · exact subB_mem h.2 i hi
theorem pmStep_mem {acc : List (List Nat)} : ∀ {l : List Edge} {t : Nat}, t ∈ pmStep acc l → ∃ e ∈ l, Region.binds .any e = true ∧ (t = e.on ∨ t ∈ acc.getD e.on [])
  | [], t, h => by cases h
  | e :: r, t, h => by
    simp only [pmStep] at h
    split at h
    · rename_i hb
      rcases List.mem_cons.1 h with rfl | h
      · exact ⟨e, List.mem_cons_self .., hb, .inl rfl⟩
      · rcases List.mem_append.1 h with h | h
        · exact ⟨e, List.mem_cons_self .., hb, .inr h⟩
        · obtain ⟨e', h1, h2⟩ := pmStep_mem h
          exact ⟨e', List.mem_cons_of_mem _ h1, h2⟩
    · obtain ⟨e', h1, h2⟩ := pmStep_mem h
      exact ⟨e', List.mem_cons_of_mem _ h1, h2⟩
theorem waitB_at {full : List Oper} {pms : List (List Nat)} : ∀ {n : Nat}, waitB full pms n = true → ∀ i, i < n → ∃ o m, full[i]? = some o ∧ pms[i]? = some m ∧ (∀ e ∈ o.after, Region.binds .any e = true → e.on < i) ∧ ∀ t ∈ m, ∃ e ∈ o.after, Region.binds .any e = true ∧ (t = e.on ∨ t ∈ pms.getD e.on [])
  | 0, _, i, hi => by omega
  | n + 1, h, i, hi => by
    simp only [waitB, Bool.and_eq_true] at h
    by_cases hin : i = n
    · subst hin
      have h2 := h.2
      split at h2
      · rename_i o m ho hm
        simp only [Bool.and_eq_true] at h2
        refine ⟨o, m, ho, hm, fun e he hb => ?_, fun t ht => ?_⟩
        · have := List.all_eq_true.1 h2.1 e (by simpa using he)
          simp only [hb, Bool.not_true, Bool.false_or] at this
          simpa using this
        · obtain ⟨e, h3, h4⟩ := pmStep_mem (subB_mem h2.2 t ht)
          exact ⟨e, by simpa using h3, h4⟩
      · cases h2
    · exact waitB_at h.1 i (by omega)
theorem opB_at {full : List Oper} {pms : List (List Nat)} {i : Nat} {o : Oper} {m : List Nat} : ∀ {n : Nat}, opB full pms i o m n = true → ∀ j, j < n → i ≠ j → ∃ o' m', full[j]? = some o' ∧ pms[j]? = some m' ∧ ∀ t, o'.dst = some t → (t ∈ o.looksAt full.toArray ∨ o.dst = some t) → j ∈ m ∨ i ∈ m'
  | 0, _, j, hj, _ => by omega
  | n + 1, h, j, hj, hne => by
    simp only [opB, Bool.and_eq_true, Bool.or_eq_true] at h
    by_cases hjn : j = n
    · subst hjn
      rcases h.2 with h2 | h2
      · exact absurd (Nat.eq_of_beq_eq_true h2) hne
      · split at h2
        · rename_i o' m' ho hm
          refine ⟨o', m', ho, hm, fun t ht hl => ?_⟩
          rw [ht] at h2
          simp only [Bool.or_eq_true, Bool.and_eq_true, Bool.not_eq_true', List.elem_eq_contains, List.contains_eq_mem, decide_eq_false_iff_not, decide_eq_true_eq, bne_iff_ne, ne_eq] at h2
          rcases h2 with (h2 | h2) | h2
          · rcases hl with hl | hl
            · exact absurd hl h2.1
            · exact absurd hl h2.2
          · exact .inl h2
          · exact .inr h2
        · cases h2
    · exact opB_at h.1 j (by omega) hne
theorem slotB_at {full : List Oper} {pms : List (List Nat)} : ∀ {n : Nat}, slotB full pms n = true → ∀ i, i < n → ∃ o m, full[i]? = some o ∧ pms[i]? = some m ∧ opB full pms i o m full.length = true
  | 0, _, i, hi => by omega
  | n + 1, h, i, hi => by
    simp only [slotB, Bool.and_eq_true] at h
    by_cases hin : i = n
    · subst hin
      have h2 := h.2
      split at h2
      · rename_i o m ho hm
        exact ⟨o, m, ho, hm, h2⟩
      · cases h2
    · exact slotB_at h.1 i (by omega)
theorem disj_mem : ∀ {l l' : List Nat}, disj l l' = true → ∀ i ∈ l, i ∉ l'
  | [], _, _, i, hi => by cases hi
  | j :: r, l', h, i, hi => by
    simp only [disj, Bool.and_eq_true] at h
    rcases List.mem_cons.1 hi with rfl | hi
    · simpa using h.1
    · exact disj_mem h.2 i hi
theorem wrs_look : ∀ {l : List (Nat × Option Blk)} {i : Nat}, (look l i).isSome = true → i ∈ wrs l
  | [], i, h => by simp [look] at h
  | (j, B) :: r, i, h => by
    simp only [look] at h
    split at h
    · rename_i hb
      rw [Nat.eq_of_beq_eq_true hb]
      exact List.mem_cons_self ..
    · exact List.mem_cons_of_mem _ (wrs_look h)
theorem pairB_at {m : List Nat} {e : Ent} : ∀ {l : List Ent}, pairB m e l = true → ∀ e' ∈ l, apartB e e' = true ∨ e'.j ∈ m
  | [], _, e', he => by cases he
  | e1 :: r, h, e', he => by
    simp only [pairB, Bool.and_eq_true, Bool.or_eq_true] at h
    rcases List.mem_cons.1 he with rfl | he
    · exact h.1.imp id fun h => by simpa using h
    · exact pairB_at h.2 e' he
section
variable {X : IntKind → Bool} {C : Ctx} {Q0 : Exit → Act → World → Prop} {F F' F0 : Tr} {M M' M0 : Mem} {ids ids' ids1 : List Nat} {k : List Kont} {full : List Oper}
def gF (F0 : Tr) (L : Nat → Bool) : List Ent → Nat → Option SV
  | [], t => F0.get t
  | e :: r, t => if L e.j = true ∧ e.dst = some t then e.val else gF F0 L r t
def gM (M0 : Mem) (L : Nat → Bool) : List Ent → Nat → Option Blk
  | [], id => find M0 id
  | e :: r, id => if L e.j = true then (look e.ch id).getD (gM M0 L r id) else gM M0 L r id
theorem gF_congr {L L' : Nat → Bool} {t : Nat} : ∀ {h : List Ent}, (∀ e ∈ h, e.dst = some t → L e.j = L' e.j) → gF F0 L h t = gF F0 L' h t
  | [], _ => rfl
  | e :: r, hc => by
    simp only [gF]
    rw [gF_congr fun e' he' => hc e' (List.mem_cons_of_mem _ he')]
    by_cases hd : e.dst = some t
    · rw [hc e (List.mem_cons_self ..) hd]
    · simp [hd]
theorem gM_congr {L L' : Nat → Bool} {id : Nat} : ∀ {h : List Ent}, (∀ e ∈ h, (look e.ch id).isSome = true → L e.j = L' e.j) → gM M0 L h id = gM M0 L' h id
  | [], _ => rfl
  | e :: r, hc => by
    simp only [gM]
    rw [gM_congr fun e' he' => hc e' (List.mem_cons_of_mem _ he')]
    cases hl : look e.ch id with
    | some B => rw [hc e (List.mem_cons_self ..) (by simp [hl])]
    | none => simp
theorem gF_skip {L : Nat → Bool} {t : Nat} : ∀ {h : List Ent} {r : List Ent}, (∀ e ∈ h, L e.j = false) → gF F0 L (h ++ r) t = gF F0 L r t
  | [], _, _ => rfl
  | e :: h, r, hc => by
    simp only [List.cons_append, gF, hc e (List.mem_cons_self ..)]
    simpa using gF_skip fun e' he' => hc e' (List.mem_cons_of_mem _ he')
theorem gM_skip {L : Nat → Bool} {id : Nat} : ∀ {h : List Ent} {r : List Ent}, (∀ e ∈ h, L e.j = false) → gM M0 L (h ++ r) id = gM M0 L r id
  | [], _, _ => rfl
  | e :: h, r, hc => by
    simp only [List.cons_append, gM, hc e (List.mem_cons_self ..)]
    simpa using gM_skip fun e' he' => hc e' (List.mem_cons_of_mem _ he')
abbrev all1 : Nat → Bool := fun _ => true
inductive HOk (C : Ctx) (full : List Oper) (F0 : Tr) (M0 : Mem) : List Ent → Prop
  | nil : HOk C full F0 M0 []
  | cons {h : List Ent} {e : Ent} {o : Oper} : HOk C full F0 M0 h → full[h.length]? = some o → e.j = h.length → e.dst = o.dst → OpOk C full o e (gF F0 all1 h) (gM M0 all1 h) → HOk C full F0 M0 (e :: h)
theorem HOk.lt : ∀ {h : List Ent}, HOk C full F0 M0 h → ∀ e ∈ h, e.j < h.length
  | _, .nil, e, he => by cases he
  | _, .cons hh _ hj _ _, e, he => by
    rcases List.mem_cons.1 he with rfl | he
    · simp [hj]
    · have := hh.lt e he
      simp only [List.length_cons]
      omega
theorem HOk.split : ∀ {h : List Ent}, HOk C full F0 M0 h → ∀ i, i < h.length → ∃ l e r o, h = l ++ e :: r ∧ r.length = i ∧ full[i]? = some o ∧ e.j = i ∧ e.dst = o.dst ∧ OpOk C full o e (gF F0 all1 r) (gM M0 all1 r) ∧ (∀ e' ∈ l, i < e'.j) ∧ ∀ e' ∈ r, e'.j < i
  | _, .nil, i, hi => by simp at hi
  | _, .cons (h := h) (e := e) (o := o) hh ho hj hd hok, i, hi => by
    by_cases hin : i = h.length
    · subst hin
      exact ⟨[], e, h, o, rfl, rfl, ho, hj, hd, hok, fun e' he' => (by cases he'), hh.lt⟩
    · obtain ⟨l, e1, r, o1, h1, h2, h3, h4, h5, h6, h7, h8⟩ := hh.split i (by simp only [List.length_cons] at hi; omega)
      refine ⟨e :: l, e1, r, o1, by rw [h1]; rfl, h2, h3, h4, h5, h6, fun e' he' => ?_, h8⟩
      rcases List.mem_cons.1 he' with rfl | he'
      · simp only [List.length_cons] at hi
        omega
      · exact h7 e' he'
theorem pairs_at {pms : List (List Nat)} : ∀ {l r : List Ent} {e : Ent}, pairsB pms (l ++ e :: r) = true → (∀ e' ∈ r, apartB e e' = true ∨ e'.j ∈ pms.getD e.j []) ∧ ∀ e' ∈ l, apartB e' e = true ∨ e.j ∈ pms.getD e'.j []
  | [], _, _, h => by
    simp only [List.nil_append, pairsB, Bool.and_eq_true] at h
    exact ⟨pairB_at h.1, fun e' he' => by cases he'⟩
  | e1 :: l, r, e, h => by
    simp only [List.cons_append, pairsB, Bool.and_eq_true] at h
    obtain ⟨h1, h2⟩ := pairs_at h.2
    refine ⟨h1, fun e' he' => ?_⟩
    rcases List.mem_cons.1 he' with rfl | he'
    · exact pairB_at h.1 e (by simp)
    · exact h2 e' he'
theorem Sup.mono : ∀ {l : List Nat} {U U' : Nat → Prop}, (∀ k, U k → U' k) → Sup l U → Sup l U'
  | [], _, _, _, _ => trivial
  | i :: _, _, _, h, hs => ⟨h i hs.1, Sup.mono (fun k hk => ⟨h k hk.1, hk.2⟩) hs.2⟩
theorem Sup.app : ∀ {l l' : List Nat} {U : Nat → Prop}, Sup (l ++ l') U → (∀ i ∈ l, U i) ∧ l.Nodup ∧ Sup l' fun k => U k ∧ k ∉ l
  | [], l', U, h => ⟨fun i hi => (by cases hi), List.nodup_nil, h.mono fun k hk => ⟨hk, by simp⟩⟩
  | i :: r, l', U, h => by
    obtain ⟨h1, h2, h3⟩ := Sup.app h.2
    refine ⟨fun j hj => ?_, List.nodup_cons.2 ⟨fun hi => (h1 i hi).2 rfl, h2⟩, h3.mono fun k hk => ⟨hk.1.1, ?_⟩⟩
    · rcases List.mem_cons.1 hj with rfl | hj
      · exact h.1
      · exact (h1 j hj).1
    · simp only [List.mem_cons, not_or]
      exact ⟨hk.1.2, hk.2⟩
def unl (L : Nat → Bool) : Nat → Nat
  | 0 => 0
  | n + 1 => unl L n + (if L n = true then 0 else 1)
theorem off_both {listed : Array Bool} {i : Nat} (h : listed.getD i true = false) : listed.getD i false = false := by
  rcases Nat.lt_or_ge i listed.size with h' | h'
  · simp [h'] at h ⊢; exact h
  · simp [Array.getElem?_eq_none h'] at h
theorem unl_zero {L : Nat → Bool} : ∀ {n : Nat}, unl L n = 0 → ∀ i, i < n → L i = true
  | 0, _, i, hi => by omega
  | n + 1, h, i, hi => by
    simp only [unl] at h
    by_cases hin : i = n
    · subst hin
      split at h
      · assumption
      · omega
    · exact unl_zero (Nat.add_eq_zero_iff.1 h).1 i (by omega)
theorem unl_same {L L' : Nat → Bool} : ∀ {n : Nat}, (∀ j, j < n → L' j = L j) → unl L' n = unl L n
  | 0, _ => rfl
  | n + 1, h => by
    have h1 := unl_same (n := n) fun j hj => h j (by omega)
    simp only [unl, h n (by omega), h1]
theorem unl_set {L L' : Nat → Bool} {i : Nat} (h0 : L i = false) (h1 : L' i = true) (h2 : ∀ j, j ≠ i → L' j = L j) : ∀ {n : Nat}, i < n → unl L n = unl L' n + 1
  | 0, hi => by omega
  | n + 1, hi => by
    simp only [unl]
    by_cases hin : i = n
    · subst hin
      rw [unl_same (L := L) fun j hj => h2 j (by omega), h0, h1]
      simp
    · rw [unl_set h0 h1 h2 (by omega), h2 n (by omega)]
      omega
theorem getD_of {pms : List (List Nat)} {i : Nat} {m : List Nat} (h : pms[i]? = some m) : pms.getD i [] = m := by simp [List.getD_eq_getElem?_getD, h]
theorem drawn_core {pms : List (List Nat)} {hist : List Ent} {ids0 : List Nat} {U0 : Nat → Prop} {Q : Exit → Act → World → Prop} (hh : HOk C full F0 M0 hist) (hlen : hist.length = full.length) (hB : drawnB full pms hist = true)
    (hids : ids0 = hist.reverse.filterMap (·.nid) ++ ids1) (hsup : Sup ids0 U0)
    (hfin : ∀ F M U E a w, (∀ t, F.get t = gF F0 all1 hist t) → (∀ id, find M id = gM M0 all1 hist id) → Sup ids1 U → St C F M U E a w → Q .normal a w) :
    ∀ (fuel : Nat) (listed : Array Bool) (F : Tr) (M : Mem) (U : Nat → Prop) (E : Env) (a : Act) (w : World), listed.size = full.length →
      (∀ i o, full[i]? = some o → listed.getD i false = true → ∀ e ∈ o.after, Region.binds .any e = true → listed.getD e.on false = true) →
      unl (fun j => listed.getD j false) full.length ≤ fuel → (∀ t, F.get t = gF F0 (fun j => listed.getD j false) hist t) → (∀ id, find M id = gM M0 (fun j => listed.getD j false) hist id) →
      (∀ k, U0 k → (∀ e ∈ hist, listed.getD e.j false = true → e.nid ≠ some k) → U k) → St C F M U E a w → wpAny C.P .any full.toArray Q fuel listed a w := by
  simp only [drawnB, Bool.and_eq_true] at hB
  obtain ⟨⟨hW, hS⟩, hP⟩ := hB
  subst hids
  obtain ⟨s1, s2, s3⟩ := Sup.app hsup
  have hlow : ∀ i, i < full.length → ∀ t ∈ pms.getD i [], t < i := by
    intro i
    induction i using Nat.strongRecOn with
    | _ i ih =>
      intro hi t ht
      obtain ⟨o, m, ho, hm, h1, h2⟩ := waitB_at hW i hi
      rw [getD_of hm] at ht
      obtain ⟨e, he, hb, hq⟩ := h2 t ht
      have h3 := h1 e he hb
      rcases hq with rfl | hq
      · exact h3
      · have := ih e.on h3 (by omega) t hq
        omega
  intro fuel
  have hend : ∀ (listed : Array Bool) (F : Tr) (M : Mem) (U : Nat → Prop) (E : Env) (a : Act) (w : World), (∀ i, i < full.length → listed.getD i false = true) → (∀ t, F.get t = gF F0 (fun j => listed.getD j false) hist t) → (∀ id, find M id = gM M0 (fun j => listed.getD j false) hist id) →
      (∀ k, U0 k → (∀ e ∈ hist, listed.getD e.j false = true → e.nid ≠ some k) → U k) → St C F M U E a w → Q .normal a w := by
    intro listed F M U E a w hall hF hM hU hst
    have hL : ∀ e ∈ hist, listed.getD e.j false = all1 e.j := fun e he => hall e.j (by rw [← hlen]; exact hh.lt e he)
    refine hfin F M U E a w (fun t => (hF t).trans (gF_congr fun e he _ => hL e he)) (fun id => (hM id).trans (gM_congr fun e he _ => hL e he)) (s3.mono fun k hk => hU k hk.1 fun e he _ hn => hk.2 ?_) hst
    exact List.mem_filterMap.2 ⟨e, List.mem_reverse.2 he, hn⟩
  have hstop : ∀ (listed : Array Bool), listed.size = full.length → Region.ready .any full.toArray listed = [] → ∀ i, i < full.length → listed.getD i false = true := by
    intro listed hsz hr i
    induction i using Nat.strongRecOn with
    | _ i ih =>
      intro hi
      cases hl : listed.getD i false with
      | true => rfl
      | false =>
        exfalso
        obtain ⟨o, m, ho, hm, h1, _⟩ := waitB_at hW i hi
        have : i ∈ Region.ready .any full.toArray listed := mem_ready.2 ⟨by
          rw [Array.getD_eq_getD_getElem?] at hl ⊢
          rw [Array.getElem?_eq_getElem (by omega)] at hl ⊢
          simpa using hl, o, by simpa using ho, fun e he hb => ih e.on (h1 e he hb) (by have := h1 e he hb; omega)⟩
        rw [hr] at this
        cases this
  induction fuel with
  | zero =>
    intro listed F M U E a w hsz hcl hun hF hM hU hst
    have hall := unl_zero (n := full.length) (L := fun j => listed.getD j false) (by omega)
    refine ⟨?_, hend listed F M U E a w hall hF hM hU hst⟩
    rw [List.eq_nil_iff_forall_not_mem]
    intro i hi
    obtain ⟨h1, o, ho, _⟩ := mem_ready.1 hi
    have hilt : i < full.length := by have := (Array.getElem?_eq_some_iff.1 ho).1; simpa using this
    have h2 := hall i hilt
    rw [Array.getD_eq_getD_getElem?, Array.getElem?_eq_getElem (by omega)] at h1 h2
    simp at h1 h2
    rw [h1] at h2
    cases h2
  | succ fuel ih =>
    intro listed F M U E a w hsz hcl hun hF hM hU hst
    refine ⟨fun hr => hend listed F M U E a w (hstop listed hsz hr) hF hM hU hst, fun i hi => ?_⟩
    obtain ⟨hi1, o, ho, hdep⟩ := mem_ready.1 hi
    have hilt : i < full.length := by have := (Array.getElem?_eq_some_iff.1 ho).1; simpa using this
    have ho' : full[i]? = some o := by simpa using ho
    have hi0 : listed.getD i false = false := off_both hi1
    have hdown : ∀ j, j < full.length → (∀ oj, full[j]? = some oj → ∀ e ∈ oj.after, Region.binds .any e = true → listed.getD e.on false = true) → ∀ t ∈ pms.getD j [], listed.getD t false = true := by
      intro j
      induction j using Nat.strongRecOn with
      | _ j ihj =>
        intro hj hd t ht
        obtain ⟨oj, m, hoj, hm, h1, h2⟩ := waitB_at hW j hj
        rw [getD_of hm] at ht
        obtain ⟨e, he, hb, hq⟩ := h2 t ht
        have h3 := hd oj hoj e he hb
        rcases hq with rfl | hq
        · exact h3
        · have h4 := h1 e he hb
          exact ihj e.on h4 (by omega) (fun o2 ho2 => hcl e.on o2 ho2 h3) t hq
    have hpre : ∀ t ∈ pms.getD i [], listed.getD t false = true := hdown i hilt fun oj hoj e he hb => by
      rw [ho'] at hoj
      cases hoj
      exact hdep e he hb
    have hpost : ∀ j, j < full.length → i ∈ pms.getD j [] → listed.getD j false = false := fun j hj hij => by
      cases hl : listed.getD j false with
      | false => rfl
      | true =>
        have := hdown j hj (fun oj hoj => hcl j oj hoj hl) i hij
        rw [hi0] at this
        cases this
    have hord : ∀ j, j < full.length → (j ∈ pms.getD i [] ∨ i ∈ pms.getD j []) → listed.getD j false = decide (j < i) := fun j hj h => by
      rcases h with h | h
      · rw [hpre j h]
        have := hlow i hilt j h
        simp [this]
      · rw [hpost j hj h]
        have := hlow j hj i h
        simp
        omega
    obtain ⟨l, e, r, o1, e1, e2, e3, e4, e5, e6, e7, e8⟩ := hh.split i (by omega)
    rw [ho'] at e3
    cases e3
    obtain ⟨p1, p2⟩ := pairs_at (e1 ▸ hP)
    have hmem : ∀ x, x ∈ hist ↔ x ∈ l ∨ x = e ∨ x ∈ r := fun x => by rw [e1]; simp
    have hslot : ∀ t, (t ∈ o.looksAt full.toArray ∨ o.dst = some t) → ∀ x ∈ hist, x.dst = some t → x.j ≠ i → listed.getD x.j false = decide (x.j < i) := fun t ht x hx hd hne => by
      obtain ⟨o2, m, h1, h2, h3⟩ := slotB_at hS i hilt
      rw [ho'] at h1
      cases h1
      have hxj : x.j < full.length := by rw [← hlen]; exact hh.lt x hx
      obtain ⟨o', m', h4, h5, h6⟩ := opB_at h3 x.j hxj (Ne.symm hne)
      obtain ⟨_, x', r', o3, k1, k2, k3, k4, k5, _, k7, k8⟩ := hh.split x.j (by omega)
      rw [h4] at k3
      cases k3
      have hxx : x' = x := by
        rw [k1] at hx
        rcases List.mem_append.1 hx with hx | hx
        · have := k7 x hx; omega
        · rcases List.mem_cons.1 hx with hx | hx
          · exact hx.symm
          · have := k8 x hx; omega
      subst hxx
      refine hord x'.j hxj ?_
      rw [getD_of h2, getD_of h5]
      exact h6 t (k5 ▸ hd) ht
    have hblk : ∀ id, (id ∈ e.foot ∨ (look e.ch id).isSome = true) → ∀ x ∈ hist, (look x.ch id).isSome = true → x.j ≠ i → listed.getD x.j false = decide (x.j < i) := fun id hid x hx hl hne => by
      have hxj : x.j < full.length := by rw [← hlen]; exact hh.lt x hx
      have hw := wrs_look hl
      refine hord x.j hxj ?_
      rcases (hmem x).1 hx with hx | rfl | hx
      · rcases p2 x hx with h | h
        · simp only [apartB, Bool.and_eq_true] at h
          rcases hid with hid | hid
          · exact absurd hid (disj_mem h.1.1.1 id hw)
          · exact absurd (wrs_look hid) (disj_mem h.1.2 id hw)
        · right; rw [← e4]; exact h
      · exact absurd e4 hne
      · rcases p1 x hx with h | h
        · simp only [apartB, Bool.and_eq_true] at h
          rcases hid with hid | hid
          · exact absurd hid (disj_mem h.1.1.2 id hw)
          · exact absurd hw (disj_mem h.1.2 id (wrs_look hid))
        · left; rw [← e4]; exact h
    have hevery : e.all = true → ∀ x ∈ hist, x.j ≠ i → listed.getD x.j false = decide (x.j < i) := fun hall x hx hne => by
      have hxj : x.j < full.length := by rw [← hlen]; exact hh.lt x hx
      refine hord x.j hxj ?_
      rcases (hmem x).1 hx with hx | rfl | hx
      · rcases p2 x hx with h | h
        · simp [apartB, hall] at h
        · right; rw [← e4]; exact h
      · exact absurd e4 hne
      · rcases p1 x hx with h | h
        · simp [apartB, hall] at h
        · left; rw [← e4]; exact h
    have huniq : ∀ x ∈ hist, x.j = i → x = e := fun x hx hj => by
      rcases (hmem x).1 hx with hx | rfl | hx
      · have := e7 x hx; omega
      · rfl
      · have := e8 x hx; omega
    have hset : ∀ j, (listed.setIfInBounds i true).getD j false = if j = i then true else listed.getD j false := fun j => by
      by_cases hji : j = i
      · subst hji
        simp [hsz, hilt]
      · rw [if_neg hji, getD_set_ne false (Ne.symm hji)]
    rw [← e4]
    refine e6 Q _ F M U E a w (fun t ht => ?_) (fun id hid => ?_) (fun hall => ⟨fun t => ?_, fun id => ?_⟩) (fun k hk => hU k (s1 k ?_) fun x hx hl hn => ?_) hst fun F' M' U' E' a' w' hF' hM' hU' hst' => ?_
    ·
      rw [hF t, gF_congr (L' := fun j => decide (j < i)) fun x hx hd => ?_, e1, gF_skip fun x hx => ?_]
      · simp only [gF, e4, Nat.lt_irrefl, decide_false, Bool.false_eq_true, false_and, if_false]
        exact gF_congr fun x hx _ => by simp [e8 x hx]
      · have := e7 x hx
        simp
        omega
      · by_cases hji : x.j = i
        · rw [hji, hi0]; simp
        · exact hslot t (.inl ht) x hx hd hji
    · rw [hM id, gM_congr (L' := fun j => decide (j < i)) fun x hx hd => ?_, e1, gM_skip fun x hx => ?_]
      · simp only [gM, e4, Nat.lt_irrefl, decide_false, Bool.false_eq_true, if_false]
        exact gM_congr fun x hx _ => by simp [e8 x hx]
      · have := e7 x hx
        simp
        omega
      · by_cases hji : x.j = i
        · rw [hji, hi0]; simp
        · exact hblk id (.inl hid) x hx hd hji
    · rw [hF t, gF_congr (L' := fun j => decide (j < i)) fun x hx hd => ?_, e1, gF_skip fun x hx => ?_]
      · simp only [gF, e4, Nat.lt_irrefl, decide_false, Bool.false_eq_true, false_and, if_false]
        exact gF_congr fun x hx _ => by simp [e8 x hx]
      · have := e7 x hx
        simp
        omega
      · by_cases hji : x.j = i
        · rw [hji, hi0]; simp
        · exact hevery hall x hx hji
    · rw [hM id, gM_congr (L' := fun j => decide (j < i)) fun x hx hd => ?_, e1, gM_skip fun x hx => ?_]
      · simp only [gM, e4, Nat.lt_irrefl, decide_false, Bool.false_eq_true, if_false]
        exact gM_congr fun x hx _ => by simp [e8 x hx]
      · have := e7 x hx
        simp
        omega
      · by_cases hji : x.j = i
        · rw [hji, hi0]; simp
        · exact hevery hall x hx hji
    · exact List.mem_filterMap.2 ⟨e, List.mem_reverse.2 ((hmem e).2 (.inr (.inl rfl))), hk⟩
    ·
      have hne : x ≠ e := fun h => by subst h; rw [e4, hi0] at hl; cases hl
      rw [List.filterMap_reverse] at s2
      replace s2 : (hist.filterMap (·.nid)).Nodup := (List.pairwise_reverse.1 s2).imp Ne.symm
      rw [e1, List.filterMap_append, List.filterMap_cons_some hk, List.nodup_append] at s2
      obtain ⟨_, n2, n3⟩ := s2
      rcases (hmem x).1 hx with hx | rfl | hx
      · exact n3 k (List.mem_filterMap.2 ⟨x, hx, hn⟩) k (List.mem_cons_self ..) rfl
      · exact hne rfl
      · exact (List.nodup_cons.1 n2).1 (List.mem_filterMap.2 ⟨x, hx, hn⟩)
    · rw [e4]
      refine ih _ F' M' U' E' a' w' (by simp [hsz]) (fun j oj hoj hl x hx hb => ?_) ?_ (fun t => ?_) (fun id => ?_) (fun k hk hx => ?_) hst'
      · by_cases hji : j = i
        · subst hji
          rw [ho'] at hoj
          cases hoj
          exact getD_set_true (hdep x hx hb)
        · rw [hset, if_neg hji] at hl
          exact getD_set_true (hcl j oj hoj hl x hx hb)
      · have := unl_set (L := fun j => listed.getD j false) (L' := fun j => (listed.setIfInBounds i true).getD j false) (i := i) hi0 (by simp only [hset, if_true]) (fun j hj => by simp only [hset, if_neg hj]) hilt
        omega
      · rw [hF' t]
        split
        · rename_i hd
          rw [gF_congr (L' := fun j => decide (j ≤ i)) fun x hx hxd => ?_, e1, gF_skip fun x hx => ?_]
          · simp only [gF, e4, Nat.le_refl, decide_true, e5, hd, and_self, if_true]
          · have := e7 x hx
            simp
            omega
          · show (listed.setIfInBounds i true).getD x.j false = decide (x.j ≤ i)
            rw [hset]
            by_cases hji : x.j = i
            · simp [hji]
            · rw [if_neg hji, hslot t (.inr hd) x hx hxd hji]
              simp only [decide_eq_decide]
              omega
        · rename_i hd
          rw [hF t]
          refine gF_congr fun x hx hxd => ?_
          show listed.getD x.j false = (listed.setIfInBounds i true).getD x.j false
          rw [hset, if_neg]
          intro hji
          have := huniq x hx hji
          subst this
          exact hd (e5 ▸ hxd)
      · rw [hM' id]
        cases hl : look e.ch id with
        | some B =>
          rw [gM_congr (L' := fun j => decide (j ≤ i)) fun x hx hxd => ?_, e1, gM_skip fun x hx => ?_]
          · simp only [gM, e4, Nat.le_refl, decide_true, if_true, hl, Option.getD_some]
          · have := e7 x hx
            simp
            omega
          · show (listed.setIfInBounds i true).getD x.j false = decide (x.j ≤ i)
            rw [hset]
            by_cases hji : x.j = i
            · simp [hji]
            · rw [if_neg hji, hblk id (.inr (by rw [hl]; rfl)) x hx hxd hji]
              simp only [decide_eq_decide]
              omega
        | none =>
          rw [Option.getD_none, hM id]
          refine gM_congr fun x hx hxd => ?_
          show listed.getD x.j false = (listed.setIfInBounds i true).getD x.j false
          rw [hset, if_neg]
          intro hji
          have := huniq x hx hji
          subst this
          rw [hl] at hxd
          cases hxd
      · refine (hU' k).2 ⟨hU k hk fun x hx' hl => hx x hx' (getD_set_true hl), hx e ((hmem e).2 (.inr (.inl rfl))) ?_⟩
        rw [hset, if_pos e4]
end
end Go.Proofs.YtpbgihhfcdggkaaGreatDoor.V
end
section
namespace Go.Proofs.YtpbgihhfcdggkaaGreatDoor.V
open Go.RowKit
structure DC where
  i : Nat
  hist : List Ent
  rest : List Oper
  F : Tr
  M : Mem
  ids : List Nat
  φ : List Prop
def runE (X : IntKind → Bool) (P : Program) (Γ : Glob) (N : Nat) (full : List Oper) : List Oper → Nat → List Ent → Tr → Mem → List Nat → List Prop → Option DC
  | [], i, h, F, M, ids, φ => some ⟨i, h, [], F, M, ids, φ⟩
  | o :: r, i, h, F, M, ids, φ => match dstep X P Γ N full i o F M ids with
    | none => some ⟨i, h, o :: r, F, M, ids, φ⟩
    | some ⟨e, F', M', ids', φ'⟩ => runE X P Γ N full r (i + 1) (e :: h) F' M' ids' (φ' ++ φ)
def runDS (X : IntKind → Bool) (C : Ctx) (full : List Oper) (i : Nat) (h : List Ent) (rest : List Oper) (F : Tr) (M : Mem) (ids : List Nat) : Option DC :=
  match rest with
  | [] => none
  | o :: r => match dstep X C.P C.Γ C.N full i o F M ids with
    | none => none
    | some ⟨e, F', M', ids', φ'⟩ => match runE X C.P C.Γ C.N full r (i + 1) (e :: h) F' M' ids' φ' with
      | some ⟨i', h', r', F2, M2, ids2, φ2⟩ => fP φ2 fun φ3 => some ⟨i', h', r', F2, M2, ids2, φ3⟩
      | none => none
section
variable {X : IntKind → Bool} {C : Ctx} {Q0 : Exit → Act → World → Prop} {F F' F0 : Tr} {M M' M0 : Mem} {ids ids' ids0 : List Nat} {k : List Kont} {full rest rest' : List Oper} {hist hist' : List Ent} {i i' : Nat}
structure DInv (C : Ctx) (full : List Oper) (F0 : Tr) (M0 : Mem) (ids0 : List Nat) (i : Nat) (hist : List Ent) (rest : List Oper) (F : Tr) (M : Mem) (ids : List Nat) : Prop where
  ok : HOk C full F0 M0 hist
  len : hist.length = i
  rest : ∀ j, rest[j]? = full[i + j]?
  F : ∀ t, F.get t = gF F0 all1 hist t
  M : ∀ id, find M id = gM M0 all1 hist id
  ids : ids0 = hist.reverse.filterMap (·.nid) ++ ids
def DSat (C : Ctx) (Q0 : Exit → Act → World → Prop) (k : List Kont) (full : List Oper) (F0 : Tr) (M0 : Mem) (ids0 : List Nat) (i : Nat) (hist : List Ent) (rest : List Oper) (F : Tr) (M : Mem) (ids : List Nat) : Prop :=
  DInv C full F0 M0 ids0 i hist rest F M ids → ∀ U E a w, Sup ids0 U → St C F0 M0 U E a w → wpAny C.P .any full.toArray (Kq C.P Q0 k) full.length (Array.replicate full.length false) a w
theorem getD_replicate_false' (m j : Nat) : (Array.replicate m false).getD j false = false := by
  rcases Nat.lt_or_ge j m with h | h
  · simp [h]
  · simp [h]
theorem DInv.step {o : Oper} (D : DInv C full F0 M0 ids0 i hist (o :: rest) F M ids) {e : Ent} (hok : full[i]? = some o → OpOk C full o e F.get (find M)) (hj : e.j = i) (hd : e.dst = o.dst) (hF : ∀ t, F'.get t = if o.dst = some t then e.val else F.get t)
    (hM : ∀ id, find M' id = (look e.ch id).getD (find M id)) (hi : ids = e.nid.toList ++ ids') : DInv C full F0 M0 ids0 (i + 1) (e :: hist) rest F' M' ids' := by
  have ho : full[i]? = some o := by simpa using (D.rest 0).symm
  have h1 : F.get = gF F0 all1 hist := funext D.F
  have h2 : find M = gM M0 all1 hist := funext D.M
  refine ⟨.cons D.ok (by rw [D.len]; exact ho) (by rw [D.len]; exact hj) hd (h1 ▸ h2 ▸ hok ho), by simp [D.len], fun j => ?_, fun t => ?_, fun id => ?_, ?_⟩
  · have := D.rest (j + 1)
    simpa [Nat.add_assoc, Nat.add_comm 1 j] using this
  · rw [hF t]
    simp only [gF, all1, true_and, hd, h1]
  · rw [hM id]
    simp only [gM, all1, if_true, h2]
  · rw [D.ids, hi]
    simp only [List.reverse_cons, List.filterMap_append, List.append_assoc]
    cases hn : e.nid with
    | none => simp [hn]
    | some n => simp [hn]
theorem runE_ok : ∀ (rest : List Oper) {i : Nat} {hist : List Ent} {F : Tr} {M : Mem} {ids : List Nat} {φ : List Prop} {d : DC}, runE X C.P C.Γ C.N full rest i hist F M ids φ = some d → All d.φ →
    All φ ∧ (DInv C full F0 M0 ids0 i hist rest F M ids → DInv C full F0 M0 ids0 d.i d.hist d.rest d.F d.M d.ids)
  | [], i, hist, F, M, ids, φ, d, h, hφ => by
    simp only [runE, Option.some.injEq] at h
    subst h
    exact ⟨hφ, id⟩
  | o :: r, i, hist, F, M, ids, φ, d, h, hφ => by
    simp only [runE] at h
    split at h
    · simp only [Option.some.injEq] at h
      subst h
      exact ⟨hφ, id⟩
    · rename_i e F' M' ids' φ' hs
      obtain ⟨h1, h2⟩ := runE_ok r h hφ
      obtain ⟨h3, h4⟩ := h1.app
      refine ⟨h4, fun D => h2 ?_⟩
      have ho : full[i]? = some o := by simpa using (D.rest 0).symm
      obtain ⟨q1, q2, q3, q4, q5, q6⟩ := dstep_ok ho hs h3
      exact D.step (fun _ => q1) q2 q3 q4 q5 q6
theorem Sat.drawn {id : Nat} {ops : List Oper} (hm : C.P.follows .mixedOrders = true) (h : DSat C Q0 k ops F M ids 0 [] ops F M ids) : Sat C Q0 (.code (.region id ⟨ops⟩ true) F M ids k) := by
  intro U E a w hsup hst
  have := h ⟨.nil, rfl, fun j => by simp, fun t => rfl, fun id => rfl, rfl⟩ U E a w.drew hsup hst.drew
  refine wp_region_any hm ?_
  simpa using this
theorem DSat.run {φ : List Prop} (h : runDS X C full i hist rest F M ids = some ⟨i', hist', rest', F', M', ids', φ⟩) (hφ : AllP φ) (hn : DSat C Q0 k full F0 M0 ids0 i' hist' rest' F' M' ids') : DSat C Q0 k full F0 M0 ids0 i hist rest F M ids := by
  intro D
  unfold runDS at h
  split at h
  · cases h
  · rename_i o r
    split at h
    · cases h
    · rename_i e F1 M1 ids1 φ1 hs
      split at h
      · rename_i i2 h2 r2 F2 M2 ids2 φ2 hr
        rw [fP_eq] at h
        simp only [Option.some.injEq, DC.mk.injEq] at h
        obtain ⟨rfl, rfl, rfl, rfl, rfl, rfl, rfl⟩ := h
        obtain ⟨q1, q2⟩ := runE_ok (F0 := F0) (M0 := M0) (ids0 := ids0) r hr hφ.all
        have ho : full[i]? = some o := by simpa using (D.rest 0).symm
        obtain ⟨p1, p2, p3, p4, p5, p6⟩ := dstep_ok ho hs q1
        exact hn (q2 (D.step (fun _ => p1) p2 p3 p4 p5 p6))
      · cases h
theorem DSat.fin (hB : drawnB full (pmsOf full []) hist = true) (h : Sat C Q0 (.ext .normal F M ids k)) : DSat C Q0 k full F0 M0 ids0 i hist [] F M ids := by
  intro D U E a w hsup hst
  have hlen : hist.length = full.length := by
    have h1 : full.length ≤ i := by
      rcases Nat.lt_or_ge i full.length with hlt | hge
      · have := D.rest 0
        simp [List.getElem?_eq_getElem hlt] at this
      · exact hge
    have h2 : hist.length ≤ full.length := by
      rcases Nat.lt_or_ge full.length hist.length with hlt | hge
      · obtain ⟨_, _, _, o, _, _, h3, _⟩ := D.ok.split full.length hlt
        simp at h3
      · exact hge
    have := D.len
    omega
  refine drawn_core (U0 := U) D.ok hlen hB D.ids hsup (fun F1 M1 U1 E1 a1 w1 q1 q2 q3 q4 => h U1 E1 a1 w1 q3 (q4.ext (fun t => (D.F t).trans (q1 t).symm) (fun id => (D.M id).trans (q2 id).symm) fun _ h => h)) full.length _ F0 M0 U E a w (by simp) (fun j o _ hl => ?_) ?_ (fun t => ?_) (fun id => ?_) (fun k hk _ => hk) hst
  · rw [getD_replicate_false'] at hl; cases hl
  · have : ∀ n, unl (fun j => (Array.replicate full.length false).getD j false) n ≤ n := by
      intro n
      induction n with
      | zero => exact Nat.le_refl _
      | succ n ih => simp only [unl]; split <;> omega
    exact this _
  · have := gF_skip (F0 := F0) (L := fun j => (Array.replicate full.length false).getD j false) (t := t) (h := hist) (r := []) fun e _ => getD_replicate_false' _ _
    rw [List.append_nil] at this
    rw [this]; rfl
  · have := gM_skip (M0 := M0) (L := fun j => (Array.replicate full.length false).getD j false) (id := id) (h := hist) (r := []) fun e _ => getD_replicate_false' _ _
    rw [List.append_nil] at this
    rw [this]; rfl
theorem MOk.le {E : Env} {T : Nat → Prop} {w : World} (h : MOk E T M w) (hM : MLe M' M) : MOk E T M' w :=
  ⟨fun id B hf => h.blk id B (hM id B hf), fun id id' b h1 h2 => h.inj id id' b (by obtain ⟨B, hB⟩ := Option.isSome_iff_exists.1 h1; rw [hM _ _ hB]; rfl) (by obtain ⟨B, hB⟩ := Option.isSome_iff_exists.1 h2; rw [hM _ _ hB]; rfl)⟩
theorem opdsC_le {Γ : Glob} : ∀ {l : List Operand} {r : List SV}, OLe Γ F F' l → opdsC Γ F l = some r → opdsC Γ F' l = some r
  | [], r, _, h => h
  | x :: l, r, hx, h => by
    unfold opdsC at *
    cases hs : opd Γ F x with
    | none => simp [hs] at h
    | some s =>
      rw [hs] at h
      rw [hx x (List.mem_cons_self ..) s hs]
      simp only at h ⊢
      cases hq : opdsC Γ F l with
      | none => simp [hq] at h
      | some q => rw [hq] at h; rw [opdsC_le (fun y hy => hx y (List.mem_cons_of_mem _ hy)) hq]; exact h
theorem argsF_le {Γ : Glob} {x : Operand} {xs : List Operand} {ats : Array TypeId} {r : FuncId × List SV} (hx : OLe Γ F F' (Op.call ⟨.value x, ⟨xs⟩, ats⟩).operands.toList) (h : argsF Γ F x xs = some r) : argsF Γ F' x xs = some r := by
  unfold argsF at *
  cases hf : opd Γ F x with
  | none => simp [hf] at h
  | some sf =>
    rw [hf] at h
    rw [hx x (by simp [Op.operands, Call.operands]) _ hf]
    cases sf <;> first | (cases h; done) | skip
    all_goals
      simp only at h ⊢
      cases hs : opdsC Γ F xs with
      | none => simp [hs] at h
      | some svs =>
        rw [hs] at h
        rw [opdsC_le (fun y hy => hx y (by simp [Op.operands, Call.operands, hy])) hs]
        exact h
theorem DSat.call {d : Option Tmp} {x : Operand} {f : FuncId} {xs : List Operand} {ats : Array TypeId} {type : TypeId} {pos : String} {after : Array Edge} {svs args : List SV} {res : SV}
    (hspec : Fun C.P C.Γ f args res) (hn : C.wide = false) (hx : argsF C.Γ F x xs = some (f, svs)) (hc : callable C.P f = true) (hconv : Convs [] svs args) (hp : putD C.N F d (some res) some = some F')
    (h : DSat C Q0 k full F0 M0 ids0 (i + 1) (⟨i, d, some res, none, [], [], false⟩ :: hist) rest F' M ids) :
    DSat C Q0 k full F0 M0 ids0 i hist (⟨d, .call ⟨.value x, ⟨xs⟩, ats⟩, type, pos, after, none⟩ :: rest) F M ids := by
  intro D
  obtain ⟨F1, h1, h2⟩ := putD_inv hp
  cases h1
  obtain ⟨p1, p2⟩ := putD_get h2
  refine h (D.step (fun ho Q K Fa Ma U E a w q1 q2 _ q3 hst hK => ?_) rfl rfl p2 (fun id => rfl) rfl)
  refine wpOp_plain ho rfl ?_
  unfold Oper.wp
  obtain ⟨vs, ht, hex⟩ := argsF_ok hst.vw (argsF_le (looks_le (F := F) q1 fun _ => rfl) hx)
  rw [hex, run_callFunc_go hc]
  have hH : MOk E (trk C.T0 Ma E) [] w := ⟨fun id B hf => by simp [find] at hf, fun id id' b hf => by simp [find] at hf⟩
  have ht' := Convs.tups (T' := trk C.T0 Ma E) hH (fun _ _ h => h) (fun id b hf => by simp [find] at hf) hconv ht
  refine (hspec (trk C.T0 Ma E) w _ (hst.lt hn) hst.glob ht').mono ?_
  rintro e w' ⟨v, rfl, hr, hb⟩
  obtain ⟨F2, hF2⟩ := tr_put Fa d (some res)
  exact hK F2 Ma U E _ w' hF2 (fun id => rfl) (fun k => by simp) ((hst.below hb).putG p1 hF2 fun s' hs' => by cases hs'; exact hr.up)
theorem DSat.callR {d : Option Tmp} {x : Operand} {f : FuncId} {xs : List Operand} {ats : Array TypeId} {type : TypeId} {pos : String} {after : Array Edge} {svs args : List SV} {res : SV}
    (hspec : Fun C.P C.Γ f args res) (hn : C.wide = false) (hrig : rigid res = true) (hx : argsF C.Γ F x xs = some (f, svs)) (hc : callable C.P f = true) (hconv : Convs (keep M (idsL svs)) svs args) (hp : putD C.N F d (some res) some = some F')
    (h : DSat C Q0 k full F0 M0 ids0 (i + 1) (⟨i, d, some res, none, [], idsL svs, false⟩ :: hist) rest F' M ids) :
    DSat C Q0 k full F0 M0 ids0 i hist (⟨d, .call ⟨.value x, ⟨xs⟩, ats⟩, type, pos, after, none⟩ :: rest) F M ids := by
  intro D
  obtain ⟨F1, h1, h2⟩ := putD_inv hp
  cases h1
  obtain ⟨p1, p2⟩ := putD_get h2
  refine h (D.step (fun ho Q K Fa Ma U E a w q1 q2 _ q3 hst hK => ?_) rfl rfl p2 (fun id => rfl) rfl)
  refine wpOp_plain ho rfl ?_
  unfold Oper.wp
  obtain ⟨vs, ht, hex⟩ := argsF_ok hst.vw (argsF_le (looks_le (F := F) q1 fun _ => rfl) hx)
  rw [hex, run_callFunc_go hc]
  have hle : MLe (keep M (idsL svs)) Ma := foot_le q2 fun _ => rfl
  have ht' := Convs.tups (T' := C.T0) (hst.mem.le hle) (fun _ _ h => .inr h) (fun id b hf => hst.apart hn id b (by obtain ⟨B, hB⟩ := Option.isSome_iff_exists.1 hf; rw [hle _ _ hB]; rfl)) hconv ht
  refine (hspec C.T0 w _ (fun b hb => hst.lt hn b (.inr hb)) (hst.glob.mono (fun _ _ h => .inr h) (Chg.refl _ w)) ht').mono ?_
  rintro e w' ⟨v, rfl, hr, hb⟩
  obtain ⟨F2, hF2⟩ := tr_put Fa d (some res)
  exact hK F2 Ma U E _ w' hF2 (fun id => rfl) (fun k => by simp) ((hst.below hb).putG p1 hF2 fun s' hs' => by cases hs'; exact hr.rigid_ hrig)
theorem guardH_le {o : Oper} {j : Nat} {want : Bool} {H : Prop} (hg : o.guard = some (j, want)) (h : ∀ t ∈ o.looksAt full.toArray, F'.get t = F.get t) (hH : guardH F full j want = some H) : guardH F' full j want = some H := by
  unfold guardH at hH ⊢
  split at hH
  · rename_i d hd
    rw [dstOf_eq] at hd
    have : d ∈ o.looksAt full.toArray := List.mem_append_right _ (by simp only [hg]; simp only [List.getElem?_toArray, hd]; simp)
    rw [h d this]
    exact hH
  · cases hH
theorem DSat.callG {d : Option Tmp} {x : Operand} {f : FuncId} {xs : List Operand} {ats : Array TypeId} {type : TypeId} {pos : String} {after : Array Edge} {svs args : List SV} {res : SV} {j : Nat} {want : Bool} {H : Prop}
    (hH : guardH F full j want = some H) (hspec : H → Fun C.P C.Γ f args res) (hn : C.wide = false) (hrig : rigid res = true) (hx : argsF C.Γ F x xs = some (f, svs)) (hc : callable C.P f = true) (hconv : H → Convs (keep M (idsL svs)) svs args) (hp : putD C.N F d (some (.may H res)) some = some F')
    (h : DSat C Q0 k full F0 M0 ids0 (i + 1) (⟨i, d, some (.may H res), none, [], idsL svs, false⟩ :: hist) rest F' M ids) :
    DSat C Q0 k full F0 M0 ids0 i hist (⟨d, .call ⟨.value x, ⟨xs⟩, ats⟩, type, pos, after, some (j, want)⟩ :: rest) F M ids := by
  intro D
  obtain ⟨F1, h1, h2⟩ := putD_inv hp
  cases h1
  obtain ⟨p1, p2⟩ := putD_get h2
  refine h (D.step (fun ho Q K Fa Ma U E a w q1 q2 _ q3 hst hK => ?_) rfl rfl p2 (fun id => rfl) rfl)
  have hiff := guardH_ok (full := full) hst (guardH_le rfl q1 hH)
  obtain ⟨F2, hF2⟩ := tr_put Fa d (some (.may H res))
  unfold wpOp
  simp only [List.getElem?_toArray, ho]
  by_cases hy : (yielded full.toArray a.tmps j == some want) = true
  · have hh := hiff.1 hy
    simp only [Region.wanted, hy, if_true]
    left
    unfold Oper.wp
    obtain ⟨vs, ht, hex⟩ := argsF_ok hst.vw (argsF_le (looks_le (F := F) q1 fun _ => rfl) hx)
    rw [hex, run_callFunc_go hc]
    have hle : MLe (keep M (idsL svs)) Ma := foot_le q2 fun _ => rfl
    have ht' := Convs.tups (T' := C.T0) (hst.mem.le hle) (fun _ _ h => .inr h) (fun id b hf => hst.apart hn id b (by obtain ⟨B, hB⟩ := Option.isSome_iff_exists.1 hf; rw [hle _ _ hB]; rfl)) (hconv hh) ht
    refine (hspec hh C.T0 w _ (fun b hb => hst.lt hn b (.inr hb)) (hst.glob.mono (fun _ _ h => .inr h) (Chg.refl _ w)) ht').mono ?_
    rintro e w' ⟨v, rfl, hr, hb⟩
    exact hK F2 Ma U E _ w' hF2 (fun id => rfl) (fun k => by simp) ((hst.below hb).putG p1 hF2 fun s' hs' => by cases hs'; exact .may1 _ _ _ hh (hr.rigid_ hrig))
  · have hh : ¬ H := fun hh => hy (hiff.2 hh)
    simp only [Region.wanted, hy]
    exact hK F2 Ma U E _ w hF2 (fun id => rfl) (fun k => by simp) (hst.putG p1 hF2 fun s' hs' => by cases hs'; exact .may0 _ _ hh)
theorem DSat.callG1 {d : Option Tmp} {x : Operand} {f : FuncId} {xs : List Operand} {ats : Array TypeId} {type : TypeId} {pos : String} {after : Array Edge} {svs args : List SV} {res : SV} {j : Nat} {want : Bool} {H : Prop}
    (hspec : Fun C.P C.Γ f args res) (hn : C.wide = false) (hH : guardH F full j want = some H) (hrig : rigid res = true) (hx : argsF C.Γ F x xs = some (f, svs)) (hc : callable C.P f = true) (hconv : H → Convs (keep M (idsL svs)) svs args) (hp : putD C.N F d (some (.may H res)) some = some F')
    (h : DSat C Q0 k full F0 M0 ids0 (i + 1) (⟨i, d, some (.may H res), none, [], idsL svs, false⟩ :: hist) rest F' M ids) :
    DSat C Q0 k full F0 M0 ids0 i hist (⟨d, .call ⟨.value x, ⟨xs⟩, ats⟩, type, pos, after, some (j, want)⟩ :: rest) F M ids := DSat.callG hH (fun _ => hspec) hn hrig hx hc hconv hp h
end
end Go.Proofs.YtpbgihhfcdggkaaGreatDoor.V
end
section
namespace Go.Proofs.YtpbgihhfcdggkaaGreatDoor.V
open Go.RowKit
def sg : List (Nat × Option Nat) → Nat → Option Nat
  | [], j => some j
  | (i, x) :: r, j => match Nat.beq i j with
    | true => x
    | false => sg r j
def hasB : Mem → Nat → Bool
  | [], _ => false
  | (i, _) :: r, j => Nat.beq i j || hasB r j
def fromB (σ : List (Nat × Option Nat)) (M' : Mem) (j i : Nat) : Bool :=
  hasB M' j && match sg σ j with
    | some i' => Nat.beq i' i
    | none => false
def bornB (σ : List (Nat × Option Nat)) (M' : Mem) (j : Nat) : Bool :=
  hasB M' j && match sg σ j with
    | some _ => false
    | none => true
def notB (σ : List (Nat × Option Nat)) (i : Nat) : Mem → Bool
  | [] => true
  | (j, _) :: r => (match sg σ j with
    | some i' => !(Nat.beq i' i)
    | none => true) && notB σ i r
def goneB (σ : List (Nat × Option Nat)) (i : Nat) (M : Mem) : Bool :=
  match sg σ 999 with
  | some _ => notB σ i M
  | none => false
section
variable (σ : List (Nat × Option Nat)) (M M' : Mem)
mutual
def cvq : SV → SV → Option (List Prop)
  | .may g s, s' => match s' with
    | .may g' s1 => match cvq s s1 with
      | some φ => some ((g = g') :: φ.map (g → ·))
      | none => none
    | s' => match cvq s s' with
      | some φ => some (g :: φ)
      | none => none
  | .int k n, s' => match s' with
    | .int k' m => match kindB k k' with
      | true => some [n = m]
      | false => none
    | _ => none
  | .bool a, s' => match s' with
    | .bool b => some [a = b]
    | _ => none
  | .str a, s' => match s' with
    | .str b => some [a = b]
    | _ => none
  | .nilp, s' => match s' with
    | .nilp => some []
    | _ => none
  | .ptr i o, s' => match s' with
    | .ptr j o' => match fromB σ M' j i with
      | true => some [o = o']
      | false => none
    | _ => none
  | .pel i b z n o, s' => match s' with
    | .pel j b' z' n' o' => match fromB σ M' j i with
      | true => some [b = b' ∧ z = z' ∧ n = n' ∧ o = o']
      | false => none
    | _ => none
  | .rop e i j, s' => match s' with
    | .rop e' i' j' => some [e = e', i = i', j = j', pureE e]
    | _ => none
  | .nils, s' => match s' with
    | .nils => some []
    | .row j _ _ _ len => match bornB σ M' j with
      | true => some [len = 0]
      | false => none
    | .ro e => some [e.len = 0]
    | _ => none
  | .row i b z u n, s' => match s' with
    | .row j b' z' u' n' => match fromB σ M' j i with
      | true => some [b = b' ∧ z = z' ∧ u = u' ∧ n = n']
      | false => none
    | .ro e' => match goneB σ i M', runAt M i b with
      | true, some e => some [e.sz = z, pureE e, (u = 0 ∧ n = e.len ∧ e = e') ∨ (u + n ≤ e.len ∧ e.sub u n = e')]
      | _, _ => none
    | _ => none
  | .ro e, s' => match s' with
    | .ro e' => some [e = e', pureE e]
    | _ => none
  | .agg l, s' => match s' with
    | .agg l' => cvqL l l'
    | _ => none
  | .arr n e, s' => match s' with
    | .arr n' e' => some [n = n', e = e', pureE e]
    | _ => none
  | .tup l, s' => match s' with
    | .tup l' => cvqL l l'
    | _ => none
  | .fn f l, s' => match s' with
    | .fn f' l' => match cvqL l l' with
      | some φ => some ((f = f') :: φ)
      | none => none
    | _ => none
  | .mv f l, s' => match s' with
    | .mv f' l' => match cvqL l l' with
      | some φ => some ((f = f') :: φ)
      | none => none
    | _ => none
  | .ifc t s, s' => match s' with
    | .ifc t' s1 => match cvq s s1 with
      | some φ => some ((t = t') :: φ)
      | none => none
    | _ => none
  | .nili, s' => match s' with
    | .nili => some []
    | _ => none
  | .nilf, s' => match s' with
    | .nilf => some []
    | _ => none
  | .bsl i n, s' => match s' with
    | .bsl j n' => match fromB σ M' j i with
      | true => some [n = n']
      | false => none
    | _ => none
  | .anyi k, s' => match s' with
    | .anyi k' => match kindB k k' with
      | true => some []
      | false => none
    | _ => none
  | .val x, s' => match s' with
    | .val y => some [x = y]
    | _ => none
def cvqL : List SV → List SV → Option (List Prop)
  | [], l' => match l' with
    | [] => some []
    | _ :: _ => none
  | s :: l, l' => match l' with
    | [] => none
    | s1 :: l1 => match cvq s s1 with
      | some φ => match cvqL l l1 with
        | some ψ => some (φ ++ ψ)
        | none => none
      | none => none
end
def sameE (e e' : EV) : Option (List Prop) :=
  match e, e' with
  | .g n sz f, .g n' sz' f' => some [n = n', sz = sz', ∀ i, i < n → f i = f' i, pureE (.g n sz f)]
  | e, e' => some [e = e', pureE e]
theorem sameE_ok {e e' : EV} {φ : List Prop} (h : sameE e e' = some φ) (hφ : AllP φ) : e.len = e'.len ∧ e.sz = e'.sz ∧ (∀ i, i < e.len → e.items i = e'.items i) ∧ pureE e := by
  unfold sameE at h
  split at h
  · simp only [Option.some.injEq] at h
    subst h
    obtain ⟨h1, h2, h3, h4, _⟩ := hφ
    exact ⟨h1, h2, h3, h4⟩
  · simp only [Option.some.injEq] at h
    subst h
    obtain ⟨rfl, h4, _⟩ := hφ
    exact ⟨rfl, rfl, fun _ _ => rfl, h4⟩
def nestE (e e' : EV) : Option (List Prop) :=
  match e, e' with
  | .g n sz f, .g n' sz' f' => some [n = n', sz = sz', ∀ i, i < n → ∃ φ, cvqL σ M M' (f i) (f' i) = some φ ∧ AllP φ]
  | _, _ => none
def nestB (j : Nat) : Bool := match sg σ (1000 + j) with
  | none => true
  | some _ => false
def cvqB (ne : Bool) (B B' : Blk) : Option (List Prop) :=
  match B, B' with
  | .cells t l, .cells t' l' => match Nat.beq t t' with
    | true => cvqL σ M M' l l'
    | false => none
  | .row t e, .row t' e' => match Nat.beq t t' with
    | true => match ne with
      | false => sameE e e'
      | true => nestE σ M M' e e'
    | false => none
  | .obj o, .obj o' => some [o = o']
  | _, _ => none
def cvqM : Mem → Option (List Prop)
  | [] => some []
  | (j, B') :: r => match (match sg σ j with
      | some i => match find M i with
        | some B => cvqB σ M M' (nestB σ j) B B'
        | none => none
      | none => match B' with
        | .row _ e => some [e.len = 0]
        | _ => none) with
    | some φ => match cvqM r with
      | some ψ => some (φ ++ ψ)
      | none => none
    | none => none
def cvqT : Tr → Tr → Option (List Prop)
  | _, .e => some []
  | .e, .n _ _ _ => none
  | .n l x r, .n l' x' r' => match (match x' with
      | none => some []
      | some s' => match x with
        | some s => cvq σ M M' s s'
        | none => none) with
    | some φ => match cvqT l l' with
      | some ψ => match cvqT r r' with
        | some χ => some (φ ++ (ψ ++ χ))
        | none => none
      | none => none
    | none => none
end
def injB (σ : List (Nat × Option Nat)) : Mem → Bool
  | [] => true
  | (j, _) :: r => (match sg σ j with
    | some i => notB σ i r
    | none => true) && injB σ r
def freeB (M' : Mem) : List Nat → Bool
  | [] => true
  | i :: r => !(hasB M' i) && !(r.elem i) && freeB M' r
def pinB (σ : List (Nat × Option Nat)) (M' : Mem) : List Nat → Bool
  | [] => true
  | j :: r => (match hasB M' j with
    | true => match sg σ j with
      | some i => Nat.beq i j
      | none => false
    | false => true) && pinB σ M' r
def freeP (pins : List Nat) : List Nat → Bool
  | [] => true
  | i :: r => !(pins.elem i) && freeP pins r
def wideB (σ : List (Nat × Option Nat)) (wide : Bool) : Bool := match wide with
  | true => match sg σ 999 with
    | some _ => false
    | none => true
  | false => true
def intoF (wide : Bool) (pins : List Nat) (σ : List (Nat × Option Nat)) (F : Tr) (M : Mem) (F' : Tr) (M' : Mem) (ids' : List Nat) : Option (List Prop) :=
  match injB σ M' && freeB M' ids' && pinB σ M' pins && wideB σ wide && freeP pins ids' with
  | true => match cvqM σ M M' M' with
    | some φ => match cvqT σ M M' F F' with
      | some ψ => fP (φ ++ ψ) some
      | none => none
    | none => none
  | false => none
theorem hasB_iff : ∀ {M : Mem} {j : Nat}, hasB M j = true ↔ (find M j).isSome = true
  | [], j => by simp [hasB, find]
  | (i, B) :: r, j => by
    simp only [hasB, find_cons, Bool.or_eq_true, hasB_iff (M := r)]
    by_cases h : j = i
    · subst h; simp
    · rw [if_neg h]
      constructor
      · rintro (h1 | h1)
        · exact absurd (Nat.eq_of_beq_eq_true h1).symm h
        · exact h1
      · exact .inr
def envOf (σ : List (Nat × Option Nat)) (M' : Mem) (E : Env) : Env := fun j =>
  if hasB M' j = true then (match sg σ j with | some i => E i | none => some none) else none
theorem env_from {σ : List (Nat × Option Nat)} {M' : Mem} {E : Env} {j i : Nat} (h : fromB σ M' j i = true) : envOf σ M' E j = E i := by
  simp only [fromB, Bool.and_eq_true] at h
  obtain ⟨h1, h2⟩ := h
  unfold envOf
  rw [if_pos h1]
  split at h2
  · rw [Nat.eq_of_beq_eq_true h2]
  · cases h2
theorem env_born {σ : List (Nat × Option Nat)} {M' : Mem} {E : Env} {j : Nat} (h : bornB σ M' j = true) : envOf σ M' E j = some none := by
  simp only [bornB, Bool.and_eq_true] at h
  obtain ⟨h1, h2⟩ := h
  unfold envOf
  rw [if_pos h1]
  split at h2
  · cases h2
  · rfl
section
variable {σ : List (Nat × Option Nat)} {M M' : Mem} {E : Env} {T T' : Nat → Prop} {w : World}
theorem AllP.app : ∀ {φ ψ : List Prop}, AllP (φ ++ ψ) → AllP φ ∧ AllP ψ
  | [], _, h => ⟨trivial, h⟩
  | _ :: _, _, h => ⟨⟨h.1, (AllP.app h.2).1⟩, (AllP.app h.2).2⟩
theorem AllP.imp {g : Prop} (hg : g) : ∀ {φ : List Prop}, AllP (φ.map (g → ·)) → AllP φ
  | [], _ => trivial
  | _ :: _, h => ⟨h.1 hg, AllP.imp hg h.2⟩
theorem pure_to (hT : ∀ b, b < w.heap.size → T' b → T b) {E' : Env} {s : SV} {v : Value} (h : Rep E T w s v) (hp : pureS s) : Rep E' T' w s v := by
  have h1 : Rep (fun _ => none) T w s v := h.free_ hp
  exact h1.mono (fun i b hi => by cases hi) hT (Chg.refl _ w)
theorem cvq_one {s s' : SV} {φ : List Prop} (h : cvq σ M M' s s' = some φ) (hφ : AllP φ) (h1 : s.one = true) : s'.one = true := by
  cases s <;> simp [SV.one] at h1 <;> cases s' <;> first | rfl | (simp [cvq] at h; done) | (simp only [cvq, Option.some.injEq] at h; subst h; obtain ⟨h2, _⟩ := hφ; first | (subst h2; exact h1) | (rw [← h2]; exact h1))
theorem cvq_arr {n : Nat} {e : EV} {s' : SV} {φ : List Prop} (h : cvq σ M M' (.arr n e) s' = some φ) (hφ : AllP φ) : s' = .arr n e ∧ pureE e := by
  cases s' <;> simp only [cvq] at h <;> first | (cases h; done) | skip
  simp only [Option.some.injEq] at h
  subst h
  obtain ⟨rfl, rfl, hp, _⟩ := hφ
  exact ⟨rfl, hp⟩
mutual
theorem cvq_ok (H : MOk E T M w) (hT : ∀ b, b < w.heap.size → T' b → T b) (hg : ∀ i b, goneB σ i M' = true → (find M i).isSome = true → E i = some (some b) → ¬ T' b) :
    ∀ (s s' : SV) {φ : List Prop} {v : Value}, cvq σ M M' s s' = some φ → AllP φ → Rep E T w s v → Rep (envOf σ M' E) T' w s' v
  | .may g s, s', φ, v, h, hφ, hr => by
    have key : ∀ s1, (∀ {φ : List Prop} {v : Value}, cvq σ M M' s s1 = some φ → AllP φ → Rep E T w s v → Rep (envOf σ M' E) T' w s1 v) := fun s1 => cvq_ok H hT hg s s1
    cases s' with
    | may g' s1 =>
      simp only [cvq] at h
      split at h
      · rename_i ψ hψ
        simp only [Option.some.injEq] at h
        subst h
        obtain ⟨rfl, h2⟩ := hφ
        cases hr with
        | may1 _ _ _ hgg hr' => exact .may1 _ _ _ hgg (key s1 hψ (AllP.imp hgg h2) hr')
        | may0 _ _ hgg => exact .may0 _ _ hgg
      · cases h
    | _ =>
      simp only [cvq] at h
      split at h
      · rename_i ψ hψ
        simp only [Option.some.injEq] at h
        subst h
        exact key _ hψ hφ.2 (hr.unmay hφ.1)
      · cases h
  | .int k n, s', φ, v, h, hφ, hr => by
    cases s' <;> simp only [cvq] at h <;> first | (cases h; done) | skip
    split at h
    · rename_i hk
      cases kindB_eq hk
      simp only [Option.some.injEq] at h
      subst h
      obtain ⟨rfl, _⟩ := hφ
      exact pure_to hT hr (by simp [pureS])
    · cases h
  | .bool a, s', φ, v, h, hφ, hr => by
    cases s' <;> simp only [cvq] at h <;> first | (cases h; done) | skip
    simp only [Option.some.injEq] at h
    subst h
    obtain ⟨rfl, _⟩ := hφ
    exact pure_to hT hr (by simp [pureS])
  | .str a, s', φ, v, h, hφ, hr => by
    cases s' <;> simp only [cvq] at h <;> first | (cases h; done) | skip
    simp only [Option.some.injEq] at h
    subst h
    obtain ⟨rfl, _⟩ := hφ
    exact pure_to hT hr (by simp [pureS])
  | .nilp, s', φ, v, h, hφ, hr => by
    cases s' <;> simp only [cvq] at h <;> first | (cases h; done) | skip
    exact pure_to hT hr (by simp [pureS])
  | .ptr i o, s', φ, v, h, hφ, hr => by
    cases s' <;> simp only [cvq] at h <;> first | (cases h; done) | skip
    split at h
    · rename_i hf
      simp only [Option.some.injEq] at h
      subst h
      obtain ⟨rfl, _⟩ := hφ
      cases hr with
      | ptr _ _ b hE => exact .ptr _ _ b ((env_from hf).trans hE)
    · cases h
  | .pel i b z n o, s', φ, v, h, hφ, hr => by
    cases s' <;> simp only [cvq] at h <;> first | (cases h; done) | skip
    split at h
    · rename_i hf
      simp only [Option.some.injEq] at h
      subst h
      obtain ⟨⟨rfl, rfl, rfl, rfl⟩, _⟩ := hφ
      cases hr with
      | pel _ _ _ _ _ b hE => exact .pel _ _ _ _ _ b ((env_from hf).trans hE)
    · cases h
  | .rop e i j, s', φ, v, h, hφ, hr => by
    cases s' <;> simp only [cvq] at h <;> first | (cases h; done) | skip
    simp only [Option.some.injEq] at h
    subst h
    obtain ⟨rfl, rfl, rfl, hp, _⟩ := hφ
    exact pure_to hT hr (by simpa only [pureS] using hp)
  | .nils, s', φ, v, h, hφ, hr => by
    cases s' <;> simp only [cvq] at h <;> first | (cases h; done) | skip
    · exact pure_to hT hr (by simp [pureS])
    · split at h
      · rename_i hb
        simp only [Option.some.injEq] at h
        subst h
        cases hr
        exact .row0 _ _ _ _ _ (env_born hb) hφ.1
      · cases h
    · simp only [Option.some.injEq] at h
      subst h
      cases hr
      exact .ro0 _ hφ.1
  | .row i b z u n, s', φ, v, h, hφ, hr => by
    cases s' <;> simp only [cvq] at h <;> first | (cases h; done) | skip
    · split at h
      · rename_i hf
        simp only [Option.some.injEq] at h
        subst h
        obtain ⟨⟨rfl, rfl, rfl, rfl⟩, _⟩ := hφ
        cases hr with
        | row _ _ _ _ _ b o c n t hE hs ho hl ok => exact .row _ _ _ _ _ b o c n t ((env_from hf).trans hE) hs ho hl ok
        | row0 _ _ _ _ _ hE hl => exact .row0 _ _ _ _ _ ((env_from hf).trans hE) hl
      · cases h
    · split at h
      · rename_i e hgone hrun
        simp only [Option.some.injEq] at h
        subst h
        obtain ⟨rfl, hp, hq, _⟩ := hφ
        have hone : MOk E T (keep M [i]) w := H.le fun id B hf => (keep_find hf).2
        have hrun' : runAt (keep M [i]) i b = some e := by
          rw [← hrun]
          refine runAt_same ?_
          have := runAt_find hrun
          obtain ⟨B, hB⟩ := Option.isSome_iff_exists.1 this
          simp [keep, hB, find_cons]
        have ho : ∀ id b, (find (keep M [i]) id).isSome = true → E id = some (some b) → ¬ T' b := fun id b hf hE => by
          obtain ⟨B, hB⟩ := Option.isSome_iff_exists.1 hf
          obtain ⟨h1, h2⟩ := keep_find hB
          simp at h1
          subst h1
          exact hg id b hgone (by rw [h2]; rfl) hE
        refine Rep.up ?_
        rcases hq with ⟨rfl, rfl, rfl⟩ | ⟨hle, rfl⟩
        · exact Conv.ok hone hT ho (.all i b _ _ e hrun' rfl rfl hp) hr
        · exact Conv.ok hone hT ho (.row i b _ u n e hrun' rfl hle hp) hr
      · cases h
  | .ro e, s', φ, v, h, hφ, hr => by
    cases s' <;> simp only [cvq] at h <;> first | (cases h; done) | skip
    simp only [Option.some.injEq] at h
    subst h
    obtain ⟨rfl, hp, _⟩ := hφ
    exact pure_to hT hr (by simpa only [pureS] using hp)
  | .agg l, s', φ, v, h, hφ, hr => by
    have key : ∀ l' {φ : List Prop} {cs : List Value}, cvqL σ M M' l l' = some φ → AllP φ → Items E T w l cs → Items (envOf σ M' E) T' w l' cs := fun l' => cvqL_items H hT hg l l'
    cases s' <;> simp only [cvq] at h <;> first | (cases h; done) | skip
    cases hr with
    | agg _ cs hI => exact .agg _ _ (key _ h hφ hI)
  | .arr n e, s', φ, v, h, hφ, hr => by
    obtain ⟨rfl, hp⟩ := cvq_arr h hφ
    exact pure_to hT hr (by simpa only [pureS] using hp)
  | .tup l, s', φ, v, h, hφ, hr => by
    have key : ∀ l' {φ : List Prop} {cs : List Value}, cvqL σ M M' l l' = some φ → AllP φ → Tup E T w l cs → Tup (envOf σ M' E) T' w l' cs := fun l' => cvqL_tup H hT hg l l'
    cases s' <;> simp only [cvq] at h <;> first | (cases h; done) | skip
    cases hr with
    | tup _ vs ht => exact .tup _ _ (key _ h hφ ht)
  | .fn f l, s', φ, v, h, hφ, hr => by
    have key : ∀ l' {φ : List Prop} {cs : List Value}, cvqL σ M M' l l' = some φ → AllP φ → Tup E T w l cs → Tup (envOf σ M' E) T' w l' cs := fun l' => cvqL_tup H hT hg l l'
    cases s' <;> simp only [cvq] at h <;> first | (cases h; done) | skip
    split at h
    · rename_i ψ hψ
      simp only [Option.some.injEq] at h
      subst h
      obtain ⟨rfl, h2⟩ := hφ
      cases hr with
      | fn _ _ vs ht => exact .fn _ _ _ (key _ hψ h2 ht)
    · cases h
  | .mv f l, s', φ, v, h, hφ, hr => by
    have key : ∀ l' {φ : List Prop} {cs : List Value}, cvqL σ M M' l l' = some φ → AllP φ → Tup E T w l cs → Tup (envOf σ M' E) T' w l' cs := fun l' => cvqL_tup H hT hg l l'
    cases s' <;> simp only [cvq] at h <;> first | (cases h; done) | skip
    split at h
    · rename_i ψ hψ
      simp only [Option.some.injEq] at h
      subst h
      obtain ⟨rfl, h2⟩ := hφ
      cases hr with
      | mv _ _ vs ht => exact .mv _ _ _ (key _ hψ h2 ht)
    · cases h
  | .ifc t s, s', φ, v, h, hφ, hr => by
    have key : ∀ s1, (∀ {φ : List Prop} {v : Value}, cvq σ M M' s s1 = some φ → AllP φ → Rep E T w s v → Rep (envOf σ M' E) T' w s1 v) := fun s1 => cvq_ok H hT hg s s1
    cases s' <;> simp only [cvq] at h <;> first | (cases h; done) | skip
    split at h
    · rename_i ψ hψ
      simp only [Option.some.injEq] at h
      subst h
      obtain ⟨rfl, h2⟩ := hφ
      cases hr with
      | ifc _ _ v hr' => exact .ifc _ _ _ (key _ hψ h2 hr')
    · cases h
  | .nili, s', φ, v, h, hφ, hr => by
    cases s' <;> simp only [cvq] at h <;> first | (cases h; done) | skip
    exact pure_to hT hr (by simp [pureS])
  | .nilf, s', φ, v, h, hφ, hr => by
    cases s' <;> simp only [cvq] at h <;> first | (cases h; done) | skip
    exact pure_to hT hr (by simp [pureS])
  | .bsl i n, s', φ, v, h, hφ, hr => by
    cases s' <;> simp only [cvq] at h <;> first | (cases h; done) | skip
    split at h
    · rename_i hf
      simp only [Option.some.injEq] at h
      subst h
      obtain ⟨rfl, _⟩ := hφ
      cases hr with
      | bsl _ _ b n t hE hs hl ok => exact .bsl _ _ b n t ((env_from hf).trans hE) hs hl ok
      | bsl0 _ _ hE hl => exact .bsl0 _ _ ((env_from hf).trans hE) hl
    · cases h
  | .anyi k, s', φ, v, h, hφ, hr => by
    cases s' <;> simp only [cvq] at h <;> first | (cases h; done) | skip
    split at h
    · rename_i hf
      cases kindB_eq hf
      cases hr with
      | anyi _ n => exact .anyi _ n
    · cases h
  | .val x, s', φ, v, h, hφ, hr => by
    cases s' <;> simp only [cvq] at h <;> first | (cases h; done) | skip
    simp only [Option.some.injEq] at h
    subst h
    obtain ⟨rfl, _⟩ := hφ
    exact pure_to hT hr (by simp [pureS])
theorem cvqL_items (H : MOk E T M w) (hT : ∀ b, b < w.heap.size → T' b → T b) (hg : ∀ i b, goneB σ i M' = true → (find M i).isSome = true → E i = some (some b) → ¬ T' b) :
    ∀ (l l' : List SV) {φ : List Prop} {cs : List Value}, cvqL σ M M' l l' = some φ → AllP φ → Items E T w l cs → Items (envOf σ M' E) T' w l' cs
  | [], l', φ, cs, h, hφ, hI => by
    cases l' <;> simp only [cvqL] at h <;> first | (cases h; done) | skip
    cases hI
    exact .nil
  | s :: l, l', φ, cs, h, hφ, hI => by
    have k1 : ∀ s1, (∀ {φ : List Prop} {v : Value}, cvq σ M M' s s1 = some φ → AllP φ → Rep E T w s v → Rep (envOf σ M' E) T' w s1 v) := fun s1 => cvq_ok H hT hg s s1
    have k2 : ∀ l' {φ : List Prop} {cs : List Value}, cvqL σ M M' l l' = some φ → AllP φ → Items E T w l cs → Items (envOf σ M' E) T' w l' cs := fun l' => cvqL_items H hT hg l l'
    cases l' with
    | nil => simp only [cvqL] at h; cases h
    | cons s1 l1 =>
      simp only [cvqL] at h
      split at h
      · rename_i φ1 h1
        split at h
        · rename_i φ2 h2
          simp only [Option.some.injEq] at h
          subst h
          obtain ⟨p1, p2⟩ := AllP.app hφ
          cases hI with
          | one _ c _ r hone hr hI' => exact .one _ _ _ _ (cvq_one h1 p1 hone) (k1 s1 h1 p1 hr) (k2 l1 h2 p2 hI')
          | arr n e _ c1 r hr hI' =>
            have := k1 s1 h1 p1 hr
            obtain ⟨rfl, _⟩ := cvq_arr h1 p1
            exact .arr _ _ _ _ _ this (k2 l1 h2 p2 hI')
        · cases h
      · cases h
theorem cvqL_tup (H : MOk E T M w) (hT : ∀ b, b < w.heap.size → T' b → T b) (hg : ∀ i b, goneB σ i M' = true → (find M i).isSome = true → E i = some (some b) → ¬ T' b) :
    ∀ (l l' : List SV) {φ : List Prop} {cs : List Value}, cvqL σ M M' l l' = some φ → AllP φ → Tup E T w l cs → Tup (envOf σ M' E) T' w l' cs
  | [], l', φ, cs, h, hφ, hI => by
    cases l' <;> simp only [cvqL] at h <;> first | (cases h; done) | skip
    cases hI
    exact .nil
  | s :: l, l', φ, cs, h, hφ, hI => by
    have k1 : ∀ s1, (∀ {φ : List Prop} {v : Value}, cvq σ M M' s s1 = some φ → AllP φ → Rep E T w s v → Rep (envOf σ M' E) T' w s1 v) := fun s1 => cvq_ok H hT hg s s1
    have k2 : ∀ l' {φ : List Prop} {cs : List Value}, cvqL σ M M' l l' = some φ → AllP φ → Tup E T w l cs → Tup (envOf σ M' E) T' w l' cs := fun l' => cvqL_tup H hT hg l l'
    cases l' with
    | nil => simp only [cvqL] at h; cases h
    | cons s1 l1 =>
      simp only [cvqL] at h
      split at h
      · rename_i φ1 h1
        split at h
        · rename_i φ2 h2
          simp only [Option.some.injEq] at h
          subst h
          obtain ⟨p1, p2⟩ := AllP.app hφ
          cases hI with
          | cons _ v _ r hr hI' => exact .cons _ _ _ _ (k1 s1 h1 p1 hr) (k2 l1 h2 p2 hI')
        · cases h
      · cases h
end
end
end Go.Proofs.YtpbgihhfcdggkaaGreatDoor.V
end
section
namespace Go.Proofs.YtpbgihhfcdggkaaGreatDoor.V
open Go.RowKit
section
variable {σ : List (Nat × Option Nat)} {M M' : Mem} {E : Env} {T T' : Nat → Prop} {w : World}
theorem wideB_at {wide : Bool} (h : wideB σ wide = true) (hp : wide = true) : sg σ 999 = none := by
  unfold wideB at h
  rw [hp] at h
  dsimp only at h
  split at h
  · cases h
  · assumption
theorem notB_at {i : Nat} : ∀ {L : Mem} {j : Nat}, notB σ i L = true → (find L j).isSome = true → sg σ j ≠ some i
  | [], j, _, h => by simp [find] at h
  | (j0, B) :: r, j, hg, h => by
    simp only [notB, Bool.and_eq_true] at hg
    rw [find_cons] at h
    split at h
    · rename_i e
      subst e
      intro hs
      have := hg.1
      rw [hs] at this
      simp at this
    · exact notB_at hg.2 h
theorem goneB_wide {i : Nat} (h : sg σ 999 = none) {L : Mem} : goneB σ i L = false := by
  simp [goneB, h]
theorem goneB_at {i : Nat} {L : Mem} {j : Nat} (hg : goneB σ i L = true) (h : (find L j).isSome = true) : sg σ j ≠ some i := by
  unfold goneB at hg
  split at hg
  · exact notB_at hg h
  · cases hg
theorem injB_at : ∀ {L : Mem} {j j' i : Nat}, injB σ L = true → (find L j).isSome = true → (find L j').isSome = true → sg σ j = some i → sg σ j' = some i → j = j'
  | [], j, j', i, _, h, _, _, _ => by simp [find] at h
  | (j0, B) :: r, j, j', i, hi, h1, h2, h3, h4 => by
    simp only [injB, Bool.and_eq_true] at hi
    rw [find_cons] at h1 h2
    by_cases e1 : j = j0
    · by_cases e2 : j' = j0
      · omega
      · rw [if_neg e2] at h2
        subst e1
        have := hi.1
        rw [h3] at this
        exact absurd h4 (notB_at this h2)
    · by_cases e2 : j' = j0
      · rw [if_neg e1] at h1
        subst e2
        have := hi.1
        rw [h4] at this
        exact absurd h3 (notB_at this h1)
      · rw [if_neg e1] at h1
        rw [if_neg e2] at h2
        exact injB_at hi.2 h1 h2 h3 h4
theorem cvqM_at : ∀ {L : Mem} {φ : List Prop} {j : Nat} {B' : Blk}, cvqM σ M M' L = some φ → AllP φ → find L j = some B' →
    (∃ i B ψ, sg σ j = some i ∧ find M i = some B ∧ cvqB σ M M' (nestB σ j) B B' = some ψ ∧ AllP ψ) ∨ (sg σ j = none ∧ ∃ t e, B' = .row t e ∧ e.len = 0)
  | [], φ, j, B', _, _, h => by simp [find] at h
  | (j0, B0) :: r, φ, j, B', h, hφ, hf => by
    simp only [cvqM] at h
    split at h
    · rename_i φ1 h1
      split at h
      · rename_i φ2 h2
        simp only [Option.some.injEq] at h
        subst h
        obtain ⟨p1, p2⟩ := AllP.app hφ
        rw [find_cons] at hf
        split at hf
        · rename_i e
          subst e
          cases hf
          split at h1
          · rename_i i hi
            split at h1
            · rename_i B hB
              exact .inl ⟨i, B, φ1, hi, hB, h1, p1⟩
            · cases h1
          · rename_i hi
            split at h1
            · rename_i t e
              simp only [Option.some.injEq] at h1
              subst h1
              exact .inr ⟨hi, t, e, rfl, p1.1⟩
            · cases h1
        · exact cvqM_at h2 p2 hf
      · cases h
    · cases h
theorem cvqT_at : ∀ {F F' : Tr} {φ : List Prop} {t : Nat} {s' : SV}, cvqT σ M M' F F' = some φ → AllP φ → F'.get t = some s' → ∃ s ψ, F.get t = some s ∧ cvq σ M M' s s' = some ψ ∧ AllP ψ
  | F, .e, φ, t, s', _, _, h => by simp [Tr.get] at h
  | .e, .n _ _ _, φ, t, s', h, _, _ => by simp [cvqT] at h
  | .n l x r, .n l' x' r', φ, t, s', h, hφ, hg => by
    simp only [cvqT] at h
    split at h
    · rename_i φ1 h1
      split at h
      · rename_i φ2 h2
        split at h
        · rename_i φ3 h3
          simp only [Option.some.injEq] at h
          subst h
          obtain ⟨p1, p23⟩ := AllP.app hφ
          obtain ⟨p2, p3⟩ := AllP.app p23
          cases t with
          | zero =>
            simp only [Tr.get] at hg ⊢
            subst hg
            simp only at h1
            cases x with
            | none => simp at h1
            | some s => exact ⟨s, φ1, rfl, h1, p1⟩
          | succ t =>
            simp only [Tr.get] at hg ⊢
            cases hb : Nat.beq (Nat.mod t 2) 0 with
            | true => rw [hb] at hg; exact cvqT_at h2 p2 hg
            | false => rw [hb] at hg; exact cvqT_at h3 p3 hg
        · cases h
      · cases h
    · cases h
theorem freeB_sup : ∀ {l : List Nat}, freeB M' l = true → Sup l fun k => hasB M' k = false
  | [], _ => trivial
  | i :: r, h => by
    simp only [freeB, Bool.and_eq_true, Bool.not_eq_true'] at h
    have key : ∀ {l : List Nat} {U U' : Nat → Prop}, (∀ k ∈ l, U k → U' k) → Sup l U → Sup l U' := by
      intro l
      induction l with
      | nil => intro _ _ _ _; trivial
      | cons j l ih =>
        intro U U' hu hs
        exact ⟨hu j (List.mem_cons_self ..) hs.1, ih (fun k hk hr => ⟨hu k (List.mem_cons_of_mem _ hk) hr.1, hr.2⟩) hs.2⟩
    refine ⟨h.1.1, key (fun k hk hu => ⟨hu, fun e => ?_⟩) (freeB_sup h.2)⟩
    subst e
    have := h.1.2
    simp at this
    exact this hk
end
section
variable {X : IntKind → Bool} {C : Ctx} {Q0 : Exit → Act → World → Prop} {σ : List (Nat × Option Nat)} {F F' : Tr} {M M' : Mem} {ids ids' : List Nat} {k : List Kont}
theorem freeP_sup {pins : List Nat} : ∀ {l : List Nat} {U : Nat → Prop}, freeP pins l = true → Sup l U → Sup l fun k => U k ∧ pins.elem k = false
  | [], _, _, _ => trivial
  | i :: r, U, h, hs => by
    simp only [freeP, Bool.and_eq_true, Bool.not_eq_true'] at h
    have := freeP_sup h.2 hs.2
    have e : (fun k => rest U i k ∧ pins.elem k = false) = rest (fun k => U k ∧ pins.elem k = false) i := funext fun k => propext ⟨fun ⟨⟨a, b⟩, c⟩ => ⟨⟨a, c⟩, b⟩, fun ⟨⟨a, c⟩, b⟩ => ⟨⟨a, b⟩, c⟩⟩
    rw [e] at this
    exact ⟨⟨hs.1, h.1⟩, this⟩
theorem pinB_at : ∀ {l : List Nat} {j : Nat}, pinB σ M' l = true → l.elem j = true → hasB M' j = true → sg σ j = some j
  | [], j, _, hj, _ => by cases hj
  | i :: r, j, h, hj, hb0 => by
    simp only [pinB, Bool.and_eq_true] at h
    have hj' : j = i ∨ r.elem j = true := by
      unfold List.elem at hj
      split at hj
      · rename_i hji; exact .inl (eq_of_beq hji)
      · exact .inr hj
    rcases hj' with rfl | hj
    · have h1 := h.1
      rw [hb0] at h1
      dsimp only at h1
      split at h1
      · rename_i i hs
        cases Nat.eq_of_beq_eq_true h1
        exact hs
      · cases h1
    · exact pinB_at h.2 hj hb0
theorem into_ok {U : Nat → Prop} {E : Env} {a : Act} {w : World} {φ : List Prop} (hst : St C F M U E a w) (h : intoF C.wide C.pins σ F M F' M' ids' = some φ) (hφ : AllP φ) : ∃ U' E', Sup ids' U' ∧ St C F' M' U' E' a w := by
  unfold intoF at h
  split at h
  · rename_i hB
    simp only [Bool.and_eq_true] at hB
    obtain ⟨⟨⟨hB, hpin⟩, hwide⟩, hfp⟩ := hB
    split at h
    · rename_i φ1 hM
      split at h
      · rename_i φ2 hF
        rw [fP_eq] at h
        simp only [Option.some.injEq] at h
        subst h
        obtain ⟨p1, p2⟩ := AllP.app hφ
        have hfrom : ∀ j b, (find M' j).isSome = true → envOf σ M' E j = some (some b) → ∃ i, sg σ j = some i ∧ E i = some (some b) ∧ (find M i).isSome = true := fun j b hj hE => by
          obtain ⟨B', hB'⟩ := Option.isSome_iff_exists.1 hj
          unfold envOf at hE
          rw [if_pos (hasB_iff.2 hj)] at hE
          rcases cvqM_at hM p1 hB' with ⟨i, B, _, h1, h2, _, _⟩ | ⟨h1, _⟩
          · rw [h1] at hE
            exact ⟨i, h1, hE, by rw [h2]; rfl⟩
          · rw [h1] at hE
            simp at hE
        have hT0 : ∀ b, trk C.T0 M' (envOf σ M' E) b → trk C.T0 M E b := by
          rintro b (⟨j, B', h1, h2⟩ | h0)
          · obtain ⟨i, _, h4, h5⟩ := hfrom j b (by rw [h1]; rfl) h2
            obtain ⟨B, hB⟩ := Option.isSome_iff_exists.1 h5
            exact .inl ⟨i, B, hB, h4⟩
          · exact .inr h0
        have hT : ∀ b, b < w.heap.size → trk C.T0 M' (envOf σ M' E) b → trk C.T0 M E b := fun b _ => hT0 b
        have hg : ∀ i b, goneB σ i M' = true → (find M i).isSome = true → E i = some (some b) → ¬ trk C.T0 M' (envOf σ M' E) b := by
          rintro i b hgone hfi hEi (⟨j, B', h1, h2⟩ | h0)
          · obtain ⟨i', h3, h4, h5⟩ := hfrom j b (by rw [h1]; rfl) h2
            have := hst.mem.inj i i' b hfi h5 hEi h4
            subst this
            exact goneB_at hgone (by rw [h1]; rfl) h3
          · refine hst.apart ?_ i b hfi hEi h0
            cases hp9 : C.wide with
            | false => rfl
            | true => exact absurd hgone (by rw [goneB_wide (wideB_at hwide hp9)]; exact Bool.false_ne_true)
        have hslots : ∀ t s', F'.get t = some s' → Rep (envOf σ M' E) (trk C.T0 M' (envOf σ M' E)) w s' (a.tmps.getD t undef) := fun t s' hs => by
          obtain ⟨s, ψ, h1, h2, h3⟩ := cvqT_at hF p2 hs
          exact cvq_ok hst.mem hT hg s s' h2 h3 (hst.slots t s h1)
        suffices hmem : MOk (envOf σ M' E) (trk C.T0 M' (envOf σ M' E)) M' w ∧ (∀ id b, (find M' id).isSome = true → envOf σ M' E id = some (some b) → C.W0.heap.size ≤ b ∨ C.S b) by
          obtain ⟨hm, ho⟩ := hmem
          let E2 : Env := fun j => if hasB M' j = true then envOf σ M' E j else if C.pins.elem j = true then E j else none
          have e1 : ∀ j, hasB M' j = true → E2 j = envOf σ M' E j := fun j hj => if_pos hj
          have h12 : ∀ i x, envOf σ M' E i = some x → E2 i = some x := fun i x hi => by
            have hb : hasB M' i = true := by
              unfold envOf at hi
              split at hi
              · assumption
              · cases hi
            rw [e1 i hb]; exact hi
          have hmine : ∀ b, mine M' E2 b ↔ mine M' (envOf σ M' E) b := fun b => ⟨fun ⟨j, B, q1, q2⟩ => ⟨j, B, q1, by rw [← e1 j (hasB_iff.2 (by rw [q1]; rfl))]; exact q2⟩, fun ⟨j, B, q1, q2⟩ => ⟨j, B, q1, h12 _ _ q2⟩⟩
          have htrk : trk C.T0 M' E2 = trk C.T0 M' (envOf σ M' E) := funext fun b => propext ⟨fun h => h.imp (hmine b).1 id, fun h => h.imp (hmine b).2 id⟩
          have hm2 : MOk E2 (trk C.T0 M' E2) M' w := by
            rw [htrk]
            refine ⟨fun j B hj => ?_, fun j j' b h1 h2 h3 h4 => ?_⟩
            · rcases hm.blk j B hj with ⟨b, q1, q2, q3⟩ | ⟨q1, q2⟩
              · exact .inl ⟨b, h12 _ _ q1, q2, q3.mono h12 (fun _ _ h => h) (Chg.refl _ w) rfl⟩
              · exact .inr ⟨h12 _ _ q1, q2⟩
            · rw [e1 j (hasB_iff.2 h1)] at h3
              rw [e1 j' (hasB_iff.2 h2)] at h4
              exact hm.inj j j' b h1 h2 h3 h4
          refine ⟨fun j => hasB M' j = false ∧ C.pins.elem j = false, E2, freeP_sup hfp (freeB_sup hB.2), hst.defers, hst.size, fun t s hs => by rw [htrk]; exact (hslots t s hs).mono h12 (fun _ _ h => h) (Chg.refl _ w), hm2, fun j b h1 h2 => ?_, fun j hj => ?_, hst.kp, hst.hid, by rw [htrk]; exact hst.glob.mono hT (Chg.refl _ w), fun p hp id b h2 => ?_, fun p hp t s hs => by rw [htrk]; exact (hst.held p hp t s hs).mono (fun _ _ h => h) hT (Chg.refl _ w)⟩
          · rw [e1 j (hasB_iff.2 h1)] at h2
            exact ho j b h1 h2
          · show (if hasB M' j = true then envOf σ M' E j else if C.pins.elem j = true then E j else none) = none
            rw [if_neg (by rw [hj.1]; simp), if_neg (by rw [hj.2]; simp)]
          · obtain ⟨h1, h3⟩ := hst.pin p hp id b h2
            refine ⟨h1, ?_⟩
            show (if hasB M' id = true then envOf σ M' E id else if C.pins.elem id = true then E id else none) = some b
            by_cases q : hasB M' id = true
            · rw [if_pos q]
              have q2 := pinB_at hpin h1 q
              unfold envOf
              rw [if_pos q, q2]
              exact h3
            · rw [if_neg q, if_pos h1]
              exact h3
        refine ⟨⟨fun j B' hj => ?_, fun j j' b h1 h2 h3 h4 => ?_⟩, fun j b h1 h2 => ?_⟩
        · rcases cvqM_at hM p1 hj with ⟨i, B, ψ, h1, h2, h3, h4⟩ | ⟨h1, t, e, rfl, h3⟩
          · have hEj : envOf σ M' E j = E i := by
              unfold envOf
              rw [if_pos (hasB_iff.2 (by rw [hj]; rfl)), h1]
            rw [hEj]
            rcases hst.mem.blk i B h2 with ⟨b, q1, q2, q3⟩ | ⟨q1, t, e, rfl, q2⟩
            · left
              refine ⟨b, q1, q2, ?_⟩
              unfold cvqB at h3
              split at h3
              · split at h3
                · rename_i htt
                  cases Nat.eq_of_beq_eq_true htt
                  obtain ⟨cs, r1, r2⟩ := q3
                  exact ⟨cs, r1, cvqL_items hst.mem hT hg _ _ h3 h4 r2⟩
                · cases h3
              · split at h3
                · rename_i htt
                  cases Nat.eq_of_beq_eq_true htt
                  split at h3
                  · obtain ⟨g1, g2, g3, hp⟩ := sameE_ok h3 h4
                    obtain ⟨cs, c, r1, r2, r3, r4, r5⟩ := q3
                    refine ⟨cs, c, r1, by rw [← g1, ← g2]; exact r2, fun n hn => by rw [← g2]; exact r3 n (by rw [g1]; exact hn), fun n j v hn hv => by rw [← g2]; exact r4 n j v (by rw [g1]; exact hn) hv, fun n hn => ?_⟩
                    have hn' := hn
                    rw [← g1] at hn'
                    rw [← g3 n hn']
                    have : Items (fun _ => none) (trk C.T0 M E) w _ (c n) := Items.free_ (r5 n hn') (hp.items hn')
                    exact this.mono (fun _ _ h => by cases h) hT (Chg.refl _ w)
                  · unfold nestE at h3
                    split at h3
                    · simp only [Option.some.injEq] at h3
                      subst h3
                      obtain ⟨rfl, rfl, g3, _⟩ := h4
                      obtain ⟨cs, c, r1, r2, r3, r4, r5⟩ := q3
                      refine ⟨cs, c, r1, r2, r3, r4, fun n hn => ?_⟩
                      obtain ⟨ψ, k1, k2⟩ := g3 n hn
                      exact cvqL_items hst.mem hT hg _ _ k1 k2 (r5 n hn)
                    · cases h3
                · cases h3
              · simp only [Option.some.injEq] at h3
                subst h3
                obtain ⟨rfl, _⟩ := h4
                exact q3
              · cases h3
            · right
              refine ⟨q1, ?_⟩
              cases B' with
              | cells t' l' => simp [cvqB] at h3
              | row t' e' =>
                simp only [cvqB] at h3
                split at h3
                · split at h3
                  · obtain ⟨g1, _⟩ := sameE_ok h3 h4
                    exact ⟨_, _, rfl, by rw [← g1]; exact q2⟩
                  · unfold nestE at h3
                    split at h3
                    · simp only [Option.some.injEq] at h3
                      subst h3
                      obtain ⟨rfl, rfl, _, _⟩ := h4
                      exact ⟨_, _, rfl, q2⟩
                    · cases h3
                · cases h3
              | obj o => simp [cvqB] at h3
          · right
            refine ⟨?_, t, e, rfl, h3⟩
            unfold envOf
            rw [if_pos (hasB_iff.2 (by rw [hj]; rfl)), h1]
        · obtain ⟨i, k1, k2, k3⟩ := hfrom j b h1 h3
          obtain ⟨i', l1, l2, l3⟩ := hfrom j' b h2 h4
          have := hst.mem.inj i i' b k3 l3 k2 l2
          subst this
          exact injB_at hB.1 h1 h2 k1 l1
        · obtain ⟨i, k1, k2, k3⟩ := hfrom j b h1 h2
          exact hst.own i b k3 k2
      · cases h
    · cases h
  · cases h
def RoundsI (C : Ctx) (Q0 : Exit → Act → World → Prop) (k : List Kont) (body : Code) (n : Nat) : Act → World → Prop := Code.rounds C.P body (Kq C.P Q0 k) n
theorem Sat.unroll {body : Code} (n : Nat) (h : Sat C Q0 (.code body F M ids (.lp (RoundsI C Q0 k body n) :: k))) : Sat C Q0 (.code (.loop body) F M ids k) :=
  fun U E a w hsup hst => wp_loop_rounds (n + 1) (h U E a w hsup hst)
theorem Sat.again {body : Code} {n : Nat} (h : Sat C Q0 (.code body F M ids (.lp (RoundsI C Q0 k body n) :: k))) : Sat C Q0 (.ext .normal F M ids (.lp (RoundsI C Q0 k body (n + 1)) :: k)) :=
  fun U E a w hsup hst => h U E a w hsup hst
def dstsO : List Oper → List Nat → List Nat
  | [], acc => acc
  | o :: r, acc => match o.dst with
    | some d => dstsO r (d :: acc)
    | none => dstsO r acc
def dstsC : Code → List Nat → List Nat
  | .region _ ⟨ops⟩ _, acc => dstsO ops acc
  | .seq a b, acc => dstsC a (dstsC b acc)
  | .cond _ a b, acc => dstsC a (dstsC b acc)
  | .block _ a, acc => dstsC a acc
  | .loop a, acc => dstsC a acc
  | .scope a, acc => dstsC a acc
  | _, acc => acc
def killF : List Nat → Tr → (Tr → Option Tr) → Option Tr
  | [], F, K => K F
  | d :: r, F, K => F.putK d none fun F' => killF r F' K
def putL : List (Nat × SV) → Tr → Option Tr
  | [], F => some F
  | (d, s) :: r, F => F.putK d (some s) fun F' => putL r F'
def dropMay {α : Type} : Tr → (Tr → Option α) → Option α
  | .e, K => K .e
  | .n l x r, K => dropMay l fun l' => dropMay r fun r' => match x with
    | some (.may _ _) => K (.n l' none r')
    | x => K (.n l' x r')
def headT (F : Tr) (c : Code) (l : List (Nat × SV)) : Option Tr := killF (dstsC c []) F fun F' => dropMay F' (putL l)
def dropM (dm : List Nat) : Mem → (Mem → Option Mem) → Option Mem
  | [], K => K []
  | (i, B) :: r, K => match dm.elem i with
    | true => dropM dm r K
    | false => dropM dm r fun r' => K ((i, B) :: r')
def setM : List (Nat × Blk) → Mem → Option Mem
  | [], M => some M
  | (i, B) :: r, M => match upd M i B with
    | some M' => setM r M'
    | none => setM r ((i, B) :: M)
def headM (M : Mem) (dm : List Nat) (l : List (Nat × Blk)) : Option Mem := dropM dm M (setM l)
def dropN : List Nat → Nat → Option (List Nat)
  | l, 0 => some l
  | [], _ + 1 => none
  | _ :: r, n + 1 => dropN r n
def BackI (C : Ctx) (ids : List Nat) {α : Type} (Fh : α → Tr) (Mh : α → Mem) (Cx : α → Prop) (m : α → Nat) (x : α) (a : Act) (w : World) : Prop :=
  ∃ x', Cx x' ∧ m x' < m x ∧ ∃ U E, Sup ids U ∧ St C (Fh x') (Mh x') U E a w
theorem Sat.loop {α : Type} {body : Code} {Fh : α → Tr} {Mh : α → Mem} {φ : List Prop} (Cx : α → Prop) (m : α → Nat) (x0 : α) (fr : α → List (Nat × SV)) (mr : α → List (Nat × Blk)) (dm : List Nat) (σ : List (Nat × Option Nat)) (n : Nat)
    (_hF : ∀ x, headT F body (fr x) = some (Fh x)) (_hM : ∀ x, headM M dm (mr x) = some (Mh x)) (_hi : dropN ids n = some ids') (hin : intoF C.wide C.pins σ F M (Fh x0) (Mh x0) ids' = some φ) (hφ : AllP φ) (h0 : Cx x0)
    (step : ∀ x, Cx x → Sat C Q0 (.code body (Fh x) (Mh x) ids' (.lp (BackI C ids' Fh Mh Cx m x) :: k))) : Sat C Q0 (.code (.loop body) F M ids k) := by
  intro U E a w hsup hst
  obtain ⟨U', E', h1, h2⟩ := into_ok hst hin hφ
  refine wp_loop_ghost (fun n a w => ∃ x, Cx x ∧ m x = n ∧ ∃ U E, Sup ids' U ∧ St C (Fh x) (Mh x) U E a w) (m x0) ⟨x0, h0, rfl, U', E', h1, h2⟩ ?_
  rintro n a w ⟨x, hx, rfl, U, E, hs, hst⟩
  refine wp_mono (step x hx U E a w hs hst) ?_
  intro e a' w' hq
  cases e with
  | normal =>
    obtain ⟨x', q1, q2, U2, E2, q3, q4⟩ := hq
    exact ⟨m x', q2, x', q1, rfl, U2, E2, q3, q4⟩
  | exit id => exact hq
  | goto l => exact hq
  | ret => exact hq
  | panic v => exact hq
  | outgrown => exact hq
theorem Sat.back {α : Type} {Fh : α → Tr} {Mh : α → Mem} {Cx : α → Prop} {m : α → Nat} {x : α} {φ : List Prop} {ids0 : List Nat} (x' : α) (σ : List (Nat × Option Nat)) (hin : intoF C.wide C.pins σ F M (Fh x') (Mh x') ids0 = some φ) (hφ : AllP φ) (hC : Cx x') (hm : m x' < m x) :
    Sat C Q0 (.ext .normal F M ids (.lp (BackI C ids0 Fh Mh Cx m x) :: k)) := by
  intro U E a w hsup hst
  obtain ⟨U', E', h1, h2⟩ := into_ok hst hin hφ
  exact ⟨x', hC, hm, U', E', h1, h2⟩
end
end Go.Proofs.YtpbgihhfcdggkaaGreatDoor.V
end
section
namespace Go.Proofs.YtpbgihhfcdggkaaGreatDoor.V
open Go.RowKit Go.ChangeShapes Go.WideShapes
section
variable {H : Type}
def ptsD : DataW H → List (DataW H)
  | .agg l => l
  | _ => []
def nthD : List (DataW H) → Nat → DataW H
  | [], _ => .nil
  | x :: _, 0 => x
  | _ :: r, n + 1 => nthD r n
def iOf : DataW H → Int
  | .lit (.int _ n) => n
  | _ => 0
def bOf : DataW H → Bool
  | .lit (.bool b) => b
  | _ => false
def sOf : DataW H → List UInt8
  | .lit (.string l) => l
  | _ => []
def eOf : DataW H → List (DataW H)
  | .slice l _ => l
  | _ => []
def u8Of (x : DataW H) : UInt8 := UInt8.ofNat (iOf x).toNat
theorem nthD_get : ∀ (l : List (DataW H)) (i : Nat) (x : DataW H), l[i]? = some x → nthD l i = x
  | [], i, x, h => by simp at h
  | y :: r, 0, x, h => by simpa [nthD] using h
  | y :: r, i + 1, x, h => by simpa [nthD] using nthD_get r i x (by simpa using h)
def svFs (q : TypeId → DataW H → List SV) (l : List (DataW H)) : List Field → Nat → List SV
  | [], _ => []
  | ⟨_, t, _, _, _, _, _⟩ :: fs, i => q t (nthD l i) ++ svFs q l fs (i + 1)
def svEs (q : DataW H → List SV) (l : List (DataW H)) : Nat → Nat → List SV
  | 0, _ => []
  | n + 1, i => q (nthD l i) ++ svEs q l n (i + 1)
def szT (P : Program) (t : TypeId) : Nat :=
  match P.info? t with
  | some i => i.size
  | none => 0
def svI (P : Program) : Nat → TypeId → DataW H → List SV
  | 0, _, _ => []
  | d + 1, t, x => match P.underlying t with
    | some .bool => [.bool (bOf x)]
    | some (.int k) => [.int k (iOf x)]
    | some .string => [.str (sOf x)]
    | some (.slice e) => match P.underlying e with
      | some (.int .u8) => [.ro (.u8 ((eOf x).map u8Of))]
      | some (.int k) => [.ro (.ints k ((eOf x).map iOf))]
      | _ => [.ro (.g (eOf x).length (szT P e) fun i => svI P d e (nthD (eOf x) i))]
    | some (.struct fs) => svFs (svI P d) (ptsD x) fs.toList 0
    | some (.array n e) => match P.underlying e with
      | some (.int .u8) => match Nat.ble 9 n with
        | true => [.arr n (.u8 ((ptsD x).map u8Of))]
        | false => svEs (svI P d e) (ptsD x) n 0
      | some (.int k) => match Nat.ble 9 n with
        | true => [.arr n (.ints k ((ptsD x).map iOf))]
        | false => svEs (svI P d e) (ptsD x) n 0
      | _ => svEs (svI P d e) (ptsD x) n 0
    | _ => []
def okFs (q : TypeId → Bool) (P : Program) : List Field → Nat → Nat → Bool
  | [], n, s => Nat.beq n s
  | ⟨_, t, off, _, _, _, _⟩ :: fs, n, s => q t && Nat.beq off n && okFs q P fs (n + P.cellsOf t) s
def okT (P : Program) : Nat → TypeId → Bool
  | 0, _ => false
  | d + 1, t => match P.underlying t with
    | some .bool | some (.int _) | some .string => Nat.beq (P.cellsOf t) 1
    | some (.slice e) => Nat.beq (P.cellsOf t) 1 && Nat.ble 1 (P.cellsOf e) && okT P d e
    | some (.struct fs) => okFs (okT P d) P fs.toList 0 (P.cellsOf t)
    | some (.array n e) => okT P d e && Nat.beq (n * P.cellsOf e) (P.cellsOf t)
    | _ => false
end
section
variable {H : Type} {enc : TypeId × Value → H} {P : Program} {w : World} {T : Nat → Prop}
theorem szT_eq (t : TypeId) : szT P t = P.cellsOf t := by
  unfold szT Program.cellsOf
  cases P.info? t <;> rfl
theorem cells_inv {a : Addr} {n : Nat} {cs : List Value} (h : w.cells? 0 a n = some cs) : cs.length = n ∧ ∀ j v, cs[j]? = some v → w.cell? (a.add j) = some v := by
  unfold World.cells? at h
  rw [if_pos (Nat.zero_le _)] at h
  have hl := mapM_some_length h
  refine ⟨by simpa using hl, fun j v hj => ?_⟩
  have hlt : j < n := by
    have := (List.getElem?_eq_some_iff.1 hj).1
    simp at hl; omega
  rw [mapM_some_get h j j (by simp [hlt]), hj]
theorem spot_of {a : Addr} {v : Value} (h : w.cell? a = some v) : a.spot = none := by
  unfold World.cell? at h
  split at h
  · split at h
    · cases h
    · rename_i hs
      cases hs' : a.spot with
      | none => rfl
      | some x => simp [hs'] at hs
  · cases h
theorem wf_int {k : IntKind} {n : Int} (h : (Lit.int k n).wf = true) : inR k n := by
  simp only [Lit.wf, Bool.and_eq_true, decide_eq_true_eq] at h
  exact h
theorem u8Of_lit {n : Int} (h : inR .u8 n) : ((u8Of (.lit (.int .u8 n) : DataW H)).toNat : Int) = n := by
  simp [inR, IntKind.min, IntKind.max, IntKind.signed, IntKind.bits] at h
  simp only [u8Of, iOf]
  have h2 : n.toNat < 256 := by omega
  rw [UInt8.toNat_ofNat_of_lt' (by exact h2)]
  omega
theorem trod_items (hT : ∀ b, ¬ T b) : ∀ (d fuel : Nat) {t : TypeId} {cs : List Value} {x : DataW H} {ps : List MemPlace}, okT P d t = true → DataW.trod enc P w 0 (fun _ => true) true fuel t cs = some (x, ps) →
    cs.length = P.cellsOf t ∧ Items E0 T w (svI P d t x) cs
  | 0, _, t, cs, x, ps, ho, h => by simp [okT] at ho
  | d + 1, fuel, t, cs, x, ps, ho, h => by
    simp only [okT] at ho
    split at ho
    · rename_i hu
      have hc := Nat.eq_of_beq_eq_true ho
      obtain ⟨b, rfl, hx⟩ := DataW.trod_bool hu h
      cases hx
      refine ⟨by simpa using hc.symm, ?_⟩
      simp only [svI, hu, bOf]
      exact .one _ _ _ _ rfl (.bool _) .nil
    · rename_i k hu
      have hc := Nat.eq_of_beq_eq_true ho
      obtain ⟨n, rfl, hx, hw⟩ := DataW.trod_int hu h
      cases hx
      refine ⟨by simpa using hc.symm, ?_⟩
      simp only [svI, hu, iOf]
      exact .one _ _ _ _ rfl (.int _ _ (wf_int hw)) .nil
    · rename_i hu
      have hc := Nat.eq_of_beq_eq_true ho
      obtain ⟨s, rfl, hx, hw⟩ := DataW.trod_string hu h
      cases hx
      refine ⟨by simpa using hc.symm, ?_⟩
      simp only [svI, hu, sOf]
      have : (Value.string s) = .string ⟨s.data.toList.toArray⟩ := by simp
      rw [this]
      refine .one _ _ _ _ rfl (.str _ ?_) .nil
      have h1 : s.data.toList.length = s.size := Array.length_toList
      unfold okLen
      rw [h1]
      exact Nat.le_trans hw (by decide)
    · rename_i e hu
      simp only [Bool.and_eq_true] at ho
      obtain ⟨⟨h1, h2⟩, h3⟩ := ho
      have hc := Nat.eq_of_beq_eq_true h1
      have hpos := Nat.le_of_ble_eq_true h2
      have hcl : cs.length = P.cellsOf t ∧ ∀ ev : EV, (ev.len = (eOf x).length) → (ev.sz = P.cellsOf e) →
          (∀ i y cs', (eOf x)[i]? = some y → cs'.length = P.cellsOf e → (∃ m p, DataW.trod enc P w 0 (fun _ => true) true m e cs' = some (y, p)) → Items E0 T w (ev.items i) cs') → Items E0 T w [.ro ev] cs := by
        rcases Deep.open_slice hu h with ⟨rfl, hx⟩ | ⟨a, len, cap, m, n, D, Pl, rfl, _, hl, hm, hmm, hx, hel⟩
        · cases hx
          refine ⟨by simpa using hc.symm, fun ev he _ _ => ?_⟩
          exact .one _ _ _ _ rfl (.ro0 _ (by simpa [eOf] using he)) .nil
        · simp only [if_true] at hmm
          subst hmm
          cases hx
          refine ⟨by simpa using hc.symm, fun ev he hz hI => ?_⟩
          simp only [eOf, List.length_map, List.length_range] at he
          refine .one _ _ _ _ rfl ?_ .nil
          rcases Nat.eq_zero_or_pos m with h0 | h0
          · subst h0
            have : len = 0 := by omega
            subst this
            exact .ro1 _ _ he
          · obtain ⟨c0, q0, _⟩ := hel 0 h0
            obtain ⟨l0, g0⟩ := cells_inv q0
            have hv0 : ∃ v, c0[0]? = some v := by
              rw [List.getElem?_eq_getElem (by omega)]
              exact ⟨_, rfl⟩
            obtain ⟨v0, hv0⟩ := hv0
            have hcell := g0 0 v0 hv0
            have ha : a.spot = none := by
              have := spot_of hcell
              have e1 : ((a.add (0 * P.cellsOf e)).add 0) = a := by simp [Addr.add]
              rw [e1] at this
              exact this
            have hb := block_lt_of_cell hcell
            have e1 : ((a.add (0 * P.cellsOf e)).add 0) = a := by simp [Addr.add]
            rw [e1] at hb
            obtain ⟨b, o, sp⟩ := a
            dsimp only at ha hb
            subst ha
            obtain ⟨c, hcc⟩ := Deep.choose_lt hel
            refine .ro _ b o len m c (hT b) (fun i hi => ?_) (fun i j v hi hj => ?_) (fun i hi => ?_) he.symm hl ?_ hb
            · rw [hz]; exact (cells_inv (hcc i (by omega)).1).1
            · have := (cells_inv (hcc i (by omega)).1).2 j v hj
              rw [Addr.add_mk, Addr.add_mk] at this
              rw [hz]
              exact this
            · have h5 := hcc i (by omega)
              refine hI i (D i) (c i) ?_ (cells_inv h5.1).1 ⟨n, _, h5.2⟩
              have : i < len := by omega
              simp [eOf, this]
            · unfold okLen
              exact Nat.le_trans hm (by decide)
      refine ⟨hcl.1, ?_⟩
      simp only [svI, hu]
      split
      · rename_i he
        refine hcl.2 _ (by simp [EV.len]) ?_ fun i y cs' hy hl' ⟨m, p, ht⟩ => ?_
        · have := trod_items hT d 1 h3 (t := e) (cs := [.int .u8 0]) (x := .lit (.int .u8 0)) (ps := []) (by simp [DataW.trod, he, Lit.wf, IntKind.min, IntKind.max, IntKind.signed, IntKind.bits])
          simpa [EV.sz] using this.1
        · obtain ⟨n, rfl, hx, hw⟩ := DataW.trod_int he ht
          cases hx
          have hlt := (List.getElem?_eq_some_iff.1 hy).1
          have e1 : ((eOf x).map u8Of).getD i 0 = u8Of (.lit (.int .u8 n) : DataW H) := by
            simp [List.getD, hy]
          simp only [EV.items, e1, u8Of_lit (wf_int hw)]
          exact .one _ _ _ _ rfl (.int _ _ (wf_int hw)) .nil
      · rename_i k _ he
        refine hcl.2 _ (by simp [EV.len]) ?_ fun i y cs' hy hl' ⟨m, p, ht⟩ => ?_
        · have := trod_items hT d 1 h3 (t := e) (cs := [.int k 0]) (x := .lit (.int k 0)) (ps := []) (by cases k <;> simp [DataW.trod, he, Lit.wf, IntKind.min, IntKind.max, IntKind.signed, IntKind.bits])
          simpa [EV.sz] using this.1
        · obtain ⟨n, rfl, hx, hw⟩ := DataW.trod_int he ht
          cases hx
          have e1 : ((eOf x).map iOf).getD i 0 = n := by
            simp [List.getD, hy, iOf]
          simp only [EV.items, e1]
          exact .one _ _ _ _ rfl (.int _ _ (wf_int hw)) .nil
      · refine hcl.2 _ (by simp [EV.len]) (szT_eq e) fun i y cs' hy hl' ⟨m, p, ht⟩ => ?_
        simp only [EV.items, nthD_get _ _ _ hy]
        exact (trod_items hT d m h3 ht).2
    · rename_i fs hu
      obtain ⟨xs, n, _, hx, hlen, hxl, hel⟩ := DataW.trod_struct hu h
      cases hx
      refine ⟨hlen, ?_⟩
      simp only [svI, hu, ptsD]
      have key : ∀ (fl : List Field) (i m : Nat), okFs (okT P d) P fl m (P.cellsOf t) = true → (∀ j f, fl[j]? = some f → fs.toList[i + j]? = some f) → m ≤ P.cellsOf t ∧ Items E0 T w (svFs (svI P d) (xs.map (·.1)) fl i) (cs.drop m) := by
        intro fl
        induction fl with
        | nil =>
          intro i m hok _
          have := Nat.eq_of_beq_eq_true hok
          subst this
          refine ⟨Nat.le_refl _, ?_⟩
          rw [List.drop_of_length_le (by omega)]
          exact .nil
        | cons f r ih =>
          intro i m hok hj
          obtain ⟨nm, ft, off, b1, b2, b3, b4⟩ := f
          simp only [okFs, Bool.and_eq_true] at hok
          obtain ⟨⟨q1, q2⟩, q3⟩ := hok
          have q2 := Nat.eq_of_beq_eq_true q2
          subst q2
          obtain ⟨i1, i2⟩ := ih (i + 1) _ q3 fun j f' hf' => by
            have := hj (j + 1) f' (by simpa using hf')
            rwa [show i + (j + 1) = i + 1 + j by omega] at this
          have hf := hj 0 _ rfl
          rw [Nat.add_zero] at hf
          have hf2 : fs[i]? = some ⟨nm, ft, off, b1, b2, b3, b4⟩ := by simpa using hf
          have ht := hel i _ hf2
          dsimp only at ht
          have hlt : i < xs.length := by
            have := (List.getElem?_eq_some_iff.1 hf).1
            rw [hxl]; simpa using this
          rw [List.getElem?_eq_getElem hlt] at ht
          have hh := trod_items hT d n q1 (x := xs[i].1) (ps := xs[i].2) ht
          refine ⟨by omega, ?_⟩
          simp only [svFs]
          have e1 : nthD (xs.map (·.1)) i = xs[i].1 := nthD_get _ _ _ (by simp [hlt])
          rw [e1]
          have e2 : cs.drop off = (cs.drop off).take (P.cellsOf ft) ++ cs.drop (off + P.cellsOf ft) := by
            rw [← List.drop_drop, List.take_append_drop]
          rw [e2]
          exact hh.2.app i2
      have := (key fs.toList 0 0 ho (fun j f hf => by simpa using hf)).2
      simpa using this
    · rename_i n e hu
      simp only [Bool.and_eq_true] at ho
      obtain ⟨h1, h2⟩ := ho
      have hn := Nat.eq_of_beq_eq_true h2
      have ⟨xs, m, hx, hlen, hxl, hel⟩ : ∃ (xs : List (DataW H × List MemPlace)) (m : Nat), x = .agg (xs.map (·.1)) ∧ cs.length = P.cellsOf t ∧ xs.length = n ∧ ∀ i, i < n → DataW.trod enc P w 0 (fun _ => true) true m e ((cs.drop (i * P.cellsOf e)).take (P.cellsOf e)) = xs[i]? := by
        cases fuel with
        | zero => simp [DataW.trod] at h
        | succ m =>
          unfold DataW.trod at h
          rw [hu] at h
          split at h <;> simp_all
          obtain ⟨hl, xs, hp, hd⟩ := h
          exact ⟨xs, hd.1.symm, by simpa using mapM_some_length hp, m, fun i hi => mapM_some_get hp i i (by simp [hi])⟩
      subst hx
      refine ⟨hlen, ?_⟩
      have el : ∀ i (hi : i < n), ∃ y p, xs[i]? = some (y, p) ∧ ((cs.drop (i * P.cellsOf e)).take (P.cellsOf e)).length = P.cellsOf e ∧ DataW.trod enc P w 0 (fun _ => true) true m e ((cs.drop (i * P.cellsOf e)).take (P.cellsOf e)) = some (y, p) ∧ Items E0 T w (svI P d e y) ((cs.drop (i * P.cellsOf e)).take (P.cellsOf e)) := fun i hi => by
        have ht := hel i hi
        rw [List.getElem?_eq_getElem (by omega)] at ht
        have hh := trod_items hT d m h1 (x := xs[i].1) (ps := xs[i].2) ht
        exact ⟨_, _, List.getElem?_eq_getElem (by omega), hh.1, ht, hh.2⟩
      have whole : Items E0 T w (svEs (svI P d e) (xs.map (·.1)) n 0) cs := by
        have key : ∀ (r i : Nat), i + r = n → Items E0 T w (svEs (svI P d e) (xs.map (·.1)) r i) (cs.drop (i * P.cellsOf e)) := by
          intro r
          induction r with
          | zero =>
            intro i hi
            rw [List.drop_of_length_le (by rw [hlen, ← hn]; simp at hi; rw [hi]; exact Nat.le_refl _)]
            exact .nil
          | succ r ih =>
            intro i hi
            obtain ⟨y, p, hy, _, _, hI⟩ := el i (by omega)
            have := ih (i + 1) (by omega)
            simp only [svEs]
            rw [nthD_get (xs.map (·.1)) i y (by simp [hy])]
            have e2 : cs.drop (i * P.cellsOf e) = (cs.drop (i * P.cellsOf e)).take (P.cellsOf e) ++ cs.drop ((i + 1) * P.cellsOf e) := by
              rw [Nat.add_mul, Nat.one_mul, ← List.drop_drop, List.take_append_drop]
            rw [e2]
            exact hI.app this
        simpa using key n 0 (by omega)
      have flat : ∀ (k : IntKind) (ev : EV), P.underlying e = some (.int k) → ev.len = n → ev.sz = 1 → (∀ i y, xs[i]? = some y → inR k (iOf y.1) → y.1 = .lit (.int k (iOf y.1)) → ev.items i = [.int k (iOf y.1)]) → Items E0 T w [.arr n ev] cs := by
        intro k ev he hl hz hit
        have hc1 : P.cellsOf e = 1 := by
          cases d with
          | zero => simp [okT] at h1
          | succ d =>
            simp only [okT, he] at h1
            exact Nat.eq_of_beq_eq_true h1
        rw [hc1] at hn
        have hcn : cs.length = n := by omega
        have cell : ∀ i (hi : i < n), ∃ q, inR k q ∧ cs[i]? = some (.int k q) ∧ ∃ p, xs[i]? = some (.lit (.int k q), p) := fun i hi => by
          obtain ⟨y, p, hy, _, ht, _⟩ := el i hi
          obtain ⟨q, hq, hx, hw⟩ := DataW.trod_int he ht
          rw [hc1, Nat.mul_one] at hq
          refine ⟨q, wf_int hw, ?_, p, by rw [hy]; simp only [Prod.mk.injEq] at hx; rw [hx.1]⟩
          have : ((cs.drop i).take 1)[0]? = some (.int k q) := by rw [hq]; rfl
          simpa using this
        have hr : Rep E0 T w (.arr n ev) (.agg cs.toArray) := by
          refine .arr n ev cs (fun i => [cs.getD i undef]) (fun i hi => by simp [hz]) hcn (by rw [hl, hz, Nat.mul_one]) (fun v hv => ?_) (fun i j v hi hj => ?_) (fun i hi => ?_)
          · obtain ⟨i, hi, hvi⟩ := List.getElem_of_mem hv
            obtain ⟨q, _, h2, _⟩ := cell i (by omega)
            rw [List.getElem?_eq_getElem hi, Option.some.injEq] at h2
            rw [← hvi, h2]
            rfl
          · obtain ⟨q, _, h2, _⟩ := cell i (by omega)
            cases j with
            | zero =>
              simp only [List.getElem?_cons_zero, Option.some.injEq] at hj
              rw [← hj, hz, Nat.mul_one, Nat.add_zero, h2]
              simp [List.getD, h2]
            | succ j => simp at hj
          · obtain ⟨q, h1, h2, p, h3⟩ := cell i (by omega)
            have h4 := hit i _ h3 h1 rfl
            simp only [iOf] at h4
            rw [h4]
            have : cs.getD i undef = .int k q := by simp [List.getD, h2]
            rw [this]
            exact .one _ _ _ _ rfl (.int _ _ h1) .nil
        have := Items.arr (E := E0) (T := T) (w := w) n ev [] cs [] hr .nil
        simpa using this
      simp only [svI, hu, ptsD]
      split
      · rename_i he
        split
        · refine flat .u8 _ he (by simp [EV.len, hxl]) rfl fun i y hy hr hl => ?_
          have e1 : ((xs.map (·.1)).map u8Of).getD i 0 = u8Of y.1 := by simp [List.getD, hy]
          simp only [EV.items, e1]
          have := u8Of_lit (H := H) hr
          rw [← hl] at this
          rw [this]
        · exact whole
      · rename_i k _ he
        split
        · refine flat k _ he (by simp [EV.len, hxl]) rfl fun i y hy hr hl => ?_
          have e1 : ((xs.map (·.1)).map iOf).getD i 0 = iOf y.1 := by simp [List.getD, hy]
          simp only [EV.items, e1]
        · exact whole
      · exact whole
    · cases ho
end
end Go.Proofs.YtpbgihhfcdggkaaGreatDoor.V
end
section
namespace Go.Proofs.YtpbgihhfcdggkaaGreatDoor.V
open Go.RowKit Go.ChangeShapes Go.WideShapes
mutual
def factsS : SV → Prop
  | .int k n => inR k n
  | .str l => okLen l.length
  | .agg l => factsL l
  | .arr n e => e.len * e.sz = n ∧ factsE e
  | .ro e => okLen e.len ∧ factsE e
  | .tup l => factsL l
  | _ => True
def factsE : EV → Prop
  | .u8 _ => True
  | .ints k l => ∀ i, i < l.length → inR k (l.getD i 0)
  | .g n _ f => ∀ i, i < n → factsL (f i)
def factsL : List SV → Prop
  | [] => True
  | s :: r => factsS s ∧ factsL r
end
section
variable {E : Env} {T : Nat → Prop} {w : World}
theorem factsE_of {e : EV} (h : ∀ i, i < e.len → factsL (e.items i)) : factsE e := by
  cases e with
  | u8 l => trivial
  | ints k l => exact fun i hi => (h i hi).1
  | g n sz f => exact h
mutual
theorem Rep.facts : ∀ {s : SV} {v : Value}, Rep E T w s v → factsS s
  | _, _, .bool b => trivial
  | _, _, .int _ _ h => h
  | _, _, .str _ h => h
  | _, _, .nilp => trivial
  | _, _, .ptr id off b h => trivial
  | _, _, .pel id base sz i j b h => trivial
  | _, _, .rop e i j b o c hT' hn hc hr hi hj hb => trivial
  | _, _, .nils => trivial
  | _, _, .row id base sz sub len b o c n t h hs ho hl ok => trivial
  | _, _, .row0 id base sz sub len h hl => trivial
  | _, _, .ro0 e h => ⟨by rw [h]; exact Nat.zero_le _, factsE_of fun i hi => by omega⟩
  | _, _, .ro1 e a h => ⟨by rw [h]; exact Nat.zero_le _, factsE_of fun i hi => by omega⟩
  | _, _, .ro e b o n k c hT' hn hc hr he hl ok hb => ⟨by rw [← he]; exact Nat.le_trans hl ok, factsE_of fun i hi => Items.facts (hr i hi)⟩
  | _, _, .agg l cs h => Items.facts h
  | _, _, .arr n e cs c hn hl he h1 hc hr => ⟨he, factsE_of fun i hi => Items.facts (hr i hi)⟩
  | _, _, .tup l vs h => Tup.facts h
  | _, _, .fn _ _ _ _ => trivial
  | _, _, .mv _ _ _ _ => trivial
  | _, _, .ifc t s v h => trivial
  | _, _, .nili => trivial
  | _, _, .nilf => trivial
  | _, _, .may1 _ _ _ _ _ => trivial
  | _, _, .may0 g s h => trivial
  | _, _, .bsl _ _ _ _ _ _ _ _ _ => trivial
  | _, _, .bsl0 _ _ _ _ => trivial
  | _, _, .anyi _ _ => trivial
  | _, _, .val x => trivial
theorem Items.facts : ∀ {l : List SV} {cs : List Value}, Items E T w l cs → factsL l
  | _, _, .nil => trivial
  | _, _, .one _ _ _ _ _ hr hl => ⟨Rep.facts hr, Items.facts hl⟩
  | _, _, .arr _ _ _ _ _ hr hl => ⟨Rep.facts hr, Items.facts hl⟩
theorem Tup.facts : ∀ {l : List SV} {vs : List Value}, Tup E T w l vs → factsL l
  | _, _, .nil => trivial
  | _, _, .cons s v l vs hr hl => ⟨Rep.facts hr, Tup.facts hl⟩
end
end
theorem u8_iff {n : Int} (h : inR .u8 n) : 0 ≤ n ∧ n ≤ 255 := by simpa [inR, IntKind.min, IntKind.max, IntKind.signed, IntKind.bits] using h
theorem u16_iff {n : Int} (h : inR .u16 n) : 0 ≤ n ∧ n ≤ 65535 := by simpa [inR, IntKind.min, IntKind.max, IntKind.signed, IntKind.bits] using h
theorem i64_iff {n : Int} (h : inR .i64 n) : -9223372036854775808 ≤ n ∧ n ≤ 9223372036854775807 := by simpa [inR, IntKind.min, IntKind.max, IntKind.signed, IntKind.bits] using h
theorem Fun.weak {P : Program} {Γ : Glob} {f : FuncId} {args : List SV} {res : SV} (h : Fun P [] f args res) : Fun P Γ f args res :=
  fun T w vs hT _ ht => h T w vs hT ⟨fun g e h => by simp [gl] at h, fun g e h => by simp [gl] at h⟩ ht
theorem Fun.mkF {P : Program} {Γ : Glob} {f : FuncId} {fn : Func} {c : Code} {N : Nat} {args : List SV} {res : SV} {F : Tr} (dep : Nat) (hf : P.funcs[f]? = some fn) (hb : fn.body = some c) (hN : fn.ntmps = N) (hle : Nat.ble args.length N = true) (hF : argT 0 args (Tr.mk dep) = some F)
    (h : factsL args → ∀ (T : Nat → Prop) (w : World), Sat ⟨P, w, fun _ => False, T, Γ, N, [], [], false⟩ (bodyPost P fn (Post T w res)) (.code c F [] ids0 [])) : Fun P Γ f args res :=
  fun T w vs hT hG ht => Fun.mk dep hf hb hN hle hF (h ht.facts) T w vs hT hG ht
theorem Fun.facts {P : Program} {Γ : Glob} {f : FuncId} {args : List SV} {res : SV} (h : factsL args → Fun P Γ f args res) : Fun P Γ f args res :=
  fun T w vs hT hG ht => h ht.facts T w vs hT hG ht
section
variable {H : Type}
def svV (P : Program) (t : TypeId) (d : DataW H) : SV :=
  match isAggD (P.underlying t) with
  | some true => match svI P 20 t d with
    | [.arr n e] => .arr n e
    | l => .agg l
  | _ => match svI P 20 t d with
    | [s] => s
    | _ => .nilp
def svsOf (P : Program) : List TypeId → List (DataW H) → List SV
  | t :: ts, d :: ds => svV P t d :: svsOf P ts ds
  | _, _ => []
variable {enc : TypeId × Value → H} {P : Program} {w : World} {T : Nat → Prop}
theorem agg_or {t : TypeId} (h : isAggD (P.underlying t) = some true) : (∃ fs, P.underlying t = some (.struct fs)) ∨ ∃ n e, P.underlying t = some (.array n e) := by
  unfold isAggD at h
  split at h <;> simp at h
  · rename_i fs hu; exact .inl ⟨_, hu⟩
  · rename_i n e hu; exact .inr ⟨_, _, hu⟩
theorem okWide_agg {r : Reach} {base : Nat} {t : TypeId} {v : Value} (h : isAggD (P.underlying t) = some true) (hv : Value.okWide P w r base t v) : ∃ cs, v = .agg cs := by
  unfold Value.okWide at hv
  rcases agg_or h with ⟨fs, hu⟩ | ⟨n, e, hu⟩
  all_goals
    rw [hu] at hv
    obtain ⟨cs, h1, _⟩ := hv
    exact ⟨cs, h1⟩
theorem okWide_cell {r : Reach} {base : Nat} {t : TypeId} {v : Value} (hv : Value.okWide P w r base t v) (h : isAggD (P.underlying t) ≠ some true) : v.cells = #[v] := by
  unfold Value.okWide at hv
  split at hv
  · rename_i fs hu; rw [hu] at h; exact absurd rfl h
  · rename_i n e hu; rw [hu] at h; exact absurd rfl h
  · cases v with
    | agg cs =>
      exfalso
      unfold Cell.okWide at hv
      split at hv
      all_goals first | (rename_i heq; cases heq; done) | skip
      unfold Cell.ok at hv
      split at hv
      all_goals first | (rename_i heq; cases heq; done) | exact hv
    | _ => rfl
theorem svI_one (d : Nat) {t : TypeId} {x : DataW H} (ho : okT P (d + 1) t = true) (hA : isAggD (P.underlying t) ≠ some true) : ∃ s, svI P (d + 1) t x = [s] ∧ s.one = true := by
  simp only [okT] at ho
  simp only [svI]
  split
  · exact ⟨_, rfl, rfl⟩
  · exact ⟨_, rfl, rfl⟩
  · exact ⟨_, rfl, rfl⟩
  · split <;> exact ⟨_, rfl, rfl⟩
  · rename_i hu; rw [hu] at hA; exact absurd rfl hA
  · rename_i hu; rw [hu] at hA; exact absurd rfl hA
  · exfalso
    split at ho <;> simp_all
theorem rep_arg (hT : ∀ b, ¬ T b) {r : Reach} {base : Nat} {t : TypeId} {v : Value} {d : DataW H} {ps : List MemPlace} (ho : okT P 20 t = true) (hv : Value.okWide P w r base t v) (h : DataW.Trod enc P w 0 (fun _ => true) true t v d ps) : Rep E0 T w (svV P t d) v := by
  obtain ⟨fuel, h⟩ := h
  obtain ⟨hl, hI⟩ := trod_items hT 20 fuel ho h
  unfold svV
  split
  · rename_i hA
    obtain ⟨cs, rfl⟩ := okWide_agg hA hv
    simp only [Value.cells] at hI
    split
    · rename_i n e heq
      rw [heq] at hI
      simpa using arr_only hI
    · simpa using Rep.agg _ _ hI
  · rename_i hA
    rw [okWide_cell hv hA] at hI
    obtain ⟨s, e1, e2⟩ := svI_one (P := P) 19 (x := d) ho hA
    rw [e1] at hI ⊢
    obtain ⟨c, r, h1, h2, _⟩ := hI.head e2
    cases h1
    exact h2
theorem list_len2 {α : Type} {l : List α} (h : l.length = 2) : ∃ a b, l = [a, b] := by
  match l, h with
  | [a, b], _ => exact ⟨a, b, rfl⟩
theorem list_len3 {α : Type} {l : List α} (h : l.length = 3) : ∃ a b c, l = [a, b, c] := by
  match l, h with
  | [a, b, c], _ => exact ⟨a, b, c, rfl⟩
theorem tup_args (hT : ∀ b, ¬ T b) {r : Reach} {base : Nat} : ∀ {ts : List TypeId} {vs : List Value} {ds : List (DataW H)} {ps : List MemPlace}, ts.all (okT P 20) = true → (∀ (j : Nat) t v, ts[j]? = some t → vs[j]? = some v → Value.okWide P w r base t v) →
    DataW.TrodAll enc P w 0 (fun _ => true) true ts vs ds ps → ds.length = ts.length ∧ Tup E0 T w (svsOf P ts ds) vs
  | [], _, _, _, _, _, h => by
    obtain ⟨rfl, rfl, rfl⟩ := trodAll_nil h
    exact ⟨rfl, .nil⟩
  | t :: ts, _, _, _, ho, hv, h => by
    obtain ⟨v, vs1, d, ds1, a, b, rfl, rfl, rfl, h1, h2⟩ := trodAll_cons h
    simp only [List.all_cons, Bool.and_eq_true] at ho
    obtain ⟨i1, i2⟩ := tup_args hT ho.2 (fun j t' v' ht hv' => hv (j + 1) t' v' (by simpa using ht) (by simpa using hv')) h2
    exact ⟨by simp [i1], .cons _ _ _ _ (rep_arg hT ho.1 (hv 0 t v rfl rfl) h1) i2⟩
theorem row_witness {C : Checked} {os : Os} {f : FuncId} {fn : Func} {s : OpenSpec} {conds : List PathCond} {apart : Bool} {laid : List (String × DataW Unit)} (w0 : World) (args : Array Value) (hos : w0.os = os)
    (hv : (w0.forCall (fun _ _ => 0) ⟨#[], args, []⟩).variablesB C.prog = true)
    (hr : ((w0.forCall (fun _ _ => 0) ⟨#[], args, []⟩).heap.toList.drop C.prog.globals.size).take ((begin C.prog (fun _ _ => 0) default).world.heap.size - C.prog.globals.size) =
      (begin C.prog (fun _ _ => 0) default).world.heap.toList.drop C.prog.globals.size)
    (hok : Input.okWideB C.prog (w0.forCall (fun _ _ => 0) ⟨#[], args, []⟩) f ⟨#[], args, []⟩ = true)
    (hx : ((DataW.whole enc C.prog (w0.forCall (fun _ _ => 0) ⟨#[], args, []⟩).memory fn.params.toList s.vars apart args.toList 20).map fun x => conds.all (PathCond.test C.prog ⟨fn.params.toList, x.1, s.bare.plain.varTypes C.prog, x.2.1⟩) && (match s.cond with | none => true | some k => k H (x.1 ++ x.2.1))) = some true)
    (hsz : s.bare.sizedB enc C.prog fn apart (w0.forCall (fun _ _ => 0) ⟨#[], args, []⟩).memory args 20 = true)
    (hl : laidMetH C.prog laid (w0.forCall (fun _ _ => 0) ⟨#[], args, []⟩).memory) :
    ∃ (w : World) (tape : Tape) (i : Input), w.os = os ∧ (w.forCall tape i).Shaped C.prog ∧ i.vars = [] ∧ Input.okWide C.prog (w.forCall tape i) .any w.heap.size f i ∧
      s.preRow enc C.prog fn conds apart laid (w.forCall tape i).memory i.args ∧ ({} : Assume).holds C.prog (lone (Frame.enter C.prog f i.args .normal) [] (w.forCall tape i)) := by
  refine witness_row_at (enc := enc) (C := C) false w0 args hos hv hr hok ?_
  cases hw : DataW.whole enc C.prog (w0.forCall (fun _ _ => 0) ⟨#[], args, []⟩).memory fn.params.toList s.vars apart args.toList 20 with
  | none => rw [hw] at hx; simp at hx
  | some x =>
    rw [hw] at hx
    simp only [Option.map_some, Option.some.injEq, Bool.and_eq_true] at hx
    refine OpenSpec.preRow_of_cond 20 hw hx.1 (fun k hk => ?_) hsz hl
    have := hx.2
    rw [hk] at this
    exact this
end
end Go.Proofs.YtpbgihhfcdggkaaGreatDoor.V
end
section
namespace Go.Proofs.YtpbgihhfcdggkaaGreatDoor.V
open Go.RowKit
section
variable (M : Mem) (wh : Bool) (id : Nat)
mutual
def frzS : SV → SV
  | .row i b z u n => match Nat.beq i id with
    | true => match runAt M i b with
      | some e => match wh with
        | true => .ro e
        | false => .ro (e.sub u n)
      | none => .row i b z u n
    | false => .row i b z u n
  | .agg l => .agg (frzL l)
  | .tup l => .tup (frzL l)
  | .fn f l => .fn f (frzL l)
  | .mv f l => .mv f (frzL l)
  | .ifc t s => .ifc t (frzS s)
  | .may g s => .may g (frzS s)
  | s => s
def frzL : List SV → List SV
  | [] => []
  | s :: r => frzS s :: frzL r
end
def frzB : Blk → Blk
  | .cells t l => .cells t (frzL M wh id l)
  | B => B
def frzTK {α : Type} : Tr → (Tr → Option α) → Option α
  | .e, K => K .e
  | .n l x r, K => frzTK l fun l' => frzTK r fun r' => match x with
    | none => K (.n l' none r')
    | some s => fS (frzS M wh id s) fun s' => K (.n l' (some s') r')
def frzT : Tr → Tr
  | .e => .e
  | .n l x r => .n (frzT l) (x.map (frzS M wh id)) (frzT r)
def frzMK {α : Type} : Mem → (Mem → Option α) → Option α
  | [], K => K []
  | (i, B) :: r, K => match Nat.beq i id with
    | true => frzMK r K
    | false => frzMK r fun r' => fB (frzB M wh id B) fun B' => K ((i, B') :: r')
def frzM : Mem → Mem
  | [] => []
  | (i, B) :: r => match Nat.beq i id with
    | true => frzM r
    | false => (i, frzB M wh id B) :: frzM r
theorem frzTK_eq {α : Type} : ∀ {F : Tr} {K : Tr → Option α}, frzTK M wh id F K = K (frzT M wh id F)
  | .e, K => rfl
  | .n l x r, K => by
    simp only [frzTK, frzT]
    rw [frzTK_eq, frzTK_eq]
    cases x with
    | none => rfl
    | some s => simp only [fS_eq, Option.map_some]
theorem frzMK_eq {α : Type} : ∀ {L : Mem} {K : Mem → Option α}, frzMK M wh id L K = K (frzM M wh id L)
  | [], K => rfl
  | (i, B) :: r, K => by
    simp only [frzMK, frzM]
    split
    · exact frzMK_eq
    · rw [frzMK_eq, fB_eq]
end
def firstRow : List SV → Option Nat
  | [] => none
  | .row i _ _ _ _ :: _ => some i
  | .may _ (.row i _ _ _ _) :: _ => some i
  | _ :: r => firstRow r
structure Frz where
  F : Tr
  M : Mem
  φ : List Prop
def frz (wide : Bool) (pins : List Nat) (ids : List Nat) (wh : Bool) (id : Nat) (F : Tr) (M : Mem) : Option Frz :=
  frzTK M wh id F fun F' => frzMK M wh id M fun M' => match intoF wide pins [] F M F' M' ids with
    | some φ => some ⟨F', M', φ⟩
    | none => none
section
variable {C : Ctx} {Q0 : Exit → Act → World → Prop} {F F' : Tr} {M M' : Mem} {ids : List Nat} {k : List Kont}
theorem frz_ok {wh : Bool} {id : Nat} {φ : List Prop} {U : Nat → Prop} {E : Env} {a : Act} {w : World} (h : frz C.wide C.pins ids wh id F M = some ⟨F', M', φ⟩) (hφ : AllP φ) (hst : St C F M U E a w) : ∃ U' E', Sup ids U' ∧ St C F' M' U' E' a w := by
  unfold frz at h
  rw [frzTK_eq, frzMK_eq] at h
  split at h
  · rename_i ψ hi
    simp only [Option.some.injEq, Frz.mk.injEq] at h
    obtain ⟨rfl, rfl, rfl⟩ := h
    exact into_ok hst hi hφ
  · cases h
theorem Sat.freeze {full rest : List Oper} {d : Option Tmp} {x : Operand} {xs : List Operand} {ats : Array TypeId} {type : TypeId} {pos : String} {after : Array Edge} {guard : Option (Nat × Bool)} {f : FuncId} {svs : List SV} {id : Nat} {φ : List Prop} (wh : Bool)
    (_hx : argsF C.Γ F x xs = some (f, svs)) (_hr : firstRow svs = some id) (hz : frz C.wide C.pins ids wh id F M = some ⟨F', M', φ⟩) (hφ : AllP φ)
    (hn : Sat C Q0 (.reg full (⟨d, .call ⟨.value x, ⟨xs⟩, ats⟩, type, pos, after, guard⟩ :: rest) F' M' ids k)) : Sat C Q0 (.reg full (⟨d, .call ⟨.value x, ⟨xs⟩, ats⟩, type, pos, after, guard⟩ :: rest) F M ids k) := by
  intro U E a w _ hst
  obtain ⟨U', E', h1, h2⟩ := frz_ok hz hφ hst
  exact hn U' E' a w h1 h2
end
end Go.Proofs.YtpbgihhfcdggkaaGreatDoor.V
end
section
namespace Go.Proofs.YtpbgihhfcdggkaaGreatDoor.V
open Go.RowKit
mutual
def keepS (p : Nat → Bool) : SV → Prop
  | .ptr id _ => p id = true
  | .pel id _ _ _ _ => p id = true
  | .row id _ _ _ _ => p id = true
  | .bsl id _ => p id = true
  | .rop e _ _ => pureE e
  | .ro e => pureE e
  | .agg l => keepL p l
  | .arr _ e => pureE e
  | .tup l => keepL p l
  | .fn _ l => keepL p l
  | .mv _ l => keepL p l
  | .ifc _ v => keepS p v
  | .may _ v => keepS p v
  | _ => True
def keepL (p : Nat → Bool) : List SV → Prop
  | [] => True
  | s :: r => keepS p s ∧ keepL p r
end
def pinE (p : Nat → Bool) (E : Env) : Env := fun i => if p i = true then E i else none
theorem pinE_at {p : Nat → Bool} {E : Env} {i : Nat} (h : p i = true) : pinE p E i = E i := by simp [pinE, h]
section
variable {E : Env} {T : Nat → Prop} {w : World} {p : Nat → Bool}
mutual
theorem Rep.keep : ∀ {s : SV} {v : Value}, Rep E T w s v → keepS p s → Rep (pinE p E) T w s v
  | _, _, .bool b, _ => .bool b
  | _, _, .int k n h, _ => .int k n h
  | _, _, .str l h, _ => .str l h
  | _, _, .nilp, _ => .nilp
  | _, _, .ptr id off b h, hp => .ptr id off b ((pinE_at (by simpa only [keepS] using hp)).trans h)
  | _, _, .pel id base sz i j b h, hp => .pel id base sz i j b ((pinE_at (by simpa only [keepS] using hp)).trans h)
  | _, _, .rop e i j b o c hT' hn hc hr hi hj hb, hp => by
    simp only [keepS] at hp
    exact .rop e i j b o c hT' hn hc (fun i hi => Items.free_ (hr i hi) (hp.items hi)) hi hj hb
  | _, _, .nils, _ => .nils
  | _, _, .row id base sz sub len b o c n t h hs ho hl ok, hp => .row id base sz sub len b o c n t ((pinE_at (by simpa only [keepS] using hp)).trans h) hs ho hl ok
  | _, _, .row0 id base sz sub len h hl, hp => .row0 id base sz sub len ((pinE_at (by simpa only [keepS] using hp)).trans h) hl
  | _, _, .ro0 e h, _ => .ro0 e h
  | _, _, .ro1 e a h, _ => .ro1 e a h
  | _, _, .ro e b o n k c hT' hn hc hr he hl ok hb, hp => by
    simp only [keepS] at hp
    exact .ro e b o n k c hT' hn hc (fun i hi => Items.free_ (hr i hi) (hp.items hi)) he hl ok hb
  | _, _, .agg l cs h, hp => .agg l cs (Items.keep h (by simpa only [keepS] using hp))
  | _, _, .arr n e cs c hn hl he h1 hc hr, hp => by
    simp only [keepS] at hp
    exact .arr n e cs c hn hl he h1 hc (fun i hi => Items.free_ (hr i hi) (hp.items hi))
  | _, _, .tup l vs h, hp => .tup l vs (Tup.keep h (by simpa only [keepS] using hp))
  | _, _, .fn f l vs h, hp => .fn f l vs (Tup.keep h (by simpa only [keepS] using hp))
  | _, _, .mv f l vs h, hp => .mv f l vs (Tup.keep h (by simpa only [keepS] using hp))
  | _, _, .ifc t s v h, hp => .ifc t s v (Rep.keep h (by simpa only [keepS] using hp))
  | _, _, .nili, _ => .nili
  | _, _, .nilf, _ => .nilf
  | _, _, .may1 g s v h hr, hp => .may1 g s v h (Rep.keep hr (by simpa only [keepS] using hp))
  | _, _, .may0 g s h, _ => .may0 g s h
  | _, _, .bsl id len b n t h hs hl ok, hp => .bsl id len b n t ((pinE_at (by simpa only [keepS] using hp)).trans h) hs hl ok
  | _, _, .bsl0 id len h hl, hp => .bsl0 id len ((pinE_at (by simpa only [keepS] using hp)).trans h) hl
  | _, _, .anyi k n, _ => .anyi k n
  | _, _, .val x, _ => .val x
theorem Items.keep : ∀ {l : List SV} {cs : List Value}, Items E T w l cs → keepL p l → Items (pinE p E) T w l cs
  | _, _, .nil, _ => .nil
  | _, _, .one s c l cs h hr hl, hp => by
    simp only [keepL] at hp
    exact .one s c l cs h (Rep.keep hr hp.1) (Items.keep hl hp.2)
  | _, _, .arr n e l c1 cs hr hl, hp => by
    simp only [keepL] at hp
    exact .arr n e l c1 cs (Rep.keep hr hp.1) (Items.keep hl hp.2)
theorem Tup.keep : ∀ {l : List SV} {vs : List Value}, Tup E T w l vs → keepL p l → Tup (pinE p E) T w l vs
  | _, _, .nil, _ => .nil
  | _, _, .cons s v l vs hr hl, hp => by
    simp only [keepL] at hp
    exact .cons s v l vs (Rep.keep hr hp.1) (Tup.keep hl hp.2)
end
end
mutual
def kpS (p : List Nat) : SV → Option (List Prop)
  | .ptr id _ => bif p.elem id then some [] else none
  | .pel id _ _ _ _ => bif p.elem id then some [] else none
  | .row id _ _ _ _ => bif p.elem id then some [] else none
  | .bsl id _ => bif p.elem id then some [] else none
  | .rop e _ _ => kpE e
  | .ro e => kpE e
  | .agg l => kpL p l
  | .arr _ e => kpE e
  | .tup l => kpL p l
  | .fn _ l => kpL p l
  | .mv _ l => kpL p l
  | .ifc _ v => kpS p v
  | .may _ v => kpS p v
  | _ => some []
def kpE : EV → Option (List Prop)
  | .g n sz f => some [pureE (.g n sz f)]
  | .u8 _ => some []
  | .ints _ _ => some []
def kpL (p : List Nat) : List SV → Option (List Prop)
  | [] => some []
  | s :: r => match kpS p s with
    | some φ => match kpL p r with
      | some ψ => some (φ ++ ψ)
      | none => none
    | none => none
end
theorem kpE_ok {e : EV} {φ : List Prop} (h : kpE e = some φ) (hφ : AllP φ) : pureE e := by
  cases e with
  | u8 l => simp [pureE]
  | ints k l => simp [pureE]
  | g n sz f =>
    simp only [kpE, Option.some.injEq] at h
    subst h
    exact hφ.1
theorem bif_some {b : Bool} {φ : List Prop} (h : (bif b then some [] else none) = some φ) : b = true := by cases b <;> simp at h ⊢
mutual
theorem kpS_ok {p : List Nat} : ∀ {s : SV} {φ : List Prop}, kpS p s = some φ → AllP φ → keepS p.elem s
  | .ptr id _, φ, h, hφ => by simp only [kpS] at h; simp only [keepS]; exact bif_some h
  | .pel id _ _ _ _, φ, h, hφ => by simp only [kpS] at h; simp only [keepS]; exact bif_some h
  | .row id _ _ _ _, φ, h, hφ => by simp only [kpS] at h; simp only [keepS]; exact bif_some h
  | .bsl id _, φ, h, hφ => by simp only [kpS] at h; simp only [keepS]; exact bif_some h
  | .anyi _, _, _, _ => by simp only [keepS]
  | .rop e _ _, φ, h, hφ => by simp only [kpS] at h; simp only [keepS]; exact kpE_ok h hφ
  | .ro e, φ, h, hφ => by simp only [kpS] at h; simp only [keepS]; exact kpE_ok h hφ
  | .agg l, φ, h, hφ => by simp only [kpS] at h; simp only [keepS]; exact kpL_ok h hφ
  | .arr _ e, φ, h, hφ => by simp only [kpS] at h; simp only [keepS]; exact kpE_ok h hφ
  | .tup l, φ, h, hφ => by simp only [kpS] at h; simp only [keepS]; exact kpL_ok h hφ
  | .fn _ l, φ, h, hφ => by simp only [kpS] at h; simp only [keepS]; exact kpL_ok h hφ
  | .mv _ l, φ, h, hφ => by simp only [kpS] at h; simp only [keepS]; exact kpL_ok h hφ
  | .ifc _ v, φ, h, hφ => by simp only [kpS] at h; simp only [keepS]; exact kpS_ok h hφ
  | .may _ v, φ, h, hφ => by simp only [kpS] at h; simp only [keepS]; exact kpS_ok h hφ
  | .bool _, _, _, _ => by simp only [keepS]
  | .int _ _, _, _, _ => by simp only [keepS]
  | .str _, _, _, _ => by simp only [keepS]
  | .nilp, _, _, _ => by simp only [keepS]
  | .nils, _, _, _ => by simp only [keepS]
  | .nili, _, _, _ => by simp only [keepS]
  | .nilf, _, _, _ => by simp only [keepS]
  | .val _, _, _, _ => by simp only [keepS]
theorem kpL_ok {p : List Nat} : ∀ {l : List SV} {φ : List Prop}, kpL p l = some φ → AllP φ → keepL p.elem l
  | [], _, _, _ => by simp only [keepL]
  | s :: r, φ, h, hφ => by
    simp only [kpL] at h
    simp only [keepL]
    split at h
    · rename_i φ1 h1
      split at h
      · rename_i ψ h2
        simp only [Option.some.injEq] at h
        subst h
        obtain ⟨q1, q2⟩ := AllP.app hφ
        exact ⟨kpS_ok h1 q1, kpL_ok h2 q2⟩
      · cases h
    · cases h
end
def kpTK {α : Type} (p : List Nat) : Tr → List Prop → (Tr → List Prop → Option α) → Option α
  | .e, acc, K => K .e acc
  | .n l x r, acc, K => kpTK p l acc fun l' φ1 => kpTK p r φ1 fun r' φ2 => match x with
    | none => K (.n l' none r') φ2
    | some s => match kpS p s with
      | some φ => fP φ fun φ => K (.n l' (some s) r') (φ ++ φ2)
      | none => K (.n l' none r') φ2
def keepT (p : List Nat) (F : Tr) : Option (Tr × List Prop) := kpTK p F [] fun G φ => fP φ fun φ => some (G, φ)
theorem kpTK_ok {α : Type} {p : List Nat} : ∀ {F : Tr} {acc : List Prop} {K : Tr → List Prop → Option α} {r : α}, kpTK p F acc K = some r →
    ∃ G φ, K G φ = some r ∧ (AllP φ → AllP acc ∧ ∀ t s, G.get t = some s → F.get t = some s ∧ keepS p.elem s)
  | .e, acc, K, r, h => ⟨.e, acc, h, fun ha => ⟨ha, fun t s hs => by simp [Tr.get] at hs⟩⟩
  | .n l x r', acc, K, r, h => by
    simp only [kpTK] at h
    obtain ⟨l1, φ1, h1, k1⟩ := kpTK_ok h
    obtain ⟨r1, φ2, h2, k2⟩ := kpTK_ok h1
    have key : ∀ (y : Option SV) (φ3 : List Prop), (AllP φ3 → AllP φ2 ∧ ∀ s, y = some s → x = some s ∧ keepS p.elem s) → AllP φ3 → AllP acc ∧ ∀ t s, (Tr.n l1 y r1).get t = some s → (Tr.n l x r').get t = some s ∧ keepS p.elem s := by
      intro y φ3 hy h3
      obtain ⟨q2, q3⟩ := hy h3
      obtain ⟨q1, k2'⟩ := k2 q2
      obtain ⟨q0, k1'⟩ := k1 q1
      refine ⟨q0, fun t s hs => ?_⟩
      cases t with
      | zero => simp only [Tr.get] at hs ⊢; exact q3 s hs
      | succ t =>
        simp only [Tr.get] at hs ⊢
        split at hs
        · exact k1' _ _ hs
        · exact k2' _ _ hs
    cases x with
    | none => exact ⟨_, _, h2, key none φ2 fun h => ⟨h, fun s hs => by cases hs⟩⟩
    | some s0 =>
      dsimp only at h2
      split at h2
      · rename_i φ hφ
        rw [fP_eq] at h2
        refine ⟨_, _, h2, key (some s0) (φ ++ φ2) fun h => ?_⟩
        obtain ⟨q1, q2⟩ := AllP.app h
        exact ⟨q2, fun s hs => by cases hs; exact ⟨rfl, kpS_ok hφ q1⟩⟩
      · exact ⟨_, _, h2, key none φ2 fun h => ⟨h, fun s hs => by cases hs⟩⟩
theorem keepT_ok {p : List Nat} {F G : Tr} {φ : List Prop} (h : keepT p F = some (G, φ)) (hφ : AllP φ) : ∀ t s, G.get t = some s → F.get t = some s ∧ keepS p.elem s := by
  unfold keepT at h
  obtain ⟨G', φ', h1, h2⟩ := kpTK_ok h
  rw [fP_eq] at h1
  simp only [Option.some.injEq, Prod.mk.injEq] at h1
  obtain ⟨rfl, rfl⟩ := h1
  exact (h2 hφ).2
def pinsK {α : Type} (kill : List Nat) : Mem → List Nat → (List Nat → Option α) → Option α
  | [], acc, K => K acc
  | (i, _) :: r, acc, K => match kill.elem i || acc.elem i with
    | true => pinsK kill r acc K
    | false => pinsK kill r (i :: acc) K
def pinsOf (kill pins : List Nat) (M : Mem) : Option (List Nat) := pinsK kill M pins some
theorem pinsK_sub {kill : List Nat} : ∀ {M : Mem} {acc r : List Nat}, pinsK kill M acc some = some r → ∀ i, acc.elem i = true → r.elem i = true
  | [], acc, r, h, i, hi => by simp only [pinsK, Option.some.injEq] at h; rw [← h]; exact hi
  | (j, _) :: M, acc, r, h, i, hi => by
    simp only [pinsK] at h
    split at h
    · exact pinsK_sub h i hi
    · exact pinsK_sub h i (by rw [List.elem]; split <;> first | rfl | exact hi)
def Inl (C : Ctx) (Q0 : Exit → Act → World → Prop) (full rest : List Oper) (d : Option Tmp) (k : List Kont) (a : Act) (e : Ending) (w' : World) : Prop :=
  a.defers = C.D → a.tmps.size = C.N → (∀ p, p ∈ C.hold → ∀ id b, p.pe id = some b → C.pins.elem id = true) → ∃ v, e = .returned v ∧ wpList C.P full.toArray (Kq C.P Q0 k) rest (a.put d v) w'
section
variable {C : Ctx} {Q0 : Exit → Act → World → Prop} {F F' : Tr} {M M' : Mem} {ids : List Nat} {k : List Kont}
theorem inl_core {full rest : List Oper} {d : Option Tmp} {op : Op} {type : TypeId} {pos : String} {after : Array Edge} {f : FuncId} {svs : List SV} {fn : Func} {c : Code} {N' : Nat} {F0 G : Tr} {φ : List Prop} {pins' : List Nat} (dep : Nat) (kill : List Nat)
    (hf : C.P.funcs[f]? = some fn) (hN : fn.ntmps = N') (hx : ∀ U E a w, St C F M U E a w → ∃ vs, Tup E (trk C.T0 M E) w svs vs ∧ (execOp a.eval ⟨d, op, type, pos, after, none⟩).run C.P w = (callFunc f vs.toArray).run C.P w) (hb : fn.body = some c) (hc : callable C.P f = true) (hle : Nat.ble svs.length N' = true) (hF0 : argT 0 svs (Tr.mk dep) = some F0)
    (hp : pinsOf kill C.pins M = some pins') (hG : keepT pins' F = some (G, φ)) (hφ : AllP φ)
    (h : ∀ a E, Sat ⟨C.P, C.W0, C.S, C.T0, C.Γ, N', pins', ⟨pinE pins'.elem E, G, fun t => a.tmps.getD t undef, []⟩ :: C.hold, C.wide⟩ (bodyPost C.P fn (Inl C Q0 full rest d k a)) (.code c F0 M ids [])) :
    Sat C Q0 (.reg full (⟨d, op, type, pos, after, none⟩ :: rest) F M ids k) := by
  intro U E a w hsup hst
  refine wpList_plain rfl fun K hK => ?_
  unfold Oper.wp
  obtain ⟨vs, ht, hex⟩ := hx U E a w hst
  rw [hex, run_callFunc_go hc]
  have hlen := ht.len
  have hle' := Nat.le_of_ble_eq_true hle
  have hsub := pinsK_sub hp
  have hkeep := keepT_ok hG hφ
  refine (calls_of_wp hf hb (h a E U E _ w hsup ⟨rfl, ?_, fun t s hs => ?_, hst.mem, hst.own, hst.fresh, hst.kp, hst.hid, hst.glob, fun p hp id b h1 => ?_, fun p hp t s hs => ?_⟩)).mono ?_
  · simp only [Array.size_append, List.size_toArray, Array.size_replicate, hlen, hN]; omega
  · rcases argT_get hF0 ht t s hs with ⟨q1, _⟩ | ⟨_, v, q2, q3⟩ | ⟨_, q2⟩
    · omega
    · have hlt : t < vs.length := by simpa using (List.getElem?_eq_some_iff.1 q2).1
      have : (vs.toArray ++ Array.replicate (fn.ntmps - vs.toArray.size) undef).getD t undef = v := by
        rw [Array.getD_eq_getD_getElem?, Array.getElem?_append_left (by simpa using hlt)]
        simp only [Nat.sub_zero] at q2
        simp [q2]
      rw [this]
      exact q3
    · rw [mk_get] at q2; cases q2
  · rcases List.mem_cons.1 hp with rfl | hp
    · dsimp only [pinE] at h1
      split at h1
      · rename_i hi; exact ⟨hi, h1⟩
      · cases h1
    · obtain ⟨q1, q2⟩ := hst.pin p hp id b h1
      exact ⟨hsub id q1, q2⟩
  · rcases List.mem_cons.1 hp with rfl | hp
    · obtain ⟨q1, q2⟩ := hkeep t s hs
      exact (hst.slots t s q1).keep q2
    · exact hst.held p hp t s hs
  · intro e w' hI
    obtain ⟨v, rfl, hv⟩ := hI hst.defers hst.size fun p hp id b h => (hst.pin p hp id b h).1
    exact hK _ _ hv
theorem Sat.inl {full rest : List Oper} {d : Option Tmp} {x : Operand} {f : FuncId} {xs : List Operand} {ats : Array TypeId} {type : TypeId} {pos : String} {after : Array Edge} {svs : List SV} {fn : Func} {c : Code} {N' : Nat} {F0 G : Tr} {φ : List Prop} {pins' : List Nat} (dep : Nat) (kill : List Nat)
    (hf : C.P.funcs[f]? = some fn) (hN : fn.ntmps = N') (hx : argsF C.Γ F x xs = some (f, svs)) (hb : fn.body = some c) (hc : callable C.P f = true) (hle : Nat.ble svs.length N' = true) (hF0 : argT 0 svs (Tr.mk dep) = some F0)
    (hp : pinsOf kill C.pins M = some pins') (hG : keepT pins' F = some (G, φ)) (hφ : AllP φ)
    (h : ∀ a E, Sat ⟨C.P, C.W0, C.S, C.T0, C.Γ, N', pins', ⟨pinE pins'.elem E, G, fun t => a.tmps.getD t undef, []⟩ :: C.hold, C.wide⟩ (bodyPost C.P fn (Inl C Q0 full rest d k a)) (.code c F0 M ids [])) :
    Sat C Q0 (.reg full (⟨d, .call ⟨.value x, ⟨xs⟩, ats⟩, type, pos, after, none⟩ :: rest) F M ids k) :=
  inl_core dep kill hf hN (fun U E a w hst => by
    obtain ⟨vs, ht, hex⟩ := argsF_ok hst.vw hx
    exact ⟨vs, ht, by rw [hex]⟩) hb hc hle hF0 hp hG hφ h
def argsI (Γ : Glob) (F : Tr) (x : Operand) (xs : List Operand) : Option (TypeId × List SV) :=
  match opd Γ F x with
  | some (.ifc t s) => match opdsC Γ F xs with
    | some svs => some (t, s :: svs)
    | none => none
  | _ => none
theorem argsI_ok {Γ : Glob} {E : Env} {T : Nat → Prop} {a : Act} {w : World} {P : Program} (V : Vw Γ F M E T a w) {x : Operand} {xs : List Operand} {f : FuncId} {t : TypeId} {name : String} {svs : List SV} (h : argsI Γ F x xs = some (t, svs)) (hm : ∀ v w, (method (P.types.size + Made.depth) t v name).run P w = .ok (f, v) w)
    (d : Option Tmp) (ats : Array TypeId) (type : TypeId) (pos : String) (after : Array Edge) (guard : Option (Nat × Bool)) :
    ∃ vs, Tup E T w svs vs ∧ (execOp a.eval ⟨d, .call ⟨.invoke x name, ⟨xs⟩, ats⟩, type, pos, after, guard⟩).run P w = (callFunc f vs.toArray).run P w := by
  unfold argsI at h
  split at h
  · rename_i t' s hs
    have hr := opd_rep V hs
    split at h
    · rename_i svs' hx
      have ht := opdsC_tup V hx
      simp only [Option.some.injEq, Prod.mk.injEq] at h
      obtain ⟨rfl, rfl⟩ := h
      generalize hv : a.eval x = v at hr
      cases hr with
      | ifc _ _ u hu =>
        refine ⟨u :: xs.map a.eval, .cons _ _ _ _ hu ht, ?_⟩
        have e : execOp a.eval ⟨d, .call ⟨.invoke x name, ⟨xs⟩, ats⟩, type, pos, after, guard⟩ = callMethod (.iface t' u) name (xs.map a.eval).toArray := by
          unfold execOp resolve
          simp [hv, invoke]
          rw [List.take_of_length_le (by simp)]
        rw [e]
        rcases callMethod_tie P w t' u name (xs.map a.eval).toArray with ⟨f', r', w', h1, h2⟩ | ⟨hh, w', h1, _⟩
        · rw [hm] at h1
          cases h1
          rw [h2]
          simp
        · rw [hm] at h1
          cases h1
    · cases h
  · cases h
theorem St.out {a a1 : Act} {w : World} {U : Nat → Prop} {E E1 : Env} {N' : Nat} {pins' : List Nat} {G F1 : Tr} (hd : a.defers = C.D) (hs : a.tmps.size = C.N) (hpn : ∀ p, p ∈ C.hold → ∀ id b, p.pe id = some b → C.pins.elem id = true)
    (h : St ⟨C.P, C.W0, C.S, C.T0, C.Γ, N', pins', ⟨pinE pins'.elem E, G, fun t => a.tmps.getD t undef, []⟩ :: C.hold, C.wide⟩ F1 M U E1 a1 w) : St C G M U E1 a w :=
  ⟨hd, hs, fun t s hg => (h.held _ (List.mem_cons_self ..) t s hg).mono (fun i x hi => (h.pin _ (List.mem_cons_self ..) i x hi).2) (fun _ _ h => h) (Chg.refl _ w), h.mem, h.own, h.fresh, h.kp, h.hid, h.glob,
    fun p hp i b hi => ⟨hpn p hp i b hi, (h.pin p (List.mem_cons_of_mem _ hp) i b hi).2⟩, fun p hp => h.held p (List.mem_cons_of_mem _ hp)⟩
theorem out_core {N' : Nat} {pins' : List Nat} {E : Env} {G : Tr} {fn : Func} {full rest : List Oper} {d : Option Tmp} {a : Act} {e : Ex} {F1 F2 : Tr} {s : SV} (he : e = .ret ∨ e = .normal)
    (hv : ∀ U E1 a1 w, Sup ids U → St ⟨C.P, C.W0, C.S, C.T0, C.Γ, N', pins', ⟨pinE pins'.elem E, G, fun t => a.tmps.getD t undef, []⟩ :: C.hold, C.wide⟩ F1 M U E1 a1 w → ∃ v, (results fn a1.tmps).run C.P w = .ok v w ∧ Rep E1 (trk C.T0 M E1) w s v)
    (hp : putD C.N G d (some s) some = some F2) (h : Sat C Q0 (.reg full rest F2 M ids k)) :
    Sat ⟨C.P, C.W0, C.S, C.T0, C.Γ, N', pins', ⟨pinE pins'.elem E, G, fun t => a.tmps.getD t undef, []⟩ :: C.hold, C.wide⟩ (bodyPost C.P fn (Inl C Q0 full rest d k a)) (.ext e F1 M ids []) := by
  intro U E1 a1 w hsup hst
  obtain ⟨v, h1, h2⟩ := hv U E1 a1 w hsup hst
  obtain ⟨F3, q1, q2⟩ := putD_inv hp
  cases q1
  have hin : Inl C Q0 full rest d k a (.returned v) w := fun hd hs hpn => ⟨v, rfl, h U E1 _ w hsup ((hst.out hd hs hpn).putD q2 fun s' hs' => by cases hs'; exact h2)⟩
  rcases he with rfl | rfl <;> exact ⟨hst.defers, v, h1, hin⟩
theorem Sat.out2 {N' : Nat} {pins' : List Nat} {E : Env} {G : Tr} {fn : Func} {full rest : List Oper} {d : Option Tmp} {a : Act} {e : Ex} {F1 F2 : Tr} {r r' : ResultVar} {φ φ' : List Prop} {s s' : SV} (hr : fn.results = #[r, r']) (he : e = .ret ∨ e = .normal) (h1 : resV C.P F1 M r = some (φ, s)) (hφ : AllP φ) (h2 : resV C.P F1 M r' = some (φ', s')) (hφ' : AllP φ')
    (hp : putD C.N G d (some (.tup [s, s'])) some = some F2) (h : Sat C Q0 (.reg full rest F2 M ids k)) :
    Sat ⟨C.P, C.W0, C.S, C.T0, C.Γ, N', pins', ⟨pinE pins'.elem E, G, fun t => a.tmps.getD t undef, []⟩ :: C.hold, C.wide⟩ (bodyPost C.P fn (Inl C Q0 full rest d k a)) (.ext e F1 M ids []) :=
  out_core he (fun U E1 a1 w _ hst => by
    obtain ⟨v, q1, q2⟩ := resV_ok hst h1 hφ
    obtain ⟨v', q1', q2'⟩ := resV_ok hst h2 hφ'
    refine ⟨.tuple #[v, v'], ?_, .tup _ [v, v'] (.cons _ _ _ _ q1 (.cons _ _ _ _ q1' .nil))⟩
    unfold results
    rw [hr]
    exact mapM_run2 q2 q2') hp h
theorem Sat.out0 {N' : Nat} {pins' : List Nat} {E : Env} {G : Tr} {fn : Func} {full rest : List Oper} {d : Option Tmp} {a : Act} {e : Ex} {F1 F2 : Tr} (hr : fn.results = #[]) (he : e = .ret ∨ e = .normal)
    (hp : putD C.N G d (some (.tup [])) some = some F2) (h : Sat C Q0 (.reg full rest F2 M ids k)) :
    Sat ⟨C.P, C.W0, C.S, C.T0, C.Γ, N', pins', ⟨pinE pins'.elem E, G, fun t => a.tmps.getD t undef, []⟩ :: C.hold, C.wide⟩ (bodyPost C.P fn (Inl C Q0 full rest d k a)) (.ext e F1 M ids []) :=
  out_core he (fun _ _ _ _ _ _ => ⟨_, results_none hr _ _ _, .tup _ [] .nil⟩) hp h
end
end Go.Proofs.YtpbgihhfcdggkaaGreatDoor.V
end
section
namespace Go.Proofs.YtpbgihhfcdggkaaGreatDoor.V
open Go.RowKit
theorem Kq_panic {P : Program} {Q0 : Exit → Act → World → Prop} {ch : List PanicEntry} {a : Act} {w : World} : ∀ k : List Kont, Kq P Q0 k (.panic ch) a w ↔ Q0 (.panic ch) a w
  | [] => Iff.rfl
  | .seq _ :: k => Kq_panic k
  | .blk _ :: k => Kq_panic k
  | .lp _ :: k => Kq_panic k
def SatP (C : Ctx) (Q0 : Exit → Act → World → Prop) (F : Tr) (M : Mem) (ids : List Nat) (t : TypeId) : Prop := ∀ U E a w, Sup ids U → St C F M U E a w → Q0 (.panic [{ v := .iface t (.agg #[]), recovered := false }]) a w
section
variable {C : Ctx} {Q0 : Exit → Act → World → Prop} {F F' : Tr} {M M' : Mem} {ids : List Nat} {k : List Kont}
theorem Sat.panic {full rest : List Oper} {d : Option Tmp} {x : Operand} {type : TypeId} {pos : String} {after : Array Edge} {t : TypeId} (hx : opd C.Γ F x = some (.ifc t (.agg []))) (h : SatP C Q0 F M ids t) :
    Sat C Q0 (.reg full (⟨d, .panic x, type, pos, after, none⟩ :: rest) F M ids k) := by
  intro U E a w hsup hst
  refine wpList_plain rfl fun K hK => ?_
  unfold Oper.wp
  have hr := opd_rep hst.vw hx
  have hv : a.eval x = .iface t (.agg #[]) := by
    generalize a.eval x = v at hr
    cases hr with
    | ifc _ _ u hu =>
      cases hu with
      | agg _ cs hi => cases hi; rfl
  have e : (execOp a.eval ⟨d, .panic x, type, pos, after, none⟩).run C.P w = .halt (.panic (.iface t (.agg #[]))) w := by
    show ((do pure (Next.value (← Instr.panic (a.eval x))) : Sem Next)).run C.P w = _
    rw [hv]
    rfl
  rw [e]
  exact (Kq_panic k).2 (h U E a w hsup hst)
def Inl2 (C : Ctx) (Q0 : Exit → Act → World → Prop) (full rest : List Oper) (d : Option Tmp) (k : List Kont) (a : Act) (e : Ending) (w' : World) : Prop :=
  a.defers = C.D → a.tmps.size = C.N → (∀ p, p ∈ C.hold → ∀ id b, p.pe id = some b → C.pins.elem id = true) → (∃ v, e = .returned v ∧ wpList C.P full.toArray (Kq C.P Q0 k) rest (a.put d v) w') ∨ ∃ ch, e = .panicked ch ∧ Q0 (.panic ch) a w'
theorem SatP.out {N' : Nat} {pins' : List Nat} {E : Env} {G : Tr} {fn : Func} {full rest : List Oper} {d : Option Tmp} {a : Act} {F1 : Tr} {t : TypeId} (h : SatP C Q0 G M ids t) :
    SatP ⟨C.P, C.W0, C.S, C.T0, C.Γ, N', pins', ⟨pinE pins'.elem E, G, fun t => a.tmps.getD t undef, []⟩ :: C.hold, C.wide⟩ (bodyPost C.P fn (Inl2 C Q0 full rest d k a)) F1 M ids t :=
  fun U E1 _ w hsup hst => ⟨hst.defers, fun hd hs hpn => .inr ⟨_, rfl, h U E1 a w hsup (hst.out hd hs hpn)⟩⟩
end
end Go.Proofs.YtpbgihhfcdggkaaGreatDoor.V
end
