/-
  A walk by abstract values: append.
-/
import Derived.Test.YtgpggoejkkhceaaDoorVl
namespace Go.Proofs.YtgpggoejkkhceaaDoor.V
open Go.RowKit

section
variable {P : Program} {Γ : Glob} {C : Ctx} {F : Tr} {M : Mem} {U : Nat → Prop} {nx : Nat} {E : Env} {a : Act} {w : World} {T : Nat → Prop}

theorem flat_inv {sz : Nat} (hs : 0 < sz) : ∀ {xs : List (List Value)}, (∀ x ∈ xs, x.length = sz) → ∀ {k : Nat} {u : Value}, xs.flatten[k]? = some u → ∃ i j, k = i * sz + j ∧ i < xs.length ∧ (xs.getD i [])[j]? = some u
  | [], _, k, u, h => by simp at h
  | x :: xs, hx, k, u, h => by
    have hxl := hx x (List.mem_cons_self ..)
    rw [List.flatten_cons] at h
    by_cases hk : k < sz
    · rw [List.getElem?_append_left (by omega)] at h
      exact ⟨0, k, by simp, by simp, by simpa using h⟩
    · rw [List.getElem?_append_right (by omega)] at h
      obtain ⟨i, j, h1, h2, h3⟩ := flat_inv hs (fun y hy => hx y (List.mem_cons_of_mem _ hy)) h
      exact ⟨i + 1, j, by rw [Nat.add_mul]; omega, by simpa using h2, by simpa using h3⟩
/-- Elements as a list of their cells. -/
def cellsN (c : Nat → List Value) (n : Nat) : List (List Value) := (List.range n).map c
theorem cellsN_getD {c : Nat → List Value} {n i : Nat} (h : i < n) : (cellsN c n).getD i [] = c i := by simp [cellsN, List.getD, h]
theorem cellsN_len (c : Nat → List Value) (n : Nat) : (cellsN c n).length = n := by simp [cellsN]
theorem cellsN_all {c : Nat → List Value} {n sz : Nat} (h : ∀ i, i < n → (c i).length = sz) : ∀ x ∈ cellsN c n, x.length = sz := by
  intro x hx
  simp only [cellsN, List.mem_map, List.mem_range] at hx
  obtain ⟨i, hi, rfl⟩ := hx
  exact h i hi
theorem cellsN_ones {c : Nat → List Value} {e : EV} (h : ∀ i, i < e.len → Items E T w (e.items i) (c i)) : ∀ u ∈ (cellsN c e.len).flatten, u.oneCell' = true := by
  intro u hu
  obtain ⟨x, hx, hux⟩ := List.mem_flatten.1 hu
  simp only [cellsN, List.mem_map, List.mem_range] at hx
  obtain ⟨i, hi, rfl⟩ := hx
  exact (h i hi).ones u hux

theorem srcE_ok (H : MOk E T M w) {e0 e2 : EV} {q : Bool} {s : SV} {v : Value} {φ : List Prop} {tx sz : Nat} (h : srcE M e0 q s = some (φ, e2)) (hφ : All φ) (hr : Rep E T w s v) (hs : e2.sz = sz) (hz : 0 < sz) (h0 : e0.len = 0)
    (hk : (∃ e', P.underlying tx = some (.slice e')) ∨ (∃ l, s = .str l) ∧ P.underlying tx = some .string) (hstr : ∀ l, s = .str l → P.underlying tx = some .string) :
    ∃ c : Nat → List Value, Src P sz tx v e2.len (cellsN c e2.len).flatten w ∧ (∀ i, i < e2.len → (c i).length = sz) ∧ ∀ i, i < e2.len → Items E T w (e2.items i) (c i) := by
  have mem : ∀ {b o n k : Nat} {c : Nat → List Value}, n = e2.len → (∀ i, i < e2.len → (c i).length = sz) → (∀ i j v, i < e2.len → (c i)[j]? = some v → w.cell? ⟨b, o + (i * sz + j), none⟩ = some v) → (∀ i, i < e2.len → Items E T w (e2.items i) (c i)) →
      (∃ e', P.underlying tx = some (.slice e')) → Src P sz tx (.slice (some ⟨b, o, none⟩) n k) e2.len (cellsN c e2.len).flatten w := by
    rintro b o n k c rfl h1 h2 h3 ⟨e', he'⟩
    refine Src.ofSlice w he' ⟨b, o, none⟩ e2.len k _ (by rw [flat_len (cellsN_all h1), cellsN_len]) (fun j u hj => ?_) (cellsN_ones h3)
    obtain ⟨i, j', rfl, hi, hu⟩ := flat_inv hz (cellsN_all h1) hj
    rw [cellsN_len] at hi
    rw [cellsN_getD hi] at hu
    rw [Addr.add_mk]
    exact h2 i j' u hi hu
  have hk' : (∀ l, s ≠ .str l) → ∃ e', P.underlying tx = some (.slice e') := fun hne => by
    rcases hk with h1 | ⟨⟨l, hl⟩, _⟩
    · exact h1
    · exact absurd hl (hne l)
  unfold srcE at h
  split at h
  · simp at h
    obtain ⟨rfl, rfl⟩ := h
    have hk2 := hk' (fun l => by simp)
    cases hr with
    | ro0 _ hl =>
      obtain ⟨e', he'⟩ := hk2
      refine ⟨fun _ => [], ?_, fun i hi => by omega, fun i hi => by omega⟩
      have := Src.ofNil (P := P) w (size := sz) he' 0
      rw [hl]
      simpa [cellsN] using this
    | ro1 _ a0 hl =>
      obtain ⟨e', he'⟩ := hk2
      refine ⟨fun _ => [], ?_, fun i hi => by omega, fun i hi => by omega⟩
      have := Src.ofSlice (P := P) w (size := sz) he' a0 0 0 [] (by simp) (fun j u hj => by simp at hj) (fun u hu => by cases hu)
      rw [hl]
      simpa [cellsN] using this
    | ro _ b o n k c hT hn hc hrr he hl ok hb =>
      subst hs
      exact ⟨c, mem he hn (fun i j v hi hj => by rw [← Nat.add_assoc]; exact hc i j v hi hj) hrr hk2, hn, hrr⟩
  · simp at h
    obtain ⟨rfl, rfl⟩ := h
    obtain ⟨e', he'⟩ := hk' (fun l => by simp)
    cases hr
    refine ⟨fun _ => [], ?_, fun i hi => by omega, fun i hi => by omega⟩
    have := Src.ofNil (P := P) w (size := sz) he' 0
    rw [h0]
    simpa [cellsN] using this
  · rename_i l
    split at h
    · simp at h
      obtain ⟨rfl, rfl⟩ := h
      have hu := hstr l rfl
      cases hr with
      | str _ ok =>
        subst hs
        refine ⟨fun i => [.int .u8 ((l.getD i 0).toNat : Int)], ?_, fun i _ => rfl, fun i hi => .one _ _ _ _ rfl (.int _ _ (inR_u8 _)) .nil⟩
        have := Src.ofString (P := P) w hu ⟨l.toArray⟩
        have e1 : (ByteArray.mk l.toArray).size = l.length := by simp [ByteArray.size]
        have e2 : byteCells ⟨l.toArray⟩ = (cellsN (fun i => [.int .u8 ((l.getD i 0).toNat : Int)]) l.length).flatten := by
          unfold byteCells cellsN
          apply List.ext_getElem?
          intro j
          by_cases hj : j < l.length
          · have hg := flat_get (sz := 1) (xs := (List.range l.length).map fun i => [Value.int .u8 ((l.getD i 0).toNat : Int)]) (fun x hx => by simp only [List.mem_map] at hx; obtain ⟨_, _, rfl⟩ := hx; rfl) (i := j) (j := 0) (v := .int .u8 ((l.getD j 0).toNat : Int)) (by simpa using hj) (by simp [List.getD, hj])
            rw [show j * 1 + 0 = j by omega] at hg
            rw [hg, List.getElem?_map, List.getElem?_eq_getElem hj]
            simp [List.getD, hj]
          · rw [List.getElem?_eq_none (by simpa using hj), List.getElem?_eq_none]
            rw [flat_len (sz := 1) (fun x hx => by simp only [List.mem_map] at hx; obtain ⟨_, _, rfl⟩ := hx; rfl)]
            simpa using hj
        rw [e1, e2] at this
        exact this
    · cases h
  · rename_i id base sz' sub len
    split at h
    · rename_i e he
      split at h
      · rename_i hes
        have := Nat.eq_of_beq_eq_true hes
        subst this
        simp at h
        obtain ⟨rfl, rfl⟩ := h
        have hle := hφ.one
        have hk2 := hk' (fun l => by simp)
        have hlen : (e.sub sub len).len = len := EV.sub_len hle
        rw [EV.sub_sz] at hs
        subst hs
        cases hr with
        | row0 _ _ _ _ _ hE hl =>
          subst hl
          obtain ⟨e', he'⟩ := hk2
          refine ⟨fun _ => [], ?_, fun i hi => by omega, fun i hi => by omega⟩
          have := Src.ofNil (P := P) w (size := e.sz) he' 0
          rw [hlen]
          simpa [cellsN] using this
        | row _ _ _ _ _ b o k n t hE hsh ho hl ok =>
          obtain ⟨c, hlt, hn, hc, hrr⟩ := runAt_cells H he hE
          refine ⟨fun i => c (sub + i), mem hlen.symm (fun i hi => hn _ (by omega)) (fun i j v hi hj => ?_) (fun i hi => ?_) hk2, fun i hi => hn _ (by omega), fun i hi => ?_⟩
          · obtain ⟨ho1, _⟩ := ho (by omega)
            have := hc (sub + i) j v (by omega) hj
            rw [Nat.add_mul] at this
            rw [ho1]
            rw [← this]
            congr 2
            omega
          · rw [EV.sub_items (by omega)]
            exact hrr _ (by omega)
          · rw [EV.sub_items (by omega)]
            exact hrr _ (by omega)
      · cases h
    · cases h
  · cases h

theorem EV.app_ok {e e2 e' : EV} (h : e.app e2 = some e') : e'.len = e.len + e2.len ∧ e'.sz = e.sz ∧ e2.sz = e.sz ∧ ∀ i, i < e.len + e2.len → e'.items i = if i < e.len then e.items i else e2.items (i - e.len) := by
  unfold EV.app at h
  split at h
  · rename_i l m
    simp at h
    subst h
    refine ⟨by simp [EV.len], rfl, rfl, fun i hi => ?_⟩
    by_cases hlt : i < (EV.u8 l).len
    · rw [if_pos hlt]
      have hlt' : i < l.length := hlt
      simp [EV.items, List.getD, List.getElem?_append_left hlt']
    · rw [if_neg hlt]
      have hge : l.length ≤ i := Nat.le_of_not_lt hlt
      simp [EV.items, EV.len, List.getD, List.getElem?_append_right hge]
  · rename_i k l k' m
    split at h
    · rename_i hk
      have := kindB_eq hk
      subst this
      simp at h
      subst h
      refine ⟨by simp [EV.len], rfl, rfl, fun i hi => ?_⟩
      by_cases hlt : i < (EV.ints k l).len
      · rw [if_pos hlt]
        have hlt' : i < l.length := hlt
        simp [EV.items, List.getD, List.getElem?_append_left hlt']
      · rw [if_neg hlt]
        have hge : l.length ≤ i := Nat.le_of_not_lt hlt
        simp [EV.items, EV.len, List.getD, List.getElem?_append_right hge]
    · cases h
  · split at h
    · rename_i hk
      have := Nat.eq_of_beq_eq_true hk
      subst this
      simp at h
      subst h
      exact ⟨rfl, rfl, rfl, fun i hi => rfl⟩
    · cases h
  · cases h

theorem setCells_setRow (g : Nat) (t : TypeId) : ∀ (vs : List Value) (o : Nat) (cur : Array Value) (w : World), w.heap[g]? = some (.cells cur t (0, 0)) → o + vs.length ≤ cur.size →
    w.setCells g o vs = w.setRow g (cur.toList.take o ++ vs ++ cur.toList.drop (o + vs.length)).toArray
  | [], o, cur, w, hg, _ => by
    simp only [World.setCells, List.append_nil, List.length_nil, Nat.add_zero, List.take_append_drop, Array.toArray_toList]
    exact (setRow_self w g cur t (0, 0) hg).symm
  | v :: vs, o, cur, w, hg, hl => by
    simp only [World.setCells]
    rw [setCell_eq_setRow w g o cur t (0, 0) v hg]
    rw [setCells_setRow g t vs (o + 1) (cur.setIfInBounds o v) _ (setRow_heap w g cur _ t _ hg) (by simp at hl ⊢; omega), setRow_setRow]
    congr 2
    have e := list_seg_step cur.toList o v vs (by simp at hl ⊢; omega)
    simpa [Array.toList_setIfInBounds, Nat.add_assoc, Nat.add_comm 1] using e

/-- The cells of two runs laid end to end. -/
theorem app_seg {e e2 e' : EV} {sz : Nat} {c c2 : Nat → List Value} {cs rest : List Value} (h : e.app e2 = some e') (hs : e.sz = sz) (h1 : ∀ i, i < e.len → (c i).length = sz) (h2 : ∀ i j v, i < e.len → (c i)[j]? = some v → cs[i * sz + j]? = some v) (h3 : ∀ i, i < e.len → Items E T w (e.items i) (c i))
    (g1 : ∀ i, i < e2.len → (c2 i).length = sz) (g3 : ∀ i, i < e2.len → Items E T w (e2.items i) (c2 i)) (hle : e.len * sz ≤ cs.length) :
    ∃ c' : Nat → List Value, (∀ i, i < e'.len → (c' i).length = e'.sz) ∧ (∀ i j v, i < e'.len → (c' i)[j]? = some v → (cs.take (e.len * sz) ++ (cellsN c2 e2.len).flatten ++ rest)[i * e'.sz + j]? = some v) ∧ ∀ i, i < e'.len → Items E T w (e'.items i) (c' i) := by
  obtain ⟨k1, k2, k3, k4⟩ := EV.app_ok h
  have ht : (cs.take (e.len * sz)).length = e.len * sz := by simp; omega
  refine ⟨fun i => if i < e.len then c i else c2 (i - e.len), fun i hi => ?_, fun i j v hi hj => ?_, fun i hi => ?_⟩
  · rw [k2, hs]
    dsimp only
    split
    · rename_i hlt; exact h1 i hlt
    · rename_i hge; exact g1 _ (by omega)
  · rw [k2, hs]
    dsimp only at hj
    split at hj
    · rename_i hlt
      have := h2 i j v hlt hj
      have hj2 : j < sz := by rw [← h1 i hlt]; exact (List.getElem?_eq_some_iff.1 hj).1
      have hm : (i + 1) * sz ≤ e.len * sz := Nat.mul_le_mul_right _ hlt
      rw [Nat.add_mul] at hm
      rw [List.append_assoc, List.getElem?_append_left (by omega), List.getElem?_take, if_pos (by omega)]
      exact this
    · rename_i hge
      have hi2 : i - e.len < e2.len := by omega
      have hf := flat_get (sz := sz) (xs := cellsN c2 e2.len) (cellsN_all g1) (i := i - e.len) (j := j) (v := v) (by rw [cellsN_len]; exact hi2) (by rw [cellsN_getD hi2]; exact hj)
      have hm : i * sz = e.len * sz + (i - e.len) * sz := by rw [← Nat.add_mul]; congr 1; omega
      have hlt2 : (i - e.len) * sz + j < ((cellsN c2 e2.len).flatten).length := (List.getElem?_eq_some_iff.1 hf).1
      rw [List.append_assoc, List.getElem?_append_right (by omega), ht, List.getElem?_append_left (by omega), ← hf]
      congr 1
      omega
  · rw [k4 i (by omega)]
    dsimp only
    split
    · rename_i hlt; exact h3 i hlt
    · rename_i hge; exact g3 _ (by omega)

/-- What 'append' leaves: the new row. -/
theorem append_fin (h : St C F M U E a w) (hU : U nx) {o : Option Nat} {b : Option Nat} {elem : TypeId} {e' : EV} {w' : World} {cs' : List Value} {c' : Nat → List Value} (hw : Chg (mine M E) w w') (hos : w'.os = w.os) (ht : w'.tape = w.tape) (ho : w'.output = w.output)
    (hx : ∀ x, b = some x → x < w'.heap.size ∧ (w.heap.size ≤ x ∨ ∃ id B0, o = some id ∧ find M id = some B0 ∧ E id = some (some x)))
    (hk : ∀ k B1 y, find (delO M o) k = some B1 → E k = some (some y) → w'.heap[y]? = w.heap[y]?)
    (hb : ∀ x, b = some x → w'.heap[x]? = some (.cells cs'.toArray elem (0, 0))) (hl : e'.len * e'.sz ≤ cs'.length) (h1 : ∀ i, i < e'.len → (c' i).length = e'.sz) (h2 : ∀ i j v, i < e'.len → (c' i)[j]? = some v → cs'[i * e'.sz + j]? = some v)
    (h3 : ∀ i, i < e'.len → Items E (trk C.T0 M E) w (e'.items i) (c' i)) (hn : b = none → e'.len = 0) : St C F ((nx, .row elem e') :: delO M o) (rest U nx) (envWith E nx b) a w' := by
  have hnx := h.fresh nx hU
  refine h.mov hU hw hos ht ho hx hk (fun x hbx => ⟨cs', c', hb x hbx, hl, h1, h2, fun i hi => (h3 i hi).mono (envWith_old hnx) (fun y hy hT => ?_) (hw.weak fun _ => .inl)⟩) (fun hb => ⟨elem, e', rfl, hn hb⟩)
  rcases hT with ⟨id, B', hf, hE⟩ | h0
  · unfold envWith at hE
    split at hE
    · simp at hE
      rcases (hx y hE).2 with h5 | ⟨id', B0, _, h6, h7⟩
      · omega
      · exact .inl ⟨id', B0, h6, h7⟩
    · rename_i he
      rw [find_cons, if_neg he] at hf
      exact .inl ⟨id, B', (find_delO hf).1, hE⟩
  · exact .inr h0

theorem grownCap_ok (w : World) (need old : Nat) (e : TypeId) (h : okLen need) : okLen (grownCap w need old e) := by
  have := grownCap_le_maxLen w need old e (by unfold okLen at h; simp [maxLen]; exact h)
  simpa [okLen, maxLen] using this
theorem exec_append {o : Oper} {s x : Operand} {t t' : TypeId} (ho : o.op = .call ⟨.builtin .append, ⟨[s, x]⟩, ⟨[t, t']⟩⟩) {v : Value} {w' : World} (h : (Builtin.append_ #[t, t'] o.type #[a.eval s, a.eval x]).run P w = .ok v w') : (execOp a.eval o).run P w = .ok (.value v) w' := by
  obtain ⟨cs, hc⟩ := exec_call_builtin (a := a) ho
  rw [hc]
  simp only [builtin, Sem.run_bind]
  rw [show ([t, t'] : List TypeId).toArray = #[t, t'] from rfl, show (List.map a.eval [s, x]).toArray = #[a.eval s, a.eval x] from rfl, h]
  rfl

/-- 'append' onto nothing. -/
theorem append_nil (h : St C F M U E a w) (hU : U nx) {elem t t' sz b : Nat} {s x : Operand} {zv : Value} {i : TypeInfo} {od : Option Nat} {e0 e2 e' : EV} {c2 : Nat → List Value} {o : Oper} (hu : C.P.underlying t = some (.slice elem)) (hi : C.P.info? elem = some i) (his : i.size = sz) (hz : i.zero = some zv) (hby : i.bytes = b) (hzl : zv.cells.toList.length = sz)
    (hsrc : Src C.P sz t' (a.eval x) e2.len (cellsN c2 e2.len).flatten w) (g1 : ∀ i, i < e2.len → (c2 i).length = sz) (g3 : ∀ i, i < e2.len → Items E (trk C.T0 M E) w (e2.items i) (c2 i)) (happ : e0.app e2 = some e') (h0 : e0.len = 0) (hs0 : e0.sz = sz) (hs : a.eval s = .slice none 0 0) (hfit : e2.len * b ≤ 140737488355328) (hok : okLen e2.len)
    (ho : o.op = .call ⟨.builtin .append, ⟨[s, x]⟩, ⟨[t, t']⟩⟩) :
    ∃ v E' w', (execOp a.eval o).run C.P w = .ok (.value v) w' ∧ Rep E' (trk C.T0 ((nx, .row elem e') :: delO M od) E') w' (.row nx 0 sz 0 e2.len) v ∧ St C F ((nx, .row elem e') :: delO M od) (rest U nx) E' a w' := by
  obtain ⟨k1, k2, k3, k4⟩ := EV.app_ok happ
  rw [h0, Nat.zero_add] at k1
  by_cases hn : e2.len = 0
  · have hr : (Builtin.append_ #[t, t'] o.type #[a.eval s, a.eval x]).run C.P w = .ok (.slice none 0 0) w := by
      have hc := hsrc.cells
      rw [hn] at hc
      rcases hsrc.kind with ⟨e'', hk⟩ | hk <;> simp [Builtin.append_, hs, run_underlying hu, run_underlying hk, sizeOf, typeInfo, hi, his, hsrc.len, hn, hc]
    refine ⟨_, envWith E nx none, w, exec_append ho hr, ?_, ?_⟩
    · rw [hn]; exact .row0 _ _ _ _ _ (by simp [envWith]) rfl
    · exact append_fin (cs' := []) (c' := fun _ => []) h hU (Chg.refl _ w) rfl rfl rfl (fun x hx => by cases hx) (fun _ _ _ _ _ => rfl) (fun x hx => by cases hx) (by rw [k1, hn]; simp) (fun i hi => by omega) (fun i j v hi => by omega) (fun i hi => by omega) (fun _ => by rw [k1, hn])
  · have hr := run_append_grow_src (P := C.P) w t t' o.type elem i zv hu hi hz none 0 0 [] (by rw [run_firstCells_none]) (a.eval x) e2.len _ (his ▸ hsrc) (by omega) (by unfold okLen at hok; omega) (by rw [hby]; exact growslice_fits (by omega) (by simpa using hfit))
    rw [← hs] at hr
    simp only [Nat.zero_add, List.nil_append] at hr
    refine ⟨_, envWith E nx (some w.heap.size), _, exec_append ho hr, ?_, ?_⟩
    · refine row_rep (elem := elem) (cs := ((cellsN c2 e2.len).flatten.toArray ++ Builtin.zeroCells zv.cells (grownCap w e2.len 0 elem - e2.len)).toList) (cap := grownCap w e2.len 0 elem) (by simp [envWith]) ?_ ?_ (grownCap_ge ..) (grownCap_ok _ _ _ _ hok)
      · rw [show w.heap.size = w.drew.heap.size from rfl, heap_alloc_new]; try simp
      · have := grownCap_ge w e2.len 0 elem
        rw [Array.toList_append, List.length_append, Array.length_toList, Array.length_toList, size_zeroCells, List.size_toArray, flat_len (cellsN_all g1), cellsN_len, show zv.cells.size = sz by simpa using hzl, ← Nat.add_mul]
        congr 1
        omega
    · obtain ⟨c', q1, q2, q3⟩ := app_seg (c := fun _ => []) (cs := []) (rest := (Builtin.zeroCells zv.cells (grownCap w e2.len 0 elem - e2.len)).toList) happ hs0 (fun i hi => by omega) (fun i j v hi => by omega) (fun i hi => by omega) g1 g3 (by rw [h0]; simp)
      refine append_fin (cs' := ((cellsN c2 e2.len).flatten.toArray ++ Builtin.zeroCells zv.cells (grownCap w e2.len 0 elem - e2.len)).toList) (c' := c') h hU ((Chg.drew _ w).trans (Chg.alloc _ w.drew _)) rfl rfl rfl (fun x hx => ?_) (fun k B1 y hf hE => ?_) (fun x hx => ?_) ?_ q1 (by simpa [h0] using q2) q3 (fun hb => by cases hb)
      · simp at hx; subst hx
        exact ⟨by rw [alloc_size]; exact Nat.lt_succ_self _, .inl (Nat.le_refl _)⟩
      · obtain ⟨B2, hB2⟩ : ∃ B2, find M k = some B2 := ⟨B1, (find_delO hf).1⟩
        exact Below.heap_alloc w.drew _ y (h.mem.at hB2 hE).1
      · simp at hx; subst hx
        rw [show w.heap.size = w.drew.heap.size from rfl, heap_alloc_new]; try simp
      · rw [k1, k2, hs0, Array.toList_append, List.length_append, Array.length_toList, List.size_toArray, flat_len (cellsN_all g1), cellsN_len]
        omega

/-- 'append' onto a row of the call's own. -/
theorem append_row (h : St C F M U E a w) (hU : U nx) {elem t t' sz b id bb o0 k0 : Nat} {s x : Operand} {zv : Value} {i : TypeInfo} {e e2 e' : EV} {c2 : Nat → List Value} {o : Oper} (hu : C.P.underlying t = some (.slice elem)) (hi : C.P.info? elem = some i) (his : i.size = sz) (hz : i.zero = some zv) (hby : i.bytes = b) (hzl : zv.cells.toList.length = sz)
    (hsrc : Src C.P sz t' (a.eval x) e2.len (cellsN c2 e2.len).flatten w) (g1 : ∀ i, i < e2.len → (c2 i).length = sz) (g3 : ∀ i, i < e2.len → Items E (trk C.T0 M E) w (e2.items i) (c2 i)) (happ : e.app e2 = some e') (hs0 : e.sz = sz)
    (hf : find M id = some (.row elem e)) (hE : E id = some (some bb)) (hs : a.eval s = .slice (some ⟨bb, o0, none⟩) e.len k0) (hk0 : k0 ≠ 0 → o0 = 0 ∧ ∃ t n, w.shape? bb = some (t, n) ∧ k0 * sz ≤ n) (hl0 : e.len ≤ k0) (hok0 : okLen k0)
    (hfit : (e.len + e2.len) * b ≤ 140737488355328) (hok : okLen (e.len + e2.len)) (ho : o.op = .call ⟨.builtin .append, ⟨[s, x]⟩, ⟨[t, t']⟩⟩) :
    ∃ v E' w', (execOp a.eval o).run C.P w = .ok (.value v) w' ∧ Rep E' (trk C.T0 ((nx, .row elem e') :: delO M (some id)) E') w' (.row nx 0 sz 0 (e.len + e2.len)) v ∧ St C F ((nx, .row elem e') :: delO M (some id)) (rest U nx) E' a w' := by
  obtain ⟨k1, k2, k3, k4⟩ := EV.app_ok happ
  obtain ⟨hlt, cs, c, hh, hle, hc1, hc2, hc3⟩ := h.mem.at hf hE
  rw [hs0] at hle hc1
  have hc2' : ∀ i j v, i < e.len → (c i)[j]? = some v → cs[i * sz + j]? = some v := fun i j v hi hj => by have := hc2 i j v hi hj; rwa [hs0] at this
  have hnl : ((cellsN c2 e2.len).flatten).length = e2.len * sz := by rw [flat_len (cellsN_all g1), cellsN_len]
  by_cases hroom : e.len + e2.len ≤ k0
  · -- there is room
    have hfits : k0 ≠ 0 → o0 = 0 ∧ k0 * sz ≤ cs.length := fun hk => by
      obtain ⟨q1, t1, n1, q2, q3⟩ := hk0 hk
      refine ⟨q1, ?_⟩
      simp [World.shape?, hh] at q2
      omega
    have hcell : ∀ j, j < ((cellsN c2 e2.len).flatten).length → o0 = 0 ∧ e.len * sz + j < cs.length := fun j hj => by
      rw [hnl] at hj
      have hk : k0 ≠ 0 := fun hk => by
        have : e2.len = 0 := by omega
        rw [this] at hj; simp at hj
      obtain ⟨q1, q2⟩ := hfits hk
      refine ⟨q1, ?_⟩
      have : (e.len + e2.len) * sz ≤ k0 * sz := Nat.mul_le_mul_right _ hroom
      rw [Nat.add_mul] at this
      omega
    have hr := run_append_room_src (P := C.P) w t t' o.type elem i hu hi bb o0 e.len k0 (a.eval x) e2.len _ (his ▸ hsrc) hroom
      (fun j hj => by
        obtain ⟨q1, q2⟩ := hcell j hj
        rw [q1, his, cell_blk hh, Nat.zero_add, List.getElem?_eq_getElem q2]; rfl)
      (fun j hj => by simp [World.frozen?, hh])
    rw [← hs] at hr
    -- the world behind
    have hw' : w.setCells bb (o0 + e.len * i.size) (cellsN c2 e2.len).flatten = w.setRow bb (cs.take (e.len * sz) ++ (cellsN c2 e2.len).flatten ++ cs.drop (e.len * sz + e2.len * sz)).toArray ∧ (e.len * sz + e2.len * sz ≤ cs.length) := by
      by_cases hn : e2.len = 0
      · have hnil : (cellsN c2 e2.len).flatten = [] := List.eq_nil_of_length_eq_zero (by rw [hnl, hn]; simp)
        rw [hnil, hn]
        simp only [World.setCells, List.append_nil, Nat.zero_mul, Nat.add_zero, List.take_append_drop]
        exact ⟨(setRow_self w bb cs.toArray elem (0, 0) hh).symm, hle⟩
      · have hk : k0 ≠ 0 := by omega
        obtain ⟨q1, q2⟩ := hfits hk
        have q3 : (e.len + e2.len) * sz ≤ k0 * sz := Nat.mul_le_mul_right _ hroom
        rw [Nat.add_mul] at q3
        refine ⟨?_, by omega⟩
        rw [q1, his, Nat.zero_add, setCells_setRow bb elem _ _ cs.toArray w hh (by rw [hnl]; simp; omega), hnl]
    obtain ⟨hw1, hw2⟩ := hw'
    rw [hw1] at hr
    have hlen' : (cs.take (e.len * sz) ++ (cellsN c2 e2.len).flatten ++ cs.drop (e.len * sz + e2.len * sz)).length = cs.length := by
      rw [List.length_append, List.length_append, List.length_take, List.length_drop, hnl]; omega
    have hTb : mine M E bb := ⟨id, _, hf, hE⟩
    have hchg := Chg.setRow hh hTb hlen'
    obtain ⟨c', q1, q2, q3⟩ := app_seg (rest := cs.drop (e.len * sz + e2.len * sz)) happ hs0 hc1 hc2' hc3 g1 g3 hle
    refine ⟨_, envWith E nx (some bb), _, exec_append ho hr, ?_, ?_⟩
    · refine .row nx 0 sz 0 _ bb o0 k0 cs.length elem (by simp [envWith]) ?_ (fun hk => ⟨by rw [(hfits hk).1]; simp, by simpa using (hfits hk).2⟩) hroom hok0
      have := setRow_heap w bb cs.toArray (cs.take (e.len * sz) ++ (cellsN c2 e2.len).flatten ++ cs.drop (e.len * sz + e2.len * sz)).toArray elem (0, 0) hh
      simp only [World.shape?, this]
      simp only [List.size_toArray, hlen']
    · refine append_fin (cs' := cs.take (e.len * sz) ++ (cellsN c2 e2.len).flatten ++ cs.drop (e.len * sz + e2.len * sz)) (c' := c') h hU hchg rfl rfl rfl (fun y hy => ?_) (fun k B1 y hfk hEk => ?_) (fun y hy => ?_) ?_ q1 q2 q3 (fun hb => by cases hb)
      · simp at hy; subst hy
        exact ⟨by simpa using hlt, .inr ⟨id, _, rfl, hf, hE⟩⟩
      · obtain ⟨hfk', hne⟩ := find_delO hfk
        have hyb : y ≠ bb := fun e' => by
          subst e'
          exact hne (by rw [h.mem.inj k id y (by rw [hfk']; rfl) (by rw [hf]; rfl) hEk hE])
        exact setRow_other w bb y _ hyb
      · simp at hy; subst hy
        exact setRow_heap w bb cs.toArray _ elem (0, 0) hh
      · rw [k1, k2, hs0, hlen', Nat.add_mul]; exact hw2
  · -- there is none
    have hold : (Builtin.firstCells i.size e.len (.slice (some ⟨bb, o0, none⟩) e.len k0)).run C.P w.drew = .ok (cs.take (e.len * sz)).toArray w.drew := by
      by_cases hn : e.len = 0
      · rw [hn]
        simp [Builtin.firstCells, loadCells, loadCellsFrom]
      · obtain ⟨q1, t1, n1, q2, q3⟩ := hk0 (by omega)
        refine run_firstCells_some w.drew i.size e.len _ _ _ _ (by rw [his, List.length_take]; omega) (fun j u hj => ?_)
        rw [Addr.add_mk, q1, Nat.zero_add]
        have : w.cell? ⟨bb, j, none⟩ = some u := by
          rw [cell_blk hh]
          rw [List.getElem?_take] at hj
          split at hj
          · exact hj
          · cases hj
        exact this
    have hr := run_append_grow_src (P := C.P) w t t' o.type elem i zv hu hi hz (some ⟨bb, o0, none⟩) e.len k0 _ hold (a.eval x) e2.len _ (his ▸ hsrc) (by omega) (by unfold okLen at hok; omega) (by rw [hby]; exact growslice_fits (by omega) hfit)
    rw [← hs] at hr
    obtain ⟨c', q1, q2, q3⟩ := app_seg (rest := (Builtin.zeroCells zv.cells (grownCap w (e.len + e2.len) k0 elem - (e.len + e2.len))).toList) happ hs0 hc1 hc2' hc3 g1 g3 hle
    have hce : (((cs.take (e.len * sz) ++ (cellsN c2 e2.len).flatten).toArray ++ Builtin.zeroCells zv.cells (grownCap w (e.len + e2.len) k0 elem - (e.len + e2.len))) : Array Value) = (cs.take (e.len * sz) ++ (cellsN c2 e2.len).flatten ++ (Builtin.zeroCells zv.cells (grownCap w (e.len + e2.len) k0 elem - (e.len + e2.len))).toList).toArray := by
      apply Array.ext'; simp
    rw [hce] at hr
    have htl : (cs.take (e.len * sz)).length = e.len * sz := by rw [List.length_take]; omega
    refine ⟨_, envWith E nx (some w.heap.size), _, exec_append ho hr, ?_, ?_⟩
    · refine row_rep (elem := elem) (cs := cs.take (e.len * sz) ++ (cellsN c2 e2.len).flatten ++ (Builtin.zeroCells zv.cells (grownCap w (e.len + e2.len) k0 elem - (e.len + e2.len))).toList) (cap := grownCap w (e.len + e2.len) k0 elem) (by simp [envWith]) ?_ ?_ (grownCap_ge ..) (grownCap_ok _ _ _ _ hok)
      · rw [show w.heap.size = w.drew.heap.size from rfl, heap_alloc_new]
      · have := grownCap_ge w (e.len + e2.len) k0 elem
        rw [List.length_append, List.length_append, htl, hnl, Array.length_toList, size_zeroCells, show zv.cells.size = sz by simpa using hzl, ← Nat.add_mul, ← Nat.add_mul]
        congr 1
        omega
    · refine append_fin (c' := c') h hU ((Chg.drew _ w).trans (Chg.alloc _ w.drew _)) rfl rfl rfl (fun y hy => ?_) (fun k B1 y hfk hEk => ?_) (fun y hy => ?_) ?_ q1 q2 q3 (fun hb => by cases hb)
      · simp at hy; subst hy
        exact ⟨by rw [alloc_size]; exact Nat.lt_succ_self _, .inl (Nat.le_refl _)⟩
      · exact Below.heap_alloc w.drew _ y (h.mem.at (find_delO hfk).1 hEk).1
      · simp at hy; subst hy
        rw [show w.heap.size = w.drew.heap.size from rfl, heap_alloc_new]
      · rw [k1, k2, hs0, List.length_append, List.length_append, htl, hnl, Nat.add_mul]
        omega

theorem okLen_fit {n b : Nat} (h : n * (b + 1) ≤ 140737488355328) : okLen n := by
  have : n * 1 ≤ n * (b + 1) := Nat.mul_le_mul_left _ (by omega)
  unfold okLen
  omega
theorem appendE_ok (h : St C F M U E a w) (hU : U nx) {t t' : TypeId} {s x : Operand} {ss sx : SV} {φ : List Prop} {od : Option Nat} {B : Blk} {v : SV} {o : Oper} (hs : Rep E (trk C.T0 M E) w ss (a.eval s)) (hx : Rep E (trk C.T0 M E) w sx (a.eval x)) (he : appendE C.P M nx t ss sx = some (.mov φ od B v))
    (hk : (∃ e', C.P.underlying t' = some (.slice e')) ∨ (∃ l, sx = .str l) ∧ C.P.underlying t' = some .string) (hstr : ∀ l, sx = .str l → C.P.underlying t' = some .string) (ho : o.op = .call ⟨.builtin .append, ⟨[s, x]⟩, ⟨[t, t']⟩⟩) : EffOk C F M U nx E a w o (.mov φ od B v) := by
  intro hφ
  unfold appendE at he
  split at he
  case h_2 => cases he
  rename_i elem hu
  split at he
  case h_2 => cases he
  rename_i z b zv hsz hby hz
  split at he
  case h_1 => cases he
  rename_i e0 he0
  split at he
  case h_2 => cases he
  rename_i hb
  simp only [Bool.and_eq_true] at hb
  have z1 := Nat.eq_of_beq_eq_true hb.1
  have z2 := Nat.eq_of_beq_eq_true hb.2
  split at he
  case h_2 => cases he
  rename_i φs e2 hsrc
  split at he
  case h_2 => cases he
  rename_i hes
  have z3 := Nat.eq_of_beq_eq_true hes
  obtain ⟨i, hi, hiz⟩ := bind_zero hz
  obtain ⟨i', hi', his⟩ := sizeF_info hsz
  rw [hi] at hi'
  cases hi'
  have hbb : i.bytes = b + 1 := by unfold bytesF at hby; rw [hi] at hby; simpa using hby
  have h0 : e0.len = 0 := (zeroE_ok (E := E) (T := trk C.T0 M E) (w := w) he0 z2 z1).1
  split at he
  · split at he
    · rename_i e' happ
      simp at he
      obtain ⟨rfl, rfl, rfl, rfl⟩ := he
      obtain ⟨hφ1, hφ2⟩ := hφ.app
      have hfit := hφ2.one
      obtain ⟨c2, q1, q2, q3⟩ := srcE_ok h.mem hsrc hφ1 hx z3 (by omega) h0 hk hstr
      generalize hsv : a.eval s = sv at hs
      cases hs
      exact append_nil h hU hu hi his hiz hbb z1 q1 q2 q3 happ h0 z2 hsv hfit (okLen_fit hfit) ho
    · cases he
  · rename_i id base sz sub len
    split at he
    case h_2 => cases he
    rename_i hq
    simp only [Bool.and_eq_true] at hq
    have p1 := Nat.eq_of_beq_eq_true hq.1.1
    have p2 := Nat.eq_of_beq_eq_true hq.1.2
    have p3 := Nat.eq_of_beq_eq_true hq.2
    subst p1
    subst p2
    subst p3
    split at he
    case h_2 => cases he
    rename_i t1 e hf
    split at he
    case h_2 => cases he
    rename_i hq2
    simp only [Bool.and_eq_true] at hq2
    have p4 := Nat.eq_of_beq_eq_true hq2.1
    have p5 := Nat.eq_of_beq_eq_true hq2.2
    subst p4
    split at he
    case h_2 => cases he
    rename_i e' happ
    simp at he
    obtain ⟨rfl, rfl, rfl, rfl⟩ := he
    obtain ⟨hφ1, hφ2⟩ := hφ.app
    have hlen : len = e.len := hφ2 _ (List.mem_cons_self ..)
    have hfit : (len + e2.len) * (b + 1) ≤ 140737488355328 := hφ2 _ (List.mem_cons_of_mem _ (List.mem_cons_self ..))
    subst hlen
    obtain ⟨c2, q1, q2, q3⟩ := srcE_ok h.mem hsrc hφ1 hx z3 (by omega) h0 hk hstr
    generalize hsv : a.eval s = sv at hs
    cases hs with
    | row0 _ _ _ _ _ hE hl =>
      have := append_nil (od := some id) h hU hu hi his hiz hbb z1 q1 q2 q3 happ hl p5 hsv (by rw [hl, Nat.zero_add] at hfit; exact hfit) (okLen_fit (b := b) (by rw [hl, Nat.zero_add] at hfit; exact hfit)) ho
      rw [hl, Nat.zero_add]
      exact this
    | row _ _ _ _ _ bb o0 k0 n t2 hE hsh hoo hl ok =>
      exact append_row h hU hu hi his hiz hbb z1 q1 q2 q3 happ p5 hf hE hsv (fun hk0 => ⟨by have := (hoo hk0).1; simpa using this, t2, n, hsh, by have := (hoo hk0).2; simpa using this⟩) hl ok hfit (okLen_fit hfit) ho
  · cases he

/-- **The operations that make or write memory do what they reckon.** -/
theorem ev2_run (h : St C F M U E a w) (hU : U nx) {op : Op} {eff : Eff} {o : Oper} (he : ev2 C.P C.Γ F M nx op = some eff) (ho : o.op = op) : EffOk C F M U nx E a w o eff := by
  unfold ev2 at he
  split at he
  · split at he
    · rename_i l hl
      simp at he; subst he
      exact alloc_ok h hU hl ho
    · cases he
  · split at he
    · rename_i s hs
      split at he
      · rename_i l hl
        simp at he; subst he
        exact box_ok h hU hs hl ho
      · cases he
    · cases he
  · split at he
    · rename_i sp hsp
      split at he
      · rename_i s hs
        split at he
        · rename_i φ id B v hst
          simp at he; subst he
          cases v with
          | some v =>
            exfalso
            unfold storeE at hst
            repeat' split at hst
            all_goals simp at hst
          | none =>
            intro hφ
            obtain ⟨h3, h5⟩ := hφ.app
            obtain ⟨h4, h2⟩ := h5.app
            exact store_ok h (condOf_all h3 (opd_rep h.vw hsp)) (condOf_all h4 (opd_rep h.vw hs)) hst h2 ho
        · cases he
      · cases he
    · cases he
  · split at he
    · rename_i elem hu
      split at he
      · rename_i sz hsz
        split at he
        · rename_i zv l hz hsm hp
          split at he
          · rename_i e hzl hlit
            simp at he; subst he
            exact buildSlice_ok h hU hu hsz hz hsm hp hzl hlit ho
          · cases he
        · cases he
      · cases he
    · cases he
  · split at he
    · rename_i elem hu
      split at he
      · rename_i sz b n m hsz hb hl hc
        split at he
        · rename_i zv hz
          split at he
          · rename_i e hze
            split at he
            · rename_i hq
              simp at he; subst he
              exact makeSlice_ok h hU hu hsz hb hl hc hz hze hq ho
            · cases he
          · cases he
        · cases he
      · cases he
    · cases he
  · split at he
    · rename_i sa sb e' hsa hsb hu
      split at he
      · cases he
      · rename_i hne
        cases eff with
        | mov φ od B v => exact appendE_ok h hU (opd_rep h.vw hsa) (opd_rep h.vw hsb) he (.inl ⟨e', hu⟩) (fun l hl => (hne l hl).elim) ho
        | val _ _ | new _ _ _ | upd _ _ _ _ =>
          exfalso
          unfold appendE at he
          repeat' split at he
          all_goals simp at he
    · rename_i sa l hsa hsb hu
      cases eff with
      | mov φ od B v => exact appendE_ok h hU (opd_rep h.vw hsa) (opd_rep h.vw hsb) he (.inr ⟨⟨l, rfl⟩, hu⟩) (fun _ _ => hu) ho
      | val _ _ | new _ _ _ | upd _ _ _ _ =>
        exfalso
        unfold appendE at he
        repeat' split at he
        all_goals simp at he
    · cases he
  · cases he
end
end Go.Proofs.YtgpggoejkkhceaaDoor.V
