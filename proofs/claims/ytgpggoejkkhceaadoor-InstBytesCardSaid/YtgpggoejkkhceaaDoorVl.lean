/-
  A walk by abstract values: slices that are made, written out, appended to.
-/
import Derived.Test.YtgpggoejkkhceaaDoorVk
namespace Go.Proofs.YtgpggoejkkhceaaDoor.V
open Go.RowKit

section
variable {P : Program} {Γ : Glob} {C : Ctx} {F : Tr} {M : Mem} {U : Nat → Prop} {nx : Nat} {E : Env} {a : Act} {w : World} {T : Nat → Prop}

/-! ### Elements that are written out -/
def Enum : Nat → List (Nat × Value) → List (List Value) → Prop
  | _, [], [] => True
  | k, (j, v) :: vs, x :: xs => j = k ∧ v.cells.toList = x ∧ Enum (k + 1) vs xs
  | _, _, _ => False
theorem Enum.len : ∀ {k : Nat} {vs : List (Nat × Value)} {xs : List (List Value)}, Enum k vs xs → xs.length = vs.length
  | _, [], [], _ => rfl
  | _, _ :: _, _ :: _, h => by have := h.2.2.len; simp [this]
  | _, [], _ :: _, h => h.elim
  | _, _ :: _, [], h => h.elim
theorem fill_enum {sz : Nat} : ∀ {k : Nat} {vs : List (Nat × Value)} {xs : List (List Value)} {cs : List Value}, Enum k vs xs → (∀ x ∈ xs, x.length = sz) → (k + vs.length) * sz ≤ cs.length →
    Instr.fill (fun i => some (i * sz, sz)) cs.toArray vs = some (cs.take (k * sz) ++ xs.flatten ++ cs.drop ((k + vs.length) * sz)).toArray
  | k, [], [], cs, _, _, _ => by simp [Instr.fill]
  | k, (j, v) :: vs, x :: xs, cs, h, hx, hle => by
    obtain ⟨rfl, h2, h3⟩ := h
    have hsz : v.cells.size = sz := by
      have := hx x (List.mem_cons_self ..)
      rw [← h2] at this
      simpa using this
    have e1 : (j + (vs.length + 1)) * sz = j * sz + sz + vs.length * sz := by rw [Nat.add_mul, Nat.add_mul]; omega
    have hxl : x.length = sz := hx x (List.mem_cons_self ..)
    simp only [List.length_cons, e1] at hle
    simp only [Instr.fill]
    rw [if_neg (by simp [hsz]; omega)]
    have hset := foldl_set (j * sz) v.cells.toList 0 cs.toArray (by simp [hsz]; omega)
    simp only [Nat.add_zero] at hset
    have harr : (v.cells.zipIdx.foldl (fun (cs : Array Value) (p : Value × Nat) => cs.setIfInBounds (j * sz + p.2) p.1) cs.toArray) = (cs.take (j * sz) ++ x ++ cs.drop (j * sz + sz)).toArray := by
      apply Array.ext'
      rw [← Array.foldl_toList]
      simpa [hsz, h2, hxl] using hset
    have hl : (cs.take (j * sz)).length = j * sz := by simp; omega
    have hl2 : (cs.take (j * sz) ++ x).length = (j + 1) * sz := by rw [List.length_append, hl, hxl, Nat.add_mul, Nat.one_mul]
    have ih := fill_enum (cs := cs.take (j * sz) ++ x ++ cs.drop (j * sz + sz)) h3 (fun y hy => hx y (List.mem_cons_of_mem _ hy)) (by
      rw [List.length_append, hl2, List.length_drop, Nat.add_mul (j + 1), Nat.add_mul j, Nat.one_mul]; omega)
    refine (congrArg (fun y => Instr.fill (fun i => some (i * sz, sz)) y vs) harr).trans (ih.trans ?_)
    have e2 : (j + 1 + vs.length) * sz = (cs.take (j * sz) ++ x).length + vs.length * sz := by rw [hl2, ← Nat.add_mul]
    have e3 : (j + (vs.length + 1)) * sz = (j * sz + sz) + vs.length * sz := e1
    rw [e2, List.length_cons, e3, List.drop_length_add_append, List.drop_drop, ← hl2, List.take_left]
    simp [List.append_assoc]
  | _, [], _ :: _, _, h, _, _ => h.elim
  | _, _ :: _, [], _, h, _, _ => h.elim

theorem flat_get {sz : Nat} : ∀ {xs : List (List Value)}, (∀ x ∈ xs, x.length = sz) → ∀ {i j : Nat} {v : Value}, i < xs.length → (xs.getD i [])[j]? = some v → xs.flatten[i * sz + j]? = some v
  | [], _, i, j, v, hi, _ => by simp at hi
  | x :: xs, hx, 0, j, v, hi, h => by
    simp at h
    simp only [List.flatten_cons, Nat.zero_mul, Nat.zero_add]
    rw [List.getElem?_append_left (List.getElem?_eq_some_iff.1 h).1]
    exact h
  | x :: xs, hx, i + 1, j, v, hi, h => by
    have hxl := hx x (List.mem_cons_self ..)
    simp only [List.getD_cons_succ] at h
    have := flat_get (fun y hy => hx y (List.mem_cons_of_mem _ hy)) (by simpa using hi) h
    simp only [List.flatten_cons]
    rw [List.getElem?_append_right (by rw [hxl, Nat.add_mul]; omega), hxl, ← this]
    congr 1
    rw [Nat.add_mul]
    omega
theorem flat_len {sz : Nat} : ∀ {xs : List (List Value)}, (∀ x ∈ xs, x.length = sz) → xs.flatten.length = xs.length * sz
  | [], _ => by simp
  | x :: xs, hx => by
    rw [List.flatten_cons, List.length_append, hx x (List.mem_cons_self ..), flat_len (fun y hy => hx y (List.mem_cons_of_mem _ hy)), List.length_cons, Nat.add_mul]
    omega

theorem u8s_enum : ∀ {ps : List (Nat × SV)} {vs : List (Nat × Value)} {k : Nat} {l : List UInt8}, u8s ps k = some l → PartsOk E T w ps vs →
    ∃ xs, Enum k vs xs ∧ xs.length = l.length ∧ (∀ x ∈ xs, x.length = 1) ∧ ∀ i, i < l.length → Items E T w [.int .u8 ((l.getD i 0).toNat : Int)] (xs.getD i [])
  | [], [], k, l, h, _ => by simp [u8s] at h; subst h; exact ⟨[], trivial, rfl, by simp, by simp⟩
  | [], _ :: _, _, _, _, h => h.elim
  | (_, _) :: _, [], _, _, _, h => h.elim
  | (i, s) :: ps, (j, v) :: vs, k, l, h, hp => by
    obtain ⟨rfl, hs, hp'⟩ := hp
    unfold u8s at h
    split at h
    · rename_i e; cases e
    · rename_i i' m r e
      simp at e
      obtain ⟨⟨rfl, rfl⟩, rfl⟩ := e
      split at h
      · rename_i hk
        have := Nat.eq_of_beq_eq_true hk
        subst this
        split at h
        · rename_i l' hl'
          simp at h
          subst h
          obtain ⟨xs, h1, h2, h3, h4⟩ := u8s_enum hl' hp'
          cases hs with
          | int _ _ hr =>
            refine ⟨[.int .u8 m] :: xs, ⟨rfl, rfl, h1⟩, by simp [h2], fun x hx => ?_, fun q hq => ?_⟩
            · rcases List.mem_cons.1 hx with rfl | hx
              · rfl
              · exact h3 x hx
            · cases q with
              | zero =>
                simp only [List.getD_cons_zero]
                rw [u8_back hr]
                exact .one _ _ _ _ rfl (.int _ _ hr) .nil
              | succ q =>
                simp only [List.getD_cons_succ]
                exact h4 q (by simpa using hq)
        · cases h
      · cases h
    · cases h
theorem intS_enum {c : IntKind} : ∀ {ps : List (Nat × SV)} {vs : List (Nat × Value)} {k : Nat} {l : List Int}, intS c ps k = some l → PartsOk E T w ps vs →
    ∃ xs, Enum k vs xs ∧ xs.length = l.length ∧ (∀ x ∈ xs, x.length = 1) ∧ ∀ i, i < l.length → Items E T w [.int c (l.getD i 0)] (xs.getD i [])
  | [], [], k, l, h, _ => by simp [intS] at h; subst h; exact ⟨[], trivial, rfl, by simp, by simp⟩
  | [], _ :: _, _, _, _, h => h.elim
  | (_, _) :: _, [], _, _, _, h => h.elim
  | (i, s) :: ps, (j, v) :: vs, k, l, h, hp => by
    obtain ⟨rfl, hs, hp'⟩ := hp
    unfold intS at h
    split at h
    · rename_i e; cases e
    · rename_i i' q' m r e
      simp at e
      obtain ⟨⟨rfl, rfl⟩, rfl⟩ := e
      split at h
      · rename_i hk
        simp only [Bool.and_eq_true] at hk
        have := Nat.eq_of_beq_eq_true hk.1
        subst this
        have := kindB_eq hk.2
        subst this
        split at h
        · rename_i l' hl'
          simp at h
          subst h
          obtain ⟨xs, h1, h2, h3, h4⟩ := intS_enum hl' hp'
          cases hs with
          | int _ _ hr =>
            refine ⟨[.int c m] :: xs, ⟨rfl, rfl, h1⟩, by simp [h2], fun x hx => ?_, fun q hq => ?_⟩
            · rcases List.mem_cons.1 hx with rfl | hx
              · rfl
              · exact h3 x hx
            · cases q with
              | zero =>
                simp only [List.getD_cons_zero]
                exact .one _ _ _ _ rfl (.int _ _ hr) .nil
              | succ q =>
                simp only [List.getD_cons_succ]
                exact h4 q (by simpa using hq)
        · cases h
      · cases h
    · cases h
theorem elS_enum {sz : Nat} : ∀ {ps : List (Nat × SV)} {vs : List (Nat × Value)} {k : Nat} {l : List (List SV)}, elS sz ps k = some l → PartsOk E T w ps vs →
    ∃ xs, Enum k vs xs ∧ xs.length = l.length ∧ (∀ x ∈ xs, x.length = sz) ∧ ∀ i, i < l.length → Items E T w (nthL l i) (xs.getD i [])
  | [], [], k, l, h, _ => by simp [elS] at h; subst h; exact ⟨[], trivial, rfl, by simp, by simp⟩
  | [], _ :: _, _, _, _, h => h.elim
  | (_, _) :: _, [], _, _, _, h => h.elim
  | (i, s) :: ps, (j, v) :: vs, k, l, h, hp => by
    obtain ⟨rfl, hs, hp'⟩ := hp
    simp only [elS] at h
    split at h
    · rename_i x hx
      split at h
      · rename_i hk
        simp only [Bool.and_eq_true] at hk
        have := Nat.eq_of_beq_eq_true hk.1
        subst this
        split at h
        · rename_i l' hl'
          simp at h
          subst h
          obtain ⟨xs, h1, h2, h3, h4⟩ := elS_enum hl' hp'
          have hI := hs.items hx
          have hlen := wI_len hI
          rw [Nat.eq_of_beq_eq_true hk.2] at hlen
          refine ⟨v.cells.toList :: xs, ⟨rfl, rfl, h1⟩, by simp [h2], fun y hy => ?_, fun q hq => ?_⟩
          · rcases List.mem_cons.1 hy with rfl | hy
            · exact hlen.symm
            · exact h3 y hy
          · cases q with
            | zero => exact hI
            | succ q =>
              simp only [List.getD_cons_succ, nthL]
              exact h4 q (by simpa using hq)
        · cases h
      · cases h
    · cases h

/-- The elements of a slice that is written out. -/
theorem litE_ok {elem n sz : Nat} {ps : List (Nat × SV)} {vs : List (Nat × Value)} {e : EV} (h : litE P elem n sz ps = some e) (hp : PartsOk E T w ps vs) :
    e.len = n ∧ e.sz = sz ∧ ∃ xs, Enum 0 vs xs ∧ xs.length = n ∧ (∀ x ∈ xs, x.length = sz) ∧ ∀ i, i < n → Items E T w (e.items i) (xs.getD i []) := by
  unfold litE at h
  split at h
  · split at h
    · rename_i l hl
      split at h
      · rename_i hn
        simp only [Bool.and_eq_true] at hn
        have := Nat.eq_of_beq_eq_true hn.1
        subst this
        have := Nat.eq_of_beq_eq_true hn.2
        subst this
        simp at h
        subst h
        obtain ⟨xs, h1, h2, h3, h4⟩ := u8s_enum hl hp
        exact ⟨rfl, rfl, xs, h1, h2, h3, h4⟩
      · cases h
    · cases h
  · split at h
    · rename_i l hl
      split at h
      · rename_i hn
        simp only [Bool.and_eq_true] at hn
        have := Nat.eq_of_beq_eq_true hn.1
        subst this
        have := Nat.eq_of_beq_eq_true hn.2
        subst this
        simp at h
        subst h
        obtain ⟨xs, h1, h2, h3, h4⟩ := intS_enum hl hp
        exact ⟨rfl, rfl, xs, h1, h2, h3, h4⟩
      · cases h
    · cases h
  · split at h
    · rename_i l hl
      split at h
      · rename_i hn
        have := Nat.eq_of_beq_eq_true hn
        subst this
        simp at h
        subst h
        obtain ⟨xs, h1, h2, h3, h4⟩ := elS_enum hl hp
        exact ⟨rfl, rfl, xs, h1, h2, h3, h4⟩
      · cases h
    · cases h
  · cases h

/-- A row's block, seen from behind its making. -/
theorem row_new (h : St C F M U E a w) (hU : U nx) {elem : TypeId} {e : EV} {cs : List Value} {c : Nat → List Value} (obj : Obj) (B : Blk) (ho : obj = .cells cs.toArray elem (0, 0)) (hB : B = .row elem e) (h1 : e.len * e.sz ≤ cs.length) (h2 : ∀ i, i < e.len → (c i).length = e.sz)
    (h3 : ∀ i j v, i < e.len → (c i)[j]? = some v → cs[i * e.sz + j]? = some v) (h4 : ∀ i, i < e.len → Items E (trk C.T0 M E) w (e.items i) (c i)) :
    St C F ((nx, B) :: M) (rest U nx) (envWith E nx (some w.heap.size)) a (w.alloc obj) := by
  subst hB
  refine h.new hU ⟨cs, c, ?_, h1, h2, h3, fun i hi => new_items h hU _ _ (h4 i hi)⟩
  rw [heap_alloc_new, ho]
theorem row_rep {E : Env} {T : Nat → Prop} {w : World} {nx sz n b cap : Nat} {elem : TypeId} {cs : List Value} (hE : E nx = some (some b)) (hb : w.heap[b]? = some (.cells cs.toArray elem (0, 0))) (hl : cs.length = cap * sz) (hn : n ≤ cap) (hok : okLen cap) :
    Rep E T w (.row nx 0 sz 0 n) (.slice (some ⟨b, 0, none⟩) n cap) :=
  .row nx 0 sz 0 n b 0 cap cs.length elem hE (by simp [World.shape?, hb]) (fun _ => ⟨by simp, by simp [hl]⟩) hn hok

theorem bind_zero {elem : TypeId} {zv : Value} (h : (P.info? elem).bind (·.zero) = some zv) : ∃ i, P.info? elem = some i ∧ i.zero = some zv := by
  cases hi : P.info? elem with
  | none => rw [hi] at h; cases h
  | some i => rw [hi] at h; exact ⟨i, rfl, h⟩

theorem buildSlice_ok (h : St C F M U E a w) (hU : U nx) {t elem n sz : Nat} {ps : List (Nat × Operand)} {l : List (Nat × SV)} {zv : Value} {e : EV} {o : Oper} (hu : C.P.underlying t = some (.slice elem)) (hs : sizeF C.P elem = some (sz + 1)) (hz : (C.P.info? elem).bind (·.zero) = some zv)
    (hsmall : Nat.ble (n * (sz + 1)) 16777216 = true) (hp : partsF C.Γ F ps = some l) (_hzl : Nat.beq zv.cells.toList.length (sz + 1) = true) (he : litE C.P elem n (sz + 1) l = some e) (ho : o.op = .buildSlice t n ⟨ps⟩) :
    EffOk C F M U nx E a w o (.new [] (.row elem e) (.row nx 0 (sz + 1) 0 n)) := by
  intro _
  have hsm := Nat.le_of_ble_eq_true hsmall
  have hok : okLen n := by
    have : n * 1 ≤ n * (sz + 1) := Nat.mul_le_mul_left _ (by omega)
    unfold okLen
    omega
  obtain ⟨i, hi, hiz⟩ := bind_zero hz
  obtain ⟨i', hi', his⟩ := sizeF_info hs
  rw [hi] at hi'
  cases hi'
  obtain ⟨k1, k2, xs, k3, k4, k5, k6⟩ := litE_ok he (partsF_ok h.vw hp)
  have hfill : ∀ cs : List Value, cs.length = n * (sz + 1) → Instr.fill (fun i => some (i * (sz + 1), sz + 1)) cs.toArray (ps.map fun p => (p.1, a.eval p.2)) = some xs.flatten.toArray := fun cs hcs => by
    have hvl := k3.len
    have := fill_enum (cs := cs) k3 k5 (by rw [hcs, ← hvl, k4, Nat.zero_add]; exact Nat.le_refl _)
    rw [this]
    have e1 : (0 + (ps.map fun p => (p.1, a.eval p.2)).length) * (sz + 1) = cs.length := by rw [hcs, ← hvl, k4, Nat.zero_add]
    rw [e1]
    simp
  have hargs : (Array.map (fun x => match x with | (i, x) => (i, a.eval x)) ⟨ps⟩) = (ps.map fun p => (p.1, a.eval p.2)).toArray := by simp
  have hrun : (execOp a.eval o).run C.P w = .ok (.value (.slice (some ⟨w.heap.size, 0, none⟩) n n)) (w.alloc (.cells xs.flatten.toArray elem)) := by
    have hbs : (Instr.buildSlice t n (ps.map fun p => (p.1, a.eval p.2)).toArray).run C.P w = .ok (.slice (some ⟨w.heap.size, 0, none⟩) n n) (w.alloc (.cells xs.flatten.toArray elem)) := by
      by_cases hn : n * (sz + 1) = 0
      · have hn0 : n = 0 := by
          rcases Nat.mul_eq_zero.1 hn with h | h
          · exact h
          · omega
        subst hn0
        have hf' : Instr.fill (fun i => some (i * (sz + 1), sz + 1)) #[] (ps.map fun p => (p.1, a.eval p.2)) = some xs.flatten.toArray := hfill [] (by simp)
        have hxs : xs = [] := List.eq_nil_of_length_eq_zero k4
        have hps : ps = [] := List.eq_nil_of_length_eq_zero (by have := k3.len; rw [k4] at this; simpa using this.symm)
        subst hxs
        subst hps
        simp [Instr.buildSlice, run_underlying hu, run_sizeOf hs, newRow, Instr.fill, Array.range_zero']
      · have hf := hfill ((Array.range (n * (sz + 1))).map (zv.cells[· % zv.cells.size]!)).toList (by rw [Array.length_toList, Array.size_map, Array.size_range])
        rw [Array.toArray_toList] at hf
        have hs1 : ¬ n * i.size > 2 ^ 24 := by rw [his]; omega
        have hs2 : ¬ n * i.size = 0 := by rw [his]; exact hn
        have hf2 : Instr.fill (fun j => some (j * i.size, i.size)) ((Array.range (n * i.size)).map (zv.cells[· % zv.cells.size]!)) (ps.map fun p => (p.1, a.eval p.2)).toArray.toList = some xs.flatten.toArray := by rw [his]; exact hf
        have hq := run_buildSlice (P := C.P) w t elem n (ps.map fun p => (p.1, a.eval p.2)).toArray xs.flatten.toArray i zv hu hi hiz
        have hq2 := hq hs1
        have hq3 := hq2 hs2
        have hq4 := hq3 hf2
        exact hq4
    unfold execOp
    simp only [ho, hargs, Sem.run_bind, hbs]
    rfl
  refine ⟨_, envWith E nx (some w.heap.size), _, hrun, row_rep (by simp [envWith]) (by rw [heap_alloc_new]) (by rw [flat_len k5, k4]) (Nat.le_refl _) hok, ?_⟩
  refine row_new (cs := xs.flatten) (c := fun i => xs.getD i []) h hU _ _ rfl rfl (by rw [k1, k2, flat_len k5, k4]; exact Nat.le_refl _) (fun i hi => ?_) (fun i j v hi hj => ?_) (fun i hi => k6 i (by rw [← k1]; exact hi))
  · rw [k2]
    rw [k1, ← k4] at hi
    have : xs.getD i [] = xs[i] := by simp [List.getD, List.getElem?_eq_getElem hi]
    rw [this]
    exact k5 _ (List.getElem_mem hi)
  · rw [k2]
    exact flat_get k5 (by rw [k4, ← k1]; exact hi) hj

/-! ### Slices that are made -/
theorem zeroE_ok {elem n s : Nat} {zv : Value} {e : EV} (h : zeroE P elem zv n = some e) (hs : e.sz = s) (hz : zv.cells.toList.length = s) : e.len = n ∧ ∀ i, i < n → Items E T w (e.items i) zv.cells.toList := by
  unfold zeroE at h
  split at h
  · simp at h
    subst h
    refine ⟨by simp [EV.len], fun i hi => ?_⟩
    simp only [EV.items]
    have : (List.replicate n (0 : UInt8)).getD i 0 = 0 := by simp [List.getD, hi]
    rw [this]
    exact .one _ _ _ _ rfl (.int _ _ (inR_zero .u8)) .nil
  · simp at h
    subst h
    refine ⟨by simp [EV.len], fun i hi => ?_⟩
    simp only [EV.items]
    have : (List.replicate n (0 : Int)).getD i 0 = 0 := by simp [List.getD, hi]
    rw [this]
    exact .one _ _ _ _ rfl (.int _ _ (inR_zero _)) .nil
  · split at h
    · rename_i z hzz
      simp at h
      subst h
      exact ⟨rfl, fun i hi => zeroI_items 200 hzz⟩
    · cases h
theorem zeroE_sz {elem n : Nat} {zv : Value} {e : EV} (h : zeroE P elem zv n = some e) : e.sz = zv.cells.toList.length := by
  unfold zeroE at h
  split at h
  · simp at h; subst h; rfl
  · simp at h; subst h; rfl
  · split at h
    · rename_i z hzz
      simp at h; subst h
      exact wI_len (zeroI_items (E := fun _ => none) (T := fun _ => False) (w := default) 200 hzz)
    · cases h
theorem madeCells_get {z : Array Value} {m s i j : Nat} {v : Value} (hz : z.toList.length = s) (hi : (i + 1) * s ≤ m) (hj : z.toList[j]? = some v) : (madeCells z m).toList[i * s + j]? = some v := by
  have hjl : j < s := by rw [← hz]; exact (List.getElem?_eq_some_iff.1 hj).1
  have hzs : z.size = s := by simpa using hz
  have hlt : i * s + j < m := by rw [Nat.add_mul] at hi; omega
  have hmod : (i * s + j) % s = j := by rw [Nat.mul_comm, Nat.mul_add_mod, Nat.mod_eq_of_lt hjl]
  have hzj : z[j]? = some v := by simpa using hj
  have : (madeCells z m)[i * s + j]? = some v := by
    simp only [madeCells, Array.getElem?_map, Array.getElem?_range]
    simp only [hlt, if_true, Option.map_some, hzs, hmod, Option.some.injEq]
    rw [getElem!_def, hzj]
  simpa using this
theorem makeSlice_ok (h : St C F M U E a w) (hU : U nx) {t elem sz b : Nat} {l c : Operand} {k k' : IntKind} {n m : Int} {zv : Value} {e : EV} {o : Oper} (hu : C.P.underlying t = some (.slice elem)) (hs : sizeF C.P elem = some (sz + 1)) (hb : bytesF C.P elem = some b)
    (hl : opd C.Γ F l = some (.int k n)) (hc : opd C.Γ F c = some (.int k' m)) (hz : (C.P.info? elem).bind (·.zero) = some zv) (he : zeroE C.P elem zv n.toNat = some e) (hzl : (Nat.beq e.sz (sz + 1) && Nat.beq zv.cells.toList.length (sz + 1)) = true) (ho : o.op = .makeSlice t l c) :
    EffOk C F M U nx E a w o (.new [0 ≤ n ∧ n ≤ m ∧ (b : Int) * m ≤ 281474976710656 ∧ m ≤ 9223372036854775807] (.row elem e) (.row nx 0 (sz + 1) 0 n.toNat)) := by
  intro hφ
  obtain ⟨h0, h1, h2, h3⟩ := hφ.one
  simp only [Bool.and_eq_true] at hzl
  have z1 := Nat.eq_of_beq_eq_true hzl.1
  have z2 := Nat.eq_of_beq_eq_true hzl.2
  obtain ⟨i, hi, hiz⟩ := bind_zero hz
  obtain ⟨i', hi', his⟩ := sizeF_info hs
  rw [hi] at hi'
  cases hi'
  have hby : i.bytes = b := by unfold bytesF at hb; rw [hi] at hb; simpa using hb
  have hel := opd_rep h.vw hl
  have hec := opd_rep h.vw hc
  generalize hlv : a.eval l = lv at hel
  generalize hcv : a.eval c = cv at hec
  cases hel
  cases hec
  obtain ⟨k1, k2⟩ := zeroE_ok (E := E) (T := trk C.T0 M E) (w := w) he z1 z2
  have hrun : (execOp a.eval o).run C.P w = .ok (.value (.slice (some ⟨w.heap.size, 0, none⟩) n.toNat m.toNat)) (w.alloc (.cells (madeCells zv.cells (m.toNat * (sz + 1))) elem)) := by
    have := run_make (P := C.P) w t elem i zv hu hi hiz k k' n m h0 h1 (by rw [hby]; exact h2) h3
    rw [his] at this
    unfold execOp
    simp only [ho, hlv, hcv, Sem.run_bind, this]
    rfl
  have hlen : (madeCells zv.cells (m.toNat * (sz + 1))).toList.length = m.toNat * (sz + 1) := by simp [size_madeCells]
  have hfit : n.toNat ≤ m.toNat := by omega
  refine ⟨_, envWith E nx (some w.heap.size), _, hrun, row_rep (cs := (madeCells zv.cells (m.toNat * (sz + 1))).toList) (by simp [envWith]) (by rw [heap_alloc_new]) hlen hfit (by unfold okLen; omega), ?_⟩
  refine row_new (cs := (madeCells zv.cells (m.toNat * (sz + 1))).toList) (c := fun _ => zv.cells.toList) h hU (.cells (madeCells zv.cells (m.toNat * (sz + 1))) elem) _ (by rw [Array.toArray_toList]) rfl ?_ (fun i hi => by rw [z1]; exact z2) (fun i j v hi hj => ?_) (fun i hi => k2 i (by rw [← k1]; exact hi))
  · rw [k1, z1, hlen]
    exact Nat.mul_le_mul_right _ hfit
  · rw [z1]
    refine madeCells_get z2 ?_ hj
    exact Nat.mul_le_mul_right _ (by omega)
end
end Go.Proofs.YtgpggoejkkhceaaDoor.V
