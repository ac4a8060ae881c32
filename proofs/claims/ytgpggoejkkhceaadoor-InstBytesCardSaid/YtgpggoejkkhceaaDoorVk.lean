/-
  A walk by abstract values: what the operations that make or write memory do.
-/
import Derived.Test.YtgpggoejkkhceaaDoorVj
namespace Go.Proofs.YtgpggoejkkhceaaDoor.V
open Go.RowKit

section
variable {P : Program} {Γ : Glob} {C : Ctx} {F : Tr} {M : Mem} {U : Nat → Prop} {nx : Nat} {E : Env} {a : Act} {w : World} {T : Nat → Prop}

theorem u8_back {m : Int} (h : inR .u8 m) : (((UInt8.ofNat m.toNat).toNat : Nat) : Int) = m := by
  simp [inR, IntKind.min, IntKind.max, IntKind.signed, IntKind.bits] at h
  rw [UInt8.toNat_ofNat']
  omega
theorem set1_ok {e e' : EV} {i : Nat} {y : List SV} {ys : List Value} (h : e.set1 i y = some e') (hi : i < e.len) (hy : Items E T w y ys) :
    e'.len = e.len ∧ e'.sz = e.sz ∧ ys.length = e.sz ∧ Items E T w (e'.items i) ys ∧ ∀ k, k ≠ i → e'.items k = e.items k := by
  unfold EV.set1 at h
  split at h
  · rename_i l m
    simp at h
    subst h
    obtain ⟨c, r, rfl, h1, h2⟩ := hy.head rfl
    cases h1 with
    | int _ _ hr =>
      cases h2
      simp only [EV.len] at hi
      refine ⟨by simp [EV.len], rfl, rfl, ?_, fun k hk => ?_⟩
      · simp only [EV.items]
        have : (l.set i (UInt8.ofNat m.toNat)).getD i 0 = UInt8.ofNat m.toNat := by simp [List.getD, hi]
        rw [this, u8_back hr]
        exact .one _ _ _ _ rfl (.int _ _ hr) .nil
      · simp only [EV.items]
        have : (l.set i (UInt8.ofNat m.toNat)).getD k 0 = l.getD k 0 := by simp [List.getD, List.getElem?_set_ne (Ne.symm hk)]
        rw [this]
  · rename_i k0 l k' m
    split at h
    · rename_i hk0
      have := kindB_eq hk0
      subst this
      simp at h
      subst h
      obtain ⟨c, r, rfl, h1, h2⟩ := hy.head rfl
      cases h2
      simp only [EV.len] at hi
      refine ⟨by simp [EV.len], rfl, rfl, ?_, fun k hk => ?_⟩
      · simp only [EV.items]
        have : (l.set i m).getD i 0 = m := by simp [List.getD, hi]
        rw [this]
        exact .one _ _ _ _ rfl h1 .nil
      · simp only [EV.items]
        have : (l.set i m).getD k 0 = l.getD k 0 := by simp [List.getD, List.getElem?_set_ne (Ne.symm hk)]
        rw [this]
    · cases h
  · rename_i n sz f
    split at h
    · rename_i hw
      simp at h
      subst h
      have := wI_len hy
      rw [Nat.eq_of_beq_eq_true hw] at this
      exact ⟨rfl, rfl, this.symm, by simpa [EV.items] using hy, fun k hk => by simp [EV.items, hk]⟩
    · cases h
  · cases h

/-- What a run of elements and its cells must be. -/
def Seg (E : Env) (T : Nat → Prop) (w : World) (e : EV) (base : Nat) (cs : List Value) : Prop :=
  ∃ c : Nat → List Value, (∀ i, i < e.len → (c i).length = e.sz) ∧ (∀ i j v, i < e.len → (c i)[j]? = some v → cs[base + i * e.sz + j]? = some v) ∧ ∀ i, i < e.len → Items E T w (e.items i) (c i)

theorem paste_get {cs xs : List Value} {off n k : Nat} (hn : xs.length = n) (hle : off + n ≤ cs.length) : (cs.take off ++ xs ++ cs.drop (off + n))[k]? = if k < off then cs[k]? else if k < off + n then xs[k - off]? else cs[k]? := by
  have h1 : (cs.take off).length = off := by simp; omega
  by_cases hk : k < off
  · rw [if_pos hk, List.append_assoc, List.getElem?_append_left (by omega), List.getElem?_take, if_pos hk]
  · rw [if_neg hk, List.append_assoc, List.getElem?_append_right (by omega), h1]
    by_cases hk2 : k < off + n
    · rw [if_pos hk2, List.getElem?_append_left (by omega)]
    · rw [if_neg hk2, List.getElem?_append_right (by omega), List.getElem?_drop]
      congr 1
      omega

theorem setE_ok {e e' : EV} {base i j n : Nat} {x : List SV} {xs cs : List Value} (h : e.setE i j n x = some e') (hi : i < e.len) (hx : Items E T w x xs) (hn : xs.length = n) (hS : Seg E T w e base cs) (hend : base + i * e.sz + e.sz ≤ cs.length) :
    base + i * e.sz + j + n ≤ cs.length ∧ e'.len = e.len ∧ e'.sz = e.sz ∧ Seg E T w e' base (cs.take (base + i * e.sz + j) ++ xs ++ cs.drop (base + i * e.sz + j + n)) := by
  obtain ⟨c, hc1, hc2, hc3⟩ := hS
  -- what the element's cells become
  have key : ∃ y ys, e.set1 i y = some e' ∧ Items E T w y ys ∧ ys = (c i).take j ++ xs ++ (c i).drop (j + n) ∧ j + n ≤ e.sz := by
    unfold EV.setE at h
    split at h
    · rename_i hb
      simp only [Bool.and_eq_true] at hb
      have e1 := Nat.eq_of_beq_eq_true hb.1
      have e2 := Nat.eq_of_beq_eq_true hb.2
      subst e1
      refine ⟨x, xs, h, hx, ?_, by omega⟩
      have : (c i).drop n = [] := List.drop_eq_nil_of_le (by rw [hc1 i hi]; omega)
      simp [this]
    · split at h
      · rename_i y hy
        obtain ⟨h1, h2⟩ := (hc3 i hi).paste hx hy
        rw [hc1 i hi] at h1
        exact ⟨y, _, h, h2, rfl, h1⟩
      · cases h
  obtain ⟨y, ys, h1, h2, h3, h4⟩ := key
  obtain ⟨k1, k2, k3, k4, k5⟩ := set1_ok h1 hi h2
  have hle : base + i * e.sz + j + n ≤ cs.length := by omega
  refine ⟨hle, k1, k2, fun k => if k = i then ys else c k, fun k hk => ?_, fun k j' v hk hj' => ?_, fun k hk => ?_⟩
  · rw [k1] at hk
    dsimp only
    split
    · rw [k3, k2]
    · rw [k2]; exact hc1 k hk
  · rw [k1] at hk
    rw [k2]
    dsimp only at hj'
    rw [paste_get hn hle]
    split at hj'
    · rename_i hki
      subst hki
      rw [h3] at hj'
      rw [paste_get hn (by rw [hc1 k hk]; exact h4)] at hj'
      by_cases g1 : j' < j
      · rw [if_pos g1] at hj'
        rw [if_pos (by omega)]
        exact hc2 k j' v hk hj'
      · rw [if_neg g1] at hj'
        rw [if_neg (by omega)]
        by_cases g2 : j' < j + n
        · rw [if_pos g2] at hj'
          rw [if_pos (by omega), ← hj']
          congr 1
          omega
        · rw [if_neg g2] at hj'
          rw [if_neg (by omega)]
          exact hc2 k j' v hk hj'
    · rename_i hki
      have hj2 : j' < e.sz := by
        have := (List.getElem?_eq_some_iff.1 hj').1
        rwa [hc1 k hk] at this
      have := hc2 k j' v hk hj'
      rcases Nat.lt_or_gt_of_ne hki with hlt | hgt
      · have hm : (k + 1) * e.sz ≤ i * e.sz := Nat.mul_le_mul_right _ hlt
        rw [Nat.add_mul] at hm
        rw [if_pos (by omega)]
        exact this
      · have hm : (i + 1) * e.sz ≤ k * e.sz := Nat.mul_le_mul_right _ hgt
        rw [Nat.add_mul] at hm
        rw [if_neg (by omega), if_neg (by omega)]
        exact this
  · rw [k1] at hk
    dsimp only
    split
    · rename_i hki
      subst hki
      exact k4
    · rename_i hki
      rw [k5 k hki]
      exact hc3 k hk

theorem run_newVar (t : TypeId) (v : Value) (w : World) : (newVar t v).run P w = .ok ⟨w.heap.size, 0, none⟩ (w.alloc (.cells v.cells t)) := rfl
theorem cells_toList (v : Value) : v.cells = v.cells.toList.toArray := by simp

/-- What an operation that makes or writes memory comes to. -/
def EffOk (C : Ctx) (F : Tr) (M : Mem) (U : Nat → Prop) (nx : Nat) (E : Env) (a : Act) (w : World) (o : Oper) : Eff → Prop
  | .val _ _ => False
  | .new φ B v => All φ → ∃ x E' w', (execOp a.eval o).run C.P w = .ok (.value x) w' ∧ Rep E' (trk C.T0 ((nx, B) :: M) E') w' v x ∧ St C F ((nx, B) :: M) (rest U nx) E' a w'
  | .upd φ id B none => All φ → ∃ M' w', upd M id B = some M' ∧ (execOp a.eval o).run C.P w = .ok .skip w' ∧ St C F M' U E a w'
  | .upd _ _ _ (some _) => False
  | .mov φ id B v => All φ → ∃ x E' w', (execOp a.eval o).run C.P w = .ok (.value x) w' ∧ Rep E' (trk C.T0 ((nx, B) :: delO M id) E') w' v x ∧ St C F ((nx, B) :: delO M id) (rest U nx) E' a w'

theorem paste_in {pre c1 cs' xs : List Value} {k n : Nat} (h : k + n ≤ c1.length) :
    pre ++ (c1.take k ++ xs ++ c1.drop (k + n)) ++ cs' = (pre ++ (c1 ++ cs')).take (pre.length + k) ++ xs ++ (pre ++ (c1 ++ cs')).drop (pre.length + k + n) := by
  rw [List.take_length_add_append, Nat.add_assoc, List.drop_length_add_append, List.take_append_of_le_length (by omega), List.drop_append_of_le_length h]
  simp
theorem upd_some : ∀ {M : Mem} {id : Nat} {B B' : Blk}, find M id = some B → ∃ M', upd M id B' = some M'
  | [], id, B, B', h => by simp [find] at h
  | (i, B0) :: r, id, B, B', h => by
    simp only [find] at h
    simp only [upd]
    split at h
    · exact ⟨_, rfl⟩
    · obtain ⟨M', hM'⟩ := upd_some (B' := B') h
      rw [hM']
      exact ⟨_, rfl⟩

/-- A new block's parts, seen from behind. -/
theorem new_items (h : St C F M U E a w) (hU : U nx) {l : List SV} {cs : List Value} (B : Blk) (o : Obj) (hI : Items E (trk C.T0 M E) w l cs) :
    Items (envWith E nx (some w.heap.size)) (trk C.T0 ((nx, B) :: M) (envWith E nx (some w.heap.size))) (w.alloc o) l cs := by
  have hnx := h.fresh nx hU
  refine hI.mono (envWith_old hnx) (fun b hb hT => ?_) (Chg.alloc _ w o)
  rcases hT with ⟨id, B', hf, hE⟩ | h0
  · unfold envWith at hE
    split at hE
    · simp at hE; omega
    · rename_i he
      rw [find_cons, if_neg he] at hf
      exact .inl ⟨id, B', hf, hE⟩
  · exact .inr h0

theorem condOf_all {s : SV} {v : Value} (h : All (condOf s)) (hr : Rep E T w s v) : Rep E T w (core s) v := by
  cases s <;> first | exact hr | skip
  exact hr.unmay h.one

theorem alloc_ok (h : St C F M U E a w) (hU : U nx) {t : TypeId} {l : List SV} {o : Oper} (hl : zeroOf C.P t = some l) (ho : o.op = .alloc t) : EffOk C F M U nx E a w o (.new [] (.cells t l) (.ptr nx 0)) := by
  intro _
  obtain ⟨i, v, hi, hz, hI⟩ := zeroOf_items (E := E) (T := trk C.T0 M E) (w := w) hl
  have hzr : (zeroValue t).run C.P w = .ok v w := by simp [zeroValue, typeInfo, hi, hz]
  refine ⟨_, envWith E nx (some w.heap.size), w.alloc (.cells v.cells t), ?_, .ptr nx 0 w.heap.size (by simp [envWith]), h.new hU ⟨v.cells.toList, ?_, new_items h hU _ _ hI⟩⟩
  · unfold execOp
    simp only [ho, Instr.alloc, Sem.run_bind, hzr, run_newVar, Result.andThen_ok, Sem.run_pure]
  · rw [heap_alloc_new, ← cells_toList]
theorem box_ok (h : St C F M U E a w) (hU : U nx) {t : TypeId} {x : Operand} {s : SV} {l : List SV} {o : Oper} (hs : opd C.Γ F x = some s) (hl : itemsOf (core s) = some l) (ho : o.op = .box t x) : EffOk C F M U nx E a w o (.new (condOf s) (.cells t l) (.ptr nx 0)) := by
  intro hφ
  have hr := condOf_all hφ (opd_rep h.vw hs)
  have hI := hr.items hl
  refine ⟨_, envWith E nx (some w.heap.size), w.alloc (.cells (a.eval x).cells t), ?_, .ptr nx 0 w.heap.size (by simp [envWith]), h.new hU ⟨(a.eval x).cells.toList, ?_, new_items h hU _ _ hI⟩⟩
  · unfold execOp
    simp only [ho, Instr.box, Sem.run_bind, run_newVar, Result.andThen_ok, Sem.run_pure]
  · rw [heap_alloc_new, ← cells_toList]

theorem run_storeVar {t g off n : Nat} {ty : TypeId} {cs : List Value} {v : Value} {w : World} (hb : w.heap[g]? = some (.cells cs.toArray ty (0, 0))) (hn : sizeF P t = some n) (hv : v.cells.toList.length = n) (h1 : ∀ x ∈ v.cells.toList, x.oneCell' = true) (hle : off + n ≤ cs.length) :
    (storeVar t ⟨g, off, none⟩ v).run P w = .ok () (w.setRow g (cs.take off ++ v.cells.toList ++ cs.drop (off + n)).toArray) := by
  have hst := run_storeCells_at (P := P) g off ty v.cells.toList 0 cs.toArray w hb (by simp; simp at hv; omega) h1
  simp only [Nat.add_zero, hv] at hst
  have hsz : v.cells.size = n := by simpa using hv
  simp only [storeVar, Sem.run_bind, run_sizeOf hn, Result.andThen_ok]
  rw [if_neg (by simp [hsz])]
  exact hst

/-- Memory's parts behind a write of one of its own blocks. -/
theorem upd_items {M' : Mem} (_h : St C F M U E a w) {id b : Nat} {B B' : Blk} {cs cs' : List Value} {t : TypeId} {l : List SV} {xs : List Value} (hM : upd M id B' = some M') (hf : find M id = some B) (hE : E id = some (some b)) (hb : w.heap[b]? = some (.cells cs.toArray t (0, 0)))
    (hl : cs'.length = cs.length) (hI : Items E (trk C.T0 M E) w l xs) : Items E (trk C.T0 M' E) (w.setRow b cs'.toArray) l xs := by
  refine hI.mono (fun _ _ h => h) (fun x _ hT => ?_) (Chg.setRow hb (.inl ⟨id, B, hf, hE⟩) hl)
  rcases hT with ⟨k, B1, h1, h2⟩ | h0
  · rw [find_upd hM] at h1
    split at h1
    · rename_i e; subst e; exact .inl ⟨k, B, hf, h2⟩
    · exact .inl ⟨k, B1, h1, h2⟩
  · exact .inr h0

theorem store_ok (h : St C F M U E a w) {t : TypeId} {p x : Operand} {sp s : SV} {φ : List Prop} {id : Nat} {B : Blk} {o : Oper} (hp : Rep E (trk C.T0 M E) w sp (a.eval p)) (hx : Rep E (trk C.T0 M E) w s (a.eval x)) (he : storeE C.P M t sp s = some (.upd φ id B none)) (hφ : All φ) (ho : o.op = .store t p x) :
    ∃ M' w', upd M id B = some M' ∧ (execOp a.eval o).run C.P w = .ok .skip w' ∧ St C F M' U E a w' := by
  generalize hvp : a.eval p = vp at hp
  generalize hvx : a.eval x = vx at hx
  unfold storeE at he
  split at he
  case h_2 => cases he
  rename_i xi n hxi hn
  split at he
  case h_2 => cases he
  rename_i hw
  have hIx := hx.items hxi
  have hlen : vx.cells.toList.length = n := by rw [← wI_len hIx]; exact Nat.eq_of_beq_eq_true hw
  have fin : ∀ {off b : Nat} {t' : TypeId} {cs : List Value} {B0 : Blk}, vp = .pointer (some ⟨b, off, none⟩) → find M id = some B0 → E id = some (some b) → w.heap[b]? = some (.cells cs.toArray t' (0, 0)) → off + n ≤ cs.length →
      (∀ M', upd M id B = some M' → BOk E (trk C.T0 M' E) (w.setRow b (cs.take off ++ vx.cells.toList ++ cs.drop (off + n)).toArray) b B) → ∃ M' w', upd M id B = some M' ∧ (execOp a.eval o).run C.P w = .ok .skip w' ∧ St C F M' U E a w' := by
    intro off b t' cs B0 h1 h2 h3 h4 h5 h6
    obtain ⟨M', hM'⟩ := upd_some (B' := B) h2
    refine ⟨M', _, hM', ?_, h.upd_ hM' h2 h3 h4 ?_ (h6 M' hM')⟩
    · have := run_storeVar (P := C.P) h4 hn hlen hIx.ones h5
      unfold execOp
      simp only [ho, hvp, hvx, h1, Instr.storeAt, Instr.sureAddr, Sem.run_bind, Sem.run_pure, Result.andThen_ok, this]
    · simp
      simp at hlen
      omega
  split at he
  · rename_i i' off
    split at he
    · rename_i t' l hf
      split at he
      · rename_i l' hl'
        simp at he
        obtain ⟨rfl, rfl, rfl⟩ := he
        cases hp with
        | ptr _ _ b hE =>
          obtain ⟨hlt, cs, hh, hI⟩ := h.mem.at hf hE
          obtain ⟨hle, hI'⟩ := hI.paste hIx hl'
          refine fin rfl hf hE hh hle fun M' hM' => ⟨_, setRow_heap w b cs.toArray _ t' (0, 0) hh, ?_⟩
          exact upd_items h hM' hf hE hh (by simp; simp at hlen; omega) hI'
      · cases he
    · cases he
  · rename_i i' base sz i j
    split at he
    · rename_i t' e hf
      split at he
      · rename_i hb
        simp only [Bool.and_eq_true] at hb
        have e1 := Nat.eq_of_beq_eq_true hb.1
        have e2 := Nat.eq_of_beq_eq_true hb.2
        subst e1
        subst e2
        split at he
        · rename_i e' he'
          simp at he
          obtain ⟨rfl, rfl, rfl⟩ := he
          have hi := hφ.one
          cases hp with
          | pel _ _ _ _ _ b hE =>
            obtain ⟨hlt, cs, c, hh, hle, hc1, hc2, hc3⟩ := h.mem.at hf hE
            have hm : (i + 1) * e.sz ≤ e.len * e.sz := Nat.mul_le_mul_right _ hi
            rw [Nat.add_mul] at hm
            obtain ⟨k1, k2, k3, c', k4, k5, k6⟩ := setE_ok (base := 0) he' hi hIx hlen ⟨c, hc1, by simpa using hc2, hc3⟩ (by omega)
            refine fin rfl hf hE hh k1 fun M' hM' => ⟨_, c', setRow_heap w b cs.toArray _ t' (0, 0) hh, ?_, k4, by simpa using k5, fun q hq => upd_items h hM' hf hE hh (by simp; simp at hlen; omega) (k6 q hq)⟩
            rw [k2, k3]
            simp
            simp at hlen
            omega
        · cases he
      · cases he
    · rename_i t' l hf
      split at he
      · rename_i m e rest hd
        split at he
        · rename_i hb
          have e2 := Nat.eq_of_beq_eq_true hb
          subst e2
          split at he
          · rename_i e' he'
            split at he
            · rename_i l' hl'
              simp at he
              obtain ⟨rfl, rfl, rfl⟩ := he
              have hi := hφ.one
              cases hp with
              | pel _ _ _ _ _ b hE =>
                obtain ⟨hlt, cs, hh, hI⟩ := h.mem.at hf hE
                obtain ⟨g1, g2⟩ := hI.drop_ hd
                generalize hds : cs.drop base = ds at g2
                cases g2 with
                | one _ _ _ _ h1 => simp [SV.one] at h1
                | arr _ _ _ c1 cs' hr hl =>
                  generalize hv : Value.agg c1.toArray = v at hr
                  cases hr with
                  | arr _ _ cs2 c hn2 hl2 hle2 h1 hc hr =>
                    simp at hv
                    subst hv
                    have hm : (i + 1) * e.sz ≤ e.len * e.sz := Nat.mul_le_mul_right _ hi
                    rw [Nat.add_mul] at hm
                    obtain ⟨k1, k2, k3, c', k4, k5, k6⟩ := setE_ok (base := 0) (cs := c1) he' hi hIx hlen ⟨c, hn2, by simpa using hc, hr⟩ (by omega)
                    have hcl : cs.length = base + (c1.length + cs'.length) := by
                      have := congrArg List.length hds
                      simp at this
                      omega
                    have hrep : Rep E (trk C.T0 M E) w (.arr m e') (.agg (c1.take (0 + i * e.sz + j) ++ vx.cells.toList ++ c1.drop (0 + i * e.sz + j + n)).toArray) := by
                      refine .arr m e' _ c' k4 ?_ (by rw [k2, k3]; exact hle2) ?_ (by simpa using k5) k6
                      · simp
                        simp at hlen
                        omega
                      · intro z hz
                        rcases List.mem_append.1 hz with hz | hz
                        · rcases List.mem_append.1 hz with hz | hz
                          · exact h1 z (List.mem_of_mem_take hz)
                          · exact hIx.ones z hz
                        · exact h1 z (List.mem_of_mem_drop hz)
                    have hIp := hI.paste (.arr m e' [] _ [] hrep .nil) hl'
                    have hoff : base + i * e.sz + j + n ≤ cs.length := by omega
                    have hce : cs.take base ++ ((c1.take (0 + i * e.sz + j) ++ vx.cells.toList ++ c1.drop (0 + i * e.sz + j + n)) ++ []) ++ cs.drop (base + m) = cs.take (base + i * e.sz + j) ++ vx.cells.toList ++ cs.drop (base + i * e.sz + j + n) := by
                      have q1 : cs = cs.take base ++ (c1 ++ cs') := by rw [← hds, List.take_append_drop]
                      have q2 : (cs.take base).length = base := by simp; omega
                      generalize cs.take base = pre at q1 q2 ⊢
                      subst q1
                      have q4 : (pre ++ (c1 ++ cs')).drop (base + m) = cs' := by
                        rw [← q2, ← hl2, List.drop_length_add_append, List.drop_left]
                      rw [q4, List.append_nil, show base + i * e.sz + j = pre.length + (0 + i * e.sz + j) by omega]
                      exact paste_in (by omega)
                    rw [hce] at hIp
                    refine fin rfl hf hE hh hoff fun M' hM' => ⟨_, setRow_heap w b cs.toArray _ t' (0, 0) hh, ?_⟩
                    exact upd_items h hM' hf hE hh (by simp; simp at hlen; omega) hIp.2
            · cases he
          · cases he
        · cases he
      · cases he
    · cases he
  · cases he
end
end Go.Proofs.YtgpggoejkkhceaaDoor.V
