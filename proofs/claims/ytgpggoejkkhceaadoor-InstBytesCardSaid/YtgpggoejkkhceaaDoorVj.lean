/-
  A walk by abstract values: how the state goes on.
-/
import Derived.Test.YtgpggoejkkhceaaDoorVi
namespace Go.Proofs.YtgpggoejkkhceaaDoor.V
open Go.RowKit

section
variable {C : Ctx} {F F' : Tr} {M M' : Mem} {U U' : Nat → Prop} {nx : Nat} {E E' : Env} {a : Act} {w w' : World}

theorem getD_put (h : a.tmps.size = C.N) {d : Nat} (hd : d < C.N) (v : Value) (t : Nat) : (a.put (some d) v).tmps.getD t undef = if t = d then v else a.tmps.getD t undef := by
  simp only [Act.put, Array.getD_eq_getD_getElem?]
  by_cases htd : t = d
  · subst htd
    rw [if_pos rfl, Array.getElem?_setIfInBounds_self, if_pos (by omega)]
    rfl
  · rw [if_neg htd, Array.getElem?_setIfInBounds_ne (fun e => htd e.symm)]
/-- A slot is written. -/
theorem St.put (h : St C F M U E a w) {d : Nat} (hd : Nat.blt d C.N = true) {s : Option SV} {v : Value} (hF : F.put d s = some F') (hr : ∀ s', s = some s' → Rep E (trk C.T0 M E) w s' v) : St C F' M U E (a.put (some d) v) w := by
  have hd' : d < C.N := by simpa using hd
  refine ⟨h.defers, by simp [Act.put, h.size], fun t s' hs => ?_, h.mem, h.own, h.fresh, h.kp, h.hid, h.glob, h.pin⟩
  rw [getD_put h.size hd']
  rw [Tr.get_put F F' d s hF] at hs
  split at hs
  · rename_i ht
    rw [if_pos ht]
    exact hr s' hs
  · rename_i ht
    rw [if_neg ht]
    exact h.slots t s' hs

theorem Chg.weak {T T' : Nat → Prop} {w w' : World} (h : Chg T w w') (hT : ∀ b, T b → T' b) : Chg T' w w' := ⟨h.size, fun b hb hn => h.keep b hb fun ht => hn (hT b ht), h.shape⟩
/-- Memory goes on, the slots stay. -/
theorem St.go (h : St C F M U E a w) (hE : ∀ i x, E i = some x → E' i = some x) (hT : ∀ b, b < w.heap.size → trk C.T0 M' E' b → trk C.T0 M E b) (hw : Chg (mine M E) w w') (hos : w'.os = w.os) (ht : w'.tape = w.tape) (ho : w'.output = w.output)
    (hm : MOk E' (trk C.T0 M' E') M' w') (hown : ∀ id b, (find M' id).isSome = true → E' id = some (some b) → C.W0.heap.size ≤ b ∨ C.S b) (hf : ∀ k, U' k → E' k = none) : St C F M' U' E' a w' := by
  have hw2 := hw.weak (T' := trk C.T0 M E) fun _ => .inl
  refine ⟨h.defers, h.size, fun t s hs => (h.slots t s hs).mono hE hT hw2, hm, hown, hf, ⟨hos.trans h.kp.os, ht.trans h.kp.tape, ho.trans h.kp.output, ?_⟩, h.hid, h.glob.mono hT hw2, fun i b h1 h2 => hE i b (h.pin i b h1 h2)⟩
  refine ⟨Nat.le_trans h.kp.chg.size hw.size, fun b hb hS => ?_, fun b hb => ?_⟩
  · have hlt := Nat.lt_of_lt_of_le hb h.kp.chg.size
    refine (hw.keep b hlt fun hTb => ?_).trans (h.kp.chg.keep b hb hS)
    obtain ⟨id, B, hfi, hEi⟩ := hTb
    rcases h.own id b (by rw [hfi]; rfl) hEi with h1 | h1
    · omega
    · exact hS h1
  · have hlt := Nat.lt_of_lt_of_le hb h.kp.chg.size
    exact (hw.shape b hlt).trans (h.kp.chg.shape b hb)

theorem BOk.mono {T T' : Nat → Prop} {b : Nat} {B : Blk} (hE : ∀ i x, E i = some x → E' i = some x) (hT : ∀ b, b < w.heap.size → T' b → T b) (hw : Chg T w w') (hb : w'.heap[b]? = w.heap[b]?) (h : BOk E T w b B) : BOk E' T' w' b B := by
  cases B with
  | cells t l =>
    obtain ⟨cs, h1, h2⟩ := h
    exact ⟨cs, hb.trans h1, h2.mono hE hT hw⟩
  | row t e =>
    obtain ⟨cs, c, h1, h2, h3, h4, h5⟩ := h
    exact ⟨cs, c, hb.trans h1, h2, h3, h4, fun i hi => (h5 i hi).mono hE hT hw⟩
  | obj o => exact hb.trans h

theorem alloc_size (w : World) (o : Obj) : (w.alloc o).heap.size = w.heap.size + 1 := by unfold World.alloc; exact Array.size_push ..
theorem Chg.alloc (T : Nat → Prop) (w : World) (o : Obj) : Chg T w (w.alloc o) :=
  ⟨by rw [alloc_size]; omega, fun b hb _ => Below.heap_alloc w o b hb, fun b hb => by simp [World.shape?, Below.heap_alloc w o b hb]⟩
theorem Chg.drew (T : Nat → Prop) (w : World) : Chg T w w.drew := ⟨Nat.le_refl _, fun _ _ _ => rfl, fun _ _ => rfl⟩

def envWith (E : Env) (k : Nat) (x : Option Nat) : Env := fun i => if i = k then some x else E i
theorem envWith_old {k : Nat} {x : Option Nat} (hk : E k = none) : ∀ i y, E i = some y → envWith E k x i = some y := fun i y hi => by
  unfold envWith
  split
  · rename_i h; subst h; rw [hk] at hi; cases hi
  · exact hi

/-- A new block. -/
theorem St.new (h : St C F M U E a w) (hU : U nx) {o : Obj} {B : Blk} (hB : BOk (envWith E nx (some w.heap.size)) (trk C.T0 ((nx, B) :: M) (envWith E nx (some w.heap.size))) (w.alloc o) w.heap.size B) :
    St C F ((nx, B) :: M) (rest U nx) (envWith E nx (some w.heap.size)) a (w.alloc o) := by
  have hnx := h.fresh nx hU
  have hold := envWith_old (x := some w.heap.size) hnx
  have hidlt : ∀ id b, E id = some b → id ≠ nx := fun id b hb e => by subst e; rw [hnx] at hb; cases hb
  have hT : ∀ b, b < w.heap.size → trk C.T0 ((nx, B) :: M) (envWith E nx (some w.heap.size)) b → trk C.T0 M E b := by
    rintro b hb (⟨id, B', hf, hE⟩ | h0)
    · unfold envWith at hE
      split at hE
      · rename_i he
        simp at hE
        omega
      · rename_i he
        rw [find_cons, if_neg he] at hf
        exact .inl ⟨id, B', hf, hE⟩
    · exact .inr h0
  refine h.go hold hT (Chg.alloc _ w o) rfl rfl rfl ⟨fun id B' hf => ?_, fun id id' b h1 h2 h3 h4 => ?_⟩ (fun id b hf hE => ?_) (fun k hk => ?_)
  · rw [find_cons] at hf
    split at hf
    · rename_i he
      subst he
      simp at hf
      subst hf
      left
      exact ⟨w.heap.size, by simp [envWith], by rw [alloc_size]; omega, hB⟩
    · rename_i he
      rcases h.mem.blk id B' hf with ⟨b, h1, h2, h3⟩ | ⟨h1, h2⟩
      · left
        refine ⟨b, hold _ _ h1, by rw [alloc_size]; omega, h3.mono hold hT (Chg.alloc _ w o) (Below.heap_alloc w o b h2)⟩
      · right
        exact ⟨hold _ _ h1, h2⟩
  · unfold envWith at h3 h4
    rw [find_cons] at h1 h2
    have key : ∀ i, i ≠ nx → (find M i).isSome = true → E i = some (some b) → b < w.heap.size := fun i _ hi hE => by
      obtain ⟨B', hB'⟩ := Option.isSome_iff_exists.1 hi
      exact (h.mem.at hB' hE).1
    by_cases e1 : id = nx
    · by_cases e2 : id' = nx
      · omega
      · rw [if_pos e1] at h3
        rw [if_neg e2] at h2 h4
        have := key id' e2 h2 h4
        simp at h3
        omega
    · by_cases e2 : id' = nx
      · rw [if_pos e2] at h4
        rw [if_neg e1] at h1 h3
        have := key id e1 h1 h3
        simp at h4
        omega
      · rw [if_neg e1] at h1 h3
        rw [if_neg e2] at h2 h4
        exact h.mem.inj id id' b h1 h2 h3 h4
  · unfold envWith at hE
    split at hE
    · simp at hE
      subst hE
      left
      exact h.kp.chg.size
    · rename_i he
      rw [find_cons, if_neg he] at hf
      exact h.own id b hf hE
  · unfold envWith
    rw [if_neg hk.2]
    exact h.fresh k hk.1

theorem Chg.setRow {T : Nat → Prop} {b : Nat} {cs cs' : List Value} {t : TypeId} (hb : w.heap[b]? = some (.cells cs.toArray t (0, 0))) (hT : T b) (hl : cs'.length = cs.length) : Chg T w (w.setRow b cs'.toArray) := by
  refine ⟨by simp, fun k hk hTk => setRow_other w b k _ (fun e => hTk (e ▸ hT)), fun k hk => ?_⟩
  by_cases hkb : k = b
  · subst hkb
    simp [World.shape?, setRow_heap w k cs.toArray cs'.toArray t (0, 0) hb, hb, hl]
  · simp [World.shape?, setRow_other w b k _ hkb]

/-- A block is written. -/
theorem St.upd_ (h : St C F M U E a w) {id b : Nat} {B B' : Blk} {cs cs' : List Value} {t : TypeId} (hM : upd M id B' = some M') (hf : find M id = some B) (hE : E id = some (some b)) (hb : w.heap[b]? = some (.cells cs.toArray t (0, 0)))
    (hl : cs'.length = cs.length) (hB : BOk E (trk C.T0 M' E) (w.setRow b cs'.toArray) b B') : St C F M' U E a (w.setRow b cs'.toArray) := by
  have hfind := find_upd hM
  have hsome : ∀ k, (find M' k).isSome = true → (find M k).isSome = true := fun k hk => by
    rw [hfind] at hk
    split at hk
    · rename_i e; subst e; rw [hf]; rfl
    · exact hk
  have hT : ∀ x, x < w.heap.size → trk C.T0 M' E x → trk C.T0 M E x := by
    rintro x _ (⟨k, B1, h1, h2⟩ | h0)
    · have := hsome k (by rw [h1]; rfl)
      obtain ⟨B2, hB2⟩ := Option.isSome_iff_exists.1 this
      exact .inl ⟨k, B2, hB2, h2⟩
    · exact .inr h0
  have hTb : mine M E b := ⟨id, B, hf, hE⟩
  have hw := Chg.setRow hb hTb hl
  have hos : (w.setRow b cs'.toArray).os = w.os := rfl
  refine h.go (fun _ _ h => h) hT hw rfl rfl rfl ⟨fun k B1 h1 => ?_, fun k k' x h1 h2 h3 h4 => h.mem.inj k k' x (hsome k h1) (hsome k' h2) h3 h4⟩ (fun k x h1 h2 => h.own k x (hsome k h1) h2) h.fresh
  rw [hfind] at h1
  split at h1
  · rename_i e
    subst e
    simp at h1
    subst h1
    left
    exact ⟨b, hE, by simpa using (h.mem.at hf hE).1, hB⟩
  · rename_i e
    rcases h.mem.blk k B1 h1 with ⟨x, h2, h3, h4⟩ | h2
    · left
      have hxb : x ≠ b := fun e' => by
        subst e'
        exact e (h.mem.inj k id x (by rw [h1]; rfl) (by rw [hf]; rfl) h2 hE)
      exact ⟨x, h2, by simpa using h3, h4.mono (fun _ _ h => h) hT (hw.weak fun _ => .inl) (setRow_other w b x _ hxb)⟩
    · right; exact h2

/-- A block is given up. -/
theorem St.forget (h : St C F M U E a w) (id : Nat) : St C F (del M id) U E a w := by
  have hsome : ∀ k B, find (del M id) k = some B → find M k = some B ∧ k ≠ id := fun k B hk => by
    rw [find_del] at hk
    split at hk
    · cases hk
    · rename_i e; exact ⟨hk, e⟩
  have hT : ∀ x, x < w.heap.size → trk C.T0 (del M id) E x → trk C.T0 M E x := by
    rintro x _ (⟨k, B1, h1, h2⟩ | h0)
    · exact .inl ⟨k, B1, (hsome k B1 h1).1, h2⟩
    · exact .inr h0
  have hs2 : ∀ k, (find (del M id) k).isSome = true → (find M k).isSome = true := fun k hk => by
    obtain ⟨B, hB⟩ := Option.isSome_iff_exists.1 hk
    rw [(hsome k B hB).1]; rfl
  refine h.go (fun _ _ h => h) hT (Chg.refl _ w) rfl rfl rfl ⟨fun k B1 h1 => ?_, fun k k' x h1 h2 h3 h4 => h.mem.inj k k' x (hs2 k h1) (hs2 k' h2) h3 h4⟩ (fun k x h1 h2 => h.own k x (hs2 k h1) h2) h.fresh
  obtain ⟨h2, _⟩ := hsome k B1 h1
  rcases h.mem.blk k B1 h2 with ⟨x, h3, h4, h5⟩ | h3
  · left
    exact ⟨x, h3, h4, h5.mono (fun _ _ h => h) hT (Chg.refl _ w) rfl⟩
  · right; exact h3
/-- The draws do not matter. -/
theorem St.drew (h : St C F M U E a w) : St C F M U E a w.drew := by
  refine h.go (fun _ _ h => h) (fun _ _ h => h) (Chg.drew _ w) rfl rfl rfl ⟨fun k B1 h1 => ?_, h.mem.inj⟩ h.own h.fresh
  rcases h.mem.blk k B1 h1 with ⟨x, h3, h4, h5⟩ | h3
  · left
    exact ⟨x, h3, h4, h5.mono (fun _ _ h => h) (fun _ _ h => h) (Chg.drew _ w) rfl⟩
  · right; exact h3
def delO (M : Mem) : Option Nat → Mem
  | some id => del M id
  | none => M
theorem find_delO {M : Mem} {o : Option Nat} {k : Nat} {B : Blk} (h : find (delO M o) k = some B) : find M k = some B ∧ some k ≠ o := by
  cases o with
  | none => exact ⟨h, by simp⟩
  | some id =>
    simp only [delO, find_del] at h
    split at h
    · cases h
    · rename_i e; exact ⟨h, by simpa using e⟩
/-- A block is given up, another (or the same, or none) is there under a new number. -/
theorem St.mov (h : St C F M U E a w) (hU : U nx) {o b : Option Nat} {B : Blk} (hw : Chg (mine M E) w w') (hos : w'.os = w.os) (ht : w'.tape = w.tape) (ho : w'.output = w.output)
    (hx : ∀ x, b = some x → x < w'.heap.size ∧ (w.heap.size ≤ x ∨ ∃ id B0, o = some id ∧ find M id = some B0 ∧ E id = some (some x)))
    (hk : ∀ k B1 y, find (delO M o) k = some B1 → E k = some (some y) → w'.heap[y]? = w.heap[y]?)
    (hB : ∀ x, b = some x → BOk (envWith E nx b) (trk C.T0 ((nx, B) :: delO M o) (envWith E nx b)) w' x B) (hn : b = none → ∃ t e, B = .row t e ∧ e.len = 0) :
    St C F ((nx, B) :: delO M o) (rest U nx) (envWith E nx b) a w' := by
  have hnx := h.fresh nx hU
  have hold := envWith_old (x := b) hnx
  have hT : ∀ x, x < w.heap.size → trk C.T0 ((nx, B) :: delO M o) (envWith E nx b) x → trk C.T0 M E x := by
    rintro x hxs (⟨id, B', hf, hE⟩ | h0)
    · unfold envWith at hE
      split at hE
      · simp at hE
        rcases (hx x hE).2 with h1 | ⟨id', B0, _, h2, h3⟩
        · omega
        · exact .inl ⟨id', B0, h2, h3⟩
      · rename_i he
        rw [find_cons, if_neg he] at hf
        exact .inl ⟨id, B', (find_delO hf).1, hE⟩
    · exact .inr h0
  refine h.go hold hT hw hos ht ho ⟨fun id B' hf => ?_, fun id id' x h1 h2 h3 h4 => ?_⟩ (fun id x hf hE => ?_) (fun k hk => ?_)
  · rw [find_cons] at hf
    split at hf
    · rename_i he
      subst he
      simp at hf
      subst hf
      cases b with
      | none => right; exact ⟨by simp [envWith], hn rfl⟩
      | some x => left; exact ⟨x, by simp [envWith], (hx x rfl).1, hB x rfl⟩
    · rename_i he
      rcases h.mem.blk id B' (find_delO hf).1 with ⟨x, h1, h2, h3⟩ | ⟨h1, h2⟩
      · left; exact ⟨x, hold _ _ h1, Nat.lt_of_lt_of_le h2 hw.size, h3.mono hold hT (hw.weak fun _ => .inl) (hk id B' x hf h1)⟩
      · right; exact ⟨hold _ _ h1, h2⟩
  · unfold envWith at h3 h4
    rw [find_cons] at h1 h2
    have key : ∀ i, (find (delO M o) i).isSome = true → E i = some (some x) → b = some x → False := fun i hi hE hb => by
      obtain ⟨B', hB'⟩ := Option.isSome_iff_exists.1 hi
      obtain ⟨hf, hne⟩ := find_delO hB'
      rcases (hx x hb).2 with h5 | ⟨id2, B0, ho2, h6, h7⟩
      · have := (h.mem.at hf hE).1
        omega
      · have := h.mem.inj i id2 x (by rw [hf]; rfl) (by rw [h6]; rfl) hE h7
        subst this
        exact hne ho2.symm
    by_cases e1 : id = nx
    · by_cases e2 : id' = nx
      · omega
      · rw [if_pos e1] at h3
        rw [if_neg e2] at h2 h4
        simp at h3
        exact (key id' h2 h4 h3).elim
    · by_cases e2 : id' = nx
      · rw [if_pos e2] at h4
        rw [if_neg e1] at h1 h3
        simp at h4
        exact (key id h1 h3 h4).elim
      · rw [if_neg e1] at h1 h3
        rw [if_neg e2] at h2 h4
        obtain ⟨B1, hB1⟩ := Option.isSome_iff_exists.1 h1
        obtain ⟨B2, hB2⟩ := Option.isSome_iff_exists.1 h2
        exact h.mem.inj id id' x (by rw [(find_delO hB1).1]; rfl) (by rw [(find_delO hB2).1]; rfl) h3 h4
  · unfold envWith at hE
    split at hE
    · simp at hE
      rcases (hx x hE).2 with h5 | ⟨id2, B0, ho2, h6, h7⟩
      · left; exact Nat.le_trans h.kp.chg.size h5
      · exact h.own id2 x (by rw [h6]; rfl) h7
    · rename_i he
      rw [find_cons, if_neg he] at hf
      obtain ⟨B1, hB1⟩ := Option.isSome_iff_exists.1 hf
      exact h.own id x (by rw [(find_delO hB1).1]; rfl) hE
  · unfold envWith
    rw [if_neg hk.2]
    exact h.fresh k hk.1
end
end Go.Proofs.YtgpggoejkkhceaaDoor.V
