/-
  A walk by abstract values: what a slot, a block, a slice reads as, in terms of lists and numbers; how that lasts when the world goes on.
-/
import Derived.Test.YtgpggoejkkhceaaDoorBase
import Derived.Orders
import Derived.Deep.Quiet
import Derived.Laws.Cells
import Derived.Laws.CopyRow
import Derived.Laws.CopyOwn
import Derived.Laws.AppendOwn
namespace Go.Proofs.YtgpggoejkkhceaaDoor.V
open Go.RowKit

/-! ### Abstract values -/
mutual
/-- What a value reads as. -/
inductive SV where
  | bool (b : Bool)
  | int (k : IntKind) (n : Int)
  | str (l : List UInt8)
  | nilp
  | ptr (id off : Nat)
  | pel (id base sz i j : Nat)
  | rop (e : EV) (i j : Nat)
  | nils
  | row (id base sz sub len : Nat)
  | ro (e : EV)
  | agg (l : List SV)
  | arr (n : Nat) (e : EV)
  | tup (l : List SV)
  | fn (f : FuncId) (cap : List SV)
  | mv (f : FuncId) (first : List SV)
  | ifc (t : TypeId) (v : SV)
  | nili
  | nilf
  | may (g : Prop) (v : SV)
  | val (x : Value)
/-- What a run of elements reads as. -/
inductive EV where
  | u8 (l : List UInt8)
  | ints (k : IntKind) (l : List Int)
  | g (n sz : Nat) (f : Nat → List SV)
end

def EV.len : EV → Nat
  | .u8 l => l.length
  | .ints _ l => l.length
  | .g n _ _ => n
def EV.sz : EV → Nat
  | .u8 _ => 1
  | .ints _ _ => 1
  | .g _ sz _ => sz
/-- The parts of an element. -/
def EV.items : EV → Nat → List SV
  | .u8 l, i => [.int .u8 ((l.getD i 0).toNat : Int)]
  | .ints k l, i => [.int k (l.getD i 0)]
  | .g _ _ f, i => f i

/-- Does it take one cell? -/
def SV.one : SV → Bool
  | .agg _ | .arr _ _ | .tup _ | .may _ _ | .val _ => false
  | _ => true

/-- The numbers that a kind holds. -/
def inR (k : IntKind) (n : Int) : Prop := k.min ≤ n ∧ n ≤ k.max
/-- A length that is an int. -/
def okLen (n : Nat) : Prop := n ≤ 9223372036854775807

/-- Which block a number stands for; 'some none': that of a slice that is nil. -/
abbrev Env := Nat → Option (Option Nat)

mutual
inductive Rep (E : Env) (T : Nat → Prop) (w : World) : SV → Value → Prop
  | bool (b : Bool) : Rep E T w (.bool b) (.bool b)
  | int (k : IntKind) (n : Int) (h : inR k n) : Rep E T w (.int k n) (.int k n)
  | str (l : List UInt8) (h : okLen l.length) : Rep E T w (.str l) (.string ⟨l.toArray⟩)
  | nilp : Rep E T w .nilp (.pointer none)
  | ptr (id off b : Nat) (h : E id = some (some b)) : Rep E T w (.ptr id off) (.pointer (some ⟨b, off, none⟩))
  | pel (id base sz i j b : Nat) (h : E id = some (some b)) : Rep E T w (.pel id base sz i j) (.pointer (some ⟨b, base + i * sz + j, none⟩))
  | rop (e : EV) (i j b o : Nat) (c : Nat → List Value) (hT : ¬ T b) (hn : ∀ i, i < e.len → (c i).length = e.sz)
      (hc : ∀ i j v, i < e.len → (c i)[j]? = some v → w.cell? ⟨b, o + i * e.sz + j, none⟩ = some v)
      (hr : ∀ i, i < e.len → Items E T w (e.items i) (c i)) (hi : i < e.len) (hj : j < e.sz) (hb : b < w.heap.size) :
      Rep E T w (.rop e i j) (.pointer (some ⟨b, o + i * e.sz + j, none⟩))
  | nils : Rep E T w .nils (.slice none 0 0)
  | row (id base sz sub len b o c n : Nat) (t : TypeId) (h : E id = some (some b)) (hs : w.shape? b = some (t, n))
      (ho : c ≠ 0 → o = base + sub * sz ∧ base + (sub + c) * sz ≤ n) (hl : len ≤ c) (ok : okLen c) : Rep E T w (.row id base sz sub len) (.slice (some ⟨b, o, none⟩) len c)
  | row0 (id base sz sub len : Nat) (h : E id = some none) (hl : len = 0) : Rep E T w (.row id base sz sub len) (.slice none 0 0)
  | ro0 (e : EV) (h : e.len = 0) : Rep E T w (.ro e) (.slice none 0 0)
  | ro1 (e : EV) (a : Addr) (h : e.len = 0) : Rep E T w (.ro e) (.slice (some a) 0 0)
  | ro (e : EV) (b o n k : Nat) (c : Nat → List Value) (hT : ¬ T b) (hn : ∀ i, i < e.len → (c i).length = e.sz)
      (hc : ∀ i j v, i < e.len → (c i)[j]? = some v → w.cell? ⟨b, o + i * e.sz + j, none⟩ = some v)
      (hr : ∀ i, i < e.len → Items E T w (e.items i) (c i)) (he : n = e.len) (hl : n ≤ k) (ok : okLen k) (hb : b < w.heap.size) :
      Rep E T w (.ro e) (.slice (some ⟨b, o, none⟩) n k)
  | agg (l : List SV) (cs : List Value) (h : Items E T w l cs) : Rep E T w (.agg l) (.agg cs.toArray)
  | arr (n : Nat) (e : EV) (cs : List Value) (c : Nat → List Value) (hn : ∀ i, i < e.len → (c i).length = e.sz) (hl : cs.length = n) (he : e.len * e.sz = n) (h1 : ∀ v ∈ cs, v.oneCell' = true)
      (hc : ∀ i j v, i < e.len → (c i)[j]? = some v → cs[i * e.sz + j]? = some v)
      (hr : ∀ i, i < e.len → Items E T w (e.items i) (c i)) : Rep E T w (.arr n e) (.agg cs.toArray)
  | tup (l : List SV) (vs : List Value) (h : Tup E T w l vs) : Rep E T w (.tup l) (.tuple vs.toArray)
  | fn (f : FuncId) (l : List SV) (vs : List Value) (h : Tup E T w l vs) : Rep E T w (.fn f l) (.func (.func f) #[] vs.toArray)
  | mv (f : FuncId) (l : List SV) (vs : List Value) (h : Tup E T w l vs) : Rep E T w (.mv f l) (.func (.func f) vs.toArray #[])
  | ifc (t : TypeId) (s : SV) (v : Value) (h : Rep E T w s v) : Rep E T w (.ifc t s) (.iface t v)
  | nili : Rep E T w .nili .nilIface
  | nilf : Rep E T w .nilf .nilFunc
  | may1 (g : Prop) (s : SV) (v : Value) (h : g) (hr : Rep E T w s v) : Rep E T w (.may g s) v
  | may0 (g : Prop) (s : SV) (h : ¬ g) : Rep E T w (.may g s) undef
  | val (x : Value) : Rep E T w (.val x) x
/-- The cells of parts laid end to end. -/
inductive Items (E : Env) (T : Nat → Prop) (w : World) : List SV → List Value → Prop
  | nil : Items E T w [] []
  | one (s : SV) (c : Value) (l : List SV) (cs : List Value) (h : s.one = true) (hr : Rep E T w s c) (hl : Items E T w l cs) : Items E T w (s :: l) (c :: cs)
  | arr (n : Nat) (e : EV) (l : List SV) (c1 cs : List Value) (hr : Rep E T w (.arr n e) (.agg c1.toArray)) (hl : Items E T w l cs) : Items E T w (.arr n e :: l) (c1 ++ cs)
inductive Tup (E : Env) (T : Nat → Prop) (w : World) : List SV → List Value → Prop
  | nil : Tup E T w [] []
  | cons (s : SV) (v : Value) (l : List SV) (vs : List Value) (hr : Rep E T w s v) (hl : Tup E T w l vs) : Tup E T w (s :: l) (v :: vs)
end

/-- How a world may go on: blocks outside T stand as they stood, none is made another size. -/
structure Chg (T : Nat → Prop) (w w' : World) : Prop where
  size : w.heap.size ≤ w'.heap.size
  keep : ∀ b, b < w.heap.size → ¬ T b → w'.heap[b]? = w.heap[b]?
  shape : ∀ b, b < w.heap.size → w'.shape? b = w.shape? b

theorem shape_lt {w : World} {b : Nat} {x : TypeId × Nat} (h : w.shape? b = some x) : b < w.heap.size := by
  rcases Nat.lt_or_ge b w.heap.size with hlt | hge
  · exact hlt
  · simp [World.shape?, Array.getElem?_eq_none hge] at h
theorem cell_keep {T : Nat → Prop} {w w' : World} (hw : Chg T w w') {a : Addr} {v : Value} (hT : ¬ T a.block) (h : w.cell? a = some v) : w'.cell? a = some v :=
  (World.cell?_of_block (hw.keep a.block (block_lt_of_cell h) hT)).trans h

theorem Chg.refl (T : Nat → Prop) (w : World) : Chg T w w := ⟨Nat.le_refl _, fun _ _ _ => rfl, fun _ _ => rfl⟩
theorem Chg.trans {T : Nat → Prop} {a b c : World} (h : Chg T a b) (k : Chg T b c) : Chg T a c :=
  ⟨Nat.le_trans h.size k.size, fun x hx hT => (k.keep x (Nat.lt_of_lt_of_le hx h.size) hT).trans (h.keep x hx hT), fun x hx => (k.shape x (Nat.lt_of_lt_of_le hx h.size)).trans (h.shape x hx)⟩
theorem Chg.of_below {T : Nat → Prop} {w w' : World} (h : Below w.heap.size w w') : Chg T w w' :=
  ⟨h.size, fun b hb _ => h.block b hb, fun b hb => by simp [World.shape?, h.block b hb]⟩

section
variable {E E' : Env} {T T' : Nat → Prop} {w w' : World}
mutual
theorem Rep.mono (hE : ∀ i b, E i = some b → E' i = some b) (hT : ∀ b, b < w.heap.size → T' b → T b) (hw : Chg T w w') : ∀ {s : SV} {v : Value}, Rep E T w s v → Rep E' T' w' s v
  | _, _, .bool b => .bool b
  | _, _, .int k n h => .int k n h
  | _, _, .str l h => .str l h
  | _, _, .nilp => .nilp
  | _, _, .ptr id off b h => .ptr id off b (hE _ _ h)
  | _, _, .pel id base sz i j b h => .pel id base sz i j b (hE _ _ h)
  | _, _, .rop e i j b o c hT' hn hc hr hi hj hb =>
    .rop e i j b o c (fun h => hT' (hT b hb h)) hn (fun i j v hi hj => cell_keep hw hT' (hc i j v hi hj)) (fun i hi => Items.mono hE hT hw (hr i hi)) hi hj (Nat.lt_of_lt_of_le hb hw.size)
  | _, _, .nils => .nils
  | _, _, .row id base sz sub len b o c n t h hs ho hl ok => .row id base sz sub len b o c n t (hE _ _ h) ((hw.shape b (shape_lt hs)).trans hs) ho hl ok
  | _, _, .row0 id base sz sub len h hl => .row0 id base sz sub len (hE _ _ h) hl
  | _, _, .ro0 e h => .ro0 e h
  | _, _, .ro1 e a h => .ro1 e a h
  | _, _, .ro e b o n k c hT' hn hc hr he hl ok hb =>
    .ro e b o n k c (fun h => hT' (hT b hb h)) hn (fun i j v hi hj => cell_keep hw hT' (hc i j v hi hj)) (fun i hi => Items.mono hE hT hw (hr i hi)) he hl ok (Nat.lt_of_lt_of_le hb hw.size)
  | _, _, .agg l cs h => .agg l cs (Items.mono hE hT hw h)
  | _, _, .arr n e cs c hn hl he h1 hc hr => .arr n e cs c hn hl he h1 hc (fun i hi => Items.mono hE hT hw (hr i hi))
  | _, _, .tup l vs h => .tup l vs (Tup.mono hE hT hw h)
  | _, _, .fn f l vs h => .fn f l vs (Tup.mono hE hT hw h)
  | _, _, .mv f l vs h => .mv f l vs (Tup.mono hE hT hw h)
  | _, _, .ifc t s v h => .ifc t s v (Rep.mono hE hT hw h)
  | _, _, .nili => .nili
  | _, _, .nilf => .nilf
  | _, _, .may1 g s v h hr => .may1 g s v h (Rep.mono hE hT hw hr)
  | _, _, .may0 g s h => .may0 g s h
  | _, _, .val x => .val x
theorem Items.mono (hE : ∀ i b, E i = some b → E' i = some b) (hT : ∀ b, b < w.heap.size → T' b → T b) (hw : Chg T w w') : ∀ {l : List SV} {cs : List Value}, Items E T w l cs → Items E' T' w' l cs
  | _, _, .nil => .nil
  | _, _, .one s c l cs h hr hl => .one s c l cs h (Rep.mono hE hT hw hr) (Items.mono hE hT hw hl)
  | _, _, .arr n e l c1 cs hr hl => .arr n e l c1 cs (Rep.mono hE hT hw hr) (Items.mono hE hT hw hl)
theorem Tup.mono (hE : ∀ i b, E i = some b → E' i = some b) (hT : ∀ b, b < w.heap.size → T' b → T b) (hw : Chg T w w') : ∀ {l : List SV} {vs : List Value}, Tup E T w l vs → Tup E' T' w' l vs
  | _, _, .nil => .nil
  | _, _, .cons s v l vs hr hl => .cons s v l vs (Rep.mono hE hT hw hr) (Tup.mono hE hT hw hl)
end
end

theorem Rep.up {E : Env} {T : Nat → Prop} {w : World} {s : SV} {v : Value} (h : Rep (fun _ => none) T w s v) : Rep E T w s v := h.mono (fun i b hi => by cases hi) (fun _ _ h => h) (Chg.refl _ w)
theorem Rep.oneCell {E : Env} {T : Nat → Prop} {w : World} {s : SV} {v : Value} (h : Rep E T w s v) (h1 : s.one = true) : v.oneCell' = true := by
  cases h <;> first | rfl | (simp [SV.one] at h1)
theorem Rep.arr_len {E : Env} {T : Nat → Prop} {w : World} {n : Nat} {e : EV} {cs : List Value} (h : Rep E T w (.arr n e) (.agg cs.toArray)) : cs.length = n := by
  generalize hv : Value.agg cs.toArray = v at h
  cases h with
  | arr n e cs' c hn hl he h1 hc hr =>
    simp at hv
    subst hv
    exact hl

theorem Rep.arr_ones {E : Env} {T : Nat → Prop} {w : World} {n : Nat} {e : EV} {cs : List Value} (h : Rep E T w (.arr n e) (.agg cs.toArray)) : ∀ v ∈ cs, v.oneCell' = true := by
  generalize hv : Value.agg cs.toArray = v at h
  cases h with
  | arr n e cs' c hn hl he h1 hc hr =>
    simp at hv
    subst hv
    exact h1

theorem Items.ones {E : Env} {T : Nat → Prop} {w : World} : ∀ {l : List SV} {cs : List Value}, Items E T w l cs → ∀ v ∈ cs, v.oneCell' = true
  | _, _, .nil, v, hv => by cases hv
  | _, _, .one s c l cs h hr hl, v, hv => by
    rcases List.mem_cons.1 hv with rfl | hv
    · exact hr.oneCell h
    · exact Items.ones hl v hv
  | _, _, .arr n e l c1 cs hr hl, v, hv => by
    rcases List.mem_append.1 hv with hv | hv
    · exact hr.arr_ones v hv
    · exact Items.ones hl v hv
/-! ### What speaks of no block of one's own -/
def E0 : Env := fun _ => none
mutual
def pureS : SV → Prop
  | .ptr _ _ => False
  | .pel _ _ _ _ _ => False
  | .row _ _ _ _ _ => False
  | .rop e _ _ => pureE e
  | .ro e => pureE e
  | .agg l => pureL l
  | .arr _ e => pureE e
  | .tup l => pureL l
  | .fn _ l => pureL l
  | .mv _ l => pureL l
  | .ifc _ v => pureS v
  | .may _ v => pureS v
  | _ => True
def pureE : EV → Prop
  | .g n _ f => ∀ i, i < n → pureL (f i)
  | _ => True
def pureL : List SV → Prop
  | [] => True
  | s :: r => pureS s ∧ pureL r
end
theorem pureE.items {e : EV} (h : pureE e) {i : Nat} (hi : i < e.len) : pureL (e.items i) := by
  cases e with
  | u8 l => simp [EV.items, pureL, pureS]
  | ints k l => simp [EV.items, pureL, pureS]
  | g n sz f => simp only [pureE] at h; exact h i hi
section
variable {E E' : Env} {T : Nat → Prop} {w : World}
mutual
theorem Rep.free_ : ∀ {s : SV} {v : Value}, Rep E T w s v → pureS s → Rep E' T w s v
  | _, _, .bool b, _ => .bool b
  | _, _, .int k n h, _ => .int k n h
  | _, _, .str l h, _ => .str l h
  | _, _, .nilp, _ => .nilp
  | _, _, .ptr id off b h, hp => by simp [pureS] at hp
  | _, _, .pel id base sz i j b h, hp => by simp [pureS] at hp
  | _, _, .rop e i j b o c hT' hn hc hr hi hj hb, hp => by
    simp only [pureS] at hp
    exact .rop e i j b o c hT' hn hc (fun i hi => Items.free_ (hr i hi) (hp.items hi)) hi hj hb
  | _, _, .nils, _ => .nils
  | _, _, .row id base sz sub len b o c n t h hs ho hl ok, hp => by simp [pureS] at hp
  | _, _, .row0 id base sz sub len h hl, hp => by simp [pureS] at hp
  | _, _, .ro0 e h, _ => .ro0 e h
  | _, _, .ro1 e a h, _ => .ro1 e a h
  | _, _, .ro e b o n k c hT' hn hc hr he hl ok hb, hp => by
    simp only [pureS] at hp
    exact .ro e b o n k c hT' hn hc (fun i hi => Items.free_ (hr i hi) (hp.items hi)) he hl ok hb
  | _, _, .agg l cs h, hp => .agg l cs (Items.free_ h (by simpa only [pureS] using hp))
  | _, _, .arr n e cs c hn hl he h1 hc hr, hp => by
    simp only [pureS] at hp
    exact .arr n e cs c hn hl he h1 hc (fun i hi => Items.free_ (hr i hi) (hp.items hi))
  | _, _, .tup l vs h, hp => .tup l vs (Tup.free_ h (by simpa only [pureS] using hp))
  | _, _, .fn f l vs h, hp => .fn f l vs (Tup.free_ h (by simpa only [pureS] using hp))
  | _, _, .mv f l vs h, hp => .mv f l vs (Tup.free_ h (by simpa only [pureS] using hp))
  | _, _, .ifc t s v h, hp => .ifc t s v (Rep.free_ h (by simpa only [pureS] using hp))
  | _, _, .nili, _ => .nili
  | _, _, .nilf, _ => .nilf
  | _, _, .may1 g s v h hr, hp => .may1 g s v h (Rep.free_ hr (by simpa only [pureS] using hp))
  | _, _, .may0 g s h, _ => .may0 g s h
  | _, _, .val x, _ => .val x
theorem Items.free_ : ∀ {l : List SV} {cs : List Value}, Items E T w l cs → pureL l → Items E' T w l cs
  | _, _, .nil, _ => .nil
  | _, _, .one s c l cs h hr hl, hp => by
    simp only [pureL] at hp
    exact .one s c l cs h (Rep.free_ hr hp.1) (Items.free_ hl hp.2)
  | _, _, .arr n e l c1 cs hr hl, hp => by
    simp only [pureL] at hp
    exact .arr n e l c1 cs (Rep.free_ hr hp.1) (Items.free_ hl hp.2)
theorem Tup.free_ : ∀ {l : List SV} {vs : List Value}, Tup E T w l vs → pureL l → Tup E' T w l vs
  | _, _, .nil, _ => .nil
  | _, _, .cons s v l vs hr hl, hp => by
    simp only [pureL] at hp
    exact .cons s v l vs (Rep.free_ hr hp.1) (Tup.free_ hl hp.2)
end
end

/-! ### Parts of a list of parts -/
/-- The first n cells' parts. -/
def takeI : List SV → Nat → Option (List SV)
  | _, 0 => some []
  | [], _ + 1 => none
  | s :: r, n + 1 => match s with
    | .arr m _ => match Nat.ble m (n + 1) with
      | true => match takeI r (n + 1 - m) with
        | some l => some (s :: l)
        | none => none
      | false => none
    | _ => match takeI r n with
      | some l => some (s :: l)
      | none => none
/-- The parts behind the first n cells. -/
def dropI : List SV → Nat → Option (List SV)
  | l, 0 => some l
  | [], _ + 1 => none
  | s :: r, n + 1 => match s with
    | .arr m _ => match Nat.ble m (n + 1) with
      | true => dropI r (n + 1 - m)
      | false => none
    | _ => dropI r n
def cutI (l : List SV) (off n : Nat) : Option (List SV) :=
  match dropI l off with
  | some r => takeI r n
  | none => none
/-- What stands in the place of the n cells from off on. -/
def pasteI (l : List SV) (off n : Nat) (x : List SV) : Option (List SV) :=
  match takeI l off with
  | some a => match dropI l (off + n) with
    | some c => some (a ++ x ++ c)
    | none => none
  | none => none

section
variable {E : Env} {T : Nat → Prop} {w : World}
theorem Items.app : ∀ {l m : List SV} {cs ds : List Value}, Items E T w l cs → Items E T w m ds → Items E T w (l ++ m) (cs ++ ds)
  | _, _, _, _, .nil, h => h
  | _, _, _, _, .one s c l cs h1 hr hl, h => .one s c _ _ h1 hr (Items.app hl h)
  | _, _, _, _, .arr n e l c1 cs hr hl, h => by
    rw [List.append_assoc]
    exact .arr n e _ c1 _ hr (Items.app hl h)
theorem Items.take_ : ∀ {l r : List SV} {cs : List Value} {n : Nat}, Items E T w l cs → takeI l n = some r → n ≤ cs.length ∧ Items E T w r (cs.take n)
  | l, r, cs, 0, h, ht => by
    have : r = [] := by cases l <;> simpa [takeI] using ht.symm
    subst this
    simpa using Items.nil
  | _, r, _, n + 1, .nil, ht => by simp [takeI] at ht
  | _, r, _, n + 1, .one s c l cs h1 hr hl, ht => by
    have ht' : (match takeI l n with | some l => some (s :: l) | none => none) = some r := by
      cases s <;> first | exact ht | (simp [SV.one] at h1)
    split at ht'
    · rename_i l' hl'
      simp at ht'
      subst ht'
      obtain ⟨a, b⟩ := Items.take_ hl hl'
      exact ⟨by simpa using a, by simpa using Items.one s c _ _ h1 hr b⟩
    · cases ht'
  | _, r, _, n + 1, .arr m e l c1 cs hr hl, ht => by
    simp only [takeI] at ht
    split at ht
    · rename_i hle
      have hle' := Nat.le_of_ble_eq_true hle
      split at ht
      · rename_i l' hl'
        simp at ht
        subst ht
        obtain ⟨a, b⟩ := Items.take_ hl hl'
        have hm := hr.arr_len
        refine ⟨by simp; omega, ?_⟩
        rw [List.take_append, List.take_of_length_le (by omega), hm]
        exact .arr m e _ c1 _ hr b
      · cases ht
    · cases ht
theorem Items.drop_ : ∀ {l r : List SV} {cs : List Value} {n : Nat}, Items E T w l cs → dropI l n = some r → n ≤ cs.length ∧ Items E T w r (cs.drop n)
  | l, r, cs, 0, h, ht => by
    have : r = l := by cases l <;> simpa [dropI] using ht.symm
    subst this
    simpa using h
  | _, r, _, n + 1, .nil, ht => by simp [dropI] at ht
  | _, r, _, n + 1, .one s c l cs h1 hr hl, ht => by
    have ht' : dropI l n = some r := by
      cases s <;> first | exact ht | (simp [SV.one] at h1)
    obtain ⟨a, b⟩ := Items.drop_ hl ht'
    exact ⟨by simpa using a, by simpa using b⟩
  | _, r, _, n + 1, .arr m e l c1 cs hr hl, ht => by
    simp only [dropI] at ht
    split at ht
    · rename_i hle
      have hle' := Nat.le_of_ble_eq_true hle
      obtain ⟨a, b⟩ := Items.drop_ hl ht
      have hm := hr.arr_len
      refine ⟨by simp; omega, ?_⟩
      rw [List.drop_append, List.drop_of_length_le (by omega), hm]
      simpa using b
    · cases ht
theorem Items.cut {l r : List SV} {cs : List Value} {off n : Nat} (h : Items E T w l cs) (hc : cutI l off n = some r) : off + n ≤ cs.length ∧ Items E T w r ((cs.drop off).take n) := by
  unfold cutI at hc
  split at hc
  · rename_i r' hr'
    obtain ⟨a, b⟩ := h.drop_ hr'
    obtain ⟨c, d⟩ := b.take_ hc
    exact ⟨by simp at c; omega, d⟩
  · cases hc
theorem Items.paste {l x r : List SV} {cs xs : List Value} {off n : Nat} (h : Items E T w l cs) (hx : Items E T w x xs) (hp : pasteI l off n x = some r) :
    off + n ≤ cs.length ∧ Items E T w r (cs.take off ++ xs ++ cs.drop (off + n)) := by
  unfold pasteI at hp
  split at hp
  · rename_i a ha
    split at hp
    · rename_i c hc
      simp at hp
      subst hp
      obtain ⟨h1, h2⟩ := h.take_ ha
      obtain ⟨h3, h4⟩ := h.drop_ hc
      refine ⟨h3, ?_⟩
      have := h2.app (hx.app h4)
      simpa using this
    · cases hp
  · cases hp

/-- The parts of a value. -/
def itemsOf : SV → Option (List SV)
  | .agg l => some l
  | .arr n e => some [.arr n e]
  | .tup _ | .may _ _ | .val _ => none
  | s => some [s]
theorem Rep.items {s : SV} {v : Value} {l : List SV} (h : Rep E T w s v) (hi : itemsOf s = some l) : Items E T w l v.cells.toList := by
  cases h <;> simp [itemsOf] at hi <;> subst hi
  case agg l cs h => simpa [Value.cells] using h
  case arr n e cs c hn hl he h1 hc hr =>
    have := Items.arr (E := E) (T := T) (w := w) n e [] cs [] (.arr n e cs c hn hl he h1 hc hr) .nil
    simpa [Value.cells] using this
  all_goals exact .one _ _ _ _ rfl (by constructor <;> assumption) .nil
/-- The value of parts, by the kind of type. -/
def ofItems : Bool → List SV → Option SV
  | true, [.arr n e] => some (.arr n e)
  | true, l => some (.agg l)
  | false, [s] => match s with
    | .arr _ _ => none
    | s => some s
  | false, _ => none
end
end Go.Proofs.YtgpggoejkkhceaaDoor.V
