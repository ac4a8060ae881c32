/-
  Joined texts: Ba: A walk by abstract values: a bytes.Buffer of one's own that is only written (in the mode in which everything new is hidden from what is read).
  MP: Meta: the writing methods of bytes.Buffer, as the engine asks.
  MQ: Meta: Bytes of the program.
  MR: Meta: Bytes of the reference.
  MT: Meta: RootBytes of the program.
  MU: Meta: RootBytes of the reference.
  Bb: A walk by abstract values: functions that write one block of their caller's.
  Bc: A walk by abstract values: copy into an array of one's own, the whole of it or nothing.
  Bits: Numbers of some bits: masks, shifts, words put together.
  MV: Meta: the reader of the program.
  MW: Meta: Parse of the program.
-/
import Derived.Test.YtegbdcadlmefgaaDoorQC
import Derived.Lib.BufferAt
import Derived.Lib.OthersKept
import Derived.Lib.UnsafeStr
import Derived.Test.YtegbdcadlmefgaaDoorQB
section
namespace Go.Proofs.YtegbdcadlmefgaaDoor.V
open Go.RowKit

section
variable {E E' : Env} {T T' : Nat → Prop} {w w' : World}
mutual
/-- How a reading lasts, where the sizes are kept of the blocks alone that have a number. -/
theorem Rep.monoW (hE : ∀ i b, E i = some b → E' i = some b) (hT : ∀ b, b < w.heap.size → T' b → T b) (hz : w.heap.size ≤ w'.heap.size) (hk : ∀ b, b < w.heap.size → ¬ T b → w'.heap[b]? = w.heap[b]?) (hs : ∀ i b x, E i = some (some b) → w.shape? b = some x → w'.shape? b = some x) :
    ∀ {s : SV} {v : Value}, Rep E T w s v → Rep E' T' w' s v
  | _, _, .bool b => .bool b
  | _, _, .int k n h => .int k n h
  | _, _, .str l h => .str l h
  | _, _, .nilp => .nilp
  | _, _, .ptr id off b h => .ptr id off b (hE _ _ h)
  | _, _, .pel id base sz i j b h => .pel id base sz i j b (hE _ _ h)
  | _, _, .rop e i j b o c hT' hn hc hr hi hj hb =>
    .rop e i j b o c (fun h => hT' (hT b hb h)) hn (fun i j v hi hj => (World.cell?_of_block (hk b hb hT')).trans (hc i j v hi hj)) (fun i hi => Items.monoW hE hT hz hk hs (hr i hi)) hi hj (Nat.lt_of_lt_of_le hb hz)
  | _, _, .nils => .nils
  | _, _, .row id base sz sub len b o c n t h hs' ho hl ok => .row id base sz sub len b o c n t (hE _ _ h) (hs _ _ _ h hs') ho hl ok
  | _, _, .row0 id base sz sub len h hl => .row0 id base sz sub len (hE _ _ h) hl
  | _, _, .ro0 e h => .ro0 e h
  | _, _, .ro1 e a h => .ro1 e a h
  | _, _, .ro e b o n k c hT' hn hc hr he hl ok hb =>
    .ro e b o n k c (fun h => hT' (hT b hb h)) hn (fun i j v hi hj => (World.cell?_of_block (hk b hb hT')).trans (hc i j v hi hj)) (fun i hi => Items.monoW hE hT hz hk hs (hr i hi)) he hl ok (Nat.lt_of_lt_of_le hb hz)
  | _, _, .agg l cs h => .agg l cs (Items.monoW hE hT hz hk hs h)
  | _, _, .arr n e cs c hn hl he h1 hc hr => .arr n e cs c hn hl he h1 hc (fun i hi => Items.monoW hE hT hz hk hs (hr i hi))
  | _, _, .tup l vs h => .tup l vs (Tup.monoW hE hT hz hk hs h)
  | _, _, .fn f l vs h => .fn f l vs (Tup.monoW hE hT hz hk hs h)
  | _, _, .mv f l vs h => .mv f l vs (Tup.monoW hE hT hz hk hs h)
  | _, _, .ifc t s v h => .ifc t s v (Rep.monoW hE hT hz hk hs h)
  | _, _, .nili => .nili
  | _, _, .nilf => .nilf
  | _, _, .may1 g s v h hr => .may1 g s v h (Rep.monoW hE hT hz hk hs hr)
  | _, _, .may0 g s h => .may0 g s h
  | _, _, .bsl id len b n t h hs' hl ok => .bsl id len b n t (hE _ _ h) (hs _ _ _ h hs') hl ok
  | _, _, .bsl0 id len h hl => .bsl0 id len (hE _ _ h) hl
  | _, _, .anyi k n => .anyi k n
  | _, _, .val x => .val x
theorem Items.monoW (hE : ∀ i b, E i = some b → E' i = some b) (hT : ∀ b, b < w.heap.size → T' b → T b) (hz : w.heap.size ≤ w'.heap.size) (hk : ∀ b, b < w.heap.size → ¬ T b → w'.heap[b]? = w.heap[b]?) (hs : ∀ i b x, E i = some (some b) → w.shape? b = some x → w'.shape? b = some x) :
    ∀ {l : List SV} {cs : List Value}, Items E T w l cs → Items E' T' w' l cs
  | _, _, .nil => .nil
  | _, _, .one s c l cs h hr hl => .one s c l cs h (Rep.monoW hE hT hz hk hs hr) (Items.monoW hE hT hz hk hs hl)
  | _, _, .arr n e l c1 cs hr hl => .arr n e l c1 cs (Rep.monoW hE hT hz hk hs hr) (Items.monoW hE hT hz hk hs hl)
theorem Tup.monoW (hE : ∀ i b, E i = some b → E' i = some b) (hT : ∀ b, b < w.heap.size → T' b → T b) (hz : w.heap.size ≤ w'.heap.size) (hk : ∀ b, b < w.heap.size → ¬ T b → w'.heap[b]? = w.heap[b]?) (hs : ∀ i b x, E i = some (some b) → w.shape? b = some x → w'.shape? b = some x) :
    ∀ {l : List SV} {vs : List Value}, Tup E T w l vs → Tup E' T' w' l vs
  | _, _, .nil => .nil
  | _, _, .cons s v l vs hr hl => .cons s v l vs (Rep.monoW hE hT hz hk hs hr) (Tup.monoW hE hT hz hk hs hl)
end
end

/-- All numbers but those of the first blocks. -/
@[reducible] def kill2 : List Nat := [2, 3, 4, 5, 6, 7, 8, 9, 10, 11, 12, 13, 14, 15, 16, 17, 18, 19, 20, 21, 22, 23, 24, 25, 26, 27, 28, 29, 30, 31, 32, 33, 34, 35, 36, 37, 38, 39, 40, 41, 42, 43, 44, 45, 46, 47, 48, 49, 50, 51, 52, 53, 54, 55, 56, 57, 58, 59]
@[reducible] def kill3 : List Nat := [3, 4, 5, 6, 7, 8, 9, 10, 11, 12, 13, 14, 15, 16, 17, 18, 19, 20, 21, 22, 23, 24, 25, 26, 27, 28, 29, 30, 31, 32, 33, 34, 35, 36, 37, 38, 39, 40, 41, 42, 43, 44, 45, 46, 47, 48, 49, 50, 51, 52, 53, 54, 55, 56, 57, 58, 59]
@[reducible] def kill4 : List Nat := [4, 5, 6, 7, 8, 9, 10, 11, 12, 13, 14, 15, 16, 17, 18, 19, 20, 21, 22, 23, 24, 25, 26, 27, 28, 29, 30, 31, 32, 33, 34, 35, 36, 37, 38, 39, 40, 41, 42, 43, 44, 45, 46, 47, 48, 49, 50, 51, 52, 53, 54, 55, 56, 57, 58, 59]
/-! ### What a write reckons -/
def idsM (j : Option Nat) : Mem → List Nat
  | [] => []
  | (k, _) :: r => match j with
    | some j' => match Nat.beq k j' with
      | true => idsM j r
      | false => k :: idsM j r
    | none => k :: idsM none r
/-- The other blocks: none of the elements' type; what they hold has numbers that stay. -/
def bufK (p : List Nat) (e : TypeId) (i : Nat) (j : Option Nat) : Mem → Option (List Prop)
  | [] => some []
  | (k, B) :: r => match Nat.beq k i || (match j with
      | some j' => Nat.beq k j'
      | none => false) with
    | true => bufK p e i j r
    | false => match B with
      | .cells t l => match Nat.beq t e with
        | true => none
        | false => match kpL p l with
          | some φ => match bufK p e i j r with
            | some ψ => some (φ ++ ψ)
            | none => none
          | none => none
      | .row t x => match Nat.beq t e with
        | true => none
        | false => match kpE x with
          | some φ => match bufK p e i j r with
            | some ψ => some (φ ++ ψ)
            | none => none
          | none => none
      | .obj _ => none
def lastB : SV → Bool
  | .anyi .i8 => true
  | .int .i8 _ => true
  | _ => false
structure BufR where
  t : TypeId
  j : Option Nat
  l : List UInt8
  φ : List Prop
/-- The buffer in block i: what it holds, and in which row. -/
def bufAt (e : TypeId) (M : Mem) (i : Nat) : Option BufR :=
  match find M i with
  | some (.cells t [s0, .int .i64 (.ofNat 0), z]) => match lastB z with
    | true => match s0 with
      | .nils => some ⟨t, none, [], []⟩
      | .bsl j len => match find M j with
        | some (.row e' (.u8 l)) => match Nat.beq e' e with
          | true => some ⟨t, some j, l, [len = l.length]⟩
          | false => none
        | _ => none
      | _ => none
    | false => none
  | _ => none
structure BufO where
  G : Tr
  M : Mem
  φ : List Prop
def bufM (pins : List Nat) (e : TypeId) (F : Tr) (M : Mem) (i nx : Nat) (m : List UInt8) : Option BufO :=
  match bufAt e M i with
  | some ⟨t, j, l, φ0⟩ => match keepT (idsM j M) F, bufK (idsM j M) e i j M, pins.all (idsM j M).elem with
    | some (G, φ), some ψ, true => match upd (delO M j) i (.cells t [.bsl nx (l ++ m).length, .int .i64 0, .anyi .i8]) with
      | some M1 => fM M1 fun M1 => fP ((l.length + m.length ≤ 140737488355328) :: (φ0 ++ (φ ++ ψ))) fun χ => some ⟨G, (nx, .row e (.u8 (l ++ m))) :: M1, χ⟩
      | none => none
    | _, _, _ => none
  | none => none

/-! ### What it says -/
theorem idsM_mem {j : Option Nat} : ∀ {M : Mem} {k : Nat}, (idsM j M).elem k = true → (find M k).isSome = true ∧ some k ≠ j
  | [], k, h => by simp [idsM] at h
  | (k0, B) :: r, k, h => by
    unfold idsM at h
    split at h
    · rename_i j'
      split at h
      · obtain ⟨q1, q2⟩ := idsM_mem h
        refine ⟨?_, q2⟩
        rw [find_cons]
        split
        · rfl
        · exact q1
      · rename_i hne
        rw [find_cons]
        by_cases e : k = k0
        · subst e
          rw [if_pos rfl]
          exact ⟨rfl, fun hj => by cases hj; simp at hne⟩
        · rw [if_neg e]
          refine idsM_mem ?_
          simpa [List.elem_cons, e] using h
    · rw [find_cons]
      by_cases e : k = k0
      · rw [if_pos e]; exact ⟨rfl, by simp⟩
      · rw [if_neg e]
        refine idsM_mem ?_
        simpa [List.elem_cons, e] using h
/-- What is known of another block. -/
def othK (p : List Nat) (e : TypeId) : Blk → Prop
  | .cells t l => t ≠ e ∧ keepL p.elem l
  | .row t x => t ≠ e ∧ pureE x
  | .obj _ => False
theorem bufK_at {p : List Nat} {e : TypeId} {i : Nat} {j : Option Nat} : ∀ {M : Mem} {φ : List Prop}, bufK p e i j M = some φ → AllP φ → ∀ k B, find M k = some B → k ≠ i → some k ≠ j → othK p e B
  | [], φ, h, hφ, k, B, hf, _, _ => by simp [find] at hf
  | (k0, B0) :: r, φ, h, hφ, k, B, hf, h1, h2 => by
    rw [find_cons] at hf
    simp only [bufK] at h
    split at h
    · rename_i hk
      split at hf
      · rename_i he
        subst he
        exfalso
        simp only [Bool.or_eq_true] at hk
        rcases hk with hk | hk
        · exact h1 (Nat.eq_of_beq_eq_true hk)
        · split at hk
          · exact h2 (by rw [Nat.eq_of_beq_eq_true hk])
          · cases hk
      · exact bufK_at h hφ k B hf h1 h2
    · split at h
      · rename_i t l
        split at h
        · cases h
        · rename_i hne
          split at h
          · rename_i φ1 hφ1
            split at h
            · rename_i ψ hψ
              simp only [Option.some.injEq] at h
              subst h
              obtain ⟨q1, q2⟩ := AllP.app hφ
              split at hf
              · cases hf
                exact ⟨fun e => by subst e; simp at hne, kpL_ok hφ1 q1⟩
              · exact bufK_at hψ q2 k B hf h1 h2
            · cases h
          · cases h
      · rename_i t x
        split at h
        · cases h
        · rename_i hne
          split at h
          · rename_i φ1 hφ1
            split at h
            · rename_i ψ hψ
              simp only [Option.some.injEq] at h
              subst h
              obtain ⟨q1, q2⟩ := AllP.app hφ
              split at hf
              · cases hf
                exact ⟨fun e => by subst e; simp at hne, kpE_ok hφ1 q1⟩
              · exact bufK_at hψ q2 k B hf h1 h2
            · cases h
          · cases h
      · cases h

abbrev bytesC (l : List UInt8) : List Value := Lib.byteCells l
theorem bytesC_at (l : List UInt8) (i : Nat) (h : i < l.length) : (bytesC l)[i]? = some (.int .u8 ((l.getD i 0).toNat : Int)) := by
  simp [bytesC, Lib.byteCells, List.getD_eq_getElem?_getD, h]
theorem bytesC_len (l : List UInt8) : (bytesC l).length = l.length := Lib.byteCells_length l
theorem bytesC_app (l m : List UInt8) : bytesC (l ++ m) = bytesC l ++ bytesC m := by simp [bytesC, Lib.byteCells]
theorem bytesC_one (l : List UInt8) : ∀ v ∈ bytesC l, v.oneCell' = true := by
  intro v hv
  simp only [bytesC, Lib.byteCells, List.mem_map] at hv
  obtain ⟨b, _, rfl⟩ := hv
  rfl
theorem inR_byte (b : UInt8) : inR .u8 (b.toNat : Int) := by
  have := b.toNat_lt
  refine inR_u8' ?_ ?_ <;> omega

section
variable {C : Ctx} {F G : Tr} {M : Mem} {U : Nat → Prop} {E : Env} {a : Act} {w w' : World}
/-- The buffer is one, as the library's contracts ask. -/
theorem buf_in (hst : St C F M U E a w) (hS : ∀ b, ¬ C.S b) {e : TypeId} {i b : Nat} {r : BufR} (h : bufAt e M i = some r) (hφ : AllP r.φ) (hE : E i = some (some b)) :
    LibA.IsBuffer r.t (fun _ => none) e C.W0.heap.size b 0 (bytesC r.l) w := by
  unfold bufAt at h
  split at h
  · rename_i t s0 z hf
    split at h
    · rename_i hz
      obtain ⟨hb, cs, hh, hI⟩ := hst.mem.at hf hE
      have hown : C.W0.heap.size ≤ b := (hst.own i b (by rw [hf]; rfl) hE).resolve_right (hS b)
      cases hI with
      | arr => dsimp only at h; cases h
      | one _ v0 _ _ q0 r0 hI =>
      cases hI with
      | one _ v1 _ _ q1 r1 hI =>
      cases hI with
      | arr => simp [lastB] at hz
      | one _ v2 _ _ q2 r2 hI =>
      cases hI
      cases r1
      have h3 : ∃ lr, v2 = .int .i8 lr := by
        unfold lastB at hz
        split at hz
        · cases r2; exact ⟨_, rfl⟩
        · cases r2; exact ⟨_, rfl⟩
        · cases hz
      obtain ⟨lr, rfl⟩ := h3
      have h3 := LibA.three_whole (w := w) (b := b) (T := t) (x := v0) (y := .int .i64 0) (z := .int .i8 lr) hh
      split at h
      · simp only [Option.some.injEq] at h
        subst h
        cases r0
        exact ⟨hown, _, lr, h3, World.ownsRow_nil _ _ _ _, by simp [Value.ownBlock]⟩
      · rename_i j len
        split at h
        · rename_i e' l hj
          split at h
          · rename_i he
            simp only [Option.some.injEq] at h
            subst h
            cases Nat.eq_of_beq_eq_true he
            have hlen : len = l.length := hφ.1
            dsimp only
            refine ⟨hown, v0, lr, h3, ?_, ?_⟩
            · refine ⟨by simp, ?_⟩
              rw [bytesC_len]
              cases r0 with
              | bsl0 _ _ hEj hl => exact .inl ⟨rfl, by omega⟩
              | bsl _ _ g n t' hEj hs hl ok =>
                obtain ⟨hg, cur, c, hc0, hc1, hc2, hc3, hc4⟩ := hst.mem.at hj hEj
                have hn : n = cur.length := by
                  simp only [World.shape?, hc0] at hs
                  simpa using (Prod.mk.inj (Option.some.inj hs)).2.symm
                have hgo : C.W0.heap.size ≤ g := (hst.own j g (by rw [hj]; rfl) hEj).resolve_right (hS g)
                refine .inr ⟨g, n, cur.toArray, by rw [hlen], hgo, hc0, by omega, ok, by simp [hn], ?_⟩
                simp only [EV.len, EV.sz, Nat.mul_one] at hc1 hc2 hc3 hc4 ⊢
                refine List.ext_getElem? fun x => ?_
                rw [List.getElem?_take]
                by_cases hx : x < l.length
                · rw [if_pos hx, bytesC_at l x hx]
                  have hI4 := hc4 x hx
                  simp only [EV.items] at hI4
                  have hc5 := hc3 x 0
                  generalize c x = cx at hI4 hc5
                  cases hI4 with
                  | one _ cv _ _ p0 pr pI =>
                    have h4 := hc5 cv hx rfl
                    cases pr
                    simpa using h4
                · rw [if_neg hx, List.getElem?_eq_none (by rw [bytesC_len]; omega)]
            · cases r0 with
              | bsl0 _ _ hEj hl => simp [Value.ownBlock]
              | bsl _ _ g n t' hEj hs hl ok =>
                simp only [Value.ownBlock, ne_eq, Option.some.injEq]
                intro hgb
                subst hgb
                have := hst.mem.inj j i g (by rw [hj]; rfl) (by rw [hf]; rfl) hEj hE
                subst this
                rw [hf] at hj
                cases hj
          · cases h
        · cases h
      · cases h
    · cases h
  · cases h

theorem three_whole' {b : Nat} {T : TypeId} {x y z : Value} (h : LibA.Three w b 0 T (fun _ => none) x y z) : w.heap[b]? = some (.cells #[x, y, z] T (0, 0)) := by
  obtain ⟨cs, h0, h1, h2, h3, h4⟩ := h
  rw [h0]
  have hs : cs.size = 3 := by
    have q1 := (Array.getElem?_eq_some_iff.1 h3).1
    have q2 := h4 3 (by omega)
    rw [Array.getElem?_eq_none_iff] at q2
    omega
  have : cs = #[x, y, z] := by
    apply Array.ext (by simpa using hs)
    intro k k1 k2
    have hk : k < 3 := by omega
    match k, hk with
    | 0, _ => exact (Array.getElem?_eq_some_iff.1 h1).2
    | 1, _ => exact (Array.getElem?_eq_some_iff.1 h2).2
    | 2, _ => exact (Array.getElem?_eq_some_iff.1 h3).2
  rw [this]
/-- What the buffer is, once written. -/
theorem row_of {t e : TypeId} {B b : Nat} {l : List UInt8} (h : LibA.IsBuffer t (fun _ => none) e B b 0 (bytesC l) w) : ∃ gx : Option Nat,
    (∃ v lr, w.heap[b]? = some (.cells #[v, .int .i64 0, .int .i8 lr] t (0, 0)) ∧ ∀ (E : Env) (T : Nat → Prop) (nx : Nat), E nx = some gx → Rep E T w (.bsl nx l.length) v) ∧
    ((∃ g cur, gx = some g ∧ B ≤ g ∧ g ≠ b ∧ w.heap[g]? = some (.cells cur e (0, 0)) ∧ ∀ (E : Env) (T : Nat → Prop), BOk E T w g (.row e (.u8 l))) ∨ (gx = none ∧ l.length = 0)) := by
  obtain ⟨hB, v, lr, h3, ⟨hxl, hown⟩, hne⟩ := h
  have h3' := three_whole' h3
  rw [bytesC_len] at hown
  rcases hown with ⟨rfl, h0⟩ | ⟨g, cap, cur, rfl, hBg, hg, hnc, hcm, hcs, htk⟩
  · exact ⟨none, ⟨_, lr, h3', fun E T nx hE => .bsl0 _ _ hE h0⟩, .inr ⟨rfl, h0⟩⟩
  · rw [Nat.mul_one] at hcs htk
    refine ⟨some g, ⟨_, lr, h3', fun E T nx hE => .bsl _ _ g cap e hE (by simp [World.shape?, hg, hcs]) hnc hcm⟩, .inl ⟨g, cur, rfl, hBg, fun e => hne (by simp [Value.ownBlock, e]), hg, fun E T => ?_⟩⟩
    have hat : ∀ i, i < l.length → cur.toList[i]? = some (.int .u8 ((l.getD i 0).toNat : Int)) := fun i hi => by
      have := congrArg (·[i]?) htk
      simp only [List.getElem?_take, if_pos hi, bytesC_at l i hi] at this
      exact this
    refine ⟨cur.toList, fun i => [.int .u8 ((l.getD i 0).toNat : Int)], hg, by simp [EV.len, EV.sz]; omega, fun i _ => rfl, fun i j v hi hv => ?_, fun i hi => ?_⟩
    · match j, hv with
      | 0, hv =>
        simp at hv
        subst hv
        have := hat i hi
        simpa [EV.sz] using this
      | j + 1, hv => simp at hv
    · exact .one _ _ _ _ rfl (.int _ _ (inR_byte _)) .nil

variable {nx : Nat} {M' : Mem} {φ : List Prop}
theorem bufAt_find {e : TypeId} {i : Nat} {r : BufR} (h : bufAt e M i = some r) : ∃ s0 z, find M i = some (.cells r.t [s0, .int .i64 0, z]) ∧ ∀ j, r.j = some j → ∃ l, find M j = some (.row e (.u8 l)) := by
  unfold bufAt at h
  split at h
  · rename_i t s0 z hf
    split at h
    · split at h
      · simp only [Option.some.injEq] at h
        subst h
        exact ⟨_, z, hf, fun j hj => by cases hj⟩
      · split at h
        · rename_i e' l hj
          split at h
          · rename_i he
            cases Nat.eq_of_beq_eq_true he
            simp only [Option.some.injEq] at h
            subst h
            exact ⟨_, z, hf, fun j hj' => by cases hj'; exact ⟨l, hj⟩⟩
          · cases h
        · cases h
      · cases h
    · cases h
  · cases h
theorem bufM_inv {pins : List Nat} {e : TypeId} {i : Nat} {m : List UInt8} (h : bufM pins e F M i nx m = some ⟨G, M', φ⟩) (hφ : AllP φ) : ∃ r φ1 φ2 M1, bufAt e M i = some r ∧ AllP r.φ ∧ r.l.length + m.length ≤ 140737488355328 ∧
    keepT (idsM r.j M) F = some (G, φ1) ∧ AllP φ1 ∧ bufK (idsM r.j M) e i r.j M = some φ2 ∧ AllP φ2 ∧ pins.all (idsM r.j M).elem = true ∧ upd (delO M r.j) i (.cells r.t [.bsl nx (r.l ++ m).length, .int .i64 0, .anyi .i8]) = some M1 ∧ M' = (nx, .row e (.u8 (r.l ++ m))) :: M1 := by
  unfold bufM at h
  split at h
  · rename_i t j l φ0 hr
    split at h
    · rename_i G' φ1 φ2 h1 h2 h3
      split at h
      · rename_i M1 hM1
        rw [fM_eq, fP_eq] at h
        simp only [Option.some.injEq, BufO.mk.injEq] at h
        obtain ⟨rfl, rfl, rfl⟩ := h
        obtain ⟨p1, p2⟩ := hφ
        obtain ⟨p2, p3⟩ := AllP.app p2
        obtain ⟨p3, p4⟩ := AllP.app p3
        exact ⟨⟨t, j, l, φ0⟩, φ1, φ2, M1, hr, p2, p1, h1, p3, h2, p4, h3, hM1, rfl⟩
      · cases h
    · cases h
  · cases h
theorem Chg.of_heap {S : Nat → Prop} {w0 w w' : World} (h : Chg S w0 w) (hb : Below w0.heap.size w w') : Chg S w0 w' :=
  ⟨Nat.le_trans h.size hb.size, fun b hlt hS => (hb.block b hlt).trans (h.keep b hlt hS), fun b hlt => by
    have := h.shape b hlt
    simp only [World.shape?] at this ⊢
    rw [hb.block b hlt]
    exact this⟩
/-- The state, once the buffer is written. -/
theorem buf_out (hst : St C F M U E a w) (hU : U nx) (hS : ∀ b, ¬ C.S b) (hW : ∀ b, C.W0.heap.size ≤ b → C.T0 b) {e : TypeId} {i b : Nat} {m : List UInt8} {r : BufR} {φ1 φ2 : List Prop} {M1 : Mem} (hr : bufAt e M i = some r) (hφ : AllP r.φ) (hE : E i = some (some b))
    (hG : keepT (idsM r.j M) F = some (G, φ1)) (hφ1 : AllP φ1) (hK : bufK (idsM r.j M) e i r.j M = some φ2) (hφ2 : AllP φ2) (hp : C.pins.all (idsM r.j M).elem = true) (hM : upd (delO M r.j) i (.cells r.t [.bsl nx (r.l ++ m).length, .int .i64 0, .anyi .i8]) = some M1)
    (hB : LibA.IsBuffer r.t (fun _ => none) e C.W0.heap.size b 0 (bytesC (r.l ++ m)) w') (hbel : Below C.W0.heap.size w w') (hok : Lib.OthersKept e (some b) w w') :
    ∃ E', St C G ((nx, .row e (.u8 (r.l ++ m))) :: M1) (rest U nx) E' a w' := by
  have hB0 := buf_in hst hS hr hφ hE
  obtain ⟨s0, z, hfi, hfj⟩ := bufAt_find hr
  obtain ⟨gx, ⟨v, lr, hb', hv⟩, hrow⟩ := row_of hB
  have hb0 : ∃ v0 lr0, w.heap[b]? = some (.cells #[v0, .int .i64 0, .int .i8 lr0] r.t (0, 0)) := by
    obtain ⟨_, v0, lr0, h3, _⟩ := hB0
    exact ⟨v0, lr0, three_whole' h3⟩
  obtain ⟨v0, lr0, hb0⟩ := hb0
  have hnx := hst.fresh nx hU
  have hold : ∀ k x, E k = some x → envWith E nx gx k = some x := envWith_old hnx
  have hkeep : ∀ k, k < w.heap.size → ¬ trk C.T0 M E k → w'.heap[k]? = w.heap[k]? := fun k _ hn => by
    refine hbel.block k ?_
    rcases Nat.lt_or_ge k C.W0.heap.size with h | h
    · exact h
    · exact absurd (.inr (hW k h)) hn
  have hij : some i ≠ r.j := fun hj => by
    obtain ⟨l, hl⟩ := hfj i hj.symm
    rw [hfi] at hl
    cases hl
  have hoth : ∀ k B k', find M k = some B → k ≠ i → some k ≠ r.j → E k = some (some k') → w'.heap[k']? = w.heap[k']? ∧ ∃ cs t, w.heap[k']? = some (.cells cs t (0, 0)) ∧ t ≠ e := fun k B k' hf h1 h2 hEk => by
    have hK' := bufK_at hK hφ2 k B hf h1 h2
    obtain ⟨_, hBk⟩ := hst.mem.at hf hEk
    have hne : some k' ≠ some b := fun hh => by
      cases hh
      exact h1 (hst.mem.inj k i b (by rw [hf]; rfl) (by rw [hfi]; rfl) hEk hE)
    have key : ∀ cs t, w.heap[k']? = some (.cells cs t (0, 0)) → t ≠ e → w'.heap[k']? = w.heap[k']? ∧ ∃ cs t, w.heap[k']? = some (.cells cs t (0, 0)) ∧ t ≠ e := fun cs t hh ht =>
      ⟨(hok k' _ hh hne fun c fz hc => ht (by cases hc; rfl)).trans hh.symm, cs, t, hh, ht⟩
    cases B with
    | cells t l => obtain ⟨cs, hh, _⟩ := hBk; exact key _ _ hh hK'.1
    | row t x => obtain ⟨cs, c, hh, _⟩ := hBk; exact key _ _ hh hK'.1
    | obj o => exact hK'.elim
  have hlive : ∀ k, (idsM r.j M).elem k = true → ∀ k' x, E k = some (some k') → w.shape? k' = some x → w'.shape? k' = some x := fun k hk k' x hEk hx => by
    obtain ⟨h1, h2⟩ := idsM_mem hk
    obtain ⟨B, hf⟩ := Option.isSome_iff_exists.1 h1
    by_cases hki : k = i
    · subst hki
      rw [hE] at hEk
      cases hEk
      rw [← hx]
      simp [World.shape?, hb0, hb']
    · have := (hoth k B k' hf hki h2 hEk).1
      simpa only [World.shape?, this] using hx
  have hshp : ∀ k k' x, pinE (idsM r.j M).elem E k = some (some k') → w.shape? k' = some x → w'.shape? k' = some x := fun k k' x hEk hx => by
    unfold pinE at hEk
    split at hEk
    · rename_i hk; exact hlive k hk k' x hEk hx
    · cases hEk
  have hfind : ∀ k B, find ((nx, .row e (.u8 (r.l ++ m))) :: M1) k = some B → (k = nx ∧ B = .row e (.u8 (r.l ++ m))) ∨ (k ≠ nx ∧ k = i ∧ B = .cells r.t [.bsl nx (r.l ++ m).length, .int .i64 0, .anyi .i8]) ∨ (k ≠ nx ∧ k ≠ i ∧ some k ≠ r.j ∧ find M k = some B) := fun k B hf => by
    rw [find_cons] at hf
    split at hf
    · rename_i hk; cases hf; exact .inl ⟨hk, rfl⟩
    · rename_i hk
      rw [find_upd hM] at hf
      split at hf
      · rename_i hk2; cases hf; exact .inr (.inl ⟨hk, hk2, rfl⟩)
      · rename_i hk2
        obtain ⟨q1, q2⟩ := find_delO hf
        exact .inr (.inr ⟨hk, hk2, q2, q1⟩)
  have hEnx : envWith E nx gx nx = some gx := by simp [envWith]
  have hEne : ∀ k, k ≠ nx → envWith E nx gx k = E k := fun k hk => by simp [envWith, hk]
  have hown : ∀ k k', (find ((nx, .row e (.u8 (r.l ++ m))) :: M1) k).isSome = true → envWith E nx gx k = some (some k') → C.W0.heap.size ≤ k' := fun k k' hf hEk => by
    obtain ⟨B, hf⟩ := Option.isSome_iff_exists.1 hf
    rcases hfind k B hf with ⟨rfl, _⟩ | ⟨h1, rfl, _⟩ | ⟨h1, _, _, h2⟩
    · rw [hEnx] at hEk
      cases hEk
      rcases hrow with ⟨g, cur, hg, q, _⟩ | ⟨hg, _⟩
      · cases hg; exact q
      · cases hg
    · rw [hEne _ h1] at hEk
      exact (hst.own _ _ (by rw [hfi]; rfl) hEk).resolve_right (hS _)
    · rw [hEne _ h1] at hEk
      exact (hst.own _ _ (by rw [h2]; rfl) hEk).resolve_right (hS _)
  have hT : ∀ k, k < w.heap.size → trk C.T0 ((nx, .row e (.u8 (r.l ++ m))) :: M1) (envWith E nx gx) k → trk C.T0 M E k := by
    rintro k _ (⟨id, B, hf, hEk⟩ | h0)
    · exact .inr (hW k (hown id k (by rw [hf]; rfl) hEk))
    · exact .inr h0
  have hpe : ∀ k x, pinE (idsM r.j M).elem E k = some x → envWith E nx gx k = some x := fun k x h => by
    unfold pinE at h
    split at h
    · exact hold k x h
    · cases h
  refine ⟨envWith E nx gx, hst.defers, hst.size, fun t s hs => ?_, ⟨fun k B hf => ?_, fun k1 k2 k' h1 h2 h3 h4 => ?_⟩, fun k k' h1 h2 => .inl (hown k k' h1 h2), fun k hk => ?_, ?_, hst.hid, ?_, fun p hp' k x hx => ?_, fun p hp' t s hs => ?_⟩
  · obtain ⟨q1, q2⟩ := keepT_ok hG hφ1 t s hs
    exact ((hst.slots t s q1).keep q2).monoW hpe hT hbel.size hkeep hshp
  · rcases hfind k B hf with ⟨rfl, rfl⟩ | ⟨h1, rfl, rfl⟩ | ⟨h1, h2, h3, h4⟩
    · rcases hrow with ⟨g, cur, rfl, q1, q2, q3, q4⟩ | ⟨rfl, q1⟩
      · exact .inl ⟨g, hEnx, Lib.lt_of_heap q3, q4 _ _⟩
      · exact .inr ⟨hEnx, e, _, rfl, q1⟩
    · refine .inl ⟨b, by rw [hEne _ h1]; exact hE, Lib.lt_of_heap hb', [v, .int .i64 0, .int .i8 lr], hb', ?_⟩
      exact .one _ _ _ _ rfl (hv _ _ nx hEnx) (.one _ _ _ _ rfl (.int _ _ (inR_i64 (by omega) (by omega))) (.one _ _ _ _ rfl (.anyi _ _) .nil))
    · rcases hst.mem.blk k B h4 with ⟨k', q1, q2, q3⟩ | ⟨q1, q2⟩
      · refine .inl ⟨k', hold _ _ q1, Nat.lt_of_lt_of_le q2 hbel.size, ?_⟩
        have hh := (hoth k B k' h4 h2 h3 q1).1
        have hK' := bufK_at hK hφ2 k B h4 h2 h3
        cases B with
        | cells t l =>
          obtain ⟨cs, p1, p2⟩ := q3
          exact ⟨cs, hh.trans p1, (p2.keep hK'.2).monoW hpe hT hbel.size hkeep hshp⟩
        | row t x =>
          obtain ⟨cs, c, p1, p2, p3, p4, p5⟩ := q3
          exact ⟨cs, c, hh.trans p1, p2, p3, p4, fun i hi => ((p5 i hi).free_ (E' := fun _ => none) (hK'.2.items hi)).monoW (fun _ _ h => by cases h) hT hbel.size hkeep (fun _ _ _ h => by cases h)⟩
        | obj o => exact hK'.elim
      · exact .inr ⟨hold _ _ q1, q2⟩
  · obtain ⟨B1, f1⟩ := Option.isSome_iff_exists.1 h1
    obtain ⟨B2, f2⟩ := Option.isSome_iff_exists.1 h2
    have hx : ∀ k B, k ≠ nx → find ((nx, .row e (.u8 (r.l ++ m))) :: M1) k = some B → envWith E nx gx k = some (some k') → gx ≠ some k' := fun k B hk hf hEk hg => by
      rw [hEne _ hk] at hEk
      rcases hrow with ⟨g, cur, q0, q1, q2, q3, _⟩ | ⟨q0, _⟩
      · rw [hg] at q0
        cases q0
        rcases hfind k B hf with ⟨q, _⟩ | ⟨_, rfl, _⟩ | ⟨_, p1, p2, p3⟩
        · exact hk q
        · rw [hE] at hEk; cases hEk; exact q2 rfl
        · obtain ⟨p4, cs, t, p5, p6⟩ := hoth k B k' p3 p1 p2 hEk
          rw [p4, p5] at q3
          cases q3
          exact p6 rfl
      · rw [hg] at q0; cases q0
    by_cases e1 : k1 = nx
    · by_cases e2 : k2 = nx
      · omega
      · exfalso
        rw [e1, hEnx] at h3
        exact hx k2 B2 e2 f2 h4 (by simpa using h3)
    · by_cases e2 : k2 = nx
      · exfalso
        rw [e2, hEnx] at h4
        exact hx k1 B1 e1 f1 h3 (by simpa using h4)
      · rw [hEne _ e1] at h3
        rw [hEne _ e2] at h4
        have hs : ∀ k B, k ≠ nx → find ((nx, .row e (.u8 (r.l ++ m))) :: M1) k = some B → (find M k).isSome = true := fun k B hk hf => by
          rcases hfind k B hf with ⟨q, _⟩ | ⟨_, rfl, _⟩ | ⟨_, _, _, p3⟩
          · exact absurd q hk
          · rw [hfi]; rfl
          · rw [p3]; rfl
        exact hst.mem.inj k1 k2 k' (hs k1 B1 e1 f1) (hs k2 B2 e2 f2) h3 h4
  · rw [hEne _ hk.2]
    exact hst.fresh k hk.1
  · exact ⟨hbel.os.trans hst.kp.os, hbel.tape.trans hst.kp.tape, hbel.output.trans hst.kp.output, hst.kp.chg.of_heap hbel⟩
  · refine ⟨fun g x hg => (hst.glob.rep g x hg).monoW (fun _ _ h => by cases h) hT hbel.size hkeep (fun _ _ _ h => by cases h), fun g x hg => ?_⟩
    obtain ⟨t, ht⟩ := hst.glob.shp g x hg
    refine ⟨t, ?_⟩
    have hr := hst.glob.rep g x hg
    generalize hadr : (⟨g, 0, none⟩ : Addr) = ad at hr
    cases hr with
    | rop _ _ _ b' o c hT' _ _ _ _ _ hb =>
      have hgb : g = b' := congrArg Addr.block hadr
      subst hgb
      simpa only [World.shape?, hkeep g hb hT'] using ht
  · obtain ⟨q1, q2⟩ := hst.pin p hp' k x hx
    exact ⟨q1, hold _ _ q2⟩
  · refine (hst.held p hp' t s hs).monoW (fun _ _ h => h) hT hbel.size hkeep fun k k' x hEk hx => ?_
    obtain ⟨q1, q2⟩ := hst.pin p hp' k (some k') hEk
    exact hlive k (List.all_eq_true.1 hp k (by simpa using q1)) k' x q2 hx

/-! ### The rules -/
/-- What a method of a buffer writes, and what it returns. -/
def BufOk (P : Program) (e : TypeId) (f : FuncId) (args : List SV) (res : SV) (m : List UInt8) : Prop :=
  ∀ (T : TypeId) (B b : Nat) (l : List UInt8) (w : World) (vs : List Value), LibA.IsBuffer T (fun _ => none) e B b 0 (bytesC l) w → B ≤ w.heap.size → l.length + m.length ≤ 140737488355328 → Tup E0 (fun _ => False) w args vs →
    Calls P f (Value.pointer (some ⟨b, 0, none⟩) :: vs).toArray w fun en w' => (∃ v, en = .returned v ∧ ∀ (E : Env) (T : Nat → Prop) (w : World), Rep E T w res v) ∧ LibA.IsBuffer T (fun _ => none) e B b 0 (bytesC (l ++ m)) w' ∧ Below B w w' ∧ Lib.OthersKept e (some b) w w'
variable {Q0 : Exit → Act → World → Prop} {F' : Tr} {ids' : List Nat} {k : List Kont}
theorem Sat.buf {full rest : List Oper} {d : Option Tmp} {x : Operand} {f : FuncId} {xs : List Operand} {ats : Array TypeId} {type : TypeId} {pos : String} {after : Array Edge} {svs args : List SV} {res : SV} {i : Nat} {e : TypeId} {m : List UInt8}
    (hspec : BufOk C.P e f args res m) (hx : argsF C.Γ F x xs = some (f, .ptr i 0 :: svs)) (hc : callable C.P f = true) (hconv : Convs M svs args) (hb : bufM C.pins e F M i nx m = some ⟨G, M', φ⟩) (hφ : AllP φ) (hp : putD C.N G d (some res) some = some F')
    (hS : ∀ b, ¬ C.S b) (hW : ∀ b, C.W0.heap.size ≤ b → C.T0 b) (h : Sat C Q0 (.reg full rest F' M' ids' k)) :
    Sat C Q0 (.reg full (⟨d, .call ⟨.value x, ⟨xs⟩, ats⟩, type, pos, after, none⟩ :: rest) F M (nx :: ids') k) := by
  intro U E a w hsup hst
  obtain ⟨F1, h1, h2⟩ := putD_inv hp
  cases h1
  refine wpList_plain rfl fun K hK => ?_
  unfold Oper.wp
  obtain ⟨vs, ht, hex⟩ := argsF_ok hst.vw hx
  rw [hex, run_callFunc_go hc]
  obtain ⟨r, φ1, φ2, M1, q1, q2, q3, q4, q5, q6, q7, q8, q9, rfl⟩ := bufM_inv hb hφ
  cases ht with
  | cons _ v0 _ vs hr ht =>
  cases hr with
  | ptr _ _ b hE =>
  have ht' := Convs.tups (T' := fun _ => False) hst.mem (fun _ _ h => h.elim) (fun _ _ _ _ h => h) hconv ht
  refine (hspec r.t C.W0.heap.size b r.l w vs (buf_in hst hS q1 q2 hE) hst.kp.chg.size q3 ht').mono ?_
  rintro en w' ⟨⟨v, rfl, hv⟩, hB, hbel, hok⟩
  obtain ⟨E', hst'⟩ := buf_out hst hsup.1 hS hW q1 q2 hE q4 q5 q6 q7 q8 q9 hB hbel hok
  exact hK _ _ (h _ E' _ w' hsup.2 (hst'.putD h2 fun s' hs' => by cases hs'; exact hv _ _ _))
/-- A pure call in the mode in which everything new is hidden: its result is no memory. -/
theorem Sat.callW {full rest : List Oper} {d : Option Tmp} {x : Operand} {f : FuncId} {xs : List Operand} {ats : Array TypeId} {type : TypeId} {pos : String} {after : Array Edge} {svs args : List SV} {res : SV} {ids : List Nat}
    (hspec : Fun C.P C.Γ f args res) (hrig : rigid res = true) (hx : argsF C.Γ F x xs = some (f, svs)) (hc : callable C.P f = true) (hconv : Convs [] svs args) (hp : putD C.N F d (some res) some = some F') (h : Sat C Q0 (.reg full rest F' M ids k)) :
    Sat C Q0 (.reg full (⟨d, .call ⟨.value x, ⟨xs⟩, ats⟩, type, pos, after, none⟩ :: rest) F M ids k) := by
  intro U E a w hsup hst
  obtain ⟨F1, h1, h2⟩ := putD_inv hp
  cases h1
  refine wpList_plain rfl fun K hK => ?_
  unfold Oper.wp
  obtain ⟨vs, ht, hex⟩ := argsF_ok hst.vw hx
  rw [hex, run_callFunc_go hc]
  have hH : MOk E (trk C.T0 M E) [] w := ⟨fun id B hf => by simp [find] at hf, fun id id' b hf => by simp [find] at hf⟩
  have hT : ∀ b, trk C.T0 M E b ∧ b < w.heap.size → trk C.T0 M E b := fun b h => h.1
  have ht' := Convs.tups (T' := fun b => trk C.T0 M E b ∧ b < w.heap.size) hH (fun b h1 h2 => h2.1) (fun id b hf => by simp [find] at hf) hconv ht
  refine (hspec (fun b => trk C.T0 M E b ∧ b < w.heap.size) w _ (fun b h => h.2) (hst.glob.mono (fun b _ h => h.1) (Chg.refl _ w)) ht').mono ?_
  rintro e w' ⟨v, rfl, hr, hb⟩
  exact hK _ _ (h U E _ w' hsup ((hst.below hb).putD h2 fun s' hs' => by cases hs'; exact hr.rigid_ hrig))
/-- What lies in blocks that are no longer there is forgotten. -/
theorem Sat.drop {c : Code} {ids : List Nat} (hG : keepT (idsM none M) F = some (G, φ)) (hφ : AllP φ) (h : Sat C Q0 (.code c G M ids k)) : Sat C Q0 (.code c F M ids k) := fun U E a w hsup hst =>
  h U E a w hsup ⟨hst.defers, hst.size, fun t s hs => hst.slots t s (keepT_ok hG hφ t s hs).1, hst.mem, hst.own, hst.fresh, hst.kp, hst.hid, hst.glob, hst.pin, hst.held⟩
theorem killF_inv : ∀ {l : List Nat} {F : Tr} {K : Tr → Option Tr} {r : Tr}, killF l F K = some r → ∃ F', K F' = some r ∧ ∀ t s, F'.get t = some s → F.get t = some s
  | [], F, K, r, h => ⟨F, h, fun _ _ h => h⟩
  | d :: l, F, K, r, h => by
    simp only [killF] at h
    obtain ⟨F1, h1, h2⟩ := Tr.putK_eq F d none _ r h
    obtain ⟨F2, h3, h4⟩ := killF_inv h2
    refine ⟨F2, h3, fun t s hs => ?_⟩
    have := h4 t s hs
    rw [Tr.get_put F F1 d none h1] at this
    split at this
    · cases this
    · exact this
/-- Some slots are forgotten. -/
theorem Sat.kill {c : Code} {ids : List Nat} (l : List Nat) (hG : killF l F some = some G) (h : Sat C Q0 (.code c G M ids k)) : Sat C Q0 (.code c F M ids k) := fun U E a w hsup hst => by
  obtain ⟨F1, h1, h2⟩ := killF_inv hG
  cases h1
  exact h U E a w hsup ⟨hst.defers, hst.size, fun t s hs => hst.slots t s (h2 t s hs), hst.mem, hst.own, hst.fresh, hst.kp, hst.hid, hst.glob, hst.pin, hst.held⟩
/-- The mode is left. -/
theorem Sat.narrow {P : Program} {W0 : World} {S T : Nat → Prop} {Γ : Glob} {N : Nat} {c : Cfg} (hT : ∀ b, T b → b < W0.heap.size) (hS : ∀ b, ¬ S b) (h : Sat ⟨P, W0, S, T, Γ, N, [], [], false⟩ Q0 c) :
    Sat ⟨P, W0, S, fun b => T b ∨ W0.heap.size ≤ b, Γ, N, [], [], true⟩ Q0 c := by
  have key : ∀ {F M U E a w}, St ⟨P, W0, S, fun b => T b ∨ W0.heap.size ≤ b, Γ, N, [], [], true⟩ F M U E a w → St ⟨P, W0, S, T, Γ, N, [], [], false⟩ F M U E a w := fun {F M U E a w} hst => by
    have ht : ∀ b, b < w.heap.size → trk T M E b → trk (fun b => T b ∨ W0.heap.size ≤ b) M E b := by
      rintro b _ (h | h)
      · exact .inl h
      · exact .inr (.inl h)
    refine ⟨hst.defers, hst.size, fun t s hs => (hst.slots t s hs).mono (fun _ _ h => h) ht (Chg.refl _ w), ⟨fun id B hf => ?_, hst.mem.inj⟩, hst.own, hst.fresh, hst.kp, fun b hb => .inl ⟨hT b hb, hS b⟩, hst.glob.mono ht (Chg.refl _ w), fun p hp => (by cases hp), fun p hp => (by cases hp)⟩
    rcases hst.mem.blk id B hf with ⟨b, h1, h2, h3⟩ | h1
    · exact .inl ⟨b, h1, h2, h3.mono (fun _ _ h => h) ht (Chg.refl _ w) rfl⟩
    · exact .inr h1
  cases c with
  | reg full rest F M ids k => exact fun U E a w hsup hst => h U E a w hsup (key hst)
  | qreg full rest F M ids k => exact fun U E a w hsup hst => h U E a w hsup (key hst)
  | code c F M ids k => exact fun U E a w hsup hst => h U E a w hsup (key hst)
  | ext e F M ids k => exact fun U E a w hsup hst => h U E a w hsup (key hst)
/-- **A contract, by a walk in which everything new is hidden from what is read.** -/
theorem Fun.mkW {P : Program} {Γ : Glob} {f : FuncId} {fn : Func} {c : Code} {N : Nat} {args : List SV} {res : SV} {F : Tr} (dep : Nat) (hf : P.funcs[f]? = some fn) (hb : fn.body = some c) (hN : fn.ntmps = N) (hle : Nat.ble args.length N = true) (hF : argT 0 args (Tr.mk dep) = some F)
    (h : ∀ (T : Nat → Prop) (w : World), (∀ b, T b → b < w.heap.size) → Sat ⟨P, w, fun _ => False, fun b => T b ∨ w.heap.size ≤ b, Γ, N, [], [], true⟩ (bodyPost P fn (Post T w res)) (.code c F [] ids0 [])) : Fun P Γ f args res := by
  intro T w vs hT hG ht
  have hle' := Nat.le_of_ble_eq_true hle
  have hlen := ht.len
  have hT1 : ∀ b, b < w.heap.size → trk (fun b => T b ∨ w.heap.size ≤ b) [] E0 b → T b := fun b hlt hb => by
    rcases hb with ⟨id, B, hf, _⟩ | h0 | h0
    · simp [find] at hf
    · exact h0
    · omega
  refine calls_of_wp hf hb (h T w hT (fun _ => True) E0 _ w ?_ ⟨rfl, ?_, fun t s hs => ?_, ⟨fun id B hf => by simp [find] at hf, fun id id' b hf => by simp [find] at hf⟩, fun id b hf => by simp [find] at hf, fun _ _ => rfl, ⟨rfl, rfl, rfl, Chg.refl _ w⟩, fun b hb => .inr rfl, hG.mono hT1 (Chg.refl _ w), fun p hp => (by cases hp), fun p hp => (by cases hp)⟩)
  · have : ∀ (l : List Nat) (n : Nat) (U : Nat → Prop), (∀ i, i < l.length → l[i]? = some (n + i)) → (∀ k, n ≤ k → U k) → Sup l U := by
      intro l
      induction l with
      | nil => intro n _ _ _; trivial
      | cons i r ih =>
        intro n U hl hU
        have hi : i = n := by simpa using hl 0 (by simp)
        refine ⟨hU i (by omega), ih (n + 1) _ (fun j hj => ?_) fun k hk => ⟨hU k (by omega), by omega⟩⟩
        have := hl (j + 1) (by simpa using hj)
        simpa [Nat.add_assoc, Nat.add_comm 1 j] using this
    exact this ids0 0 _ (by decide) fun _ _ => trivial
  · simp only [Array.size_append, List.size_toArray, Array.size_replicate, hlen, hN]; omega
  · rcases argT_get hF ht t s hs with ⟨q1, _⟩ | ⟨_, v, q2, q3⟩ | ⟨_, q2⟩
    · omega
    · have hlt : t < vs.length := by simpa using (List.getElem?_eq_some_iff.1 q2).1
      have : (vs.toArray ++ Array.replicate (fn.ntmps - vs.toArray.size) undef).getD t undef = v := by
        rw [Array.getD_eq_getD_getElem?, Array.getElem?_append_left (by simpa using hlt)]
        simp only [Nat.sub_zero] at q2
        simp [q2]
      rw [this]
      exact q3.mono (fun _ _ h => h) hT1 (Chg.refl _ w)
    · rw [mk_get] at q2; cases q2

theorem buf_find {M1 : Mem} {i nx : Nat} {j : Option Nat} {B B' : Blk} (hM : upd (delO M j) i B = some M1) (id : Nat) : find ((nx, B') :: M1) id = (look ((nx, some B') :: (i, some B) :: odCh j) id).getD (find M id) := by
  rw [find_cons]
  simp only [look]
  by_cases h1 : id = nx
  · subst h1
    simp
  · have : Nat.beq nx id = false := by
      cases h : Nat.beq nx id with
      | false => rfl
      | true => exact absurd (Nat.eq_of_beq_eq_true h).symm h1
    rw [if_neg h1, this, find_upd hM]
    by_cases h2 : id = i
    · subst h2
      simp
    · have : Nat.beq i id = false := by
        cases h : Nat.beq i id with
        | false => rfl
        | true => exact absurd (Nat.eq_of_beq_eq_true h).symm h2
      rw [if_neg h2, this]
      cases j with
      | none => rfl
      | some j =>
        simp only [delO, find_del, odCh, look]
        by_cases h3 : id = j
        · subst h3
          simp
        · have : Nat.beq j id = false := by
            cases h : Nat.beq j id with
            | false => rfl
            | true => exact absurd (Nat.eq_of_beq_eq_true h).symm h3
          rw [if_neg h3, this]
          rfl
/-- The same in a region that draws its order: all the others have come up. -/
theorem DSat.buf {full rest : List Oper} {F0 : Tr} {M0 : Mem} {ids0 : List Nat} {n : Nat} {hist : List Ent} {d : Option Tmp} {x : Operand} {f : FuncId} {xs : List Operand} {ats : Array TypeId} {type : TypeId} {pos : String} {after : Array Edge} {svs args : List SV} {res : SV} {i : Nat} {e : TypeId} {m : List UInt8} {r : BufR}
    (hspec : BufOk C.P e f args res m) (hx : argsF C.Γ F x xs = some (f, .ptr i 0 :: svs)) (hc : callable C.P f = true) (hconv : Convs M svs args) (hr : bufAt e M i = some r) (hb : bufM C.pins e F M i nx m = some ⟨F, M', φ⟩) (hφ : AllP φ) (hp : putD C.N F d (some res) some = some F')
    (hS : ∀ b, ¬ C.S b) (hW : ∀ b, C.W0.heap.size ≤ b → C.T0 b)
    (h : DSat C Q0 k full F0 M0 ids0 (n + 1) (⟨n, d, some res, some nx, (nx, some (.row e (.u8 (r.l ++ m)))) :: (i, some (.cells r.t [.bsl nx (r.l ++ m).length, .int .i64 0, .anyi .i8])) :: odCh r.j, [], true⟩ :: hist) rest F' M' ids') :
    DSat C Q0 k full F0 M0 ids0 n hist (⟨d, .call ⟨.value x, ⟨xs⟩, ats⟩, type, pos, after, none⟩ :: rest) F M (nx :: ids') := by
  intro D
  obtain ⟨F1, h1, h2⟩ := putD_inv hp
  cases h1
  obtain ⟨p1, p2⟩ := putD_get h2
  obtain ⟨r', φ1, φ2, M1, q1, q2, q3, q4, q5, q6, q7, q8, q9, rfl⟩ := bufM_inv hb hφ
  rw [hr] at q1
  cases q1
  refine h (D.step (fun ho Q K Fa Ma U E a w u1 u2 u4 u3 hst hK => ?_) rfl rfl p2 (fun id => buf_find q9 id) rfl)
  obtain ⟨v1, v2⟩ := u4 rfl
  have hst' : St C F M U E a w := hst.ext (fun t => (v1 t).symm) (fun id => (v2 id).symm) fun _ h => h
  refine wpOp_plain ho rfl ?_
  unfold Oper.wp
  obtain ⟨vs, ht, hex⟩ := argsF_ok hst'.vw hx
  rw [hex, run_callFunc_go hc]
  cases ht with
  | cons _ v0 _ vs hr0 ht =>
  cases hr0 with
  | ptr _ _ b hE =>
  have ht' := Convs.tups (T' := fun _ => False) hst'.mem (fun _ _ h => h.elim) (fun _ _ _ _ h => h) hconv ht
  refine (hspec r.t C.W0.heap.size b r.l w vs (buf_in hst' hS hr q2 hE) hst'.kp.chg.size q3 ht').mono ?_
  rintro en w' ⟨⟨v, rfl, hv⟩, hB, hbel, hok⟩
  obtain ⟨E', hst2⟩ := buf_out hst' (u3 nx rfl) hS hW hr q2 hE q4 q5 q6 q7 q8 q9 hB hbel hok
  refine hK F' _ (V.rest U nx) E' _ w' (fun t => ?_) (fun id => ?_) (fun k => ⟨fun h => ⟨h.1, fun e => h.2 (by cases e; rfl)⟩, fun h => ⟨h.1, fun e => h.2 (by rw [e])⟩⟩) (hst2.putG p1 p2 fun s' hs' => by cases hs'; exact hv _ _ _)
  · rw [p2 t, v1 t]
  · rw [buf_find q9 id, v2 id]
theorem Fun.mkWF {P : Program} {Γ : Glob} {f : FuncId} {fn : Func} {c : Code} {N : Nat} {args : List SV} {res : SV} {F : Tr} (dep : Nat) (hf : P.funcs[f]? = some fn) (hb : fn.body = some c) (hN : fn.ntmps = N) (hle : Nat.ble args.length N = true) (hF : argT 0 args (Tr.mk dep) = some F)
    (h : factsL args → ∀ (T : Nat → Prop) (w : World), (∀ b, T b → b < w.heap.size) → Sat ⟨P, w, fun _ => False, fun b => T b ∨ w.heap.size ≤ b, Γ, N, [], [], true⟩ (bodyPost P fn (Post T w res)) (.code c F [] ids0 [])) : Fun P Γ f args res :=
  fun T w vs hT hG ht => Fun.mkW dep hf hb hN hle hF (h ht.facts) T w vs hT hG ht
end
end Go.Proofs.YtegbdcadlmefgaaDoor.V
end
section
namespace Go.Proofs.YtegbdcadlmefgaaDoor
open Go.RowKit V
theorem bytesC_byte (c : Int) (h : inR .u8 c) : bytesC [UInt8.ofNat c.toNat] = [.int .u8 c] := by
  have h1 : 0 ≤ c ∧ c ≤ 255 := h
  simp only [bytesC, Lib.byteCells, List.map_cons, List.map_nil]
  congr 2
  rw [UInt8.toNat_ofNat_of_lt' (by show c.toNat < 256; omega)]
  omega
theorem buf_byte (c : Int) : BufOk Tryd.prog 5 90 [.int .u8 c] .nili [UInt8.ofNat c.toNat] := by
  intro T B b l w vs hI hB hlim ht
  cases ht with
  | cons _ v _ _ hr hl =>
  cases hl
  cases hr with
  | int _ _ hc =>
  refine (Tryd.Buffer_WriteByte_at T (fun _ => none) B b 0 (bytesC l) c w hI hB (bytesC_one l) (by rw [bytesC_len]; exact hlim)).mono ?_
  rintro e w' ⟨rfl, h1, h2, h3⟩
  exact ⟨⟨_, rfl, fun E T w => .nili⟩, by rw [bytesC_app, bytesC_byte c hc]; exact h1, h2, h3⟩
theorem buf_str (s : List UInt8) : BufOk Tryd.prog 5 93 [.str s] (.tup [.int .i64 (s.length : Int), .nili]) s := by
  intro T B b l w vs hI hB hlim ht
  cases ht with
  | cons _ v _ _ hr hl =>
  cases hl
  cases hr with
  | str _ hs =>
  refine (Tryd.Buffer_WriteString_at T (fun _ => none) B b 0 (bytesC l) ⟨s.toArray⟩ w hI hB (bytesC_one l) (by rw [bytesC_len]; exact hlim)).mono ?_
  rintro e w' ⟨rfl, h1, h2, h3⟩
  refine ⟨⟨_, rfl, fun E T w => .tup _ [_, _] (.cons _ _ _ _ (.int _ _ (inR_i64 (by omega) ?_)) (.cons _ _ _ _ .nili .nil))⟩, by rw [bytesC_app]; exact h1, h2, h3⟩
  unfold okLen at hs
  omega
theorem buf_write (m : List UInt8) (hm : m ≠ []) : BufOk Tryd.prog 5 46 [.ro (.u8 m)] (.tup [.int .i64 (m.length : Int), .nili]) m := by
  intro T B b l w vs hI hB hlim ht
  have hm0 : 0 < m.length := List.length_pos_iff.2 hm
  cases ht with
  | cons _ v _ _ hr hl =>
  cases hl
  cases hr with
  | ro0 _ h => simp only [EV.len] at h; omega
  | ro1 _ _ h => simp only [EV.len] at h; omega
  | ro _ bb o n k c hT hn hc hr he hl ok hb =>
  simp only [EV.len, EV.sz, Nat.mul_one] at he hn hc hr
  have hat : ∀ j v, (bytesC m)[j]? = some v → w.cell? ((⟨bb, o, none⟩ : Addr).add j) = some v := fun j v hv => by
    rcases Nat.lt_or_ge j m.length with hj | hj
    · rw [bytesC_at m j hj] at hv
      cases hv
      have hI := hr j hj
      have hcj := hc j 0
      simp only [EV.items] at hI
      generalize c j = cj at hI hcj
      cases hI with
      | one _ cv _ _ p0 pr pI =>
        cases pr
        rw [Lib.addr_add]
        exact hcj _ hj rfl
    · rw [List.getElem?_eq_none (by rw [bytesC_len]; exact hj)] at hv
      cases hv
  have hne : bb ≠ b := by
    intro hbb
    subst hbb
    obtain ⟨_, v0, lr, h3, _, _⟩ := hI
    have hh := three_whole' h3
    have := hat 0 _ (bytesC_at m 0 hm0)
    rw [Lib.addr_add, Lib.cell_of_heap hh] at this
    match o, this with
    | 0, this =>
      simp at this
      subst this
      rename_i hown hne
      rcases hown.2 with ⟨h, _⟩ | ⟨_, _, _, h, _⟩ <;> cases h
    | 1, this => simp at this
    | 2, this => simp at this
    | o + 3, this => simp at this
  refine (Tryd.Buffer_Write_at T (fun _ => none) B b 0 (bytesC l) (bytesC m) ⟨bb, o, none⟩ n k w hI hB (bytesC_one l) (by rw [bytesC_len]; exact he.symm) hne hat (bytesC_one m) (by rw [bytesC_len, he]; exact hlim)).mono ?_
  rintro e w' ⟨rfl, h1, h2, h3⟩
  subst he
  refine ⟨⟨_, rfl, fun E T w => .tup _ [_, _] (.cons _ _ _ _ (.int _ _ (inR_i64 (by omega) ?_)) (.cons _ _ _ _ .nili .nil))⟩, by rw [bytesC_app]; exact h1, h2, h3⟩
  unfold okLen at ok
  omega
end Go.Proofs.YtegbdcadlmefgaaDoor
end
section
namespace Go.Proofs.YtegbdcadlmefgaaDoor
open Go.RowKit V
--PURE: (intro _ _; simp [pureL, pureS, pureE]; done)
set_option maxRecDepth 100000
set_option maxHeartbeats 8000000
set_option linter.unusedSimpArgs false
attribute [local irreducible] V.Sat V.DSat
theorem rel_facts (r : Rel) (h : factsL [r.v]) : r.image.length = 32 ∧ r.tree.length = 32 ∧ (∀ i, i < r.gone.length → inR .i64 (r.gone.getD i 0)) ∧ ∀ i, i < r.parts.length → okLen (r.parts.getD i part0).name.length ∧ (r.parts.getD i part0).hash.length = 32 := by
  simp only [factsL, factsS, Rel.v, EV.len, EV.sz, Nat.mul_one] at h
  obtain ⟨⟨-, -, -, -, ⟨h1, -⟩, -, ⟨h2, -⟩, ⟨-, h3⟩, ⟨-, h4⟩, -⟩, -⟩ := h
  refine ⟨h1, h2, h3, fun i hi => ?_⟩
  have h5 := h4 i hi
  simp only [factsL, factsS, EV.len, EV.sz, Nat.mul_one] at h5
  exact ⟨h5.1, h5.2.1.1⟩
theorem bytes_f (r : Rel) (hv : validB r = false) : Fun Tryd.prog [] 15 [r.v] .nils := by
  have h1 := valid_spec r
  rw [hv] at h1
  refine Fun.mkF 7 Tryd.func15 rfl Tryd.ntmps15 rfl rfl fun hf T w0 => ?_
  obtain ⟨v, fl, ex, sz, im, ch, tr, go, pa⟩ := r
  repeat' (first
      | ((with_reducible apply Sat.run (X := X64)); exact rfl; (first | exact True.intro | (exact phi) | skip))
      | ((with_reducible apply Sat.drawn); kernel_rfl)
      | ((with_reducible apply DSat.run (X := X64)); exact rfl; (first | exact True.intro | (exact phi) | skip))
      | ((with_reducible apply DSat.fin); kernel_rfl)
      | ((with_reducible apply Sat.cond_t); exact rfl)
      | ((with_reducible apply Sat.cond_f); exact rfl)
      | ((with_reducible apply Sat.cond_pt); exact rfl; (try dsimp only [V.EV.sub, V.EV.len]); first | assumption | omega)
      | ((with_reducible apply Sat.cond_pf); exact rfl; (try dsimp only [V.EV.sub, V.EV.len]); first | assumption | omega)
      | ((with_reducible apply Sat.cond_p); exact rfl; all_goals intro h)
      | ((with_reducible apply Sat.cond); exact rfl; all_goals intro h)
      | ((with_reducible apply Sat.callR (h1)); exact rfl; exact rfl; exact rfl; kernel_rfl; (exact cnvX); exact rfl)
      | ((with_reducible apply DSat.callR (h1)); exact rfl; exact rfl; exact rfl; kernel_rfl; (exact cnvX); exact rfl) | fail)
  (refine Sat.fin (Sat.end1 rfl rfl rfl True.intro (.refl _ purX) (by first | exact .inl rfl | exact .inr rfl) (fun _ h => h)) ?_; rfl)
@[reducible] def nb (n : Int) (k : Nat) : UInt8 := UInt8.ofNat (IntKind.u8.wrap (n / 2 ^ k)).toNat
def num1 (n : Int) : List UInt8 := [nb n 0]
def num2 (n : Int) : List UInt8 := [nb n 8, nb n 0]
def num4 (n : Int) : List UInt8 := [nb n 24, nb n 16, nb n 8, nb n 0]
def partsW (l : List PartL) : List UInt8 := l.flatMap fun p => num1 p.name.length ++ p.name ++ p.hash
def hdr (v fl ex sz : Int) (im : List UInt8) (ch : Int) (tr : List UInt8) (n : Int) : List UInt8 := num1 86 ++ num2 v ++ num2 fl ++ num4 ex ++ num4 sz ++ im ++ num2 ch ++ tr ++ num1 n
/-- The bytes of a release. -/
def bytesR (r : Rel) : List UInt8 := hdr r.version r.floor r.expiry r.size r.image r.chunks r.tree r.gone.length ++ r.gone.flatMap num2 ++ num1 r.parts.length ++ partsW r.parts
theorem hdr_walk (v fl ex sz : Int) (im : List UInt8) (ch : Int) (tr : List UInt8) (n : Int) : [] ++ [nb 86 (8 * (1 - 1) : Int).toNat] ++ [nb v (8 * (2 - 1) : Int).toNat] ++ [nb v (8 * (2 - 1 - 1) : Int).toNat] ++ [nb fl (8 * (2 - 1) : Int).toNat] ++ [nb fl (8 * (2 - 1 - 1) : Int).toNat]
    ++ [nb ex (8 * (4 - 1) : Int).toNat] ++ [nb ex (8 * (4 - 1 - 1) : Int).toNat] ++ [nb ex (8 * (4 - 1 - 1 - 1) : Int).toNat] ++ [nb ex (8 * (4 - 1 - 1 - 1 - 1) : Int).toNat] ++ [nb sz (8 * (4 - 1) : Int).toNat] ++ [nb sz (8 * (4 - 1 - 1) : Int).toNat] ++ [nb sz (8 * (4 - 1 - 1 - 1) : Int).toNat] ++ [nb sz (8 * (4 - 1 - 1 - 1 - 1) : Int).toNat]
    ++ im ++ [nb ch (8 * (2 - 1) : Int).toNat] ++ [nb ch (8 * (2 - 1 - 1) : Int).toNat] ++ tr ++ [nb n (8 * (1 - 1) : Int).toNat] = hdr v fl ex sz im ch tr n := by
  have e : ∀ a : Int, (8 * (1 - 1) : Int).toNat = 0 ∧ (8 * (2 - 1) : Int).toNat = 8 ∧ (8 * (2 - 1 - 1) : Int).toNat = 0 ∧ (8 * (4 - 1) : Int).toNat = 24 ∧ (8 * (4 - 1 - 1) : Int).toNat = 16 ∧ (8 * (4 - 1 - 1 - 1) : Int).toNat = 8 ∧ (8 * (4 - 1 - 1 - 1 - 1) : Int).toNat = 0 := fun _ => by decide
  obtain ⟨e1, e2, e3, e4, e5, e6, e7⟩ := e 0
  rw [e1, e2, e3, e4, e5, e6, e7]
  simp only [hdr, num1, num2, num4, List.append_assoc, List.nil_append, List.cons_append]
theorem take_flat {α β : Type} (f : α → List β) (l : List α) (d : α) (i : Nat) (h : i < l.length) : (l.take (i + 1)).flatMap f = (l.take i).flatMap f ++ f (l.getD i d) := by
  rw [List.take_add_one, List.flatMap_append]
  simp [List.getD_eq_getElem?_getD, h]
theorem num2_walk (L : List UInt8) (v : Int) : L ++ [nb v (8 * (2 - 1) : Int).toNat] ++ [nb v (8 * (2 - 1 - 1) : Int).toNat] = L ++ num2 v := by
  have e : ∀ a : Int, (8 * (2 - 1) : Int).toNat = 8 ∧ (8 * (2 - 1 - 1) : Int).toNat = 0 := fun _ => by decide
  obtain ⟨e1, e2⟩ := e 0
  rw [e1, e2, List.append_assoc]; rfl
theorem num1_walk (L : List UInt8) (v : Int) : L ++ [nb v (8 * (1 - 1) : Int).toNat] = L ++ num1 v := by
  have e : ∀ a : Int, (8 * (1 - 1) : Int).toNat = 0 := fun _ => by decide
  rw [e 0]; rfl
@[reducible] def killP : List Nat := [3, 21, 24, 25, 26, 27, 28, 29, 30, 31, 32, 33, 34, 35, 36, 37, 38, 39, 40, 41, 42, 43, 44, 45, 46, 47, 48, 49, 50, 51, 52, 53, 54, 55, 56, 57, 58, 59]
theorem name_len {r : Rel} (hv : validB r = true) (i : Nat) (hi : i < r.parts.length) : (r.parts.getD i part0).name.length ≤ 20 := by
  unfold validB at hv
  simp only [Bool.and_eq_true] at hv
  have h4 := hv.2.2.2
  unfold valid4 at h4
  have h5 := (of_decide_eq_true h4 i hi).1
  generalize (r.parts.getD i part0).name = s at h5 ⊢
  unfold nameB inB at h5
  simp at h5
  omega
theorem bytes_t (v fl ex sz : Int) (im : List UInt8) (ch : Int) (tr : List UInt8) (go : List Int) (pa : List PartL) (hv : validB ⟨v, fl, ex, sz, im, ch, tr, go, pa⟩ = true) : Fun Tryd.prog [] 15 [.agg [.int .i64 v, .int .i64 fl, .int .i64 ex, .int .i64 sz, .arr 32 (.u8 im), .int .i64 ch, .arr 32 (.u8 tr), .ro (.ints .i64 go), .ro (partsE pa)]] (.ro (.u8 (bytesR ⟨v, fl, ex, sz, im, ch, tr, go, pa⟩))) := by
  have h1 : Fun Tryd.prog [] 12 [.agg [.int .i64 v, .int .i64 fl, .int .i64 ex, .int .i64 sz, .arr 32 (.u8 im), .int .i64 ch, .arr 32 (.u8 tr), .ro (.ints .i64 go), .ro (partsE pa)]] (.bool (validB ⟨v, fl, ex, sz, im, ch, tr, go, pa⟩)) := valid_spec ⟨v, fl, ex, sz, im, ch, tr, go, pa⟩
  rw [hv] at h1
  refine Fun.mkWF 7 Tryd.func15 rfl Tryd.ntmps15 rfl rfl fun hf T w0 hT => ?_
  obtain ⟨l1, l2, -, l4⟩ := rel_facts ⟨v, fl, ex, sz, im, ch, tr, go, pa⟩ hf
  dsimp only at l1 l2 l4
  have k1 : 32 = im.length := l1.symm
  have k2 : 32 = tr.length := l2.symm
  have him : im ≠ [] := fun h => by rw [h] at k1; cases k1
  have htr : tr ≠ [] := fun h => by rw [h] at k2; cases k2
  clear l1 l2 hf
  have hg : go.length ≤ 16 := by
    unfold validB valid2 at hv; simp at hv; omega
  have hp : pa.length ≤ 8 := by
    unfold validB valid2 at hv; simp at hv; omega
  have hn : ∀ i, i < pa.length → (pa.getD i part0).name.length ≤ 20 := fun i hi => name_len hv i hi
  clear hv
  have b1 := buf_byte
  have b2 := buf_write im him
  have b3 := buf_write tr htr
  clear him htr
  repeat' (first
      | ((with_reducible apply Sat.run (X := X64)); exact rfl; (first | exact True.intro | (exact phi) | skip))
      | ((with_reducible apply Sat.drawn); kernel_rfl)
      | ((with_reducible apply DSat.run (X := X64)); exact rfl; (first | exact True.intro | (exact phi) | skip))
      | ((with_reducible apply DSat.fin); kernel_rfl)
      | ((with_reducible apply Sat.cond_t); exact rfl)
      | ((with_reducible apply Sat.cond_f); exact rfl)
      | ((with_reducible apply Sat.cond_pt); exact rfl; (try dsimp only [V.EV.sub, V.EV.len]); first | assumption | omega)
      | ((with_reducible apply Sat.cond_pf); exact rfl; (try dsimp only [V.EV.sub, V.EV.len]); first | assumption | omega)
      | ((with_reducible apply Sat.cond_p); exact rfl; all_goals intro h)
      | ((with_reducible apply Sat.cond); exact rfl; all_goals intro h)
      | ((with_reducible apply Sat.callW (h1)); exact rfl; exact rfl; kernel_rfl; (exact cnvX); exact rfl)
      | ((with_reducible apply Sat.inl 7 kill3 Tryd.func45 Tryd.ntmps45); exact rfl; exact rfl; kernel_rfl; exact rfl; exact rfl; exact rfl; exact rfl; ((repeat' (first | exact AllP.nil | with_reducible refine AllP.cons ?_ ?_)) <;> (first | exact True.intro | exact purX)); intro _ _)
      | ((with_reducible apply Sat.out1 (C := ⟨_, _, _, _, _, _, _, _, _⟩)); exact rfl; (first | exact .inl rfl | exact .inr rfl); exact rfl; (exact phi); exact rfl)
      | ((with_reducible apply Sat.out0 (C := ⟨_, _, _, _, _, _, _, _, _⟩)); exact rfl; (first | exact .inl rfl | exact .inr rfl); exact rfl)
      | ((with_reducible apply Sat.out2 (C := ⟨_, _, _, _, _, _, _, _, _⟩)); exact rfl; (first | exact .inl rfl | exact .inr rfl); exact rfl; (exact phi); exact rfl; (exact phi); exact rfl)
      | (with_reducible apply Sat.unroll 40)
      | (with_reducible apply Sat.again)
      | ((with_reducible apply Sat.buf (b1 _)); exact rfl; kernel_rfl; (exact cnvX); exact rfl; ((repeat' (first | exact AllP.nil | with_reducible refine AllP.cons ?_ ?_)) <;> (first | exact rfl | exact True.intro | omega | (simp only [List.length_append, List.length_cons, List.length_nil]; done) | (simp only [List.length_append, List.length_cons, List.length_nil]; omega) | (simp only [List.length_append, List.length_cons, List.length_nil, *]; omega) | exact purX)); exact rfl; (exact fun _ h => h); (exact fun _ h => Or.inr h))
      | ((with_reducible apply DSat.buf (b1 _)); exact rfl; kernel_rfl; (exact cnvX); exact rfl; exact rfl; ((repeat' (first | exact AllP.nil | with_reducible refine AllP.cons ?_ ?_)) <;> (first | exact rfl | exact True.intro | omega | (simp only [List.length_append, List.length_cons, List.length_nil]; done) | (simp only [List.length_append, List.length_cons, List.length_nil]; omega) | (simp only [List.length_append, List.length_cons, List.length_nil, *]; omega) | exact purX)); exact rfl; (exact fun _ h => h); (exact fun _ h => Or.inr h))
      | ((with_reducible apply Sat.buf (b2)); exact rfl; kernel_rfl; (exact cnvX); exact rfl; ((repeat' (first | exact AllP.nil | with_reducible refine AllP.cons ?_ ?_)) <;> (first | exact rfl | exact True.intro | omega | (simp only [List.length_append, List.length_cons, List.length_nil]; done) | (simp only [List.length_append, List.length_cons, List.length_nil]; omega) | (simp only [List.length_append, List.length_cons, List.length_nil, *]; omega) | exact purX)); exact rfl; (exact fun _ h => h); (exact fun _ h => Or.inr h))
      | ((with_reducible apply DSat.buf (b2)); exact rfl; kernel_rfl; (exact cnvX); exact rfl; exact rfl; ((repeat' (first | exact AllP.nil | with_reducible refine AllP.cons ?_ ?_)) <;> (first | exact rfl | exact True.intro | omega | (simp only [List.length_append, List.length_cons, List.length_nil]; done) | (simp only [List.length_append, List.length_cons, List.length_nil]; omega) | (simp only [List.length_append, List.length_cons, List.length_nil, *]; omega) | exact purX)); exact rfl; (exact fun _ h => h); (exact fun _ h => Or.inr h))
      | ((with_reducible apply Sat.buf (b3)); exact rfl; kernel_rfl; (exact cnvX); exact rfl; ((repeat' (first | exact AllP.nil | with_reducible refine AllP.cons ?_ ?_)) <;> (first | exact rfl | exact True.intro | omega | (simp only [List.length_append, List.length_cons, List.length_nil]; done) | (simp only [List.length_append, List.length_cons, List.length_nil]; omega) | (simp only [List.length_append, List.length_cons, List.length_nil, *]; omega) | exact purX)); exact rfl; (exact fun _ h => h); (exact fun _ h => Or.inr h))
      | ((with_reducible apply DSat.buf (b3)); exact rfl; kernel_rfl; (exact cnvX); exact rfl; exact rfl; ((repeat' (first | exact AllP.nil | with_reducible refine AllP.cons ?_ ?_)) <;> (first | exact rfl | exact True.intro | omega | (simp only [List.length_append, List.length_cons, List.length_nil]; done) | (simp only [List.length_append, List.length_cons, List.length_nil]; omega) | (simp only [List.length_append, List.length_cons, List.length_nil, *]; omega) | exact purX)); exact rfl; (exact fun _ h => h); (exact fun _ h => Or.inr h)) | fail)
  repeat' (first
      | ((with_reducible apply Sat.run (X := X64)); exact rfl; (first | exact True.intro | (exact phi) | skip))
      | ((with_reducible apply Sat.drawn); kernel_rfl)
      | ((with_reducible apply DSat.run (X := X64)); exact rfl; (first | exact True.intro | (exact phi) | skip))
      | ((with_reducible apply DSat.fin); kernel_rfl)
      | ((with_reducible apply Sat.inl 7 kill3 Tryd.func47 Tryd.ntmps47); exact rfl; exact rfl; kernel_rfl; exact rfl; exact rfl; exact rfl; exact rfl; ((repeat' (first | exact AllP.nil | with_reducible refine AllP.cons ?_ ?_)) <;> (first | exact True.intro | exact purX)); intro _ _)
      | ((with_reducible apply Sat.inl 7 kill3 Tryd.func45 Tryd.ntmps45); exact rfl; exact rfl; kernel_rfl; exact rfl; exact rfl; exact rfl; exact rfl; ((repeat' (first | exact AllP.nil | with_reducible refine AllP.cons ?_ ?_)) <;> (first | exact True.intro | exact purX)); intro _ _) | fail)
  with_reducible apply Sat.unroll 40
  repeat' (first
      | ((with_reducible apply Sat.run (X := X64)); exact rfl; (first | exact True.intro | (exact phi) | skip))
      | ((with_reducible apply Sat.drawn); kernel_rfl)
      | ((with_reducible apply DSat.run (X := X64)); exact rfl; (first | exact True.intro | (exact phi) | skip))
      | ((with_reducible apply DSat.fin); kernel_rfl)
      | ((with_reducible apply Sat.cond_t); exact rfl)
      | ((with_reducible apply Sat.cond_f); exact rfl)
      | ((with_reducible apply Sat.cond_pt); exact rfl; (try dsimp only [V.EV.sub, V.EV.len]); first | assumption | omega)
      | ((with_reducible apply Sat.cond_pf); exact rfl; (try dsimp only [V.EV.sub, V.EV.len]); first | assumption | omega)
      | ((with_reducible apply Sat.cond_p); exact rfl; all_goals intro h)
      | ((with_reducible apply Sat.cond); exact rfl; all_goals intro h)
      | ((with_reducible apply Sat.out1 (C := ⟨_, _, _, _, _, _, _, _, _⟩)); exact rfl; (first | exact .inl rfl | exact .inr rfl); exact rfl; (exact phi); exact rfl)
      | ((with_reducible apply Sat.out0 (C := ⟨_, _, _, _, _, _, _, _, _⟩)); exact rfl; (first | exact .inl rfl | exact .inr rfl); exact rfl)
      | ((with_reducible apply Sat.out2 (C := ⟨_, _, _, _, _, _, _, _, _⟩)); exact rfl; (first | exact .inl rfl | exact .inr rfl); exact rfl; (exact phi); exact rfl; (exact phi); exact rfl)
      | (with_reducible apply Sat.again)
      | ((with_reducible apply Sat.buf (b1 _)); exact rfl; kernel_rfl; (exact cnvX); exact rfl; ((repeat' (first | exact AllP.nil | with_reducible refine AllP.cons ?_ ?_)) <;> (first | exact rfl | exact True.intro | omega | (simp only [List.length_append, List.length_cons, List.length_nil]; done) | (simp only [List.length_append, List.length_cons, List.length_nil]; omega) | (simp only [List.length_append, List.length_cons, List.length_nil, *]; omega) | exact purX)); exact rfl; (exact fun _ h => h); (exact fun _ h => Or.inr h))
      | ((with_reducible apply DSat.buf (b1 _)); exact rfl; kernel_rfl; (exact cnvX); exact rfl; exact rfl; ((repeat' (first | exact AllP.nil | with_reducible refine AllP.cons ?_ ?_)) <;> (first | exact rfl | exact True.intro | omega | (simp only [List.length_append, List.length_cons, List.length_nil]; done) | (simp only [List.length_append, List.length_cons, List.length_nil]; omega) | (simp only [List.length_append, List.length_cons, List.length_nil, *]; omega) | exact purX)); exact rfl; (exact fun _ h => h); (exact fun _ h => Or.inr h)) | fail)
  clear h1 b2 b3
  apply Sat.loop (α := Nat × List UInt8) (fun x => x.1 ≤ go.length ∧ x.2.length ≤ 100 + 2 * x.1 ∧ x.2 = hdr v fl ex sz im ch tr go.length ++ (go.take x.1).flatMap num2) (fun x => go.length - x.1) (0, hdr v fl ex sz im ch tr go.length) (fun x => [(14, .int .i64 (x.1 : Int))]) (fun x => [(1, .cells 91 [.bsl 3 x.2.length, .int .i64 0, .anyi .i8]), (3, .row 5 (.u8 x.2))]) [20] [(3, some 20), (999, none)] 0
  · intro x; exact rfl
  · intro x; exact rfl
  · exact rfl
  · exact rfl
  · (repeat' (first | exact AllP.nil | with_reducible refine AllP.cons ?_ ?_)) <;> first | with_reducible exact rfl | exact congrArg EV.u8 (hdr_walk v fl ex sz im ch tr go.length) | exact congrArg List.length (hdr_walk v fl ex sz im ch tr go.length) | exact rfl | exact trivial | (intro _ _; simp [pureL, pureS, pureE]; done) | exact ⟨rfl, rfl, rfl, rfl⟩
  · refine ⟨Nat.zero_le _, ?_, by simp⟩
    simp [hdr, num1, num2, num4]; omega
  · rintro ⟨x, L⟩ ⟨x1, x2, x3⟩
    dsimp only at x1 x2 x3 ⊢
    repeat' (first
        | ((with_reducible apply Sat.run (X := X64)); exact rfl; (first | exact True.intro | (exact phi) | skip))
        | ((with_reducible apply Sat.drawn); kernel_rfl)
        | ((with_reducible apply DSat.run (X := X64)); exact rfl; (first | exact True.intro | (exact phi) | skip))
        | ((with_reducible apply DSat.fin); kernel_rfl)
        | ((with_reducible apply Sat.cond_t); exact rfl)
        | ((with_reducible apply Sat.cond_f); exact rfl)
        | ((with_reducible apply Sat.cond_pt); exact rfl; (try dsimp only [V.EV.sub, V.EV.len]); first | assumption | omega)
        | ((with_reducible apply Sat.cond_pf); exact rfl; (try dsimp only [V.EV.sub, V.EV.len]); first | assumption | omega)
        | ((with_reducible apply Sat.cond_p); exact rfl; all_goals intro h)
        | ((with_reducible apply Sat.cond); exact rfl; all_goals intro h)
        | ((with_reducible apply Sat.inl 7 kill3 Tryd.func48 Tryd.ntmps48); exact rfl; exact rfl; kernel_rfl; exact rfl; exact rfl; exact rfl; exact rfl; ((repeat' (first | exact AllP.nil | with_reducible refine AllP.cons ?_ ?_)) <;> (first | exact True.intro | exact purX)); intro _ _)
        | ((with_reducible apply Sat.inl 7 kill3 Tryd.func45 Tryd.ntmps45); exact rfl; exact rfl; kernel_rfl; exact rfl; exact rfl; exact rfl; exact rfl; ((repeat' (first | exact AllP.nil | with_reducible refine AllP.cons ?_ ?_)) <;> (first | exact True.intro | exact purX)); intro _ _)
        | ((with_reducible apply Sat.out1 (C := ⟨_, _, _, _, _, _, _, _, _⟩)); exact rfl; (first | exact .inl rfl | exact .inr rfl); exact rfl; (exact phi); exact rfl)
        | ((with_reducible apply Sat.out0 (C := ⟨_, _, _, _, _, _, _, _, _⟩)); exact rfl; (first | exact .inl rfl | exact .inr rfl); exact rfl)
        | ((with_reducible apply Sat.out2 (C := ⟨_, _, _, _, _, _, _, _, _⟩)); exact rfl; (first | exact .inl rfl | exact .inr rfl); exact rfl; (exact phi); exact rfl; (exact phi); exact rfl)
        | (with_reducible apply Sat.unroll 40)
        | (with_reducible apply Sat.again)
        | ((with_reducible apply Sat.buf (b1 _)); exact rfl; kernel_rfl; (exact cnvX); exact rfl; ((repeat' (first | exact AllP.nil | with_reducible refine AllP.cons ?_ ?_)) <;> (first | exact rfl | exact True.intro | omega | (simp only [List.length_append, List.length_cons, List.length_nil]; done) | (simp only [List.length_append, List.length_cons, List.length_nil]; omega) | (simp only [List.length_append, List.length_cons, List.length_nil, *]; omega) | exact purX)); exact rfl; (exact fun _ h => h); (exact fun _ h => Or.inr h))
        | ((with_reducible apply DSat.buf (b1 _)); exact rfl; kernel_rfl; (exact cnvX); exact rfl; exact rfl; ((repeat' (first | exact AllP.nil | with_reducible refine AllP.cons ?_ ?_)) <;> (first | exact rfl | exact True.intro | omega | (simp only [List.length_append, List.length_cons, List.length_nil]; done) | (simp only [List.length_append, List.length_cons, List.length_nil]; omega) | (simp only [List.length_append, List.length_cons, List.length_nil, *]; omega) | exact purX)); exact rfl; (exact fun _ h => h); (exact fun _ h => Or.inr h)) | fail)
    · refine Sat.back (x + 1, L ++ num2 (go.getD x 0)) [(3, some 22), (999, none)] rfl ?_ ?_ ?_
      · (repeat' (first | exact AllP.nil | with_reducible refine AllP.cons ?_ ?_)) <;> first | with_reducible exact rfl | exact congrArg EV.u8 (num2_walk L _) | exact congrArg List.length (num2_walk L _) | exact Int.natCast_add_one _ | exact rfl | exact trivial | (intro _ _; simp [pureL, pureS, pureE]; done) | exact ⟨rfl, rfl, rfl, rfl⟩
      · have hx : x < go.length := by simp only [EV.len] at h; omega
        exact ⟨hx, by simp [num2]; omega, by rw [x3, take_flat num2 go 0 x hx, List.append_assoc]⟩
      · simp only [EV.len] at h; dsimp only; omega
    have hx : x = go.length := by simp only [EV.len] at h; omega
    subst hx
    rw [List.take_length] at x3
    clear h
    repeat' (first
        | ((with_reducible apply Sat.run (X := X64)); exact rfl; (first | exact True.intro | (exact phi) | skip))
        | ((with_reducible apply Sat.drawn); kernel_rfl)
        | ((with_reducible apply DSat.run (X := X64)); exact rfl; (first | exact True.intro | (exact phi) | skip))
        | ((with_reducible apply DSat.fin); kernel_rfl)
        | ((with_reducible apply Sat.cond_t); exact rfl)
        | ((with_reducible apply Sat.cond_f); exact rfl)
        | ((with_reducible apply Sat.cond_pt); exact rfl; (try dsimp only [V.EV.sub, V.EV.len]); first | assumption | omega)
        | ((with_reducible apply Sat.cond_pf); exact rfl; (try dsimp only [V.EV.sub, V.EV.len]); first | assumption | omega)
        | ((with_reducible apply Sat.cond_p); exact rfl; all_goals intro h)
        | ((with_reducible apply Sat.cond); exact rfl; all_goals intro h)
        | ((with_reducible apply Sat.out1 (C := ⟨_, _, _, _, _, _, _, _, _⟩)); exact rfl; (first | exact .inl rfl | exact .inr rfl); exact rfl; (exact phi); exact rfl)
        | ((with_reducible apply Sat.out0 (C := ⟨_, _, _, _, _, _, _, _, _⟩)); exact rfl; (first | exact .inl rfl | exact .inr rfl); exact rfl)
        | ((with_reducible apply Sat.out2 (C := ⟨_, _, _, _, _, _, _, _, _⟩)); exact rfl; (first | exact .inl rfl | exact .inr rfl); exact rfl; (exact phi); exact rfl; (exact phi); exact rfl) | fail)
    repeat' (first
        | ((with_reducible apply Sat.run (X := X64)); exact rfl; (first | exact True.intro | (exact phi) | skip))
        | ((with_reducible apply Sat.drawn); kernel_rfl)
        | ((with_reducible apply DSat.run (X := X64)); exact rfl; (first | exact True.intro | (exact phi) | skip))
        | ((with_reducible apply DSat.fin); kernel_rfl)
        | ((with_reducible apply Sat.inl 7 kill3 Tryd.func49 Tryd.ntmps49); exact rfl; exact rfl; kernel_rfl; exact rfl; exact rfl; exact rfl; exact rfl; ((repeat' (first | exact AllP.nil | with_reducible refine AllP.cons ?_ ?_)) <;> (first | exact True.intro | exact purX)); intro _ _)
        | ((with_reducible apply Sat.inl 7 kill3 Tryd.func45 Tryd.ntmps45); exact rfl; exact rfl; kernel_rfl; exact rfl; exact rfl; exact rfl; exact rfl; ((repeat' (first | exact AllP.nil | with_reducible refine AllP.cons ?_ ?_)) <;> (first | exact True.intro | exact purX)); intro _ _) | fail)
    with_reducible apply Sat.unroll 40
    repeat' (first
        | ((with_reducible apply Sat.run (X := X64)); exact rfl; (first | exact True.intro | (exact phi) | skip))
        | ((with_reducible apply Sat.drawn); kernel_rfl)
        | ((with_reducible apply DSat.run (X := X64)); exact rfl; (first | exact True.intro | (exact phi) | skip))
        | ((with_reducible apply DSat.fin); kernel_rfl)
        | ((with_reducible apply Sat.cond_t); exact rfl)
        | ((with_reducible apply Sat.cond_f); exact rfl)
        | ((with_reducible apply Sat.cond_pt); exact rfl; (try dsimp only [V.EV.sub, V.EV.len]); first | assumption | omega)
        | ((with_reducible apply Sat.cond_pf); exact rfl; (try dsimp only [V.EV.sub, V.EV.len]); first | assumption | omega)
        | ((with_reducible apply Sat.cond_p); exact rfl; all_goals intro h)
        | ((with_reducible apply Sat.cond); exact rfl; all_goals intro h)
        | ((with_reducible apply Sat.out1 (C := ⟨_, _, _, _, _, _, _, _, _⟩)); exact rfl; (first | exact .inl rfl | exact .inr rfl); exact rfl; (exact phi); exact rfl)
        | ((with_reducible apply Sat.out0 (C := ⟨_, _, _, _, _, _, _, _, _⟩)); exact rfl; (first | exact .inl rfl | exact .inr rfl); exact rfl)
        | ((with_reducible apply Sat.out2 (C := ⟨_, _, _, _, _, _, _, _, _⟩)); exact rfl; (first | exact .inl rfl | exact .inr rfl); exact rfl; (exact phi); exact rfl; (exact phi); exact rfl)
        | (with_reducible apply Sat.again)
        | ((with_reducible apply Sat.buf (b1 _)); exact rfl; kernel_rfl; (exact cnvX); exact rfl; ((repeat' (first | exact AllP.nil | with_reducible refine AllP.cons ?_ ?_)) <;> (first | exact rfl | exact True.intro | omega | (simp only [List.length_append, List.length_cons, List.length_nil]; done) | (simp only [List.length_append, List.length_cons, List.length_nil]; omega) | (simp only [List.length_append, List.length_cons, List.length_nil, *]; omega) | exact purX)); exact rfl; (exact fun _ h => h); (exact fun _ h => Or.inr h))
        | ((with_reducible apply DSat.buf (b1 _)); exact rfl; kernel_rfl; (exact cnvX); exact rfl; exact rfl; ((repeat' (first | exact AllP.nil | with_reducible refine AllP.cons ?_ ?_)) <;> (first | exact rfl | exact True.intro | omega | (simp only [List.length_append, List.length_cons, List.length_nil]; done) | (simp only [List.length_append, List.length_cons, List.length_nil]; omega) | (simp only [List.length_append, List.length_cons, List.length_nil, *]; omega) | exact purX)); exact rfl; (exact fun _ h => h); (exact fun _ h => Or.inr h)) | fail)
    apply Sat.loop (α := Nat × List UInt8) (fun x => x.1 ≤ pa.length ∧ x.2.length ≤ 200 + 100 * x.1 ∧ x.2 = L ++ num1 pa.length ++ partsW (pa.take x.1)) (fun x => pa.length - x.1) (0, L ++ num1 pa.length) (fun x => [(14, .int .i64 (x.1 : Int))]) (fun x => [(1, .cells 91 [.bsl 3 x.2.length, .int .i64 0, .anyi .i8]), (3, .row 5 (.u8 x.2))]) [21] [(3, some 21), (999, none)] 0
    · intro x; exact rfl
    · intro x; exact rfl
    · exact rfl
    · exact rfl
    · (repeat' (first | exact AllP.nil | with_reducible refine AllP.cons ?_ ?_)) <;> first | with_reducible exact rfl | exact congrArg EV.u8 (num1_walk L pa.length) | exact congrArg List.length (num1_walk L pa.length) | exact rfl | exact trivial | (intro _ _; simp [pureL, pureS, pureE]; done) | exact ⟨rfl, rfl, rfl, rfl⟩
    · refine ⟨Nat.zero_le _, ?_, by simp [partsW]⟩
      simp [num1]; omega
    · rintro ⟨y, K⟩ ⟨y1, y2, y3⟩
      dsimp only at y1 y2 y3 ⊢
      by_cases hy : y < pa.length
      · have h5 := l4 y hy
        have k5 : 32 = (pa.getD (y : Int).toNat part0).hash.length := h5.2.symm
        have hh : (pa.getD (y : Int).toNat part0).hash ≠ [] := fun h => by rw [h] at k5; cases k5
        have h6 : (pa.getD (y : Int).toNat part0).name.length ≤ 20 := hn y hy
        have b4 := buf_str (pa.getD (y : Int).toNat part0).name
        have b5 := buf_write _ hh
        clear hh h5
        repeat' (first
            | ((with_reducible apply Sat.run (X := X64)); exact rfl; (first | exact True.intro | (exact phi) | skip))
            | ((with_reducible apply Sat.drawn); kernel_rfl)
            | ((with_reducible apply DSat.run (X := X64)); exact rfl; (first | exact True.intro | (exact phi) | skip))
            | ((with_reducible apply DSat.fin); kernel_rfl)
            | ((with_reducible apply Sat.cond_t); exact rfl)
            | ((with_reducible apply Sat.cond_f); exact rfl)
            | ((with_reducible apply Sat.cond_pt); exact rfl; (try dsimp only [V.EV.sub, V.EV.len]); first | assumption | omega)
            | ((with_reducible apply Sat.cond_pf); exact rfl; (try dsimp only [V.EV.sub, V.EV.len]); first | assumption | omega)
            | ((with_reducible apply Sat.cond_p); exact rfl; all_goals intro h)
            | ((with_reducible apply Sat.cond); exact rfl; all_goals intro h)
            | ((with_reducible apply Sat.inl 7 kill3 Tryd.func50 Tryd.ntmps50); exact rfl; exact rfl; kernel_rfl; exact rfl; exact rfl; exact rfl; exact rfl; ((repeat' (first | exact AllP.nil | with_reducible refine AllP.cons ?_ ?_)) <;> (first | exact True.intro | exact purX)); intro _ _)
            | ((with_reducible apply Sat.inl 7 killP Tryd.func51 Tryd.ntmps51); exact rfl; exact rfl; kernel_rfl; exact rfl; exact rfl; exact rfl; exact rfl; ((repeat' (first | exact AllP.nil | with_reducible refine AllP.cons ?_ ?_)) <;> (first | exact True.intro | exact purX)); intro _ _)
            | ((with_reducible apply Sat.inl 7 killP Tryd.func45 Tryd.ntmps45); exact rfl; exact rfl; kernel_rfl; exact rfl; exact rfl; exact rfl; exact rfl; ((repeat' (first | exact AllP.nil | with_reducible refine AllP.cons ?_ ?_)) <;> (first | exact True.intro | exact purX)); intro _ _)
            | ((with_reducible apply Sat.out1 (C := ⟨_, _, _, _, _, _, _, _, _⟩)); exact rfl; (first | exact .inl rfl | exact .inr rfl); exact rfl; (exact phi); exact rfl)
            | ((with_reducible apply Sat.out0 (C := ⟨_, _, _, _, _, _, _, _, _⟩)); exact rfl; (first | exact .inl rfl | exact .inr rfl); exact rfl)
            | ((with_reducible apply Sat.out2 (C := ⟨_, _, _, _, _, _, _, _, _⟩)); exact rfl; (first | exact .inl rfl | exact .inr rfl); exact rfl; (exact phi); exact rfl; (exact phi); exact rfl)
            | (with_reducible apply Sat.unroll 40)
            | (with_reducible apply Sat.again)
            | ((with_reducible apply Sat.buf (b1 _)); exact rfl; kernel_rfl; (exact cnvX); exact rfl; ((repeat' (first | exact AllP.nil | with_reducible refine AllP.cons ?_ ?_)) <;> (first | exact rfl | exact True.intro | omega | (simp only [List.length_append, List.length_cons, List.length_nil]; done) | (simp only [List.length_append, List.length_cons, List.length_nil]; omega) | (simp only [List.length_append, List.length_cons, List.length_nil, *]; omega) | exact purX)); exact rfl; (exact fun _ h => h); (exact fun _ h => Or.inr h))
            | ((with_reducible apply DSat.buf (b1 _)); exact rfl; kernel_rfl; (exact cnvX); exact rfl; exact rfl; ((repeat' (first | exact AllP.nil | with_reducible refine AllP.cons ?_ ?_)) <;> (first | exact rfl | exact True.intro | omega | (simp only [List.length_append, List.length_cons, List.length_nil]; done) | (simp only [List.length_append, List.length_cons, List.length_nil]; omega) | (simp only [List.length_append, List.length_cons, List.length_nil, *]; omega) | exact purX)); exact rfl; (exact fun _ h => h); (exact fun _ h => Or.inr h))
            | ((with_reducible apply Sat.buf (b4)); exact rfl; kernel_rfl; (exact cnvX); exact rfl; ((repeat' (first | exact AllP.nil | with_reducible refine AllP.cons ?_ ?_)) <;> (first | exact rfl | exact True.intro | omega | (simp only [List.length_append, List.length_cons, List.length_nil]; done) | (simp only [List.length_append, List.length_cons, List.length_nil]; omega) | (simp only [List.length_append, List.length_cons, List.length_nil, *]; omega) | exact purX)); exact rfl; (exact fun _ h => h); (exact fun _ h => Or.inr h))
            | ((with_reducible apply DSat.buf (b4)); exact rfl; kernel_rfl; (exact cnvX); exact rfl; exact rfl; ((repeat' (first | exact AllP.nil | with_reducible refine AllP.cons ?_ ?_)) <;> (first | exact rfl | exact True.intro | omega | (simp only [List.length_append, List.length_cons, List.length_nil]; done) | (simp only [List.length_append, List.length_cons, List.length_nil]; omega) | (simp only [List.length_append, List.length_cons, List.length_nil, *]; omega) | exact purX)); exact rfl; (exact fun _ h => h); (exact fun _ h => Or.inr h))
            | ((with_reducible apply Sat.buf (b5)); exact rfl; kernel_rfl; (exact cnvX); exact rfl; ((repeat' (first | exact AllP.nil | with_reducible refine AllP.cons ?_ ?_)) <;> (first | exact rfl | exact True.intro | omega | (simp only [List.length_append, List.length_cons, List.length_nil]; done) | (simp only [List.length_append, List.length_cons, List.length_nil]; omega) | (simp only [List.length_append, List.length_cons, List.length_nil, *]; omega) | exact purX)); exact rfl; (exact fun _ h => h); (exact fun _ h => Or.inr h))
            | ((with_reducible apply DSat.buf (b5)); exact rfl; kernel_rfl; (exact cnvX); exact rfl; exact rfl; ((repeat' (first | exact AllP.nil | with_reducible refine AllP.cons ?_ ?_)) <;> (first | exact rfl | exact True.intro | omega | (simp only [List.length_append, List.length_cons, List.length_nil]; done) | (simp only [List.length_append, List.length_cons, List.length_nil]; omega) | (simp only [List.length_append, List.length_cons, List.length_nil, *]; omega) | exact purX)); exact rfl; (exact fun _ h => h); (exact fun _ h => Or.inr h)) | fail)
        refine Sat.back (y + 1, K ++ num1 (pa.getD (y : Int).toNat part0).name.length ++ (pa.getD (y : Int).toNat part0).name ++ (pa.getD (y : Int).toNat part0).hash) [(3, some 26), (999, none)] rfl ?_ ?_ ?_
        · (repeat' (first | exact AllP.nil | with_reducible refine AllP.cons ?_ ?_)) <;> first | with_reducible exact rfl | exact congrArg (fun x => EV.u8 (x ++ (pa.getD (y : Int).toNat part0).name ++ (pa.getD (y : Int).toNat part0).hash)) (num1_walk K _) | exact congrArg (fun x => (x ++ (pa.getD (y : Int).toNat part0).name ++ (pa.getD (y : Int).toNat part0).hash).length) (num1_walk K _) | exact Int.natCast_add_one _ | exact rfl | exact trivial | (intro _ _; simp [pureL, pureS, pureE]; done) | exact ⟨rfl, rfl, rfl, rfl⟩
        · refine ⟨hy, ?_, ?_⟩
          · simp only [List.length_append, num1, List.length_cons, List.length_nil]
            omega
          · dsimp only
            rw [y3]
            unfold partsW
            rw [take_flat _ pa part0 y hy]
            simp only [List.append_assoc, Int.toNat_natCast]
        · dsimp only; omega
      · have hx : y = pa.length := by omega
        subst hx
        repeat' (first
            | ((with_reducible apply Sat.run (X := X64)); exact rfl; (first | exact True.intro | (exact phi) | skip))
            | ((with_reducible apply Sat.drawn); kernel_rfl)
            | ((with_reducible apply DSat.run (X := X64)); exact rfl; (first | exact True.intro | (exact phi) | skip))
            | ((with_reducible apply DSat.fin); kernel_rfl)
            | ((with_reducible apply Sat.cond_t); exact rfl)
            | ((with_reducible apply Sat.cond_f); exact rfl)
            | ((with_reducible apply Sat.cond_pt); exact rfl; (try dsimp only [V.EV.sub, V.EV.len]); first | assumption | omega)
            | ((with_reducible apply Sat.cond_pf); exact rfl; (try dsimp only [V.EV.sub, V.EV.len]); first | assumption | omega)
            | ((with_reducible apply Sat.cond_p); exact rfl; all_goals intro h)
            | ((with_reducible apply Sat.cond); exact rfl; all_goals intro h)
            | ((with_reducible apply Sat.inl 7 kill3 Tryd.func52 Tryd.ntmps52); exact rfl; exact rfl; kernel_rfl; exact rfl; exact rfl; exact rfl; exact rfl; ((repeat' (first | exact AllP.nil | with_reducible refine AllP.cons ?_ ?_)) <;> (first | exact True.intro | exact purX)); intro _ _)
            | ((with_reducible apply Sat.out1 (C := ⟨_, _, _, _, _, _, _, _, _⟩)); exact rfl; (first | exact .inl rfl | exact .inr rfl); exact rfl; (exact phi); exact rfl)
            | ((with_reducible apply Sat.out0 (C := ⟨_, _, _, _, _, _, _, _, _⟩)); exact rfl; (first | exact .inl rfl | exact .inr rfl); exact rfl)
            | ((with_reducible apply Sat.out2 (C := ⟨_, _, _, _, _, _, _, _, _⟩)); exact rfl; (first | exact .inl rfl | exact .inr rfl); exact rfl; (exact phi); exact rfl; (exact phi); exact rfl) | fail)
        refine Sat.narrow hT (fun _ h => h) ?_
        refine Sat.fin (Sat.end1 rfl rfl rfl True.intro (.all _ _ _ _ _ rfl rfl (by simp [EV.len]) trivial) (by first | exact .inl rfl | exact .inr rfl) (fun _ h => h)) ?_
        rw [List.take_length] at y3
        refine congrArg (fun x => SV.ro (EV.u8 x)) ?_
        rw [y3, x3]
        simp only [bytesR, List.append_assoc]
theorem bytes_spec (r : Rel) (hv : validB r = true) : Fun Tryd.prog [] 15 [r.v] (.ro (.u8 (bytesR r))) := by
  obtain ⟨v, fl, ex, sz, im, ch, tr, go, pa⟩ := r
  exact bytes_t v fl ex sz im ch tr go pa hv
end Go.Proofs.YtegbdcadlmefgaaDoor
end
section
namespace Go.Proofs.YtegbdcadlmefgaaDoor
open Go.RowKit V
--PURE: (intro _ _; simp [pureL, pureS, pureE]; done)
set_option maxRecDepth 100000
set_option maxHeartbeats 8000000
set_option linter.unusedSimpArgs false
attribute [local irreducible] V.Sat V.DSat
@[simp] theorem num1_len (n : Int) : (num1 n).length = 1 := rfl
@[simp] theorem num2_len (n : Int) : (num2 n).length = 2 := rfl
@[simp] theorem num4_len (n : Int) : (num4 n).length = 4 := rfl
theorem nb_zero (n : Int) : nb n 0 = UInt8.ofNat (IntKind.u8.wrap n).toNat := by simp [nb]
theorem num2_ref (n : Int) : Fun Tryd.prog [] 53 [.int .i64 n, .int .i64 2] (.ro (.u8 (num2 n))) := by
  refine Fun.mk 6 Tryd.func53 rfl Tryd.ntmps53 rfl rfl fun T w0 => ?_
  repeat' (first
      | ((with_reducible apply Sat.run (X := X64)); exact rfl; (first | exact True.intro | (exact phi) | skip))
      | ((with_reducible apply Sat.drawn); kernel_rfl)
      | ((with_reducible apply DSat.run (X := X64)); exact rfl; (first | exact True.intro | (exact phi) | skip))
      | ((with_reducible apply DSat.fin); kernel_rfl)
      | ((with_reducible apply Sat.cond_t); exact rfl)
      | ((with_reducible apply Sat.cond_f); exact rfl)
      | ((with_reducible apply Sat.cond_pt); exact rfl; (try dsimp only [V.EV.sub, V.EV.len]); first | assumption | omega)
      | ((with_reducible apply Sat.cond_pf); exact rfl; (try dsimp only [V.EV.sub, V.EV.len]); first | assumption | omega)
      | ((with_reducible apply Sat.cond_p); exact rfl; all_goals intro h)
      | ((with_reducible apply Sat.cond); exact rfl; all_goals intro h)
      | (with_reducible apply Sat.unroll 40)
      | (with_reducible apply Sat.again) | fail)
  refine Sat.fin (Sat.end1 rfl rfl rfl True.intro (.all _ _ _ _ _ rfl rfl (by simp [EV.len, EV.sub]; try omega) trivial) (by first | exact .inl rfl | exact .inr rfl) (fun _ h => h)) ?_
  exact congrArg (fun x => SV.ro (EV.u8 x)) (num2_walk [] n).symm
theorem num4_ref (n : Int) : Fun Tryd.prog [] 53 [.int .i64 n, .int .i64 4] (.ro (.u8 (num4 n))) := by
  refine Fun.mk 6 Tryd.func53 rfl Tryd.ntmps53 rfl rfl fun T w0 => ?_
  repeat' (first
      | ((with_reducible apply Sat.run (X := X64)); exact rfl; (first | exact True.intro | (exact phi) | skip))
      | ((with_reducible apply Sat.drawn); kernel_rfl)
      | ((with_reducible apply DSat.run (X := X64)); exact rfl; (first | exact True.intro | (exact phi) | skip))
      | ((with_reducible apply DSat.fin); kernel_rfl)
      | ((with_reducible apply Sat.cond_t); exact rfl)
      | ((with_reducible apply Sat.cond_f); exact rfl)
      | ((with_reducible apply Sat.cond_pt); exact rfl; (try dsimp only [V.EV.sub, V.EV.len]); first | assumption | omega)
      | ((with_reducible apply Sat.cond_pf); exact rfl; (try dsimp only [V.EV.sub, V.EV.len]); first | assumption | omega)
      | ((with_reducible apply Sat.cond_p); exact rfl; all_goals intro h)
      | ((with_reducible apply Sat.cond); exact rfl; all_goals intro h)
      | (with_reducible apply Sat.unroll 40)
      | (with_reducible apply Sat.again) | fail)
  refine Sat.fin (Sat.end1 rfl rfl rfl True.intro (.all _ _ _ _ _ rfl rfl (by simp [EV.len, EV.sub]; try omega) trivial) (by first | exact .inl rfl | exact .inr rfl) (fun _ h => h)) ?_
  refine congrArg (fun x => SV.ro (EV.u8 x)) ?_
  rfl
theorem text_ref (s : List UInt8) (h : s.length ≤ 20) : Fun Tryd.prog [] 54 [.str s] (.ro (.u8 (num1 s.length ++ s))) := by
  refine Fun.mk 6 Tryd.func54 rfl Tryd.ntmps54 rfl rfl fun T w0 => ?_
  repeat' (first
      | ((with_reducible apply Sat.run (X := X64)); exact rfl; (first | exact True.intro | (exact phi) | skip))
      | ((with_reducible apply Sat.drawn); kernel_rfl)
      | ((with_reducible apply DSat.run (X := X64)); exact rfl; (first | exact True.intro | (exact phi) | skip))
      | ((with_reducible apply DSat.fin); kernel_rfl)
      | ((with_reducible apply Sat.cond_t); exact rfl)
      | ((with_reducible apply Sat.cond_f); exact rfl)
      | ((with_reducible apply Sat.cond_pt); exact rfl; (try dsimp only [V.EV.sub, V.EV.len]); first | assumption | omega)
      | ((with_reducible apply Sat.cond_pf); exact rfl; (try dsimp only [V.EV.sub, V.EV.len]); first | assumption | omega)
      | ((with_reducible apply Sat.cond_p); exact rfl; all_goals intro h)
      | ((with_reducible apply Sat.cond); exact rfl; all_goals intro h)
      | (with_reducible apply Sat.unroll 40)
      | (with_reducible apply Sat.again) | fail)
  refine Sat.fin (Sat.end1 rfl rfl rfl True.intro (.all _ _ _ _ _ rfl rfl (by simp [EV.len, EV.sub]; try omega) trivial) (by first | exact .inl rfl | exact .inr rfl) (fun _ h => h)) ?_
  refine congrArg (fun x => SV.ro (EV.u8 x)) ?_
  rw [num1, nb_zero]
theorem bytesR_f (r : Rel) (hv : validB r = false) : Fun Tryd.prog [] 16 [r.v] (.ro (.u8 [])) := by
  have h1 := valid_ref r
  rw [hv] at h1
  refine Fun.mkF 7 Tryd.func16 rfl Tryd.ntmps16 rfl rfl fun hf T w0 => ?_
  obtain ⟨v, fl, ex, sz, im, ch, tr, go, pa⟩ := r
  repeat' (first
      | ((with_reducible apply Sat.run (X := X64)); exact rfl; (first | exact True.intro | (exact phi) | skip))
      | ((with_reducible apply Sat.drawn); kernel_rfl)
      | ((with_reducible apply DSat.run (X := X64)); exact rfl; (first | exact True.intro | (exact phi) | skip))
      | ((with_reducible apply DSat.fin); kernel_rfl)
      | ((with_reducible apply Sat.cond_t); exact rfl)
      | ((with_reducible apply Sat.cond_f); exact rfl)
      | ((with_reducible apply Sat.cond_pt); exact rfl; (try dsimp only [V.EV.sub, V.EV.len]); first | assumption | omega)
      | ((with_reducible apply Sat.cond_pf); exact rfl; (try dsimp only [V.EV.sub, V.EV.len]); first | assumption | omega)
      | ((with_reducible apply Sat.cond_p); exact rfl; all_goals intro h)
      | ((with_reducible apply Sat.cond); exact rfl; all_goals intro h)
      | ((with_reducible apply Sat.callR (h1)); exact rfl; exact rfl; exact rfl; kernel_rfl; (exact cnvX); exact rfl)
      | ((with_reducible apply DSat.callR (h1)); exact rfl; exact rfl; exact rfl; kernel_rfl; (exact cnvX); exact rfl) | fail)
  refine Sat.fin (Sat.end1 rfl rfl rfl True.intro (.all _ _ _ _ _ rfl rfl (by simp [EV.len, EV.sub]; try omega) trivial) (by first | exact .inl rfl | exact .inr rfl) (fun _ h => h)) ?_
  rfl
theorem bytesR_t (v fl ex sz : Int) (im : List UInt8) (ch : Int) (tr : List UInt8) (go : List Int) (pa : List PartL) (hv : validB ⟨v, fl, ex, sz, im, ch, tr, go, pa⟩ = true) : Fun Tryd.prog [] 16 [.agg [.int .i64 v, .int .i64 fl, .int .i64 ex, .int .i64 sz, .arr 32 (.u8 im), .int .i64 ch, .arr 32 (.u8 tr), .ro (.ints .i64 go), .ro (partsE pa)]] (.ro (.u8 (bytesR ⟨v, fl, ex, sz, im, ch, tr, go, pa⟩))) := by
  have h1 : Fun Tryd.prog [] 13 [.agg [.int .i64 v, .int .i64 fl, .int .i64 ex, .int .i64 sz, .arr 32 (.u8 im), .int .i64 ch, .arr 32 (.u8 tr), .ro (.ints .i64 go), .ro (partsE pa)]] (.bool (validB ⟨v, fl, ex, sz, im, ch, tr, go, pa⟩)) := valid_ref ⟨v, fl, ex, sz, im, ch, tr, go, pa⟩
  rw [hv] at h1
  refine Fun.mkF 7 Tryd.func16 rfl Tryd.ntmps16 rfl rfl fun hf T w0 => ?_
  obtain ⟨l1, l2, -, l4⟩ := rel_facts ⟨v, fl, ex, sz, im, ch, tr, go, pa⟩ hf
  dsimp only at l1 l2 l4
  have k1 : 32 = im.length := l1.symm
  have k2 : 32 = tr.length := l2.symm
  clear l1 l2 hf
  have hg : go.length ≤ 16 := by
    unfold validB valid2 at hv; simp at hv; omega
  have hp : pa.length ≤ 8 := by
    unfold validB valid2 at hv; simp at hv; omega
  have hn : ∀ i, i < pa.length → (pa.getD i part0).name.length ≤ 20 := fun i hi => name_len hv i hi
  clear hv
  have n1 := num2_ref v
  have n2 := num2_ref fl
  have n3 := num4_ref ex
  have n4 := num4_ref sz
  have n5 := num2_ref ch
  have w1 := num2_len v
  have w2 := num2_len fl
  have w3 := num4_len ex
  have w4 := num4_len sz
  have w5 := num2_len ch
  generalize e1 : num2 v = A1 at n1 w1
  generalize e2 : num2 fl = A2 at n2 w2
  generalize e3 : num4 ex = A3 at n3 w3
  generalize e4 : num4 sz = A4 at n4 w4
  generalize e5 : num2 ch = A5 at n5 w5
  have e0 : [UInt8.ofNat (Int.toNat 86)] ++ A1 ++ A2 ++ A3 ++ A4 ++ im ++ A5 ++ tr ++ [UInt8.ofNat (IntKind.u8.wrap (go.length : Int)).toNat] = hdr v fl ex sz im ch tr go.length := by
    rw [← e1, ← e2, ← e3, ← e4, ← e5]
    unfold hdr
    rw [num1, num1, nb_zero, nb_zero]
    rfl
  have e0' : [UInt8.ofNat (Int.toNat 86)] ++ A1 ++ A2 ++ A3 ++ A4 ++ List.take (32 - 0) (List.drop 0 im) ++ A5 ++ List.take (32 - 0) (List.drop 0 tr) ++ List.take 1 (List.drop 0 [UInt8.ofNat (IntKind.u8.wrap (go.length : Int)).toNat]) = hdr v fl ex sz im ch tr go.length := by
    rw [← e0, List.drop_zero, List.drop_zero, List.take_of_length_le (l := im) (by omega), List.take_of_length_le (l := tr) (by omega)]
    rfl
  clear e1 e2 e3 e4 e5
  repeat' (first
      | ((with_reducible apply Sat.run (X := X64)); exact rfl; (first | exact True.intro | (exact phi) | skip))
      | ((with_reducible apply Sat.drawn); kernel_rfl)
      | ((with_reducible apply DSat.run (X := X64)); exact rfl; (first | exact True.intro | (exact phi) | skip))
      | ((with_reducible apply DSat.fin); kernel_rfl)
      | ((with_reducible apply Sat.cond_t); exact rfl)
      | ((with_reducible apply Sat.cond_f); exact rfl)
      | ((with_reducible apply Sat.cond_pt); exact rfl; (try dsimp only [V.EV.sub, V.EV.len]); first | assumption | omega)
      | ((with_reducible apply Sat.cond_pf); exact rfl; (try dsimp only [V.EV.sub, V.EV.len]); first | assumption | omega)
      | ((with_reducible apply Sat.cond_p); exact rfl; all_goals intro h)
      | ((with_reducible apply Sat.cond); exact rfl; all_goals intro h)
      | ((with_reducible apply Sat.callR (h1)); exact rfl; exact rfl; exact rfl; kernel_rfl; (exact cnvX); exact rfl)
      | ((with_reducible apply DSat.callR (h1)); exact rfl; exact rfl; exact rfl; kernel_rfl; (exact cnvX); exact rfl)
      | ((with_reducible apply Sat.call (n1)); exact rfl; exact rfl; kernel_rfl; (exact cnvX); exact rfl)
      | ((with_reducible apply DSat.call (n1)); exact rfl; exact rfl; kernel_rfl; (exact cnvX); exact rfl)
      | ((with_reducible apply Sat.call (n2)); exact rfl; exact rfl; kernel_rfl; (exact cnvX); exact rfl)
      | ((with_reducible apply DSat.call (n2)); exact rfl; exact rfl; kernel_rfl; (exact cnvX); exact rfl)
      | ((with_reducible apply Sat.call (n3)); exact rfl; exact rfl; kernel_rfl; (exact cnvX); exact rfl)
      | ((with_reducible apply DSat.call (n3)); exact rfl; exact rfl; kernel_rfl; (exact cnvX); exact rfl)
      | ((with_reducible apply Sat.call (n4)); exact rfl; exact rfl; kernel_rfl; (exact cnvX); exact rfl)
      | ((with_reducible apply DSat.call (n4)); exact rfl; exact rfl; kernel_rfl; (exact cnvX); exact rfl)
      | ((with_reducible apply Sat.call (n5)); exact rfl; exact rfl; kernel_rfl; (exact cnvX); exact rfl)
      | ((with_reducible apply DSat.call (n5)); exact rfl; exact rfl; kernel_rfl; (exact cnvX); exact rfl) | fail)
  clear h1 n1 n2 n3 n4 n5
  have hLe : (hdr v fl ex sz im ch tr go.length).length = 80 := by
    rw [← e0]
    simp only [List.length_append, List.length_cons, List.length_nil]
    omega
  with_reducible apply Sat.drop
  · exact rfl
  · (repeat' (first | exact AllP.nil | with_reducible refine AllP.cons ?_ ?_)) <;> (intro _ _; simp [pureL, pureS, pureE]; done)
  refine Sat.kill [48, 49] rfl ?_
  apply Sat.loop (α := Nat × List UInt8) (fun x => x.1 ≤ go.length ∧ x.2.length ≤ 100 + 2 * x.1 ∧ x.2 = hdr v fl ex sz im ch tr go.length ++ (go.take x.1).flatMap num2) (fun x => go.length - x.1) (0, hdr v fl ex sz im ch tr go.length) (fun x => [(4, .int .i64 (x.1 : Int)), (3, .row 1 0 1 0 x.2.length)]) (fun x => [(1, .row 5 (.u8 x.2))]) [9, 10] [(1, some 10)] 0
  · intro x; exact rfl
  · intro x; exact rfl
  · exact rfl
  · exact rfl
  · (repeat' (first | exact AllP.nil | with_reducible refine AllP.cons ?_ ?_)) <;> first | with_reducible exact rfl | exact congrArg EV.u8 e0' | with_reducible exact ⟨rfl, rfl, rfl, rfl⟩ | (refine ⟨rfl, rfl, rfl, ?_⟩; show _ = (hdr v fl ex sz im ch tr go.length).length; rw [hLe]; simp only [EV.len, EV.sub, List.length_take, List.length_drop, List.length_cons, List.length_nil, Option.getD_none]; omega) | exact rfl | exact trivial | (intro _ _; simp [pureL, pureS, pureE]; done) | exact ⟨rfl, rfl, rfl, rfl⟩
  · exact ⟨Nat.zero_le _, by dsimp only; omega, by simp⟩
  · rintro ⟨x, L⟩ ⟨x1, x2, x3⟩
    dsimp only at x1 x2 x3 ⊢
    have n1 := num2_ref (go.getD (x : Int).toNat 0)
    have w1 := num2_len (go.getD (x : Int).toNat 0)
    generalize e1 : num2 (go.getD (x : Int).toNat 0) = A1 at n1 w1
    repeat' (first
        | ((with_reducible apply Sat.run (X := X64)); exact rfl; (first | exact True.intro | (exact phi) | skip))
        | ((with_reducible apply Sat.drawn); kernel_rfl)
        | ((with_reducible apply DSat.run (X := X64)); exact rfl; (first | exact True.intro | (exact phi) | skip))
        | ((with_reducible apply DSat.fin); kernel_rfl)
        | ((with_reducible apply Sat.cond_t); exact rfl)
        | ((with_reducible apply Sat.cond_f); exact rfl)
        | ((with_reducible apply Sat.cond_pt); exact rfl; (try dsimp only [V.EV.sub, V.EV.len]); first | assumption | omega)
        | ((with_reducible apply Sat.cond_pf); exact rfl; (try dsimp only [V.EV.sub, V.EV.len]); first | assumption | omega)
        | ((with_reducible apply Sat.cond_p); exact rfl; all_goals intro h)
        | ((with_reducible apply Sat.cond); exact rfl; all_goals intro h)
        | ((with_reducible apply Sat.call (n1)); exact rfl; exact rfl; kernel_rfl; (exact cnvX); exact rfl)
        | ((with_reducible apply DSat.call (n1)); exact rfl; exact rfl; kernel_rfl; (exact cnvX); exact rfl) | fail)
    · have hx : x < go.length := by simp only [EV.len] at h; omega
      refine Sat.back (x + 1, L ++ A1) [(1, some 11)] rfl ?_ ?_ ?_
      · (repeat' (first | exact AllP.nil | with_reducible refine AllP.cons ?_ ?_)) <;> first | with_reducible exact rfl | exact Int.natCast_add_one _ | exact rfl | exact trivial | (intro _ _; simp [pureL, pureS, pureE]; done) | exact ⟨rfl, rfl, rfl, rfl⟩ | exact ⟨rfl, rfl, rfl, by simp [EV.len]⟩
      · refine ⟨hx, by simp only [List.length_append]; omega, ?_⟩
        dsimp only
        rw [x3, take_flat num2 go 0 x hx, List.append_assoc, ← e1]
        rfl
      · dsimp only; omega
    · have hx : x = go.length := by simp only [EV.len] at h; omega
      subst hx
      rw [List.take_length] at x3
      clear h n1 w1
      repeat' (first
          | ((with_reducible apply Sat.run (X := X64)); exact rfl; (first | exact True.intro | (exact phi) | skip))
          | ((with_reducible apply Sat.drawn); kernel_rfl)
          | ((with_reducible apply DSat.run (X := X64)); exact rfl; (first | exact True.intro | (exact phi) | skip))
          | ((with_reducible apply DSat.fin); kernel_rfl)
          | ((with_reducible apply Sat.cond_t); exact rfl)
          | ((with_reducible apply Sat.cond_f); exact rfl)
          | ((with_reducible apply Sat.cond_pt); exact rfl; (try dsimp only [V.EV.sub, V.EV.len]); first | assumption | omega)
          | ((with_reducible apply Sat.cond_pf); exact rfl; (try dsimp only [V.EV.sub, V.EV.len]); first | assumption | omega)
          | ((with_reducible apply Sat.cond_p); exact rfl; all_goals intro h)
          | ((with_reducible apply Sat.cond); exact rfl; all_goals intro h) | fail)
      have hL2 : L.length ≤ 200 := by omega
      have e3 : L ++ List.take 1 (List.drop 0 [UInt8.ofNat (IntKind.u8.wrap (pa.length : Int)).toNat]) = L ++ num1 pa.length := by rw [num1, nb_zero]; rfl
      with_reducible apply Sat.drop
      · exact rfl
      · (repeat' (first | exact AllP.nil | with_reducible refine AllP.cons ?_ ?_)) <;> (intro _ _; simp [pureL, pureS, pureE]; done)
      refine Sat.kill [70, 71] rfl ?_
      apply Sat.loop (α := Nat × List UInt8) (fun x => x.1 ≤ pa.length ∧ x.2.length ≤ 300 + 100 * x.1 ∧ x.2 = L ++ num1 pa.length ++ partsW (pa.take x.1)) (fun x => pa.length - x.1) (0, L ++ num1 pa.length) (fun x => [(5, .int .i64 (x.1 : Int)), (3, .row 1 0 1 0 x.2.length)]) (fun x => [(1, .row 5 (.u8 x.2))]) [11, 12] [(1, some 12)] 0
      · intro x; exact rfl
      · intro x; exact rfl
      · exact rfl
      · exact rfl
      · (repeat' (first | exact AllP.nil | with_reducible refine AllP.cons ?_ ?_)) <;> first | with_reducible exact rfl | exact congrArg EV.u8 e3 | with_reducible exact ⟨rfl, rfl, rfl, rfl⟩ | (refine ⟨rfl, rfl, rfl, ?_⟩; show _ = (L ++ num1 pa.length).length; simp only [EV.len, EV.sub, num1_len, List.length_append, List.length_take, List.length_drop, List.length_cons, List.length_nil]; omega) | exact rfl | exact trivial | (intro _ _; simp [pureL, pureS, pureE]; done) | exact ⟨rfl, rfl, rfl, rfl⟩
      · exact ⟨Nat.zero_le _, by simp [num1]; omega, by simp [partsW]⟩
      · rintro ⟨y, K⟩ ⟨y1, y2, y3⟩
        dsimp only at y1 y2 y3 ⊢
        by_cases hy : y < pa.length
        · have h5 := l4 y hy
          have h6 : (pa.getD (y : Int).toNat part0).name.length ≤ 20 := hn y hy
          have k5 : 32 = (pa.getD (y : Int).toNat part0).hash.length := h5.2.symm
          have n1 := text_ref (pa.getD (y : Int).toNat part0).name h6
          have w1 : (num1 (pa.getD (y : Int).toNat part0).name.length ++ (pa.getD (y : Int).toNat part0).name).length ≤ 21 := by simp only [List.length_append, num1_len]; omega
          have e6 : partsW (pa.take (y + 1)) = partsW (pa.take y) ++ ((num1 (pa.getD (y : Int).toNat part0).name.length ++ (pa.getD (y : Int).toNat part0).name) ++ (pa.getD (y : Int).toNat part0).hash) := by
            unfold partsW
            rw [take_flat _ pa part0 y hy]
            rfl
          generalize num1 (pa.getD (y : Int).toNat part0).name.length ++ (pa.getD (y : Int).toNat part0).name = A1 at n1 w1 e6
          clear h5 h6
          repeat' (first
              | ((with_reducible apply Sat.run (X := X64)); exact rfl; (first | exact True.intro | (exact phi) | skip))
              | ((with_reducible apply Sat.drawn); kernel_rfl)
              | ((with_reducible apply DSat.run (X := X64)); exact rfl; (first | exact True.intro | (exact phi) | skip))
              | ((with_reducible apply DSat.fin); kernel_rfl)
              | ((with_reducible apply Sat.cond_t); exact rfl)
              | ((with_reducible apply Sat.cond_f); exact rfl)
              | ((with_reducible apply Sat.cond_pt); exact rfl; (try dsimp only [V.EV.sub, V.EV.len]); first | assumption | omega)
              | ((with_reducible apply Sat.cond_pf); exact rfl; (try dsimp only [V.EV.sub, V.EV.len]); first | assumption | omega)
              | ((with_reducible apply Sat.cond_p); exact rfl; all_goals intro h)
              | ((with_reducible apply Sat.cond); exact rfl; all_goals intro h)
              | ((with_reducible apply Sat.call (n1)); exact rfl; exact rfl; kernel_rfl; (exact cnvX); exact rfl)
              | ((with_reducible apply DSat.call (n1)); exact rfl; exact rfl; kernel_rfl; (exact cnvX); exact rfl) | fail)
          have e7 : K ++ A1 ++ List.take (32 - 0) (List.drop 0 (pa.getD (y : Int).toNat part0).hash) = K ++ (A1 ++ (pa.getD (y : Int).toNat part0).hash) := by
            rw [List.drop_zero, List.take_of_length_le (by omega), List.append_assoc]
          refine Sat.back (y + 1, K ++ (A1 ++ (pa.getD (y : Int).toNat part0).hash)) [(1, some 14)] rfl ?_ ?_ ?_
          · (repeat' (first | exact AllP.nil | with_reducible refine AllP.cons ?_ ?_)) <;> first | with_reducible exact rfl | exact congrArg EV.u8 e7 | exact Int.natCast_add_one _ | (refine ⟨rfl, rfl, rfl, ?_⟩; show _ = (K ++ (A1 ++ (pa.getD (y : Int).toNat part0).hash)).length; rw [← e7]; simp only [EV.len, EV.sub, List.length_append, Option.getD_none]; done) | exact rfl | exact trivial | (intro _ _; simp [pureL, pureS, pureE]; done) | exact ⟨rfl, rfl, rfl, rfl⟩
          · refine ⟨hy, by simp only [List.length_append]; omega, ?_⟩
            dsimp only
            rw [y3, e6, List.append_assoc]
          · dsimp only; omega
        · have hx : y = pa.length := by omega
          subst hx
          rw [List.take_length] at y3
          repeat' (first
              | ((with_reducible apply Sat.run (X := X64)); exact rfl; (first | exact True.intro | (exact phi) | skip))
              | ((with_reducible apply Sat.drawn); kernel_rfl)
              | ((with_reducible apply DSat.run (X := X64)); exact rfl; (first | exact True.intro | (exact phi) | skip))
              | ((with_reducible apply DSat.fin); kernel_rfl)
              | ((with_reducible apply Sat.cond_t); exact rfl)
              | ((with_reducible apply Sat.cond_f); exact rfl)
              | ((with_reducible apply Sat.cond_pt); exact rfl; (try dsimp only [V.EV.sub, V.EV.len]); first | assumption | omega)
              | ((with_reducible apply Sat.cond_pf); exact rfl; (try dsimp only [V.EV.sub, V.EV.len]); first | assumption | omega)
              | ((with_reducible apply Sat.cond_p); exact rfl; all_goals intro h)
              | ((with_reducible apply Sat.cond); exact rfl; all_goals intro h) | fail)
          refine Sat.fin (Sat.end1 rfl rfl rfl True.intro (.all _ _ _ _ _ rfl rfl (by simp [EV.len, EV.sub]; try omega) trivial) (by first | exact .inl rfl | exact .inr rfl) (fun _ h => h)) ?_
          refine congrArg (fun x => SV.ro (EV.u8 x)) ?_
          rw [y3, x3]
          simp only [bytesR, List.append_assoc]
theorem bytesR_spec (r : Rel) (hv : validB r = true) : Fun Tryd.prog [] 16 [r.v] (.ro (.u8 (bytesR r))) := by
  obtain ⟨v, fl, ex, sz, im, ch, tr, go, pa⟩ := r
  exact bytesR_t v fl ex sz im ch tr go pa hv
end Go.Proofs.YtegbdcadlmefgaaDoor
end
section
namespace Go.Proofs.YtegbdcadlmefgaaDoor
open Go.RowKit V
--PURE: (intro _ _; simp [pureL, pureS, pureE]; done)
set_option maxRecDepth 100000
set_option maxHeartbeats 8000000
set_option linter.unusedSimpArgs false
attribute [local irreducible] V.Sat V.DSat
theorem ris_len (l : List Int) (high : Int) (h : risB l 0 high = true) : l.length = 0 ∨ (l.length : Int) ≤ high + 1 := by
  have h1 := of_decide_eq_true h
  have key : ∀ i, i < l.length → (i : Int) ≤ l.getD i 0 := by
    intro i
    induction i with
    | zero => intro hi; have := (h1 0 hi).1; unfold inB at this; simp only [Bool.and_eq_true, decide_eq_true_eq] at this; omega
    | succ i ih =>
      intro hi
      have h2 := ih (by omega)
      have h3 := (h1 (i + 1) hi).2 (by omega)
      simp only [Nat.add_sub_cancel] at h3
      omega
  rcases Nat.eq_zero_or_pos l.length with h0 | h0
  · exact .inl h0
  · right
    have h2 := key (l.length - 1) (by omega)
    have h3 := (h1 (l.length - 1) (by omega)).1
    unfold inB at h3
    simp only [Bool.and_eq_true, decide_eq_true_eq] at h3
    omega
def roleW (x : RoleL) : List UInt8 := num1 x.name.length ++ x.name ++ num1 x.keys.length ++ x.keys.flatMap num1 ++ num1 x.need
def hdrR (g ex : Int) (n : Int) : List UInt8 := num1 82 ++ num4 g ++ num4 ex ++ num1 n
/-- The bytes of a root. -/
def bytesQ (r : RootL) : List UInt8 := hdrR r.gen r.expiry r.keys.length ++ r.keys.flatten ++ num1 r.roles.length ++ r.roles.flatMap roleW
structure RootFacts (ks : List (List UInt8)) (rs : List RoleL) : Prop where
  keys : ks.length ≤ 8
  roles : rs.length ≤ 8
  name : ∀ i, i < rs.length → (rs.getD i role0).name.length ≤ 20
  rk : ∀ i, i < rs.length → (rs.getD i role0).keys.length ≤ 8
theorem root_facts {r : RootL} (hv : rootB r = true) : RootFacts r.keys r.roles := by
  unfold rootB at hv
  simp only [Bool.and_eq_true] at hv
  obtain ⟨h1, _, h3⟩ := hv
  unfold root1 inB at h1
  simp only [Bool.and_eq_true, decide_eq_true_eq] at h1
  have h4 := of_decide_eq_true h3
  refine ⟨by omega, by omega, fun i hi => ?_, fun i hi => ?_⟩
  · have h5 := (h4 i hi).1
    generalize (r.roles.getD i role0).name = s at h5 ⊢
    unfold plainB inB at h5
    simp at h5
    omega
  · have h5 := ris_len _ _ (h4 i hi).2.2.2.1
    omega
theorem key_facts (r : RootL) (h : factsL [r.v]) : ∀ i, i < r.keys.length → (r.keys.getD i []).length = 32 := by
  simp only [factsL, factsS, RootL.v, EV.len, EV.sz, Nat.mul_one] at h
  obtain ⟨⟨-, -, ⟨-, h3⟩, -⟩, -⟩ := h
  intro i hi
  have h5 := h3 i hi
  simp only [factsL, factsS, EV.len, EV.sz, Nat.mul_one] at h5
  exact h5.1.1
theorem rootBytes_f (r : RootL) (hv : rootB r = false) : Fun Tryd.prog [] 19 [r.v] .nils := by
  have h1 := validRoot_spec r
  rw [hv] at h1
  refine Fun.mkF 7 Tryd.func19 rfl Tryd.ntmps19 rfl rfl fun hf T w0 => ?_
  obtain ⟨g, ex, ks, rs⟩ := r
  repeat' (first
      | ((with_reducible apply Sat.run (X := X64)); exact rfl; (first | exact True.intro | (exact phi) | skip))
      | ((with_reducible apply Sat.drawn); kernel_rfl)
      | ((with_reducible apply DSat.run (X := X64)); exact rfl; (first | exact True.intro | (exact phi) | skip))
      | ((with_reducible apply DSat.fin); kernel_rfl)
      | ((with_reducible apply Sat.cond_t); exact rfl)
      | ((with_reducible apply Sat.cond_f); exact rfl)
      | ((with_reducible apply Sat.cond_pt); exact rfl; (try dsimp only [V.EV.sub, V.EV.len]); first | assumption | omega)
      | ((with_reducible apply Sat.cond_pf); exact rfl; (try dsimp only [V.EV.sub, V.EV.len]); first | assumption | omega)
      | ((with_reducible apply Sat.cond_p); exact rfl; all_goals intro h)
      | ((with_reducible apply Sat.cond); exact rfl; all_goals intro h)
      | ((with_reducible apply Sat.callR (h1)); exact rfl; exact rfl; exact rfl; kernel_rfl; (exact cnvX); exact rfl)
      | ((with_reducible apply DSat.callR (h1)); exact rfl; exact rfl; exact rfl; kernel_rfl; (exact cnvX); exact rfl) | fail)
  (refine Sat.fin (Sat.end1 rfl rfl rfl True.intro (.refl _ purX) (by first | exact .inl rfl | exact .inr rfl) (fun _ h => h)) ?_; rfl)
theorem hdrR_walk (g ex n : Int) : [] ++ [nb 82 (8 * (1 - 1) : Int).toNat] ++ [nb g (8 * (4 - 1) : Int).toNat] ++ [nb g (8 * (4 - 1 - 1) : Int).toNat] ++ [nb g (8 * (4 - 1 - 1 - 1) : Int).toNat] ++ [nb g (8 * (4 - 1 - 1 - 1 - 1) : Int).toNat] ++ [nb ex (8 * (4 - 1) : Int).toNat] ++ [nb ex (8 * (4 - 1 - 1) : Int).toNat] ++ [nb ex (8 * (4 - 1 - 1 - 1) : Int).toNat] ++ [nb ex (8 * (4 - 1 - 1 - 1 - 1) : Int).toNat]
    ++ [nb n (8 * (1 - 1) : Int).toNat] = hdrR g ex n := by
  have e : ∀ a : Int, (8 * (1 - 1) : Int).toNat = 0 ∧ (8 * (4 - 1) : Int).toNat = 24 ∧ (8 * (4 - 1 - 1) : Int).toNat = 16 ∧ (8 * (4 - 1 - 1 - 1) : Int).toNat = 8 ∧ (8 * (4 - 1 - 1 - 1 - 1) : Int).toNat = 0 := fun _ => by decide
  obtain ⟨e1, e4, e5, e6, e7⟩ := e 0
  rw [e1, e4, e5, e6, e7]
  simp only [hdrR, num1, num4, List.append_assoc, List.nil_append, List.cons_append]
@[reducible] def killQ : List Nat := [3, 12, 13, 14, 16, 17, 18, 19, 20, 21, 22, 23, 24, 25, 26, 27, 28, 29, 30, 31, 32, 33, 34, 35, 36, 37, 38, 39, 40, 41, 42, 43, 44, 45, 46, 47, 48, 49, 50, 51, 52, 53, 54, 55, 56, 57, 58, 59]
theorem rootBytes_t (g ex : Int) (ks : List (List UInt8)) (rs : List RoleL) (hv : rootB ⟨g, ex, ks, rs⟩ = true) : Fun Tryd.prog [] 19 [.agg [.int .i64 g, .int .i64 ex, .ro (keysE ks), .ro (rolesE rs)]] (.ro (.u8 (bytesQ ⟨g, ex, ks, rs⟩))) := by
  have h1 : Fun Tryd.prog [] 17 [.agg [.int .i64 g, .int .i64 ex, .ro (keysE ks), .ro (rolesE rs)]] (.bool (rootB ⟨g, ex, ks, rs⟩)) := validRoot_spec ⟨g, ex, ks, rs⟩
  rw [hv] at h1
  refine Fun.mkWF 7 Tryd.func19 rfl Tryd.ntmps19 rfl rfl fun hf T w0 hT => ?_
  have l1 := key_facts ⟨g, ex, ks, rs⟩ hf
  dsimp only at l1
  obtain ⟨c1, c2, c3, c4⟩ := root_facts hv
  dsimp only at c1 c2 c3 c4
  clear hf hv
  have b1 := buf_byte
  repeat' (first
      | ((with_reducible apply Sat.run (X := X64)); exact rfl; (first | exact True.intro | (exact phi) | skip))
      | ((with_reducible apply Sat.drawn); kernel_rfl)
      | ((with_reducible apply DSat.run (X := X64)); exact rfl; (first | exact True.intro | (exact phi) | skip))
      | ((with_reducible apply DSat.fin); kernel_rfl)
      | ((with_reducible apply Sat.cond_t); exact rfl)
      | ((with_reducible apply Sat.cond_f); exact rfl)
      | ((with_reducible apply Sat.cond_pt); exact rfl; (try dsimp only [V.EV.sub, V.EV.len]); first | assumption | omega)
      | ((with_reducible apply Sat.cond_pf); exact rfl; (try dsimp only [V.EV.sub, V.EV.len]); first | assumption | omega)
      | ((with_reducible apply Sat.cond_p); exact rfl; all_goals intro h)
      | ((with_reducible apply Sat.cond); exact rfl; all_goals intro h)
      | ((with_reducible apply Sat.callW (h1)); exact rfl; exact rfl; kernel_rfl; (exact cnvX); exact rfl)
      | ((with_reducible apply Sat.inl 7 kill3 Tryd.func45 Tryd.ntmps45); exact rfl; exact rfl; kernel_rfl; exact rfl; exact rfl; exact rfl; exact rfl; ((repeat' (first | exact AllP.nil | with_reducible refine AllP.cons ?_ ?_)) <;> (first | exact True.intro | exact purX)); intro _ _)
      | ((with_reducible apply Sat.out1 (C := ⟨_, _, _, _, _, _, _, _, _⟩)); exact rfl; (first | exact .inl rfl | exact .inr rfl); exact rfl; (exact phi); exact rfl)
      | ((with_reducible apply Sat.out0 (C := ⟨_, _, _, _, _, _, _, _, _⟩)); exact rfl; (first | exact .inl rfl | exact .inr rfl); exact rfl)
      | ((with_reducible apply Sat.out2 (C := ⟨_, _, _, _, _, _, _, _, _⟩)); exact rfl; (first | exact .inl rfl | exact .inr rfl); exact rfl; (exact phi); exact rfl; (exact phi); exact rfl)
      | (with_reducible apply Sat.unroll 40)
      | (with_reducible apply Sat.again)
      | ((with_reducible apply Sat.buf (b1 _)); exact rfl; kernel_rfl; (exact cnvX); exact rfl; ((repeat' (first | exact AllP.nil | with_reducible refine AllP.cons ?_ ?_)) <;> (first | exact rfl | exact True.intro | omega | (simp only [List.length_append, List.length_cons, List.length_nil]; done) | (simp only [List.length_append, List.length_cons, List.length_nil]; omega) | (simp only [List.length_append, List.length_cons, List.length_nil, *]; omega) | exact purX)); exact rfl; (exact fun _ h => h); (exact fun _ h => Or.inr h))
      | ((with_reducible apply DSat.buf (b1 _)); exact rfl; kernel_rfl; (exact cnvX); exact rfl; exact rfl; ((repeat' (first | exact AllP.nil | with_reducible refine AllP.cons ?_ ?_)) <;> (first | exact rfl | exact True.intro | omega | (simp only [List.length_append, List.length_cons, List.length_nil]; done) | (simp only [List.length_append, List.length_cons, List.length_nil]; omega) | (simp only [List.length_append, List.length_cons, List.length_nil, *]; omega) | exact purX)); exact rfl; (exact fun _ h => h); (exact fun _ h => Or.inr h)) | fail)
  repeat' (first
      | ((with_reducible apply Sat.run (X := X64)); exact rfl; (first | exact True.intro | (exact phi) | skip))
      | ((with_reducible apply Sat.drawn); kernel_rfl)
      | ((with_reducible apply DSat.run (X := X64)); exact rfl; (first | exact True.intro | (exact phi) | skip))
      | ((with_reducible apply DSat.fin); kernel_rfl)
      | ((with_reducible apply Sat.inl 7 kill3 Tryd.func61 Tryd.ntmps61); exact rfl; exact rfl; kernel_rfl; exact rfl; exact rfl; exact rfl; exact rfl; ((repeat' (first | exact AllP.nil | with_reducible refine AllP.cons ?_ ?_)) <;> (first | exact True.intro | exact purX)); intro _ _)
      | ((with_reducible apply Sat.inl 7 kill3 Tryd.func45 Tryd.ntmps45); exact rfl; exact rfl; kernel_rfl; exact rfl; exact rfl; exact rfl; exact rfl; ((repeat' (first | exact AllP.nil | with_reducible refine AllP.cons ?_ ?_)) <;> (first | exact True.intro | exact purX)); intro _ _) | fail)
  with_reducible apply Sat.unroll 40
  repeat' (first
      | ((with_reducible apply Sat.run (X := X64)); exact rfl; (first | exact True.intro | (exact phi) | skip))
      | ((with_reducible apply Sat.drawn); kernel_rfl)
      | ((with_reducible apply DSat.run (X := X64)); exact rfl; (first | exact True.intro | (exact phi) | skip))
      | ((with_reducible apply DSat.fin); kernel_rfl)
      | ((with_reducible apply Sat.cond_t); exact rfl)
      | ((with_reducible apply Sat.cond_f); exact rfl)
      | ((with_reducible apply Sat.cond_pt); exact rfl; (try dsimp only [V.EV.sub, V.EV.len]); first | assumption | omega)
      | ((with_reducible apply Sat.cond_pf); exact rfl; (try dsimp only [V.EV.sub, V.EV.len]); first | assumption | omega)
      | ((with_reducible apply Sat.cond_p); exact rfl; all_goals intro h)
      | ((with_reducible apply Sat.cond); exact rfl; all_goals intro h)
      | ((with_reducible apply Sat.out1 (C := ⟨_, _, _, _, _, _, _, _, _⟩)); exact rfl; (first | exact .inl rfl | exact .inr rfl); exact rfl; (exact phi); exact rfl)
      | ((with_reducible apply Sat.out0 (C := ⟨_, _, _, _, _, _, _, _, _⟩)); exact rfl; (first | exact .inl rfl | exact .inr rfl); exact rfl)
      | ((with_reducible apply Sat.out2 (C := ⟨_, _, _, _, _, _, _, _, _⟩)); exact rfl; (first | exact .inl rfl | exact .inr rfl); exact rfl; (exact phi); exact rfl; (exact phi); exact rfl)
      | (with_reducible apply Sat.again)
      | ((with_reducible apply Sat.buf (b1 _)); exact rfl; kernel_rfl; (exact cnvX); exact rfl; ((repeat' (first | exact AllP.nil | with_reducible refine AllP.cons ?_ ?_)) <;> (first | exact rfl | exact True.intro | omega | (simp only [List.length_append, List.length_cons, List.length_nil]; done) | (simp only [List.length_append, List.length_cons, List.length_nil]; omega) | (simp only [List.length_append, List.length_cons, List.length_nil, *]; omega) | exact purX)); exact rfl; (exact fun _ h => h); (exact fun _ h => Or.inr h))
      | ((with_reducible apply DSat.buf (b1 _)); exact rfl; kernel_rfl; (exact cnvX); exact rfl; exact rfl; ((repeat' (first | exact AllP.nil | with_reducible refine AllP.cons ?_ ?_)) <;> (first | exact rfl | exact True.intro | omega | (simp only [List.length_append, List.length_cons, List.length_nil]; done) | (simp only [List.length_append, List.length_cons, List.length_nil]; omega) | (simp only [List.length_append, List.length_cons, List.length_nil, *]; omega) | exact purX)); exact rfl; (exact fun _ h => h); (exact fun _ h => Or.inr h)) | fail)
  clear h1
  apply Sat.loop (α := Nat × List UInt8) (fun x => x.1 ≤ ks.length ∧ x.2.length ≤ 100 + 32 * x.1 ∧ x.2 = hdrR g ex ks.length ++ (ks.take x.1).flatten) (fun x => ks.length - x.1) (0, hdrR g ex ks.length) (fun x => [(14, .int .i64 (x.1 : Int))]) (fun x => [(1, .cells 91 [.bsl 3 x.2.length, .int .i64 0, .anyi .i8]), (3, .row 5 (.u8 x.2))]) [12] [(3, some 12), (999, none)] 0
  · intro x; exact rfl
  · intro x; exact rfl
  · exact rfl
  · exact rfl
  · (repeat' (first | exact AllP.nil | with_reducible refine AllP.cons ?_ ?_)) <;> first | with_reducible exact rfl | exact congrArg EV.u8 (hdrR_walk g ex ks.length) | exact congrArg List.length (hdrR_walk g ex ks.length) | exact rfl | exact trivial | (intro _ _; simp [pureL, pureS, pureE]; done) | exact ⟨rfl, rfl, rfl, rfl⟩
  · exact ⟨Nat.zero_le _, by simp [hdrR], by simp⟩
  · rintro ⟨x, L⟩ ⟨x1, x2, x3⟩
    dsimp only at x1 x2 x3 ⊢
    by_cases hx : x < ks.length
    · have k5 : 32 = (ks.getD (x : Int).toNat []).length := (l1 x hx).symm
      have hh : ks.getD (x : Int).toNat [] ≠ [] := fun h => by rw [h] at k5; cases k5
      have b5 := buf_write _ hh
      clear hh
      repeat' (first
          | ((with_reducible apply Sat.run (X := X64)); exact rfl; (first | exact True.intro | (exact phi) | skip))
          | ((with_reducible apply Sat.drawn); kernel_rfl)
          | ((with_reducible apply DSat.run (X := X64)); exact rfl; (first | exact True.intro | (exact phi) | skip))
          | ((with_reducible apply DSat.fin); kernel_rfl)
          | ((with_reducible apply Sat.cond_t); exact rfl)
          | ((with_reducible apply Sat.cond_f); exact rfl)
          | ((with_reducible apply Sat.cond_pt); exact rfl; (try dsimp only [V.EV.sub, V.EV.len]); first | assumption | omega)
          | ((with_reducible apply Sat.cond_pf); exact rfl; (try dsimp only [V.EV.sub, V.EV.len]); first | assumption | omega)
          | ((with_reducible apply Sat.cond_p); exact rfl; all_goals intro h)
          | ((with_reducible apply Sat.cond); exact rfl; all_goals intro h)
          | ((with_reducible apply Sat.inl 7 kill3 Tryd.func62 Tryd.ntmps62); exact rfl; exact rfl; kernel_rfl; exact rfl; exact rfl; exact rfl; exact rfl; ((repeat' (first | exact AllP.nil | with_reducible refine AllP.cons ?_ ?_)) <;> (first | exact True.intro | exact purX)); intro _ _)
          | ((with_reducible apply Sat.out1 (C := ⟨_, _, _, _, _, _, _, _, _⟩)); exact rfl; (first | exact .inl rfl | exact .inr rfl); exact rfl; (exact phi); exact rfl)
          | ((with_reducible apply Sat.out0 (C := ⟨_, _, _, _, _, _, _, _, _⟩)); exact rfl; (first | exact .inl rfl | exact .inr rfl); exact rfl)
          | ((with_reducible apply Sat.out2 (C := ⟨_, _, _, _, _, _, _, _, _⟩)); exact rfl; (first | exact .inl rfl | exact .inr rfl); exact rfl; (exact phi); exact rfl; (exact phi); exact rfl)
          | ((with_reducible apply Sat.buf (b5)); exact rfl; kernel_rfl; (exact cnvX); exact rfl; ((repeat' (first | exact AllP.nil | with_reducible refine AllP.cons ?_ ?_)) <;> (first | exact rfl | exact True.intro | omega | (simp only [List.length_append, List.length_cons, List.length_nil]; done) | (simp only [List.length_append, List.length_cons, List.length_nil]; omega) | (simp only [List.length_append, List.length_cons, List.length_nil, *]; omega) | exact purX)); exact rfl; (exact fun _ h => h); (exact fun _ h => Or.inr h))
          | ((with_reducible apply DSat.buf (b5)); exact rfl; kernel_rfl; (exact cnvX); exact rfl; exact rfl; ((repeat' (first | exact AllP.nil | with_reducible refine AllP.cons ?_ ?_)) <;> (first | exact rfl | exact True.intro | omega | (simp only [List.length_append, List.length_cons, List.length_nil]; done) | (simp only [List.length_append, List.length_cons, List.length_nil]; omega) | (simp only [List.length_append, List.length_cons, List.length_nil, *]; omega) | exact purX)); exact rfl; (exact fun _ h => h); (exact fun _ h => Or.inr h)) | fail)
      refine Sat.back (x + 1, L ++ ks.getD (x : Int).toNat []) [(3, some 15), (999, none)] rfl ?_ ?_ ?_
      · (repeat' (first | exact AllP.nil | with_reducible refine AllP.cons ?_ ?_)) <;> first | with_reducible exact rfl | exact Int.natCast_add_one _ | exact rfl | exact trivial | (intro _ _; simp [pureL, pureS, pureE]; done) | exact ⟨rfl, rfl, rfl, rfl⟩
      · refine ⟨hx, by simp only [List.length_append]; omega, ?_⟩
        dsimp only
        rw [x3, List.append_assoc]
        congr 1
        rw [List.take_add_one, List.flatten_append]
        simp [List.getD_eq_getElem?_getD, hx]
      · dsimp only; omega
    · have hx : x = ks.length := by omega
      subst hx
      rw [List.take_length] at x3
      repeat' (first
          | ((with_reducible apply Sat.run (X := X64)); exact rfl; (first | exact True.intro | (exact phi) | skip))
          | ((with_reducible apply Sat.drawn); kernel_rfl)
          | ((with_reducible apply DSat.run (X := X64)); exact rfl; (first | exact True.intro | (exact phi) | skip))
          | ((with_reducible apply DSat.fin); kernel_rfl)
          | ((with_reducible apply Sat.cond_t); exact rfl)
          | ((with_reducible apply Sat.cond_f); exact rfl)
          | ((with_reducible apply Sat.cond_pt); exact rfl; (try dsimp only [V.EV.sub, V.EV.len]); first | assumption | omega)
          | ((with_reducible apply Sat.cond_pf); exact rfl; (try dsimp only [V.EV.sub, V.EV.len]); first | assumption | omega)
          | ((with_reducible apply Sat.cond_p); exact rfl; all_goals intro h)
          | ((with_reducible apply Sat.cond); exact rfl; all_goals intro h)
          | ((with_reducible apply Sat.out1 (C := ⟨_, _, _, _, _, _, _, _, _⟩)); exact rfl; (first | exact .inl rfl | exact .inr rfl); exact rfl; (exact phi); exact rfl)
          | ((with_reducible apply Sat.out0 (C := ⟨_, _, _, _, _, _, _, _, _⟩)); exact rfl; (first | exact .inl rfl | exact .inr rfl); exact rfl)
          | ((with_reducible apply Sat.out2 (C := ⟨_, _, _, _, _, _, _, _, _⟩)); exact rfl; (first | exact .inl rfl | exact .inr rfl); exact rfl; (exact phi); exact rfl; (exact phi); exact rfl) | fail)
      repeat' (first
          | ((with_reducible apply Sat.run (X := X64)); exact rfl; (first | exact True.intro | (exact phi) | skip))
          | ((with_reducible apply Sat.drawn); kernel_rfl)
          | ((with_reducible apply DSat.run (X := X64)); exact rfl; (first | exact True.intro | (exact phi) | skip))
          | ((with_reducible apply DSat.fin); kernel_rfl)
          | ((with_reducible apply Sat.inl 7 kill3 Tryd.func63 Tryd.ntmps63); exact rfl; exact rfl; kernel_rfl; exact rfl; exact rfl; exact rfl; exact rfl; ((repeat' (first | exact AllP.nil | with_reducible refine AllP.cons ?_ ?_)) <;> (first | exact True.intro | exact purX)); intro _ _)
          | ((with_reducible apply Sat.inl 7 kill3 Tryd.func45 Tryd.ntmps45); exact rfl; exact rfl; kernel_rfl; exact rfl; exact rfl; exact rfl; exact rfl; ((repeat' (first | exact AllP.nil | with_reducible refine AllP.cons ?_ ?_)) <;> (first | exact True.intro | exact purX)); intro _ _) | fail)
      with_reducible apply Sat.unroll 40
      repeat' (first
          | ((with_reducible apply Sat.run (X := X64)); exact rfl; (first | exact True.intro | (exact phi) | skip))
          | ((with_reducible apply Sat.drawn); kernel_rfl)
          | ((with_reducible apply DSat.run (X := X64)); exact rfl; (first | exact True.intro | (exact phi) | skip))
          | ((with_reducible apply DSat.fin); kernel_rfl)
          | ((with_reducible apply Sat.cond_t); exact rfl)
          | ((with_reducible apply Sat.cond_f); exact rfl)
          | ((with_reducible apply Sat.cond_pt); exact rfl; (try dsimp only [V.EV.sub, V.EV.len]); first | assumption | omega)
          | ((with_reducible apply Sat.cond_pf); exact rfl; (try dsimp only [V.EV.sub, V.EV.len]); first | assumption | omega)
          | ((with_reducible apply Sat.cond_p); exact rfl; all_goals intro h)
          | ((with_reducible apply Sat.cond); exact rfl; all_goals intro h)
          | ((with_reducible apply Sat.out1 (C := ⟨_, _, _, _, _, _, _, _, _⟩)); exact rfl; (first | exact .inl rfl | exact .inr rfl); exact rfl; (exact phi); exact rfl)
          | ((with_reducible apply Sat.out0 (C := ⟨_, _, _, _, _, _, _, _, _⟩)); exact rfl; (first | exact .inl rfl | exact .inr rfl); exact rfl)
          | ((with_reducible apply Sat.out2 (C := ⟨_, _, _, _, _, _, _, _, _⟩)); exact rfl; (first | exact .inl rfl | exact .inr rfl); exact rfl; (exact phi); exact rfl; (exact phi); exact rfl)
          | (with_reducible apply Sat.again)
          | ((with_reducible apply Sat.buf (b1 _)); exact rfl; kernel_rfl; (exact cnvX); exact rfl; ((repeat' (first | exact AllP.nil | with_reducible refine AllP.cons ?_ ?_)) <;> (first | exact rfl | exact True.intro | omega | (simp only [List.length_append, List.length_cons, List.length_nil]; done) | (simp only [List.length_append, List.length_cons, List.length_nil]; omega) | (simp only [List.length_append, List.length_cons, List.length_nil, *]; omega) | exact purX)); exact rfl; (exact fun _ h => h); (exact fun _ h => Or.inr h))
          | ((with_reducible apply DSat.buf (b1 _)); exact rfl; kernel_rfl; (exact cnvX); exact rfl; exact rfl; ((repeat' (first | exact AllP.nil | with_reducible refine AllP.cons ?_ ?_)) <;> (first | exact rfl | exact True.intro | omega | (simp only [List.length_append, List.length_cons, List.length_nil]; done) | (simp only [List.length_append, List.length_cons, List.length_nil]; omega) | (simp only [List.length_append, List.length_cons, List.length_nil, *]; omega) | exact purX)); exact rfl; (exact fun _ h => h); (exact fun _ h => Or.inr h)) | fail)
      have hL : L.length ≤ 400 := by omega
      clear x1 x2
      apply Sat.loop (α := Nat × List UInt8) (fun x => x.1 ≤ rs.length ∧ x.2.length ≤ 500 + 100 * x.1 ∧ x.2 = L ++ num1 rs.length ++ (rs.take x.1).flatMap roleW) (fun x => rs.length - x.1) (0, L ++ num1 rs.length) (fun x => [(14, .int .i64 (x.1 : Int))]) (fun x => [(1, .cells 91 [.bsl 3 x.2.length, .int .i64 0, .anyi .i8]), (3, .row 5 (.u8 x.2))]) [13] [(3, some 13), (999, none)] 0
      · intro x; exact rfl
      · intro x; exact rfl
      · exact rfl
      · exact rfl
      · (repeat' (first | exact AllP.nil | with_reducible refine AllP.cons ?_ ?_)) <;> first | with_reducible exact rfl | exact congrArg EV.u8 (num1_walk L rs.length) | exact congrArg List.length (num1_walk L rs.length) | exact rfl | exact trivial | (intro _ _; simp [pureL, pureS, pureE]; done) | exact ⟨rfl, rfl, rfl, rfl⟩
      · exact ⟨Nat.zero_le _, by simp; omega, by simp⟩
      · rintro ⟨y, K⟩ ⟨y1, y2, y3⟩
        dsimp only at y1 y2 y3 ⊢
        by_cases hy : y < rs.length
        · have h6 : (rs.getD (y : Int).toNat role0).name.length ≤ 20 := c3 y hy
          have h7 : (rs.getD (y : Int).toNat role0).keys.length ≤ 8 := c4 y hy
          have b4 := buf_str (rs.getD (y : Int).toNat role0).name
          have e6 : (rs.take (y + 1)).flatMap roleW = (rs.take y).flatMap roleW ++ roleW (rs.getD (y : Int).toNat role0) := take_flat _ rs role0 y hy
          repeat' (first
              | ((with_reducible apply Sat.run (X := X64)); exact rfl; (first | exact True.intro | (exact phi) | skip))
              | ((with_reducible apply Sat.drawn); kernel_rfl)
              | ((with_reducible apply DSat.run (X := X64)); exact rfl; (first | exact True.intro | (exact phi) | skip))
              | ((with_reducible apply DSat.fin); kernel_rfl)
              | ((with_reducible apply Sat.cond_t); exact rfl)
              | ((with_reducible apply Sat.cond_f); exact rfl)
              | ((with_reducible apply Sat.cond_pt); exact rfl; (try dsimp only [V.EV.sub, V.EV.len]); first | assumption | omega)
              | ((with_reducible apply Sat.cond_pf); exact rfl; (try dsimp only [V.EV.sub, V.EV.len]); first | assumption | omega)
              | ((with_reducible apply Sat.cond_p); exact rfl; all_goals intro h)
              | ((with_reducible apply Sat.cond); exact rfl; all_goals intro h)
              | ((with_reducible apply Sat.inl 7 kill3 Tryd.func64 Tryd.ntmps64); exact rfl; exact rfl; kernel_rfl; exact rfl; exact rfl; exact rfl; exact rfl; ((repeat' (first | exact AllP.nil | with_reducible refine AllP.cons ?_ ?_)) <;> (first | exact True.intro | exact purX)); intro _ _)
              | ((with_reducible apply Sat.inl 7 killQ Tryd.func51 Tryd.ntmps51); exact rfl; exact rfl; kernel_rfl; exact rfl; exact rfl; exact rfl; exact rfl; ((repeat' (first | exact AllP.nil | with_reducible refine AllP.cons ?_ ?_)) <;> (first | exact True.intro | exact purX)); intro _ _)
              | ((with_reducible apply Sat.inl 7 killQ Tryd.func45 Tryd.ntmps45); exact rfl; exact rfl; kernel_rfl; exact rfl; exact rfl; exact rfl; exact rfl; ((repeat' (first | exact AllP.nil | with_reducible refine AllP.cons ?_ ?_)) <;> (first | exact True.intro | exact purX)); intro _ _)
              | ((with_reducible apply Sat.out1 (C := ⟨_, _, _, _, _, _, _, _, _⟩)); exact rfl; (first | exact .inl rfl | exact .inr rfl); exact rfl; (exact phi); exact rfl)
              | ((with_reducible apply Sat.out0 (C := ⟨_, _, _, _, _, _, _, _, _⟩)); exact rfl; (first | exact .inl rfl | exact .inr rfl); exact rfl)
              | ((with_reducible apply Sat.out2 (C := ⟨_, _, _, _, _, _, _, _, _⟩)); exact rfl; (first | exact .inl rfl | exact .inr rfl); exact rfl; (exact phi); exact rfl; (exact phi); exact rfl)
              | (with_reducible apply Sat.unroll 40)
              | (with_reducible apply Sat.again)
              | ((with_reducible apply Sat.buf (b1 _)); exact rfl; kernel_rfl; (exact cnvX); exact rfl; ((repeat' (first | exact AllP.nil | with_reducible refine AllP.cons ?_ ?_)) <;> (first | exact rfl | exact True.intro | omega | (simp only [List.length_append, List.length_cons, List.length_nil]; done) | (simp only [List.length_append, List.length_cons, List.length_nil]; omega) | (simp only [List.length_append, List.length_cons, List.length_nil, *]; omega) | exact purX)); exact rfl; (exact fun _ h => h); (exact fun _ h => Or.inr h))
              | ((with_reducible apply DSat.buf (b1 _)); exact rfl; kernel_rfl; (exact cnvX); exact rfl; exact rfl; ((repeat' (first | exact AllP.nil | with_reducible refine AllP.cons ?_ ?_)) <;> (first | exact rfl | exact True.intro | omega | (simp only [List.length_append, List.length_cons, List.length_nil]; done) | (simp only [List.length_append, List.length_cons, List.length_nil]; omega) | (simp only [List.length_append, List.length_cons, List.length_nil, *]; omega) | exact purX)); exact rfl; (exact fun _ h => h); (exact fun _ h => Or.inr h))
              | ((with_reducible apply Sat.buf (b4)); exact rfl; kernel_rfl; (exact cnvX); exact rfl; ((repeat' (first | exact AllP.nil | with_reducible refine AllP.cons ?_ ?_)) <;> (first | exact rfl | exact True.intro | omega | (simp only [List.length_append, List.length_cons, List.length_nil]; done) | (simp only [List.length_append, List.length_cons, List.length_nil]; omega) | (simp only [List.length_append, List.length_cons, List.length_nil, *]; omega) | exact purX)); exact rfl; (exact fun _ h => h); (exact fun _ h => Or.inr h))
              | ((with_reducible apply DSat.buf (b4)); exact rfl; kernel_rfl; (exact cnvX); exact rfl; exact rfl; ((repeat' (first | exact AllP.nil | with_reducible refine AllP.cons ?_ ?_)) <;> (first | exact rfl | exact True.intro | omega | (simp only [List.length_append, List.length_cons, List.length_nil]; done) | (simp only [List.length_append, List.length_cons, List.length_nil]; omega) | (simp only [List.length_append, List.length_cons, List.length_nil, *]; omega) | exact purX)); exact rfl; (exact fun _ h => h); (exact fun _ h => Or.inr h)) | fail)
          repeat' (first
              | ((with_reducible apply Sat.run (X := X64)); exact rfl; (first | exact True.intro | (exact phi) | skip))
              | ((with_reducible apply Sat.drawn); kernel_rfl)
              | ((with_reducible apply DSat.run (X := X64)); exact rfl; (first | exact True.intro | (exact phi) | skip))
              | ((with_reducible apply DSat.fin); kernel_rfl)
              | ((with_reducible apply Sat.inl 7 killQ Tryd.func47 Tryd.ntmps47); exact rfl; exact rfl; kernel_rfl; exact rfl; exact rfl; exact rfl; exact rfl; ((repeat' (first | exact AllP.nil | with_reducible refine AllP.cons ?_ ?_)) <;> (first | exact True.intro | exact purX)); intro _ _)
              | ((with_reducible apply Sat.inl 7 killQ Tryd.func45 Tryd.ntmps45); exact rfl; exact rfl; kernel_rfl; exact rfl; exact rfl; exact rfl; exact rfl; ((repeat' (first | exact AllP.nil | with_reducible refine AllP.cons ?_ ?_)) <;> (first | exact True.intro | exact purX)); intro _ _) | fail)
          with_reducible apply Sat.unroll 40
          repeat' (first
              | ((with_reducible apply Sat.run (X := X64)); exact rfl; (first | exact True.intro | (exact phi) | skip))
              | ((with_reducible apply Sat.drawn); kernel_rfl)
              | ((with_reducible apply DSat.run (X := X64)); exact rfl; (first | exact True.intro | (exact phi) | skip))
              | ((with_reducible apply DSat.fin); kernel_rfl)
              | ((with_reducible apply Sat.cond_t); exact rfl)
              | ((with_reducible apply Sat.cond_f); exact rfl)
              | ((with_reducible apply Sat.cond_pt); exact rfl; (try dsimp only [V.EV.sub, V.EV.len]); first | assumption | omega)
              | ((with_reducible apply Sat.cond_pf); exact rfl; (try dsimp only [V.EV.sub, V.EV.len]); first | assumption | omega)
              | ((with_reducible apply Sat.cond_p); exact rfl; all_goals intro h)
              | ((with_reducible apply Sat.cond); exact rfl; all_goals intro h)
              | ((with_reducible apply Sat.out1 (C := ⟨_, _, _, _, _, _, _, _, _⟩)); exact rfl; (first | exact .inl rfl | exact .inr rfl); exact rfl; (exact phi); exact rfl)
              | ((with_reducible apply Sat.out0 (C := ⟨_, _, _, _, _, _, _, _, _⟩)); exact rfl; (first | exact .inl rfl | exact .inr rfl); exact rfl)
              | ((with_reducible apply Sat.out2 (C := ⟨_, _, _, _, _, _, _, _, _⟩)); exact rfl; (first | exact .inl rfl | exact .inr rfl); exact rfl; (exact phi); exact rfl; (exact phi); exact rfl)
              | (with_reducible apply Sat.again)
              | ((with_reducible apply Sat.buf (b1 _)); exact rfl; kernel_rfl; (exact cnvX); exact rfl; ((repeat' (first | exact AllP.nil | with_reducible refine AllP.cons ?_ ?_)) <;> (first | exact rfl | exact True.intro | omega | (simp only [List.length_append, List.length_cons, List.length_nil]; done) | (simp only [List.length_append, List.length_cons, List.length_nil]; omega) | (simp only [List.length_append, List.length_cons, List.length_nil, *]; omega) | exact purX)); exact rfl; (exact fun _ h => h); (exact fun _ h => Or.inr h))
              | ((with_reducible apply DSat.buf (b1 _)); exact rfl; kernel_rfl; (exact cnvX); exact rfl; exact rfl; ((repeat' (first | exact AllP.nil | with_reducible refine AllP.cons ?_ ?_)) <;> (first | exact rfl | exact True.intro | omega | (simp only [List.length_append, List.length_cons, List.length_nil]; done) | (simp only [List.length_append, List.length_cons, List.length_nil]; omega) | (simp only [List.length_append, List.length_cons, List.length_nil, *]; omega) | exact purX)); exact rfl; (exact fun _ h => h); (exact fun _ h => Or.inr h)) | fail)
          have f1 : K ++ [nb (rs.getD (y : Int).toNat role0).name.length (8 * (1 - 1) : Int).toNat] ++ (rs.getD (y : Int).toNat role0).name ++ [nb (rs.getD (y : Int).toNat role0).keys.length (8 * (1 - 1) : Int).toNat] = K ++ num1 (rs.getD (y : Int).toNat role0).name.length ++ (rs.getD (y : Int).toNat role0).name ++ num1 (rs.getD (y : Int).toNat role0).keys.length := by rw [num1_walk, num1_walk]
          have f2 : (K ++ num1 (rs.getD (y : Int).toNat role0).name.length ++ (rs.getD (y : Int).toNat role0).name ++ num1 (rs.getD (y : Int).toNat role0).keys.length).length ≤ 530 + 100 * y := by simp only [List.length_append, num1_len]; omega
          apply Sat.loop (α := Nat × List UInt8) (fun x => x.1 ≤ (rs.getD (y : Int).toNat role0).keys.length ∧ x.2.length ≤ 530 + 100 * y + x.1 ∧ x.2 = K ++ num1 (rs.getD (y : Int).toNat role0).name.length ++ (rs.getD (y : Int).toNat role0).name ++ num1 (rs.getD (y : Int).toNat role0).keys.length ++ ((rs.getD (y : Int).toNat role0).keys.take x.1).flatMap num1) (fun x => (rs.getD (y : Int).toNat role0).keys.length - x.1) (0, K ++ num1 (rs.getD (y : Int).toNat role0).name.length ++ (rs.getD (y : Int).toNat role0).name ++ num1 (rs.getD (y : Int).toNat role0).keys.length) (fun x => [(14, .int .i64 (x.1 : Int))]) (fun x => [(1, .cells 91 [.bsl 3 x.2.length, .int .i64 0, .anyi .i8]), (3, .row 5 (.u8 x.2))]) [18] [(3, some 18), (999, none)] 0
          · intro x; exact rfl
          · intro x; exact rfl
          · exact rfl
          · exact rfl
          · (repeat' (first | exact AllP.nil | with_reducible refine AllP.cons ?_ ?_)) <;> first | with_reducible exact rfl | exact congrArg EV.u8 f1 | exact congrArg List.length f1 | exact rfl | exact trivial | (intro _ _; simp [pureL, pureS, pureE]; done) | exact ⟨rfl, rfl, rfl, rfl⟩
          · exact ⟨Nat.zero_le _, by dsimp only; omega, by simp⟩
          · rintro ⟨u, J⟩ ⟨u1, u2, u3⟩
            dsimp only at u1 u2 u3 ⊢
            repeat' (first
                | ((with_reducible apply Sat.run (X := X64)); exact rfl; (first | exact True.intro | (exact phi) | skip))
                | ((with_reducible apply Sat.drawn); kernel_rfl)
                | ((with_reducible apply DSat.run (X := X64)); exact rfl; (first | exact True.intro | (exact phi) | skip))
                | ((with_reducible apply DSat.fin); kernel_rfl)
                | ((with_reducible apply Sat.cond_t); exact rfl)
                | ((with_reducible apply Sat.cond_f); exact rfl)
                | ((with_reducible apply Sat.cond_pt); exact rfl; (try dsimp only [V.EV.sub, V.EV.len]); first | assumption | omega)
                | ((with_reducible apply Sat.cond_pf); exact rfl; (try dsimp only [V.EV.sub, V.EV.len]); first | assumption | omega)
                | ((with_reducible apply Sat.cond_p); exact rfl; all_goals intro h)
                | ((with_reducible apply Sat.cond); exact rfl; all_goals intro h)
                | ((with_reducible apply Sat.inl 7 killQ Tryd.func65 Tryd.ntmps65); exact rfl; exact rfl; kernel_rfl; exact rfl; exact rfl; exact rfl; exact rfl; ((repeat' (first | exact AllP.nil | with_reducible refine AllP.cons ?_ ?_)) <;> (first | exact True.intro | exact purX)); intro _ _)
                | ((with_reducible apply Sat.inl 7 killQ Tryd.func45 Tryd.ntmps45); exact rfl; exact rfl; kernel_rfl; exact rfl; exact rfl; exact rfl; exact rfl; ((repeat' (first | exact AllP.nil | with_reducible refine AllP.cons ?_ ?_)) <;> (first | exact True.intro | exact purX)); intro _ _)
                | ((with_reducible apply Sat.out1 (C := ⟨_, _, _, _, _, _, _, _, _⟩)); exact rfl; (first | exact .inl rfl | exact .inr rfl); exact rfl; (exact phi); exact rfl)
                | ((with_reducible apply Sat.out0 (C := ⟨_, _, _, _, _, _, _, _, _⟩)); exact rfl; (first | exact .inl rfl | exact .inr rfl); exact rfl)
                | ((with_reducible apply Sat.out2 (C := ⟨_, _, _, _, _, _, _, _, _⟩)); exact rfl; (first | exact .inl rfl | exact .inr rfl); exact rfl; (exact phi); exact rfl; (exact phi); exact rfl)
                | (with_reducible apply Sat.unroll 40)
                | (with_reducible apply Sat.again)
                | ((with_reducible apply Sat.buf (b1 _)); exact rfl; kernel_rfl; (exact cnvX); exact rfl; ((repeat' (first | exact AllP.nil | with_reducible refine AllP.cons ?_ ?_)) <;> (first | exact rfl | exact True.intro | omega | (simp only [List.length_append, List.length_cons, List.length_nil]; done) | (simp only [List.length_append, List.length_cons, List.length_nil]; omega) | (simp only [List.length_append, List.length_cons, List.length_nil, *]; omega) | exact purX)); exact rfl; (exact fun _ h => h); (exact fun _ h => Or.inr h))
                | ((with_reducible apply DSat.buf (b1 _)); exact rfl; kernel_rfl; (exact cnvX); exact rfl; exact rfl; ((repeat' (first | exact AllP.nil | with_reducible refine AllP.cons ?_ ?_)) <;> (first | exact rfl | exact True.intro | omega | (simp only [List.length_append, List.length_cons, List.length_nil]; done) | (simp only [List.length_append, List.length_cons, List.length_nil]; omega) | (simp only [List.length_append, List.length_cons, List.length_nil, *]; omega) | exact purX)); exact rfl; (exact fun _ h => h); (exact fun _ h => Or.inr h)) | fail)
            · have hu : u < (rs.getD (y : Int).toNat role0).keys.length := by simp only [EV.len] at h; omega
              refine Sat.back (u + 1, J ++ num1 ((rs.getD (y : Int).toNat role0).keys.getD u 0)) [(3, some 19), (999, none)] rfl ?_ ?_ ?_
              · (repeat' (first | exact AllP.nil | with_reducible refine AllP.cons ?_ ?_)) <;> first | with_reducible exact rfl | exact congrArg EV.u8 (num1_walk J _) | exact congrArg List.length (num1_walk J _) | exact Int.natCast_add_one _ | exact rfl | exact trivial | (intro _ _; simp [pureL, pureS, pureE]; done) | exact ⟨rfl, rfl, rfl, rfl⟩
              · refine ⟨hu, by simp only [List.length_append, num1_len]; omega, ?_⟩
                dsimp only
                rw [u3, take_flat num1 _ 0 u hu, List.append_assoc]
              · dsimp only; omega
            · have hu : u = (rs.getD (y : Int).toNat role0).keys.length := by simp only [EV.len] at h; omega
              rw [hu, List.take_length] at u3
              have f3 : J ++ [nb (rs.getD (y : Int).toNat role0).need (8 * (1 - 1) : Int).toNat] = K ++ roleW (rs.getD (y : Int).toNat role0) := by
                rw [num1_walk, u3]
                simp only [roleW, List.append_assoc]
              have f4 : (K ++ roleW (rs.getD (y : Int).toNat role0)).length ≤ 600 + 100 * y := by
                rw [← f3, List.length_append]
                simp only [List.length_cons, List.length_nil]
                omega
              refine Sat.back (y + 1, K ++ roleW (rs.getD (y : Int).toNat role0)) [(3, some 19), (999, none)] rfl ?_ ?_ ?_
              · (repeat' (first | exact AllP.nil | with_reducible refine AllP.cons ?_ ?_)) <;> first | with_reducible exact rfl | exact congrArg EV.u8 f3 | exact congrArg List.length f3 | exact Int.natCast_add_one _ | exact rfl | exact trivial | (intro _ _; simp [pureL, pureS, pureE]; done) | exact ⟨rfl, rfl, rfl, rfl⟩
              · refine ⟨hy, by dsimp only; omega, ?_⟩
                dsimp only
                rw [y3, e6, List.append_assoc]
              · dsimp only; omega
        · have hx : y = rs.length := by omega
          subst hx
          rw [List.take_length] at y3
          repeat' (first
              | ((with_reducible apply Sat.run (X := X64)); exact rfl; (first | exact True.intro | (exact phi) | skip))
              | ((with_reducible apply Sat.drawn); kernel_rfl)
              | ((with_reducible apply DSat.run (X := X64)); exact rfl; (first | exact True.intro | (exact phi) | skip))
              | ((with_reducible apply DSat.fin); kernel_rfl)
              | ((with_reducible apply Sat.cond_t); exact rfl)
              | ((with_reducible apply Sat.cond_f); exact rfl)
              | ((with_reducible apply Sat.cond_pt); exact rfl; (try dsimp only [V.EV.sub, V.EV.len]); first | assumption | omega)
              | ((with_reducible apply Sat.cond_pf); exact rfl; (try dsimp only [V.EV.sub, V.EV.len]); first | assumption | omega)
              | ((with_reducible apply Sat.cond_p); exact rfl; all_goals intro h)
              | ((with_reducible apply Sat.cond); exact rfl; all_goals intro h)
              | ((with_reducible apply Sat.inl 7 kill3 Tryd.func52 Tryd.ntmps52); exact rfl; exact rfl; kernel_rfl; exact rfl; exact rfl; exact rfl; exact rfl; ((repeat' (first | exact AllP.nil | with_reducible refine AllP.cons ?_ ?_)) <;> (first | exact True.intro | exact purX)); intro _ _)
              | ((with_reducible apply Sat.out1 (C := ⟨_, _, _, _, _, _, _, _, _⟩)); exact rfl; (first | exact .inl rfl | exact .inr rfl); exact rfl; (exact phi); exact rfl)
              | ((with_reducible apply Sat.out0 (C := ⟨_, _, _, _, _, _, _, _, _⟩)); exact rfl; (first | exact .inl rfl | exact .inr rfl); exact rfl)
              | ((with_reducible apply Sat.out2 (C := ⟨_, _, _, _, _, _, _, _, _⟩)); exact rfl; (first | exact .inl rfl | exact .inr rfl); exact rfl; (exact phi); exact rfl; (exact phi); exact rfl) | fail)
          refine Sat.narrow hT (fun _ h => h) ?_
          refine Sat.fin (Sat.end1 rfl rfl rfl True.intro (.all _ _ _ _ _ rfl rfl (by simp [EV.len]) trivial) (by first | exact .inl rfl | exact .inr rfl) (fun _ h => h)) ?_
          refine congrArg (fun x => SV.ro (EV.u8 x)) ?_
          rw [y3, x3]
          simp only [bytesQ, List.append_assoc]
theorem rootBytes_spec (r : RootL) (hv : rootB r = true) : Fun Tryd.prog [] 19 [r.v] (.ro (.u8 (bytesQ r))) := by
  obtain ⟨g, ex, ks, rs⟩ := r
  exact rootBytes_t g ex ks rs hv
end Go.Proofs.YtegbdcadlmefgaaDoor
end
section
namespace Go.Proofs.YtegbdcadlmefgaaDoor
open Go.RowKit V
--PURE: (intro _ _; simp [pureL, pureS, pureE]; done)
set_option maxRecDepth 100000
set_option maxHeartbeats 8000000
set_option linter.unusedSimpArgs false
attribute [local irreducible] V.Sat V.DSat
theorem lit_one (n : Int) : List.take 1 (List.drop 0 [UInt8.ofNat (IntKind.u8.wrap n).toNat]) = num1 n := by rw [num1, nb_zero]; rfl
theorem cut_all (l : List UInt8) (h : l.length = 32) : List.take (32 - 0) (List.drop 0 l) = l := by rw [List.drop_zero, List.take_of_length_le (by omega)]
theorem rootBytesR_f (r : RootL) (hv : rootB r = false) : Fun Tryd.prog [] 20 [r.v] (.ro (.u8 [])) := by
  have h1 := validRoot_ref r
  rw [hv] at h1
  refine Fun.mkF 7 Tryd.func20 rfl Tryd.ntmps20 rfl rfl fun hf T w0 => ?_
  obtain ⟨g, ex, ks, rs⟩ := r
  repeat' (first
      | ((with_reducible apply Sat.run (X := X64)); exact rfl; (first | exact True.intro | (exact phi) | skip))
      | ((with_reducible apply Sat.drawn); kernel_rfl)
      | ((with_reducible apply DSat.run (X := X64)); exact rfl; (first | exact True.intro | (exact phi) | skip))
      | ((with_reducible apply DSat.fin); kernel_rfl)
      | ((with_reducible apply Sat.cond_t); exact rfl)
      | ((with_reducible apply Sat.cond_f); exact rfl)
      | ((with_reducible apply Sat.cond_pt); exact rfl; (try dsimp only [V.EV.sub, V.EV.len]); first | assumption | omega)
      | ((with_reducible apply Sat.cond_pf); exact rfl; (try dsimp only [V.EV.sub, V.EV.len]); first | assumption | omega)
      | ((with_reducible apply Sat.cond_p); exact rfl; all_goals intro h)
      | ((with_reducible apply Sat.cond); exact rfl; all_goals intro h)
      | ((with_reducible apply Sat.callR (h1)); exact rfl; exact rfl; exact rfl; kernel_rfl; (exact cnvX); exact rfl)
      | ((with_reducible apply DSat.callR (h1)); exact rfl; exact rfl; exact rfl; kernel_rfl; (exact cnvX); exact rfl) | fail)
  refine Sat.fin (Sat.end1 rfl rfl rfl True.intro (.all _ _ _ _ _ rfl rfl (by simp [EV.len]) trivial) (by first | exact .inl rfl | exact .inr rfl) (fun _ h => h)) ?_
  rfl
theorem rootBytesR_t (g ex : Int) (ks : List (List UInt8)) (rs : List RoleL) (hv : rootB ⟨g, ex, ks, rs⟩ = true) : Fun Tryd.prog [] 20 [.agg [.int .i64 g, .int .i64 ex, .ro (keysE ks), .ro (rolesE rs)]] (.ro (.u8 (bytesQ ⟨g, ex, ks, rs⟩))) := by
  have h1 : Fun Tryd.prog [] 18 [.agg [.int .i64 g, .int .i64 ex, .ro (keysE ks), .ro (rolesE rs)]] (.bool (rootB ⟨g, ex, ks, rs⟩)) := validRoot_ref ⟨g, ex, ks, rs⟩
  rw [hv] at h1
  refine Fun.mkF 7 Tryd.func20 rfl Tryd.ntmps20 rfl rfl fun hf T w0 => ?_
  have l1 := key_facts ⟨g, ex, ks, rs⟩ hf
  dsimp only at l1
  obtain ⟨c1, c2, c3, c4⟩ := root_facts hv
  dsimp only at c1 c2 c3 c4
  clear hf hv
  have n1 := num4_ref g
  have n2 := num4_ref ex
  have w1 := num4_len g
  have w2 := num4_len ex
  generalize e1 : num4 g = A1 at n1 w1
  generalize e2 : num4 ex = A2 at n2 w2
  have e0 : [UInt8.ofNat (Int.toNat 82)] ++ A1 ++ A2 ++ List.take 1 (List.drop 0 [UInt8.ofNat (IntKind.u8.wrap (ks.length : Int)).toNat]) = hdrR g ex ks.length := by
    rw [← e1, ← e2, lit_one]
    rfl
  clear e1 e2
  have hLe : (hdrR g ex ks.length).length = 10 := by rw [← e0]; simp only [List.length_append, List.length_cons, List.length_nil, List.length_take, List.length_drop]; omega
  repeat' (first
      | ((with_reducible apply Sat.run (X := X64)); exact rfl; (first | exact True.intro | (exact phi) | skip))
      | ((with_reducible apply Sat.drawn); kernel_rfl)
      | ((with_reducible apply DSat.run (X := X64)); exact rfl; (first | exact True.intro | (exact phi) | skip))
      | ((with_reducible apply DSat.fin); kernel_rfl)
      | ((with_reducible apply Sat.cond_t); exact rfl)
      | ((with_reducible apply Sat.cond_f); exact rfl)
      | ((with_reducible apply Sat.cond_pt); exact rfl; (try dsimp only [V.EV.sub, V.EV.len]); first | assumption | omega)
      | ((with_reducible apply Sat.cond_pf); exact rfl; (try dsimp only [V.EV.sub, V.EV.len]); first | assumption | omega)
      | ((with_reducible apply Sat.cond_p); exact rfl; all_goals intro h)
      | ((with_reducible apply Sat.cond); exact rfl; all_goals intro h)
      | ((with_reducible apply Sat.callR (h1)); exact rfl; exact rfl; exact rfl; kernel_rfl; (exact cnvX); exact rfl)
      | ((with_reducible apply DSat.callR (h1)); exact rfl; exact rfl; exact rfl; kernel_rfl; (exact cnvX); exact rfl)
      | ((with_reducible apply Sat.call (n1)); exact rfl; exact rfl; kernel_rfl; (exact cnvX); exact rfl)
      | ((with_reducible apply DSat.call (n1)); exact rfl; exact rfl; kernel_rfl; (exact cnvX); exact rfl)
      | ((with_reducible apply Sat.call (n2)); exact rfl; exact rfl; kernel_rfl; (exact cnvX); exact rfl)
      | ((with_reducible apply DSat.call (n2)); exact rfl; exact rfl; kernel_rfl; (exact cnvX); exact rfl) | fail)
  clear h1 n1 n2
  with_reducible apply Sat.drop
  · exact rfl
  · (repeat' (first | exact AllP.nil | with_reducible refine AllP.cons ?_ ?_)) <;> (intro _ _; simp [pureL, pureS, pureE]; done)
  refine Sat.kill [27, 28] rfl ?_
  apply Sat.loop (α := Nat × List UInt8) (fun x => x.1 ≤ ks.length ∧ x.2.length ≤ 100 + 32 * x.1 ∧ x.2 = hdrR g ex ks.length ++ (ks.take x.1).flatten) (fun x => ks.length - x.1) (0, hdrR g ex ks.length) (fun x => [(4, .int .i64 (x.1 : Int)), (3, .row 1 0 1 0 x.2.length)]) (fun x => [(1, .row 5 (.u8 x.2))]) [4, 5] [(1, some 5)] 0
  · intro x; exact rfl
  · intro x; exact rfl
  · exact rfl
  · exact rfl
  · (repeat' (first | exact AllP.nil | with_reducible refine AllP.cons ?_ ?_)) <;> first | with_reducible exact rfl | exact congrArg EV.u8 e0 | with_reducible exact ⟨rfl, rfl, rfl, rfl⟩ | exact Int.natCast_add_one _ | (refine ⟨rfl, rfl, rfl, ?_⟩; show _ = (hdrR g ex ks.length).length; rw [hLe]; simp only [EV.len, EV.sub, num1_len, num4_len, List.length_append, List.length_take, List.length_drop, List.length_cons, List.length_nil, Option.getD_none] <;> omega) | exact rfl | exact trivial | (intro _ _; simp [pureL, pureS, pureE]; done) | exact ⟨rfl, rfl, rfl, rfl⟩
  · exact ⟨Nat.zero_le _, by dsimp only; omega, by simp⟩
  · rintro ⟨x, L⟩ ⟨x1, x2, x3⟩
    dsimp only at x1 x2 x3 ⊢
    by_cases hx : x < ks.length
    · have k5 : 32 = (ks.getD (x : Int).toNat []).length := (l1 x hx).symm
      repeat' (first
          | ((with_reducible apply Sat.run (X := X64)); exact rfl; (first | exact True.intro | (exact phi) | skip))
          | ((with_reducible apply Sat.drawn); kernel_rfl)
          | ((with_reducible apply DSat.run (X := X64)); exact rfl; (first | exact True.intro | (exact phi) | skip))
          | ((with_reducible apply DSat.fin); kernel_rfl)
          | ((with_reducible apply Sat.cond_t); exact rfl)
          | ((with_reducible apply Sat.cond_f); exact rfl)
          | ((with_reducible apply Sat.cond_pt); exact rfl; (try dsimp only [V.EV.sub, V.EV.len]); first | assumption | omega)
          | ((with_reducible apply Sat.cond_pf); exact rfl; (try dsimp only [V.EV.sub, V.EV.len]); first | assumption | omega)
          | ((with_reducible apply Sat.cond_p); exact rfl; all_goals intro h)
          | ((with_reducible apply Sat.cond); exact rfl; all_goals intro h) | fail)
      have f0 : List.take (32 - 0) (List.drop 0 (ks.getD (x : Int).toNat [])) = ks.getD (x : Int).toNat [] := cut_all _ k5.symm
      have f1 : L ++ List.take (32 - 0) (List.drop 0 (ks.getD (x : Int).toNat [])) = L ++ ks.getD (x : Int).toNat [] := by rw [f0]
      refine Sat.back (x + 1, L ++ ks.getD (x : Int).toNat []) [(1, some 6)] rfl ?_ ?_ ?_
      · (repeat' (first | exact AllP.nil | with_reducible refine AllP.cons ?_ ?_)) <;> first | with_reducible exact rfl | exact congrArg EV.u8 f1 | with_reducible exact ⟨rfl, rfl, rfl, rfl⟩ | exact Int.natCast_add_one _ | (refine ⟨rfl, rfl, rfl, ?_⟩; show _ = (L ++ ks.getD (x : Int).toNat []).length; rw [← f1]; simp only [EV.len, EV.sub, List.length_append, Option.getD_none]; done) | exact rfl | exact trivial | (intro _ _; simp [pureL, pureS, pureE]; done) | exact ⟨rfl, rfl, rfl, rfl⟩
      · refine ⟨hx, by simp only [List.length_append]; omega, ?_⟩
        dsimp only
        rw [x3, List.append_assoc]
        congr 1
        rw [List.take_add_one, List.flatten_append]
        simp [List.getD_eq_getElem?_getD, hx]
      · dsimp only; omega
    · have hx : x = ks.length := by omega
      subst hx
      rw [List.take_length] at x3
      repeat' (first
          | ((with_reducible apply Sat.run (X := X64)); exact rfl; (first | exact True.intro | (exact phi) | skip))
          | ((with_reducible apply Sat.drawn); kernel_rfl)
          | ((with_reducible apply DSat.run (X := X64)); exact rfl; (first | exact True.intro | (exact phi) | skip))
          | ((with_reducible apply DSat.fin); kernel_rfl)
          | ((with_reducible apply Sat.cond_t); exact rfl)
          | ((with_reducible apply Sat.cond_f); exact rfl)
          | ((with_reducible apply Sat.cond_pt); exact rfl; (try dsimp only [V.EV.sub, V.EV.len]); first | assumption | omega)
          | ((with_reducible apply Sat.cond_pf); exact rfl; (try dsimp only [V.EV.sub, V.EV.len]); first | assumption | omega)
          | ((with_reducible apply Sat.cond_p); exact rfl; all_goals intro h)
          | ((with_reducible apply Sat.cond); exact rfl; all_goals intro h) | fail)
      have hL : L.length ≤ 400 := by omega
      clear x1 x2
      have e3 : L ++ List.take 1 (List.drop 0 [UInt8.ofNat (IntKind.u8.wrap (rs.length : Int)).toNat]) = L ++ num1 rs.length := by rw [lit_one]
      with_reducible apply Sat.drop
      · exact rfl
      · (repeat' (first | exact AllP.nil | with_reducible refine AllP.cons ?_ ?_)) <;> (intro _ _; simp [pureL, pureS, pureE]; done)
      refine Sat.kill [48, 49] rfl ?_
      apply Sat.loop (α := Nat × List UInt8) (fun x => x.1 ≤ rs.length ∧ x.2.length ≤ 500 + 100 * x.1 ∧ x.2 = L ++ num1 rs.length ++ (rs.take x.1).flatMap roleW) (fun x => rs.length - x.1) (0, L ++ num1 rs.length) (fun x => [(5, .int .i64 (x.1 : Int)), (3, .row 1 0 1 0 x.2.length)]) (fun x => [(1, .row 5 (.u8 x.2))]) [6, 7] [(1, some 7)] 0
      · intro x; exact rfl
      · intro x; exact rfl
      · exact rfl
      · exact rfl
      · (repeat' (first | exact AllP.nil | with_reducible refine AllP.cons ?_ ?_)) <;> first | with_reducible exact rfl | exact congrArg EV.u8 e3 | with_reducible exact ⟨rfl, rfl, rfl, rfl⟩ | exact Int.natCast_add_one _ | (refine ⟨rfl, rfl, rfl, ?_⟩; show _ = (L ++ num1 rs.length).length; simp only [EV.len, EV.sub, num1_len, num4_len, List.length_append, List.length_take, List.length_drop, List.length_cons, List.length_nil, Option.getD_none] <;> omega) | exact rfl | exact trivial | (intro _ _; simp [pureL, pureS, pureE]; done) | exact ⟨rfl, rfl, rfl, rfl⟩
      · exact ⟨Nat.zero_le _, by simp; omega, by simp⟩
      · rintro ⟨y, K⟩ ⟨y1, y2, y3⟩
        dsimp only at y1 y2 y3 ⊢
        by_cases hy : y < rs.length
        · have h6 : (rs.getD (y : Int).toNat role0).name.length ≤ 20 := c3 y hy
          have h7 : (rs.getD (y : Int).toNat role0).keys.length ≤ 8 := c4 y hy
          have e6 : (rs.take (y + 1)).flatMap roleW = (rs.take y).flatMap roleW ++ roleW (rs.getD (y : Int).toNat role0) := take_flat _ rs role0 y hy
          have n1 := text_ref (rs.getD (y : Int).toNat role0).name h6
          have w1 : (num1 (rs.getD (y : Int).toNat role0).name.length ++ (rs.getD (y : Int).toNat role0).name).length ≤ 21 := by simp only [List.length_append, num1_len]; omega
          generalize e1 : num1 (rs.getD (y : Int).toNat role0).name.length ++ (rs.getD (y : Int).toNat role0).name = A1 at n1 w1
          repeat' (first
              | ((with_reducible apply Sat.run (X := X64)); exact rfl; (first | exact True.intro | (exact phi) | skip))
              | ((with_reducible apply Sat.drawn); kernel_rfl)
              | ((with_reducible apply DSat.run (X := X64)); exact rfl; (first | exact True.intro | (exact phi) | skip))
              | ((with_reducible apply DSat.fin); kernel_rfl)
              | ((with_reducible apply Sat.cond_t); exact rfl)
              | ((with_reducible apply Sat.cond_f); exact rfl)
              | ((with_reducible apply Sat.cond_pt); exact rfl; (try dsimp only [V.EV.sub, V.EV.len]); first | assumption | omega)
              | ((with_reducible apply Sat.cond_pf); exact rfl; (try dsimp only [V.EV.sub, V.EV.len]); first | assumption | omega)
              | ((with_reducible apply Sat.cond_p); exact rfl; all_goals intro h)
              | ((with_reducible apply Sat.cond); exact rfl; all_goals intro h)
              | ((with_reducible apply Sat.call (n1)); exact rfl; exact rfl; kernel_rfl; (exact cnvX); exact rfl)
              | ((with_reducible apply DSat.call (n1)); exact rfl; exact rfl; kernel_rfl; (exact cnvX); exact rfl) | fail)
          have f1 : K ++ A1 ++ List.take 1 (List.drop 0 [UInt8.ofNat (IntKind.u8.wrap ((rs.getD (y : Int).toNat role0).keys.length : Int)).toNat]) = K ++ A1 ++ num1 (rs.getD (y : Int).toNat role0).keys.length := by rw [lit_one]
          with_reducible apply Sat.drop
          · exact rfl
          · (repeat' (first | exact AllP.nil | with_reducible refine AllP.cons ?_ ?_)) <;> (intro _ _; simp [pureL, pureS, pureE]; done)
          refine Sat.kill [72, 73] rfl ?_
          apply Sat.loop (α := Nat × List UInt8) (fun x => x.1 ≤ (rs.getD (y : Int).toNat role0).keys.length ∧ x.2.length ≤ 530 + 100 * y + x.1 ∧ x.2 = K ++ A1 ++ num1 (rs.getD (y : Int).toNat role0).keys.length ++ ((rs.getD (y : Int).toNat role0).keys.take x.1).flatMap num1) (fun x => (rs.getD (y : Int).toNat role0).keys.length - x.1) (0, K ++ A1 ++ num1 (rs.getD (y : Int).toNat role0).keys.length) (fun x => [(7, .int .i64 (x.1 : Int)), (3, .row 1 0 1 0 x.2.length)]) (fun x => [(1, .row 5 (.u8 x.2))]) [10, 11] [(1, some 11)] 0
          · intro x; exact rfl
          · intro x; exact rfl
          · exact rfl
          · exact rfl
          · (repeat' (first | exact AllP.nil | with_reducible refine AllP.cons ?_ ?_)) <;> first | with_reducible exact rfl | exact congrArg EV.u8 f1 | with_reducible exact ⟨rfl, rfl, rfl, rfl⟩ | exact Int.natCast_add_one _ | (refine ⟨rfl, rfl, rfl, ?_⟩; show _ = (K ++ A1 ++ num1 (rs.getD (y : Int).toNat role0).keys.length).length; simp only [EV.len, EV.sub, num1_len, num4_len, List.length_append, List.length_take, List.length_drop, List.length_cons, List.length_nil, Option.getD_none] <;> omega) | exact rfl | exact trivial | (intro _ _; simp [pureL, pureS, pureE]; done) | exact ⟨rfl, rfl, rfl, rfl⟩
          · exact ⟨Nat.zero_le _, by simp only [List.length_append, num1_len]; omega, by simp⟩
          · rintro ⟨u, J⟩ ⟨u1, u2, u3⟩
            dsimp only at u1 u2 u3 ⊢
            repeat' (first
                | ((with_reducible apply Sat.run (X := X64)); exact rfl; (first | exact True.intro | (exact phi) | skip))
                | ((with_reducible apply Sat.drawn); kernel_rfl)
                | ((with_reducible apply DSat.run (X := X64)); exact rfl; (first | exact True.intro | (exact phi) | skip))
                | ((with_reducible apply DSat.fin); kernel_rfl)
                | ((with_reducible apply Sat.cond_t); exact rfl)
                | ((with_reducible apply Sat.cond_f); exact rfl)
                | ((with_reducible apply Sat.cond_pt); exact rfl; (try dsimp only [V.EV.sub, V.EV.len]); first | assumption | omega)
                | ((with_reducible apply Sat.cond_pf); exact rfl; (try dsimp only [V.EV.sub, V.EV.len]); first | assumption | omega)
                | ((with_reducible apply Sat.cond_p); exact rfl; all_goals intro h)
                | ((with_reducible apply Sat.cond); exact rfl; all_goals intro h) | fail)
            · have hu : u < (rs.getD (y : Int).toNat role0).keys.length := by simp only [EV.len] at h; omega
              have f2 : J ++ List.take 1 (List.drop 0 [UInt8.ofNat (IntKind.u8.wrap ((rs.getD (y : Int).toNat role0).keys.getD (u : Int).toNat 0)).toNat]) = J ++ num1 ((rs.getD (y : Int).toNat role0).keys.getD u 0) := lit_one _ ▸ rfl
              refine Sat.back (u + 1, J ++ num1 ((rs.getD (y : Int).toNat role0).keys.getD u 0)) [(1, some 13)] rfl ?_ ?_ ?_
              · (repeat' (first | exact AllP.nil | with_reducible refine AllP.cons ?_ ?_)) <;> first | with_reducible exact rfl | exact congrArg EV.u8 f2 | with_reducible exact ⟨rfl, rfl, rfl, rfl⟩ | exact Int.natCast_add_one _ | (refine ⟨rfl, rfl, rfl, ?_⟩; show _ = (J ++ num1 ((rs.getD (y : Int).toNat role0).keys.getD u 0)).length; simp only [EV.len, EV.sub, num1_len, num4_len, List.length_append, List.length_take, List.length_drop, List.length_cons, List.length_nil, Option.getD_none] <;> omega) | exact rfl | exact trivial | (intro _ _; simp [pureL, pureS, pureE]; done) | exact ⟨rfl, rfl, rfl, rfl⟩
              · refine ⟨hu, by simp only [List.length_append, num1_len]; omega, ?_⟩
                dsimp only
                rw [u3, take_flat num1 _ 0 u hu, List.append_assoc]
              · dsimp only; omega
            · have hu : u = (rs.getD (y : Int).toNat role0).keys.length := by simp only [EV.len] at h; omega
              rw [hu, List.take_length] at u3
              have f3 : J ++ List.take 1 (List.drop 0 [UInt8.ofNat (IntKind.u8.wrap (rs.getD (y : Int).toNat role0).need).toNat]) = K ++ roleW (rs.getD (y : Int).toNat role0) := by
                rw [lit_one, u3, ← e1]
                simp only [roleW, List.append_assoc]
              have f4 : (K ++ roleW (rs.getD (y : Int).toNat role0)).length ≤ 600 + 100 * y := by
                rw [← f3, lit_one, List.length_append, num1_len]
                omega
              refine Sat.back (y + 1, K ++ roleW (rs.getD (y : Int).toNat role0)) [(1, some 13)] rfl ?_ ?_ ?_
              · (repeat' (first | exact AllP.nil | with_reducible refine AllP.cons ?_ ?_)) <;> first | with_reducible exact rfl | exact congrArg EV.u8 f3 | with_reducible exact ⟨rfl, rfl, rfl, rfl⟩ | exact Int.natCast_add_one _ | (refine ⟨rfl, rfl, rfl, ?_⟩; show _ = (K ++ roleW (rs.getD (y : Int).toNat role0)).length; rw [← f3]; simp only [EV.len, EV.sub, num1_len, num4_len, List.length_append, List.length_take, List.length_drop, List.length_cons, List.length_nil, Option.getD_none] <;> omega) | exact rfl | exact trivial | (intro _ _; simp [pureL, pureS, pureE]; done) | exact ⟨rfl, rfl, rfl, rfl⟩
              · refine ⟨hy, by dsimp only; omega, ?_⟩
                dsimp only
                rw [y3, e6, List.append_assoc]
              · dsimp only; omega
        · have hx : y = rs.length := by omega
          subst hx
          rw [List.take_length] at y3
          repeat' (first
              | ((with_reducible apply Sat.run (X := X64)); exact rfl; (first | exact True.intro | (exact phi) | skip))
              | ((with_reducible apply Sat.drawn); kernel_rfl)
              | ((with_reducible apply DSat.run (X := X64)); exact rfl; (first | exact True.intro | (exact phi) | skip))
              | ((with_reducible apply DSat.fin); kernel_rfl)
              | ((with_reducible apply Sat.cond_t); exact rfl)
              | ((with_reducible apply Sat.cond_f); exact rfl)
              | ((with_reducible apply Sat.cond_pt); exact rfl; (try dsimp only [V.EV.sub, V.EV.len]); first | assumption | omega)
              | ((with_reducible apply Sat.cond_pf); exact rfl; (try dsimp only [V.EV.sub, V.EV.len]); first | assumption | omega)
              | ((with_reducible apply Sat.cond_p); exact rfl; all_goals intro h)
              | ((with_reducible apply Sat.cond); exact rfl; all_goals intro h) | fail)
          refine Sat.fin (Sat.end1 rfl rfl rfl True.intro (.all _ _ _ _ _ rfl rfl (by simp [EV.len]) trivial) (by first | exact .inl rfl | exact .inr rfl) (fun _ h => h)) ?_
          refine congrArg (fun x => SV.ro (EV.u8 x)) ?_
          rw [y3, x3]
          simp only [bytesQ, List.append_assoc]
theorem rootBytesR_spec (r : RootL) (hv : rootB r = true) : Fun Tryd.prog [] 20 [r.v] (.ro (.u8 (bytesQ r))) := by
  obtain ⟨g, ex, ks, rs⟩ := r
  exact rootBytesR_t g ex ks rs hv
end Go.Proofs.YtegbdcadlmefgaaDoor
end
section
namespace Go.Proofs.YtegbdcadlmefgaaDoor.V
open Go.RowKit

/-- A function that is given a pointer to a block of cells: what it returns, and what the block holds then; nothing else is written. -/
def MFun (P : Program) (Γ : Glob) (f : FuncId) (args : List SV) (t : TypeId) (c c' : List SV) (res : SV) : Prop :=
  ∀ (T : Nat → Prop) (w : World) (vs : List Value) (b : Nat) (cs : List Value), (∀ k, T k → k < w.heap.size) → T b → GOk Γ T w → w.heap[b]? = some (.cells cs.toArray t (0, 0)) → Items E0 T w c cs → Tup E0 T w args vs →
    Calls P f (Value.pointer (some ⟨b, 0, none⟩) :: vs).toArray w fun e w' => ∃ v cs', e = .returned v ∧ Rep E0 T w' res v ∧ w'.heap[b]? = some (.cells cs'.toArray t (0, 0)) ∧ cs'.length = cs.length ∧ Items E0 T w' c' cs' ∧
      w'.os = w.os ∧ w'.tape = w.tape ∧ w'.output = w.output ∧ w.heap.size ≤ w'.heap.size ∧ ∀ k, k < w.heap.size → k ≠ b → w'.heap[k]? = w.heap[k]?
def MPost (T : Nat → Prop) (w : World) (t : TypeId) (b n : Nat) (c' : List SV) (res : SV) (e : Ending) (w' : World) : Prop := ∃ v cs', e = .returned v ∧ Rep E0 T w' res v ∧ w'.heap[b]? = some (.cells cs'.toArray t (0, 0)) ∧ cs'.length = n ∧ Items E0 T w' c' cs' ∧
      w'.os = w.os ∧ w'.tape = w.tape ∧ w'.output = w.output ∧ w.heap.size ≤ w'.heap.size ∧ ∀ k, k < w.heap.size → k ≠ b → w'.heap[k]? = w.heap[k]?
def pe0 (b : Nat) : Env := fun i => if i = 0 then some (some b) else none
def ids1 : List Nat := 1 :: 2 :: 3 :: 4 :: 5 :: 6 :: 7 :: 8 :: 9 :: 10 :: 11 :: 12 :: 13 :: 14 :: 15 :: 16 :: 17 :: 18 :: 19 :: 20 :: 21 :: 22 :: 23 :: 24 :: 25 :: 26 :: 27 :: 28 :: 29 :: 30 :: 31 :: 32 :: 33 :: 34 :: 35 :: 36 :: 37 :: 38 :: 39 :: 40 :: []
/-- What such a function's walk is under. -/
@[reducible] def mctx (P : Program) (Γ : Glob) (N : Nat) (T : Nat → Prop) (w : World) (b : Nat) : Ctx := ⟨P, w, fun k => k = b, fun k => T k ∧ k ≠ b, Γ, N, [0], [⟨pe0 b, .e, fun _ => undef⟩], false⟩
theorem sup_ids {l : List Nat} {n : Nat} {U : Nat → Prop} (hl : ∀ i, i < l.length → l[i]? = some (n + i)) (hU : ∀ k, n ≤ k → U k) : Sup l U := by
  induction l generalizing n U with
  | nil => trivial
  | cons i r ih =>
    have hi : i = n := by simpa using hl 0 (by simp)
    refine ⟨hU i (by omega), ih (n := n + 1) (fun j hj => ?_) fun k hk => ⟨hU k (by omega), by omega⟩⟩
    have := hl (j + 1) (by simpa using hj)
    simpa [Nat.add_assoc, Nat.add_comm 1 j] using this
section
variable {P : Program} {Γ : Glob} {f : FuncId} {fn : Func} {c : Code} {N : Nat} {args : List SV} {res : SV} {F : Tr} {t : TypeId} {cl cl' : List SV}
/-- **The contract of a function that writes a block, by a walk.** -/
theorem MFun.mk (dep : Nat) (hf : P.funcs[f]? = some fn) (hb : fn.body = some c) (hN : fn.ntmps = N) (hle : Nat.ble (args.length + 1) N = true) (hF : argT 0 (.ptr 0 0 :: args) (Tr.mk dep) = some F)
    (h : factsL args → factsL cl → ∀ (T : Nat → Prop) (w : World) (b : Nat), (∀ k, T k → k < w.heap.size) → T b → Sat (mctx P Γ N T w b) (bodyPost P fn (MPost T w t b (wI cl) cl' res)) (.code c F [(0, .cells t cl)] ids1 [])) : MFun P Γ f args t cl cl' res := by
  intro T w vs b cs hT hTb hG hbk hI ht
  have hle' := Nat.le_of_ble_eq_true hle
  have hlen := ht.len
  have hE : pe0 b 0 = some (some b) := rfl
  have hne : ∀ i x, pe0 b i = some x → i = 0 ∧ x = some b := fun i x hx => by
    unfold pe0 at hx
    split at hx
    · rename_i e; cases hx; exact ⟨e, rfl⟩
    · cases hx
  have htr : ∀ k, trk (fun k => T k ∧ k ≠ b) [(0, .cells t cl)] (pe0 b) k → T k := fun k hk => by
    rcases hk with ⟨id, B, hf, hEk⟩ | h0
    · have := (hne _ _ hEk).2
      cases this
      exact hTb
    · exact h0.1
  have hup : ∀ i x, E0 i = some x → pe0 b i = some x := fun i x hx => by cases hx
  have hwl := (wI_len hI).symm
  rw [hwl]
  refine calls_of_wp hf hb (h ht.facts hI.facts T w b hT hTb (fun k => k ≠ 0) (pe0 b) _ w (sup_ids (n := 1) (by decide) (fun k hk => by omega)) ⟨rfl, ?_, fun t' s hs => ?_, ⟨fun id B hf => ?_, fun id id' b' h1 h2 h3 h4 => ?_⟩, fun id b' hf hEk => .inr ?_, fun k hk => by simp [pe0, hk], ⟨rfl, rfl, rfl, Chg.refl _ w⟩, fun k hk => .inl ⟨hT k hk.1, hk.2⟩, hG.mono (fun k _ hk => htr k hk) (Chg.refl _ w), fun p hp id x hx => ?_, fun p hp t' s hs => ?_⟩)
  · simp only [Array.size_append, List.size_toArray, Array.size_replicate, List.length_cons, hlen, hN]; omega
  · have ht2 : Tup (pe0 b) (trk (fun k => T k ∧ k ≠ b) [(0, .cells t cl)] (pe0 b)) w (.ptr 0 0 :: args) (Value.pointer (some ⟨b, 0, none⟩) :: vs) :=
      .cons _ _ _ _ (.ptr 0 0 b hE) (ht.mono hup (fun k _ hk => htr k hk) (Chg.refl _ w))
    rcases argT_get hF ht2 t' s hs with ⟨q1, _⟩ | ⟨_, v, q2, q3⟩ | ⟨_, q2⟩
    · omega
    · have hlt : t' < (Value.pointer (some ⟨b, 0, none⟩) :: vs).length := by simpa using (List.getElem?_eq_some_iff.1 q2).1
      have : ((Value.pointer (some ⟨b, 0, none⟩) :: vs).toArray ++ Array.replicate (fn.ntmps - (Value.pointer (some ⟨b, 0, none⟩) :: vs).toArray.size) undef).getD t' undef = v := by
        rw [Array.getD_eq_getD_getElem?, Array.getElem?_append_left (by simpa using hlt)]
        simp only [Nat.sub_zero] at q2
        simpa using congrArg (fun o => Option.getD o undef) q2
      rw [this]
      exact q3
    · rw [mk_get] at q2; cases q2
  · rw [find_cons] at hf
    split at hf
    · rename_i e
      cases hf
      subst e
      exact .inl ⟨b, hE, hT b hTb, cs, hbk, hI.mono hup (fun k _ hk => htr k hk) (Chg.refl _ w)⟩
    · simp [find] at hf
  · rw [(hne _ _ h3).1, (hne _ _ h4).1]
  · have := (hne _ _ hEk).2
    cases this
    rfl
  · simp only [List.mem_singleton] at hp
    subst hp
    have := hne _ _ hx
    rw [this.1]
    exact ⟨rfl, by rw [this.2]; rfl⟩
  · simp only [List.mem_singleton] at hp
    subst hp
    cases t' <;> simp [Tr.get] at hs
variable {e : Ex} {M : Mem} {ids : List Nat} {w : World} {b n : Nat} {T : Nat → Prop}
theorem mend_core {c2 : List SV} (hT : ∀ k, T k → k < w.heap.size) (hfM : find M 0 = some (.cells t c2)) (hc : Convs (del M 0) c2 cl') (he : e = .ret ∨ e = .normal) (hn : wI c2 = n)
    (hv : ∀ U E a w', Sup ids U → St (mctx P Γ N T w b) F M U E a w' → ∃ v s, (results fn a.tmps).run P w' = .ok v w' ∧ Rep E (trk (fun k => T k ∧ k ≠ b) M E) w' s v ∧ Conv (del M 0) s res) :
    Sat (mctx P Γ N T w b) (bodyPost P fn (MPost T w t b n cl' res)) (.ext e F M ids []) := by
  intro U E a w' hsup hst
  obtain ⟨v, s, h1, h2, h3⟩ := hv U E a w' hsup hst
  have hE : E 0 = some (some b) := (hst.pin _ (List.mem_singleton.2 rfl) 0 (some b) rfl).2
  obtain ⟨hlt, cs, hh, hI⟩ := hst.mem.at hfM hE
  have hle : MLe (del M 0) M := fun id B hf => by
    rw [find_del] at hf
    split at hf
    · cases hf
    · exact hf
  have hM := hst.mem.le hle
  have hTT : ∀ k, k < w'.heap.size → T k → trk (fun k => T k ∧ k ≠ b) M E k := fun k _ hk => by
    by_cases hkb : k = b
    · subst hkb; exact .inl ⟨0, _, hfM, hE⟩
    · exact .inr ⟨hk, hkb⟩
  have ho : ∀ id k, (find (del M 0) id).isSome = true → E id = some (some k) → ¬ T k := fun id k hf hEk hTk => by
    obtain ⟨B, hB⟩ := Option.isSome_iff_exists.1 hf
    have hid : id ≠ 0 := fun e => by rw [find_del, if_pos e] at hB; cases hB
    have hfi := hle id B hB
    rcases hst.own id k (by rw [hfi]; rfl) hEk with h | h
    · have := hT k hTk
      dsimp only at h
      omega
    · dsimp only at h
      subst h
      exact hid (hst.mem.inj id 0 k (by rw [hfi]; rfl) (by rw [hfM]; rfl) hEk hE)
  have hpost : MPost T w t b n cl' res (.returned v) w' :=
    ⟨v, cs, rfl, Conv.ok hM hTT ho h3 h2, hh, (wI_len hI).symm.trans hn, Convs.items hM hTT ho hc hI, hst.kp.os, hst.kp.tape, hst.kp.output, hst.kp.chg.size, fun k hk hkb => hst.kp.chg.keep k hk hkb⟩
  rcases he with rfl | rfl <;> exact ⟨hst.defers, v, h1, hpost⟩
theorem Sat.mend1 {c2 : List SV} {r : ResultVar} {φ : List Prop} {s : SV} (hT : ∀ k, T k → k < w.heap.size) (hr : fn.results = #[r]) (h1 : resV P F M r = some (φ, s)) (hφ : AllP φ) (hfM : find M 0 = some (.cells t c2)) (hc : Convs (del M 0) c2 cl') (hs : Conv (del M 0) s res) (he : e = .ret ∨ e = .normal) (hn : wI c2 = n) :
    Sat (mctx P Γ N T w b) (bodyPost P fn (MPost T w t b n cl' res)) (.ext e F M ids []) :=
  mend_core hT hfM hc he hn fun U E a w' _ hst => by
    obtain ⟨v, q1, q2⟩ := resV_ok hst h1 hφ
    refine ⟨v, s, ?_, q1, hs⟩
    unfold results
    rw [hr]
    exact mapM_run1 q2
theorem Sat.mfin {x : Cfg} {Q : Ctx} {res' : SV} {cl2 : List SV} (h : Sat Q (bodyPost P fn (MPost T w t b n cl2 res')) x) (h1 : res = res') (h2 : cl' = cl2) : Sat Q (bodyPost P fn (MPost T w t b n cl' res)) x := by
  subst h1 h2
  exact h
end
section
variable {C : Ctx} {Q0 : Exit → Act → World → Prop} {F F' : Tr} {M M' : Mem} {ids : List Nat} {k : List Kont} {f : FuncId} {t : TypeId} {c c' : List SV} {args svs : List SV} {res : SV} {i : Nat}
/-- What such a call does, where the block is one of one's own. -/
theorem mcall_core {U : Nat → Prop} {E : Env} {a : Act} {w : World} (hst : St C F M U E a w) (hn : C.wide = false) (hspec : MFun C.P C.Γ f args t c c' res) (hf : find M i = some (.cells t c)) (hpc : pureL c) (hM : upd M i (.cells t c') = some M') {vs : List Value} {b : Nat} (hE : E i = some (some b)) (ht : Tup E0 (trk C.T0 M E) w args vs) :
    Calls C.P f (Value.pointer (some ⟨b, 0, none⟩) :: vs).toArray w fun e w' => ∃ v, e = .returned v ∧ Rep E0 (trk C.T0 M' E) w' res v ∧ St C F M' U E a w' := by
  obtain ⟨hlt, cs, hh, hI⟩ := hst.mem.at hf hE
  have hmine : mine M E b := ⟨i, _, hf, hE⟩
  refine (hspec (trk C.T0 M E) w vs b cs (hst.lt hn) (.inl hmine) hst.glob hh (hI.free_ hpc) ht).mono ?_
  rintro e w' ⟨v, cs', rfl, h1, h2, h3, h4, h5, h6, h7, h8, h9⟩
  have hfind := find_upd hM
  have htr : ∀ k, trk C.T0 M' E k ↔ trk C.T0 M E k := fun k => by
    constructor
    · rintro (⟨id, B, q1, q2⟩ | h0)
      · rw [hfind] at q1
        split at q1
        · rename_i e; subst e; exact .inl ⟨id, _, hf, q2⟩
        · exact .inl ⟨id, B, q1, q2⟩
      · exact .inr h0
    · rintro (⟨id, B, q1, q2⟩ | h0)
      · by_cases e : id = i
        · subst e; exact .inl ⟨id, .cells t c', by rw [hfind, if_pos rfl], q2⟩
        · exact .inl ⟨id, B, by rw [hfind, if_neg e]; exact q1, q2⟩
      · exact .inr h0
  have hteq : trk C.T0 M' E = trk C.T0 M E := funext fun k => propext (htr k)
  have hchg : Chg (mine M E) w w' := ⟨h8, fun k hk hnm => h9 k hk fun e => hnm (e ▸ hmine), fun k hk => by
    by_cases e : k = b
    · subst e; simp [World.shape?, hh, h2, h3]
    · simp [World.shape?, h9 k hk e]⟩
  have hchg2 := hchg.weak (T' := trk C.T0 M E) fun _ => .inl
  refine ⟨v, rfl, by rw [hteq]; exact h1, hst.go (fun _ _ h => h) (fun k _ hk => (htr k).1 hk) hchg h5 h6 h7 ⟨fun id B hB => ?_, fun id id' b' q1 q2 q3 q4 => ?_⟩ (fun id b' q1 q2 => ?_) hst.fresh⟩
  · rw [hfind] at hB
    split at hB
    · rename_i e
      subst e
      cases hB
      refine .inl ⟨b, hE, Nat.lt_of_lt_of_le hlt h8, cs', h2, ?_⟩
      rw [hteq]
      exact h4.mono (fun _ _ h => by cases h) (fun _ _ h => h) (Chg.refl _ w')
    · rename_i e
      rcases hst.mem.blk id B hB with ⟨b', q1, q2, q3⟩ | q1
      · refine .inl ⟨b', q1, Nat.lt_of_lt_of_le q2 h8, ?_⟩
        have hne : b' ≠ b := fun e2 => by
          subst e2
          exact e (hst.mem.inj id i b' (by rw [hB]; rfl) (by rw [hf]; rfl) q1 hE)
        rw [hteq]
        exact q3.mono (fun _ _ h => h) (fun _ _ h => h) hchg2 (h9 b' q2 hne)
      · exact .inr q1
  · have hs : ∀ j, (find M' j).isSome = true → (find M j).isSome = true := fun j hj => by
      rw [hfind] at hj
      split at hj
      · rename_i e; subst e; rw [hf]; rfl
      · exact hj
    exact hst.mem.inj id id' b' (hs id q1) (hs id' q2) q3 q4
  · refine hst.own id b' ?_ q2
    rw [hfind] at q1
    split at q1
    · rename_i e; subst e; rw [hf]; rfl
    · exact q1
theorem Sat.mcall {full rest : List Oper} {d : Option Tmp} {x : Operand} {xs : List Operand} {ats : Array TypeId} {type : TypeId} {pos : String} {after : Array Edge}
    (hspec : MFun C.P C.Γ f args t c c' res) (hn : C.wide = false) (hx : argsF C.Γ F x xs = some (f, .ptr i 0 :: svs)) (hc : callable C.P f = true) (hconv : Convs [] svs args) (hf : find M i = some (.cells t c)) (hpc : pureL c) (hM : upd M i (.cells t c') = some M') (hp : putD C.N F d (some res) some = some F') (h : Sat C Q0 (.reg full rest F' M' ids k)) :
    Sat C Q0 (.reg full (⟨d, .call ⟨.value x, ⟨xs⟩, ats⟩, type, pos, after, none⟩ :: rest) F M ids k) := by
  intro U E a w hsup hst
  obtain ⟨F1, h1, h2⟩ := putD_inv hp
  cases h1
  refine wpList_plain rfl fun K hK => ?_
  unfold Oper.wp
  obtain ⟨vs, ht, hex⟩ := argsF_ok hst.vw hx
  rw [hex, run_callFunc_go hc]
  cases ht with
  | cons _ v0 _ vs hr ht =>
  cases hr with
  | ptr _ _ b hE =>
  have hH : MOk E (trk C.T0 M E) [] w := ⟨fun id B hf => by simp [find] at hf, fun id id' b hf => by simp [find] at hf⟩
  have ht' := Convs.tups (T' := trk C.T0 M E) hH (fun _ _ h => h) (fun id b hf => by simp [find] at hf) hconv ht
  refine (mcall_core hst hn hspec hf hpc hM hE ht').mono ?_
  rintro e w' ⟨v, rfl, hr, hst'⟩
  exact hK _ _ (h U E _ w' hsup (hst'.putD h2 fun s' hs' => by cases hs'; exact hr.up))
/-- The same in a region that draws its order. -/
theorem DSat.mcall {full rest : List Oper} {F0 : Tr} {M0 : Mem} {ids0 : List Nat} {n : Nat} {hist : List Ent} {d : Option Tmp} {x : Operand} {xs : List Operand} {ats : Array TypeId} {type : TypeId} {pos : String} {after : Array Edge}
    (hspec : MFun C.P C.Γ f args t c c' res) (hn : C.wide = false) (hx : argsF C.Γ F x xs = some (f, .ptr i 0 :: svs)) (hc : callable C.P f = true) (hconv : Convs [] svs args) (hf : find M i = some (.cells t c)) (hpc : pureL c) (hM : upd M i (.cells t c') = some M') (hp : putD C.N F d (some res) some = some F')
    (h : DSat C Q0 k full F0 M0 ids0 (n + 1) (⟨n, d, some res, none, [(i, some (.cells t c'))], [i], false⟩ :: hist) rest F' M' ids) :
    DSat C Q0 k full F0 M0 ids0 n hist (⟨d, .call ⟨.value x, ⟨xs⟩, ats⟩, type, pos, after, none⟩ :: rest) F M ids := by
  intro D
  obtain ⟨F1, h1, h2⟩ := putD_inv hp
  cases h1
  obtain ⟨p1, p2⟩ := putD_get h2
  have hlook : ∀ (M : Mem) (M' : Mem), upd M i (.cells t c') = some M' → ∀ id, find M' id = (look [(i, some (Blk.cells t c'))] id).getD (find M id) := fun M M' hM id => by
    rw [find_upd hM]
    simp only [look]
    by_cases e : id = i
    · subst e; simp
    · have : Nat.beq i id = false := by
        cases h : Nat.beq i id with
        | false => rfl
        | true => exact absurd (Nat.eq_of_beq_eq_true h).symm e
      rw [if_neg e, this]
      rfl
  refine h (D.step (fun ho Q K Fa Ma U E a w q1 q2 _ q3 hst hK => ?_) rfl rfl p2 (hlook _ _ hM) rfl)
  have hfa : find Ma i = some (.cells t c) := (q2 i (List.mem_singleton.2 rfl)).trans hf
  obtain ⟨Ma', hMa⟩ := upd_some (B' := .cells t c') hfa
  refine wpOp_plain ho rfl ?_
  unfold Oper.wp
  obtain ⟨vs, ht, hex⟩ := argsF_ok hst.vw (argsF_le (looks_le (F := F) q1 fun _ => rfl) hx)
  rw [hex, run_callFunc_go hc]
  cases ht with
  | cons _ v0 _ vs hr ht =>
  cases hr with
  | ptr _ _ b hE =>
  have hH : MOk E (trk C.T0 Ma E) [] w := ⟨fun id B hf => by simp [find] at hf, fun id id' b hf => by simp [find] at hf⟩
  have ht' := Convs.tups (T' := trk C.T0 Ma E) hH (fun _ _ h => h) (fun id b hf => by simp [find] at hf) hconv ht
  refine (mcall_core hst hn hspec hfa hpc hMa hE ht').mono ?_
  rintro e w' ⟨v, rfl, hr, hst'⟩
  obtain ⟨F2, hF2⟩ := tr_put Fa d (some res)
  exact hK F2 Ma' U E _ w' hF2 (hlook _ _ hMa) (fun k => by simp) (hst'.putG p1 hF2 fun s' hs' => by cases hs'; exact hr.up)
end
end Go.Proofs.YtegbdcadlmefgaaDoor.V
end
section
namespace Go.Proofs.YtegbdcadlmefgaaDoor.V
open Go.RowKit

theorem exec_copy {P : Program} {a : Act} {o : Oper} {s x : Operand} {t t' : TypeId} (ho : o.op = .call ⟨.builtin .copy, ⟨[s, x]⟩, ⟨[t, t']⟩⟩) {v : Value} {w w' : World} (h : (Builtin.copy_ #[t, t'] o.type #[a.eval s, a.eval x]).run P w = .ok v w') : (execOp a.eval o).run P w = .ok (.value v) w' := by
  obtain ⟨cs, hc⟩ := exec_call_builtin (a := a) ho
  rw [hc]
  simp only [builtin, Sem.run_bind]
  have : ([s, x].map a.eval).toArray = #[a.eval s, a.eval x] := rfl
  rw [this]
  simp [h]
/-- An array of bytes, by its cells. -/
theorem arr_rep {E : Env} {T : Nat → Prop} {w : World} {n : Nat} {m : List UInt8} (h : m.length = n) : Rep E T w (.arr n (.u8 m)) (.agg (bytesC m).toArray) := by
  refine .arr n (.u8 m) (bytesC m) (fun i => [.int .u8 ((m.getD i 0).toNat : Int)]) (fun i _ => rfl) (by rw [bytesC_len]; exact h) (by simp [EV.len, EV.sz, h]) (bytesC_one m) (fun i j v hi hv => ?_) (fun i hi => .one _ _ _ _ rfl (.int _ _ (inR_byte _)) .nil)
  match j, hv with
  | 0, hv =>
    simp at hv
    subst hv
    have := bytesC_at m i hi
    simpa [EV.sz] using this
  | j + 1, hv => simp at hv
theorem sizeF_size {P : Program} {t : TypeId} {n : Nat} (h : sizeF P t = some n) : (P.info? t).map (·.size) = some n := by
  unfold sizeF at h
  split at h
  · rename_i i hi
    simp only [Option.some.injEq] at h
    rw [hi]
    simp [h]
  · cases h
section
variable {C : Ctx} {Q0 : Exit → Act → World → Prop} {F F' : Tr} {M M' : Mem} {ids : List Nat} {k : List Kont} {i n : Nat} {t ta tb elem : TypeId} {old m : List UInt8}
theorem copy_core {U : Nat → Prop} {E : Env} {a : Act} {w : World} (hst : St C F M U E a w) {o : Oper} {x y : Operand} (ho : o.op = .call ⟨.builtin .copy, ⟨[x, y]⟩, ⟨[ta, tb]⟩⟩) (hu : C.P.underlying ta = some (.slice elem)) (hsz : sizeF C.P elem = some 1)
    (hx : opd C.Γ F x = some (.row i 0 1 0 n)) (hy : opd C.Γ F y = some (.ro (.u8 m))) (hn : 0 < n) (hf : find M i = some (.cells t [.arr n (.u8 old)])) (hm : m.length = n ∨ m.length = 0) (hM : upd M i (.cells t [.arr n (.u8 (if m.length = n then m else old))]) = some M') :
    ∃ w', (execOp a.eval o).run C.P w = .ok (.value (.int .i64 (m.length : Int))) w' ∧ St C F M' U E a w' := by
  have hrx := opd_rep hst.vw hx
  have hry := opd_rep hst.vw hy
  have hs1 := sizeF_size hsz
  generalize hvx : a.eval x = vx at hrx
  cases hrx with
  | row0 _ _ _ _ _ hE h0 => omega
  | row _ _ _ _ _ b o' c n' t' hE hs hoff hl ok =>
  have hc0 : c ≠ 0 := by omega
  obtain ⟨ho1, _⟩ := hoff hc0
  simp only [Nat.zero_mul, Nat.add_zero] at ho1
  subst ho1
  obtain ⟨hlt, cs, hh, hI⟩ := hst.mem.at hf hE
  cases hI with
  | one _ _ _ _ h1 => simp [SV.one] at h1
  | arr _ _ _ c1 cs' hra hl' =>
  cases hl'
  rw [List.append_nil] at hh
  have hlen1 := hra.arr_len
  obtain ⟨hol, hat⟩ := arr_u8_cells hra
  -- the cells of the source
  have key : ∀ (ad : Addr) (k' : Nat) (csrc : List Value), csrc.length = m.length → csrc = bytesC m → m.length ≤ n → a.eval y = .slice (some ad) m.length k' → (∀ j v, csrc[j]? = some v → w.cell? (ad.add j) = some v) →
      (execOp a.eval o).run C.P w = .ok (.value (.int .i64 (m.length : Int))) (w.setRow b (csrc ++ c1.drop m.length).toArray) := fun ad k' csrc q1 q2 q3 q4 q5 => by
    refine exec_copy ho ?_
    rw [hvx, q4]
    have := run_copy_row (P := C.P) w ta tb o.type elem b 0 n c ad m.length k' c1.toArray t csrc hu hs1 hh (by rw [q1]; exact (Nat.min_eq_left q3).symm) q5 (by simp [q1, hlen1]; omega) (by rw [q2]; exact bytesC_one m)
    rw [this]
    simp [goInt, q1]
  have fin : ∀ w1, (execOp a.eval o).run C.P w = .ok (.value (.int .i64 (m.length : Int))) w1 → (∃ cs2 : List Value, w1 = w.setRow b cs2.toArray ∧ cs2.length = c1.length ∧ ∀ E T w, Rep E T w (.arr n (.u8 (if m.length = n then m else old))) (.agg cs2.toArray)) →
      ∃ w', (execOp a.eval o).run C.P w = .ok (.value (.int .i64 (m.length : Int))) w' ∧ St C F M' U E a w' := fun w1 q1 ⟨cs2, q2, q3, q4⟩ => by
    subst q2
    refine ⟨_, q1, hst.upd_ hM hf hE hh q3 ⟨cs2, ?_, ?_⟩⟩
    · exact setRow_heap w b c1.toArray _ t (0, 0) hh
    · have := Items.arr (E := E) (T := trk C.T0 M' E) (w := w.setRow b cs2.toArray) n (.u8 (if m.length = n then m else old)) [] cs2 [] (q4 _ _ _) .nil
      rwa [List.append_nil] at this
  have hold : Rep E0 (fun _ => False) w (.arr n (.u8 old)) (.agg c1.toArray) := by
    have := Rep.free_ (E' := E0) hra (by simp [pureS, pureE])
    exact this.mono (fun _ _ h => h) (fun _ _ h => h.elim) (Chg.refl _ w)
  have holdc : ∀ (E : Env) (T : Nat → Prop) (w : World), Rep E T w (.arr n (.u8 old)) (.agg c1.toArray) := fun E T w => by
    have e : c1 = bytesC old := by
      refine List.ext_getElem? fun j => ?_
      by_cases hj : j < n
      · rw [hat j hj, bytesC_at old j (by omega)]
      · rw [List.getElem?_eq_none (by omega), List.getElem?_eq_none (by rw [bytesC_len]; omega)]
    rw [e]
    exact arr_rep hol
  by_cases hmn : m.length = n
  · generalize hvy : a.eval y = vy at hry
    cases hry with
    | ro0 _ h0 => simp only [EV.len] at h0; omega
    | ro1 _ _ h0 => simp only [EV.len] at h0; omega
    | ro _ bb oo n2 k2 c2 hT2 hn2 hc2 hr2 he2 hl2 ok2 hb2 =>
      simp only [EV.len, EV.sz, Nat.mul_one] at he2 hn2 hc2 hr2
      subst he2
      have hsrc : ∀ j v, (bytesC m)[j]? = some v → w.cell? ((⟨bb, oo, none⟩ : Addr).add j) = some v := fun j v hv => by
        rcases Nat.lt_or_ge j m.length with hj | hj
        · rw [bytesC_at m j hj] at hv
          cases hv
          have hI2 := hr2 j hj
          have hcj := hc2 j 0
          simp only [EV.items] at hI2
          generalize c2 j = cj at hI2 hcj
          cases hI2 with
          | one _ cv _ _ p0 pr pI =>
            cases pr
            rw [Lib.addr_add]
            exact hcj _ hj rfl
        · rw [List.getElem?_eq_none (by rw [bytesC_len]; exact hj)] at hv
          cases hv
      refine fin _ (key ⟨bb, oo, none⟩ k2 (bytesC m) (bytesC_len m) rfl (by omega) hvy hsrc) ⟨_, rfl, ?_, fun E T w => ?_⟩
      · simp [bytesC_len, hlen1, hmn]
      · rw [if_pos hmn, List.drop_of_length_le (by omega), List.append_nil]
        exact arr_rep hmn
  · have hm0 : m.length = 0 := hm.resolve_left hmn
    have hmnil : m = [] := List.eq_nil_of_length_eq_zero hm0
    subst hmnil
    have hself : ∀ w2, w2 = w → ∃ cs2 : List Value, w2 = w.setRow b cs2.toArray ∧ cs2.length = c1.length ∧ ∀ E T w, Rep E T w (.arr n (.u8 (if ([] : List UInt8).length = n then [] else old))) (.agg cs2.toArray) := fun w2 e => by
      refine ⟨c1, ?_, rfl, fun E T w => by rw [if_neg hmn]; exact holdc E T w⟩
      rw [e]
      exact (setRow_self w b c1.toArray t (0, 0) hh).symm
    have hsome : ∀ (ad : Addr) (k' : Nat), a.eval y = .slice (some ad) 0 k' → ∃ w', (execOp a.eval o).run C.P w = .ok (.value (.int .i64 ((([] : List UInt8)).length : Int))) w' ∧ St C F M' U E a w' := fun ad k' he => by
      have := key ad k' [] rfl rfl (Nat.zero_le _) he (fun j v hj => by simp at hj)
      refine fin _ this (hself _ ?_)
      simp only [List.nil_append, List.length_nil, List.drop_zero]
      exact setRow_self w b c1.toArray t (0, 0) hh
    generalize hvy : a.eval y = vy at hry
    cases hry with
    | ro0 _ h0 =>
      refine fin w ?_ (hself w rfl)
      refine exec_copy ho ?_
      rw [hvx, hvy]
      exact run_copy_nil (P := C.P) w ta tb o.type elem ⟨b, 0, none⟩ n c hu (by rw [hs1]; rfl)
    | ro1 _ ad h0 => exact hsome ad 0 hvy
    | ro _ bb oo n2 k2 c2 hT2 hn2 hc2 hr2 he2 hl2 ok2 hb2 =>
      simp only [EV.len, List.length_nil] at he2
      subst he2
      exact hsome ⟨bb, oo, none⟩ k2 hvy
theorem Sat.copy {full rest : List Oper} {d : Option Tmp} {x y : Operand} {type : TypeId} {pos : String} {after : Array Edge}
    (hu : C.P.underlying ta = some (.slice elem)) (hsz : sizeF C.P elem = some 1) (hx : opd C.Γ F x = some (.row i 0 1 0 n)) (hy : opd C.Γ F y = some (.ro (.u8 m))) (hn : Nat.blt 0 n = true) (hf : find M i = some (.cells t [.arr n (.u8 old)])) (hM : upd M i (.cells t [.arr n (.u8 (if m.length = n then m else old))]) = some M') (hm : m.length = n ∨ m.length = 0)
    (hp : putD C.N F d (some (.int .i64 (m.length : Int))) some = some F') (h : Sat C Q0 (.reg full rest F' M' ids k)) :
    Sat C Q0 (.reg full (⟨d, .call ⟨.builtin .copy, ⟨[x, y]⟩, ⟨[ta, tb]⟩⟩, type, pos, after, none⟩ :: rest) F M ids k) := by
  intro U E a w hsup hst
  obtain ⟨F1, h1, h2⟩ := putD_inv hp
  cases h1
  refine wpList_plain rfl fun K hK => ?_
  unfold Oper.wp
  obtain ⟨w', q1, q2⟩ := copy_core hst (o := ⟨d, .call ⟨.builtin .copy, ⟨[x, y]⟩, ⟨[ta, tb]⟩⟩, type, pos, after, none⟩) rfl hu hsz hx hy (by simpa using hn) hf hm hM
  rw [q1]
  have hlen : okLen m.length := by
    have hr := opd_rep hst.vw hy
    generalize a.eval y = vy at hr
    cases hr with
    | ro0 _ h0 => simp only [EV.len] at h0; rw [h0]; unfold okLen; omega
    | ro1 _ _ h0 => simp only [EV.len] at h0; rw [h0]; unfold okLen; omega
    | ro _ _ _ _ _ _ _ _ _ _ he hl ok _ => simp only [EV.len] at he; rw [← he]; unfold okLen at ok ⊢; omega
  unfold okLen at hlen
  exact hK _ _ (h U E _ w' hsup (q2.putD h2 fun s' hs' => by cases hs'; exact .int _ _ (inR_i64 (by omega) (by omega))))
theorem DSat.copy {full rest : List Oper} {F0 : Tr} {M0 : Mem} {ids0 : List Nat} {j : Nat} {hist : List Ent} {d : Option Tmp} {x y : Operand} {type : TypeId} {pos : String} {after : Array Edge}
    (hu : C.P.underlying ta = some (.slice elem)) (hsz : sizeF C.P elem = some 1) (hx : opd C.Γ F x = some (.row i 0 1 0 n)) (hy : opd C.Γ F y = some (.ro (.u8 m))) (hn : Nat.blt 0 n = true) (hf : find M i = some (.cells t [.arr n (.u8 old)])) (hM : upd M i (.cells t [.arr n (.u8 (if m.length = n then m else old))]) = some M') (hm : m.length = n ∨ m.length = 0)
    (hp : putD C.N F d (some (.int .i64 (m.length : Int))) some = some F')
    (h : DSat C Q0 k full F0 M0 ids0 (j + 1) (⟨j, d, some (.int .i64 (m.length : Int)), none, [(i, some (.cells t [.arr n (.u8 (if m.length = n then m else old))]))], [i], false⟩ :: hist) rest F' M' ids) :
    DSat C Q0 k full F0 M0 ids0 j hist (⟨d, .call ⟨.builtin .copy, ⟨[x, y]⟩, ⟨[ta, tb]⟩⟩, type, pos, after, none⟩ :: rest) F M ids := by
  intro D
  obtain ⟨F1, h1, h2⟩ := putD_inv hp
  cases h1
  obtain ⟨p1, p2⟩ := putD_get h2
  have hlook : ∀ (B : Blk) (M : Mem) (M' : Mem), upd M i B = some M' → ∀ id, find M' id = (look [(i, some B)] id).getD (find M id) := fun B M M' hM id => by
    rw [find_upd hM]
    simp only [look]
    by_cases e : id = i
    · subst e; simp
    · have : Nat.beq i id = false := by
        cases h : Nat.beq i id with
        | false => rfl
        | true => exact absurd (Nat.eq_of_beq_eq_true h).symm e
      rw [if_neg e, this]
      rfl
  refine h (D.step (fun ho Q K Fa Ma U E a w q1 q2 _ q3 hst hK => ?_) rfl rfl p2 (hlook _ _ _ hM) rfl)
  have hfa : find Ma i = some (.cells t [.arr n (.u8 old)]) := (q2 i (List.mem_singleton.2 rfl)).trans hf
  obtain ⟨Ma', hMa⟩ := upd_some (B' := .cells t [.arr n (.u8 (if m.length = n then m else old))]) hfa
  have hxa : opd C.Γ Fa x = some (.row i 0 1 0 n) := looks_le (F := F) q1 (fun _ => rfl) x (by simp [Op.operands, Call.operands]) _ hx
  have hya : opd C.Γ Fa y = some (.ro (.u8 m)) := looks_le (F := F) q1 (fun _ => rfl) y (by simp [Op.operands, Call.operands]) _ hy
  refine wpOp_plain ho rfl ?_
  unfold Oper.wp
  obtain ⟨w', r1, r2⟩ := copy_core hst (o := ⟨d, .call ⟨.builtin .copy, ⟨[x, y]⟩, ⟨[ta, tb]⟩⟩, type, pos, after, none⟩) rfl hu hsz hxa hya (by simpa using hn) hfa hm hMa
  rw [r1]
  have hlen : okLen m.length := by
    have hr := opd_rep hst.vw hya
    generalize a.eval y = vy at hr
    cases hr with
    | ro0 _ h0 => simp only [EV.len] at h0; rw [h0]; unfold okLen; omega
    | ro1 _ _ h0 => simp only [EV.len] at h0; rw [h0]; unfold okLen; omega
    | ro _ _ _ _ _ _ _ _ _ _ he hl ok _ => simp only [EV.len] at he; rw [← he]; unfold okLen at ok ⊢; omega
  unfold okLen at hlen
  obtain ⟨F2, hF2⟩ := tr_put Fa d (some (.int .i64 (m.length : Int)))
  exact hK F2 Ma' U E _ w' hF2 (hlook _ _ _ hMa) (fun k => by simp) (r2.putG p1 hF2 fun s' hs' => by cases hs'; exact .int _ _ (inR_i64 (by omega) (by omega)))
/-- A row is given up, in the midst of a region. -/
theorem Sat.freezeR {full rest : List Oper} {φ : List Prop} (wh : Bool) (id : Nat) (hz : frz C.wide C.pins ids wh id F M = some ⟨F', M', φ⟩) (hφ : AllP φ) (hn : Sat C Q0 (.reg full rest F' M' ids k)) : Sat C Q0 (.reg full rest F M ids k) := by
  intro U E a w _ hst
  obtain ⟨U', E', h1, h2⟩ := frz_ok hz hφ hst
  exact hn U' E' a w h1 h2
/-- An operation whose guard is known not to hold: whatever its slot is said to hold, were the guard to hold. -/
theorem Sat.goffM {full rest : List Oper} {d : Option Tmp} {op : Op} {type : TypeId} {pos : String} {after : Array Edge} {j : Nat} {want : Bool} {H : Prop} (v : SV) (hH : guardH F full j want = some H) (hh : ¬ H) (hp : putD C.N F d (some (.may H v)) some = some F') (h : Sat C Q0 (.reg full rest F' M ids k)) :
    Sat C Q0 (.reg full (⟨d, op, type, pos, after, some (j, want)⟩ :: rest) F M ids k) := by
  intro U E a w hsup hst
  have hy : ¬ (yielded full.toArray a.tmps j == some want) = true := fun hy => hh ((guardH_ok (full := full) hst hH).1 hy)
  obtain ⟨F1, h1, h2⟩ := putD_inv hp
  cases h1
  refine wpList_step fun K hK => ?_
  simp only [Region.wanted, hy]
  exact hK _ _ (h U E _ w hsup (hst.putD h2 fun s' hs' => by cases hs'; exact .may0 _ _ hh))
end
end Go.Proofs.YtegbdcadlmefgaaDoor.V
end
section
namespace Go.Proofs.YtegbdcadlmefgaaDoor.V
open Go.RowKit

theorem wrap_id {k : IntKind} {n : Int} (h : inR k n) : k.wrap n = n := wrap_inR h
theorem wrap_nat {k : IntKind} {n : Nat} (h : n < 2 ^ (k.bits - 1)) : k.wrap (n : Int) = n := by
  refine wrap_inR ?_
  cases k <;> simp [inR, IntKind.min, IntKind.max, IntKind.bits, IntKind.signed] at h ⊢ <;> omega
theorem toNat_ofInt_lt {n : Nat} {a : Int} : (BitVec.ofInt n a).toNat = (a % (2 ^ n : Nat)).toNat := by simp
theorem band_mask (k : IntKind) (a : Int) (m : Nat) (hm : m < k.bits) : k.wrap ((BitVec.ofInt k.bits a &&& BitVec.ofInt k.bits (2 ^ m - 1)).toNat : Int) = a % 2 ^ m := by
  have hp : (2 : Nat) ^ m < 2 ^ k.bits := Nat.pow_lt_pow_right (by decide) hm
  have hpos : 0 < (2 : Nat) ^ m := Nat.two_pow_pos m
  have hposb : 0 < (2 : Nat) ^ k.bits := Nat.two_pow_pos _
  have e1 : (BitVec.ofInt k.bits (2 ^ m - 1)).toNat = 2 ^ m - 1 := by
    rw [toNat_ofInt_lt]
    have h1 : ((2 : Int) ^ m - 1) = ((2 ^ m - 1 : Nat) : Int) := by
      rw [Int.natCast_sub hpos]
      simp
    rw [h1, ← Int.natCast_emod, Int.toNat_natCast]
    exact Nat.mod_eq_of_lt (by omega)
  have e2 : (((BitVec.ofInt k.bits a &&& BitVec.ofInt k.bits (2 ^ m - 1)).toNat : Nat) : Int) = a % 2 ^ m := by
    rw [BitVec.toNat_and, e1, Nat.and_two_pow_sub_one_eq_mod, toNat_ofInt_lt]
    have h0 : 0 ≤ a % ((2 ^ k.bits : Nat) : Int) := Int.emod_nonneg _ (by omega)
    rw [Int.natCast_emod, Int.toNat_of_nonneg h0]
    have hd : (((2 ^ m : Nat) : Int)) ∣ ((2 ^ k.bits : Nat) : Int) := Int.natCast_dvd_natCast.2 (Nat.pow_dvd_pow 2 (Nat.le_of_lt hm))
    rw [Int.emod_emod_of_dvd _ hd]
    simp
  rw [e2]
  have h0 : 0 ≤ a % 2 ^ m := Int.emod_nonneg _ (by have := Int.pow_pos (n := 2) (m := m) (by decide); omega)
  have h1 : a % 2 ^ m < 2 ^ m := Int.emod_lt_of_pos _ (Int.pow_pos (by decide))
  obtain ⟨n, hn⟩ := Int.eq_ofNat_of_zero_le h0
  rw [hn] at h1 ⊢
  apply wrap_nat
  have h2 : n < 2 ^ m := by
    have : ((n : Int)) < ((2 ^ m : Nat) : Int) := by simpa using h1
    exact_mod_cast this
  exact Nat.lt_of_lt_of_le h2 (Nat.pow_le_pow_right (by decide) (by omega))
/-- Two numbers without a bit in common. -/
theorem bor_add (k : IntKind) (a b : Nat) (m : Nat) (hb : b < 2 ^ m) (h : a * 2 ^ m + b < 2 ^ k.bits) (hs : k.signed = true → a * 2 ^ m + b < 2 ^ (k.bits - 1)) : k.wrap ((BitVec.ofInt k.bits ((a * 2 ^ m : Nat) : Int) ||| BitVec.ofInt k.bits (b : Int)).toNat : Int) = ((a * 2 ^ m + b : Nat) : Int) := by
  have e : ∀ n : Nat, n < 2 ^ k.bits → (BitVec.ofInt k.bits (n : Int)).toNat = n := fun n hn => by
    rw [toNat_ofInt_lt, ← Int.natCast_emod, Int.toNat_natCast, Nat.mod_eq_of_lt hn]
  have hor : a * 2 ^ m ||| b = a * 2 ^ m + b := by
    have := Nat.two_pow_add_eq_or_of_lt hb a
    rw [Nat.mul_comm]; exact this.symm
  rw [BitVec.toNat_or, e _ (by omega), e _ (by omega), hor]
  refine wrap_inR ?_
  clear hor e
  generalize a * 2 ^ m + b = c at h hs ⊢
  cases k <;> simp [inR, IntKind.min, IntKind.max, IntKind.bits, IntKind.signed] at h hs ⊢ <;> omega
theorem band255 (k : IntKind) (a : Int) (hk : 8 < k.bits) : k.wrap ((BitVec.ofInt k.bits a &&& BitVec.ofInt k.bits 255).toNat : Int) = a % 256 := band_mask k a 8 hk
end Go.Proofs.YtegbdcadlmefgaaDoor.V
end
section
namespace Go.Proofs.YtegbdcadlmefgaaDoor
open Go.RowKit V
set_option maxRecDepth 100000
set_option maxHeartbeats 8000000
set_option linter.unusedSimpArgs false
attribute [local irreducible] V.Sat V.DSat
/-- What is taken, what is left, and whether there was too little. -/
def tkO (l : List UInt8) (n : Nat) : List UInt8 := if n ≤ l.length then l.take n else []
def tkR (l : List UInt8) (n : Nat) : List UInt8 := if n ≤ l.length then l.drop n else []
def tkB (l : List UInt8) (bad : Bool) (n : Nat) : Bool := if n ≤ l.length then bad else true
theorem take_spec (l : List UInt8) (bad : Bool) (n : Nat) : MFun Tryd.prog [] 66 [.int .i64 (n : Int)] 117 [.ro (.u8 l), .bool bad] [.ro (.u8 (tkR l n)), .bool (tkB l bad n)] (.ro (.u8 (tkO l n))) := by
  refine MFun.mk 6 Tryd.func66 rfl Tryd.ntmps66 rfl rfl fun hf hg T w b hT hTb => ?_
  unfold tkO tkR tkB
  by_cases h0 : n ≤ l.length
  · rw [if_pos h0, if_pos h0, if_pos h0]
    repeat' (first
        | ((with_reducible apply Sat.run (X := X64)); exact rfl; (first | exact True.intro | (exact phi) | skip))
        | ((with_reducible apply Sat.drawn); kernel_rfl)
        | ((with_reducible apply DSat.run (X := X64)); exact rfl; (first | exact True.intro | (exact phi) | skip))
        | ((with_reducible apply DSat.fin); kernel_rfl)
        | ((with_reducible apply Sat.cond_t); exact rfl)
        | ((with_reducible apply Sat.cond_f); exact rfl)
        | ((with_reducible apply Sat.cond_pt); exact rfl; (try dsimp only [V.EV.sub, V.EV.len]); first | assumption | omega)
        | ((with_reducible apply Sat.cond_pf); exact rfl; (try dsimp only [V.EV.sub, V.EV.len]); first | assumption | omega)
        | ((with_reducible apply Sat.cond_p); exact rfl; all_goals intro h)
        | ((with_reducible apply Sat.cond); exact rfl; all_goals intro h) | fail)
    refine Sat.mfin (Sat.mend1 hT rfl rfl True.intro rfl (.cons _ _ _ _ (.refl _ trivial) (.cons _ _ _ _ (.refl _ trivial) .nil)) (.refl _ trivial) (by first | exact .inl rfl | exact .inr rfl) rfl) ?_ ?_
    · show SV.ro (EV.u8 (l.take n)) = SV.ro (EV.u8 (((l.drop 0).take (n - 0))))
      rw [List.drop_zero, Nat.sub_zero]
    · show [SV.ro (EV.u8 (l.drop n)), SV.bool bad] = [SV.ro (EV.u8 ((l.drop n).take (l.length - n))), SV.bool bad]
      rw [List.take_of_length_le (by simp)]
  · rw [if_neg h0, if_neg h0, if_neg h0]
    repeat' (first
        | ((with_reducible apply Sat.run (X := X64)); exact rfl; (first | exact True.intro | (exact phi) | skip))
        | ((with_reducible apply Sat.drawn); kernel_rfl)
        | ((with_reducible apply DSat.run (X := X64)); exact rfl; (first | exact True.intro | (exact phi) | skip))
        | ((with_reducible apply DSat.fin); kernel_rfl)
        | ((with_reducible apply Sat.cond_t); exact rfl)
        | ((with_reducible apply Sat.cond_f); exact rfl)
        | ((with_reducible apply Sat.cond_pt); exact rfl; (try dsimp only [V.EV.sub, V.EV.len]); first | assumption | omega)
        | ((with_reducible apply Sat.cond_pf); exact rfl; (try dsimp only [V.EV.sub, V.EV.len]); first | assumption | omega)
        | ((with_reducible apply Sat.cond_p); exact rfl; all_goals intro h)
        | ((with_reducible apply Sat.cond); exact rfl; all_goals intro h) | fail)
    refine Sat.mfin (Sat.mend1 hT rfl rfl True.intro rfl (.cons _ _ _ _ (.nils (.u8 []) rfl) (.cons _ _ _ _ (.refl _ trivial) .nil)) (.nils (.u8 []) rfl) (by first | exact .inl rfl | exact .inr rfl) rfl) ?_ ?_
    all_goals rfl
def numV (m : List UInt8) : Nat := m.foldl (fun a c => a * 256 + c.toNat) 0
theorem numV_snoc (m : List UInt8) (i : Nat) (h : i < m.length) : numV (m.take (i + 1)) = numV (m.take i) * 256 + (m.getD i 0).toNat := by
  unfold numV
  rw [List.take_add_one, List.foldl_append]
  simp [List.getD_eq_getElem?_getD, h]
theorem numV_lt : ∀ (m : List UInt8) (i : Nat), i ≤ m.length → numV (m.take i) < 256 ^ i
  | m, 0, _ => by simp [numV]
  | m, i + 1, h => by
    have h1 := numV_lt m i (by omega)
    have h2 := (m.getD i 0).toNat_lt
    rw [numV_snoc m i (by omega), Nat.pow_succ]
    have : numV (m.take i) + 1 ≤ 256 ^ i := h1
    have := Nat.mul_le_mul_right 256 this
    omega
theorem tkO_len (l : List UInt8) (n : Nat) : (tkO l n).length ≤ n := by
  unfold tkO
  split
  · simp; omega
  · simp
theorem or_step (v : Nat) (c : UInt8) (h : v < 4294967296) : IntKind.i64.wrap (((BitVec.ofInt IntKind.i64.bits ((v : Int) * 2 ^ (8 : Int).toNat) ||| BitVec.ofInt IntKind.i64.bits (c.toNat : Int)).toNat : Nat) : Int) = ((v * 256 + c.toNat : Nat) : Int) := by
  have hc := c.toNat_lt
  have e : ((v : Int) * 2 ^ (8 : Int).toNat) = ((v * 2 ^ 8 : Nat) : Int) := by
    rw [show (8 : Int).toNat = 8 from rfl]
    omega
  rw [e, bor_add .i64 v c.toNat 8 (by omega) (by simp only [IntKind.bits]; omega) (fun _ => by simp only [IntKind.bits]; omega)]
theorem number_spec (l : List UInt8) (bad : Bool) (n : Nat) (hn : n ≤ 4) : MFun Tryd.prog [] 67 [.int .i64 (n : Int)] 117 [.ro (.u8 l), .bool bad] [.ro (.u8 (tkR l n)), .bool (tkB l bad n)] (.int .i64 (numV (tkO l n) : Int)) := by
  have ht := take_spec l bad n
  have hl := tkO_len l n
  generalize tkO l n = m at ht hl ⊢
  refine MFun.mk 6 Tryd.func67 rfl Tryd.ntmps67 rfl rfl fun hf hg T w b hT hTb => ?_
  repeat' (first
      | ((with_reducible apply Sat.run (X := X64)); exact rfl; (first | exact True.intro | (exact phi) | skip))
      | ((with_reducible apply Sat.drawn); kernel_rfl)
      | ((with_reducible apply DSat.run (X := X64)); exact rfl; (first | exact True.intro | (exact phi) | skip))
      | ((with_reducible apply DSat.fin); kernel_rfl)
      | ((with_reducible apply Sat.cond_t); exact rfl)
      | ((with_reducible apply Sat.cond_f); exact rfl)
      | ((with_reducible apply Sat.cond_pt); exact rfl; (try dsimp only [V.EV.sub, V.EV.len]); first | assumption | omega)
      | ((with_reducible apply Sat.cond_pf); exact rfl; (try dsimp only [V.EV.sub, V.EV.len]); first | assumption | omega)
      | ((with_reducible apply Sat.cond_p); exact rfl; all_goals intro h)
      | ((with_reducible apply Sat.cond); exact rfl; all_goals intro h)
      | ((with_reducible apply Sat.mcall (ht)); exact rfl; exact rfl; kernel_rfl; (exact cnv); exact rfl; exact pur; exact rfl; exact rfl)
      | ((with_reducible apply DSat.mcall (ht)); exact rfl; exact rfl; kernel_rfl; (exact cnv); exact rfl; exact pur; exact rfl; exact rfl) | fail)
  clear ht
  apply Sat.loop (α := Nat) (fun x => x ≤ m.length) (fun x => m.length - x) 0 (fun x => [(12, .int .i64 (x : Int)), (5, .int .i64 (numV (m.take x) : Int))]) (fun _ => []) [] [] 0
  · intro x; exact rfl
  · intro x; exact rfl
  · exact rfl
  · exact rfl
  · (repeat' (first | exact AllP.nil | with_reducible refine AllP.cons ?_ ?_)) <;> first | exact rfl | exact trivial
  · exact Nat.zero_le _
  · intro x hx
    have h1 := numV_lt m x hx
    have h2 : 256 ^ x ≤ 256 ^ 4 := Nat.pow_le_pow_right (by omega) (by omega)
    have h3 : numV (m.take x) < 4294967296 := by omega
    clear h1 h2
    generalize hv : numV (m.take x) = v at h3
    repeat' (first
        | ((with_reducible apply Sat.run (X := X64)); exact rfl; (first | exact True.intro | (exact phi) | skip))
        | ((with_reducible apply Sat.drawn); kernel_rfl)
        | ((with_reducible apply DSat.run (X := X64)); exact rfl; (first | exact True.intro | (exact phi) | skip))
        | ((with_reducible apply DSat.fin); kernel_rfl)
        | ((with_reducible apply Sat.cond_t); exact rfl)
        | ((with_reducible apply Sat.cond_f); exact rfl)
        | ((with_reducible apply Sat.cond_pt); exact rfl; (try dsimp only [V.EV.sub, V.EV.len]); first | assumption | omega)
        | ((with_reducible apply Sat.cond_pf); exact rfl; (try dsimp only [V.EV.sub, V.EV.len]); first | assumption | omega)
        | ((with_reducible apply Sat.cond_p); exact rfl; all_goals intro h)
        | ((with_reducible apply Sat.cond); exact rfl; all_goals intro h) | fail)
    · have hx2 : x < m.length := by simp only [EV.len] at h; omega
      refine Sat.back (x + 1) [] rfl ?_ hx2 (by omega)
      (repeat' (first | exact AllP.nil | with_reducible refine AllP.cons ?_ ?_)) <;> first | with_reducible exact rfl | exact Int.natCast_add_one _ | (rw [numV_snoc m x hx2, hv]; exact or_step v (m.getD x 0) h3) | exact rfl | exact trivial
    · have hx2 : x = m.length := by simp only [EV.len] at h; omega
      rw [hx2, List.take_length] at hv
      refine Sat.mfin (Sat.mend1 hT rfl rfl True.intro rfl (.cons _ _ _ _ (.refl _ trivial) (.cons _ _ _ _ (.refl _ trivial) .nil)) (.refl _ trivial) (by first | exact .inl rfl | exact .inr rfl) rfl) ?_ rfl
      rw [hv]
/-- A hash that is read. -/
def hashO (l : List UInt8) : List UInt8 := if 32 ≤ l.length then l.take 32 else List.replicate 32 0
theorem sum_spec (l : List UInt8) (bad : Bool) : MFun Tryd.prog [] 68 [] 117 [.ro (.u8 l), .bool bad] [.ro (.u8 (tkR l 32)), .bool (tkB l bad 32)] (.arr 32 (.u8 (hashO l))) := by
  have ht := take_spec l bad 32
  have hl : (tkO l 32).length = 32 ∨ (tkO l 32).length = 0 := by
    unfold tkO
    split
    · left; simp; omega
    · right; rfl
  refine MFun.mk 6 Tryd.func68 rfl Tryd.ntmps68 rfl rfl fun hf hg T w b hT hTb => ?_
  repeat' (first
      | ((with_reducible apply Sat.run (X := X64)); exact rfl; (first | exact True.intro | (exact phi) | skip))
      | ((with_reducible apply Sat.drawn); kernel_rfl)
      | ((with_reducible apply DSat.run (X := X64)); exact rfl; (first | exact True.intro | (exact phi) | skip))
      | ((with_reducible apply DSat.fin); kernel_rfl)
      | ((with_reducible apply Sat.cond_t); exact rfl)
      | ((with_reducible apply Sat.cond_f); exact rfl)
      | ((with_reducible apply Sat.cond_pt); exact rfl; (try dsimp only [V.EV.sub, V.EV.len]); first | assumption | omega)
      | ((with_reducible apply Sat.cond_pf); exact rfl; (try dsimp only [V.EV.sub, V.EV.len]); first | assumption | omega)
      | ((with_reducible apply Sat.cond_p); exact rfl; all_goals intro h)
      | ((with_reducible apply Sat.cond); exact rfl; all_goals intro h)
      | ((with_reducible apply Sat.mcall (ht)); exact rfl; exact rfl; kernel_rfl; (exact cnv); exact rfl; exact pur; exact rfl; exact rfl)
      | ((with_reducible apply DSat.mcall (ht)); exact rfl; exact rfl; kernel_rfl; (exact cnv); exact rfl; exact pur; exact rfl; exact rfl)
      | ((with_reducible apply DSat.copy); exact rfl; exact rfl; exact rfl; exact rfl; exact rfl; exact rfl; exact rfl; exact hl; exact rfl) | fail)
  refine Sat.mfin (Sat.mend1 hT rfl rfl True.intro rfl (.cons _ _ _ _ (.refl _ trivial) (.cons _ _ _ _ (.refl _ trivial) .nil)) (.refl _ trivial) (by first | exact .inl rfl | exact .inr rfl) rfl) ?_ rfl
  show SV.arr 32 (EV.u8 (hashO l)) = SV.arr 32 (EV.u8 (if (tkO l 32).length = 32 then tkO l 32 else List.replicate 32 0))
  congr 2
  unfold hashO tkO
  by_cases h : 32 ≤ l.length
  · rw [if_pos h, if_pos h, if_pos (by simp; omega)]
  · rw [if_neg h, if_neg h, if_neg (by simp)]
theorem hashO_len (l : List UInt8) : (hashO l).length = 32 := by
  unfold hashO
  split
  · simp; omega
  · simp
theorem numV_le (l : List UInt8) (n : Nat) : numV (tkO l n) < 256 ^ n := by
  have h1 := numV_lt (tkO l n) _ (Nat.le_refl _)
  rw [List.take_length] at h1
  exact Nat.lt_of_lt_of_le h1 (Nat.pow_le_pow_right (by omega) (tkO_len l n))
theorem take1_rd (l : List UInt8) (bad : Bool) : MFun Tryd.prog [] 66 [.int .i64 1] 117 [.ro (.u8 l), .bool bad] [.ro (.u8 (tkR l 1)), .bool (tkB l bad 1)] (.ro (.u8 (tkO l 1))) := take_spec l bad 1
theorem num1_rd (l : List UInt8) (bad : Bool) : MFun Tryd.prog [] 67 [.int .i64 1] 117 [.ro (.u8 l), .bool bad] [.ro (.u8 (tkR l 1)), .bool (tkB l bad 1)] (.int .i64 (numV (tkO l 1) : Int)) := number_spec l bad 1 (by omega)
theorem num2_rd (l : List UInt8) (bad : Bool) : MFun Tryd.prog [] 67 [.int .i64 2] 117 [.ro (.u8 l), .bool bad] [.ro (.u8 (tkR l 2)), .bool (tkB l bad 2)] (.int .i64 (numV (tkO l 2) : Int)) := number_spec l bad 2 (by omega)
theorem num4_rd (l : List UInt8) (bad : Bool) : MFun Tryd.prog [] 67 [.int .i64 4] 117 [.ro (.u8 l), .bool bad] [.ro (.u8 (tkR l 4)), .bool (tkB l bad 4)] (.int .i64 (numV (tkO l 4) : Int)) := number_spec l bad 4 (by omega)
theorem bytesIn_ro {E : Env} {T : Nat → Prop} {w : World} {l : List UInt8} {v : Value} (h : Rep E T w (.ro (.u8 l)) v) : ∃ p c, v = .slice p l.length c ∧ Lib.BytesIn w p l.length (l.map fun b => (b.toNat : Int)) := by
  cases h with
  | ro0 _ h0 => simp only [EV.len] at h0; rw [h0]; exact ⟨_, _, rfl, Lib.BytesIn.nil _ _ _⟩
  | ro1 _ a h0 => simp only [EV.len] at h0; rw [h0]; exact ⟨_, _, rfl, Lib.BytesIn.nil _ _ _⟩
  | ro _ bb o n k c hT hn hc hr he hl ok hb =>
    simp only [EV.len, EV.sz, Nat.mul_one] at he hn hc hr
    subst he
    refine ⟨_, _, rfl, fun _ => ⟨bb, o, rfl, fun i hi => ?_⟩⟩
    have hI := hr i hi
    have hcj := hc i 0
    simp only [EV.items] at hI
    generalize c i = cj at hI hcj
    cases hI with
    | one _ cv _ _ p0 pr pI =>
      cases pr
      have := hcj _ hi rfl
      rw [Nat.add_zero] at this
      rw [this]
      simp [List.getD_eq_getElem?_getD, hi]
theorem bytesOf_map (l : List UInt8) : Lib.bytesOf (l.map fun b => (b.toNat : Int)) = l := by
  simp [Lib.bytesOf, Function.comp_def]
theorem equal_spec (x y : List UInt8) : Fun Tryd.prog [] 73 [.ro (.u8 x), .ro (.u8 y)] (.bool (decide (x = y))) := by
  intro T w vs hT hG ht
  cases ht with
  | cons _ v _ _ hr hl =>
  cases hl with
  | cons _ v2 _ _ hr2 hl2 =>
  cases hl2
  obtain ⟨p1, c1, rfl, h1⟩ := bytesIn_ro hr
  obtain ⟨p2, c2, rfl, h2⟩ := bytesIn_ro hr2
  refine (Tryd.bytes_Equal_all p1 p2 x.length c1 y.length c2 _ _ w (by simp) (by simp) h1 h2).mono ?_
  rintro e w' ⟨rfl, rfl⟩
  rw [bytesOf_map, bytesOf_map]
  refine ⟨_, rfl, ?_, Below.refl _ _⟩
  have : (x == y) = decide (x = y) := by
    by_cases h : x = y
    · subst h; simp
    · rw [decide_eq_false h]; simpa using h
  rw [this]
  exact .bool _
end Go.Proofs.YtegbdcadlmefgaaDoor
end
section
namespace Go.Proofs.YtegbdcadlmefgaaDoor
open Go.RowKit V
--PURE: (intro _ _; simp [pureL, pureS, pureE]; done)
set_option maxRecDepth 100000
set_option maxHeartbeats 2000000
set_option linter.unusedSimpArgs false
attribute [local irreducible] V.Sat V.DSat tkO tkR tkB numV hashO
/-- What is left, and whether there was too little. -/
structure RdS where
  l : List UInt8
  bad : Bool
@[reducible] def RdS.tk (s : RdS) (n : Nat) : RdS := ⟨tkR s.l n, tkB s.l s.bad n⟩
@[reducible] def RdS.num (s : RdS) (n : Nat) : Nat := numV (tkO s.l n)
/-- A list is read: at most n elements. -/
def listP {α : Type} (rd : RdS → α × RdS) : Nat → RdS → List α × RdS
  | 0, s => ([], s)
  | n + 1, s => if s.bad = true then ([], s) else ((rd s).1 :: (listP rd n (rd s).2).1, (listP rd n (rd s).2).2)
def rdInt2 (s : RdS) : Int × RdS := ((s.num 2 : Int), s.tk 2)
def rdPart (s : RdS) : PartL × RdS := (⟨tkO (s.tk 1).l (s.num 1), hashO ((s.tk 1).tk (s.num 1)).l⟩, ((s.tk 1).tk (s.num 1)).tk 32)
def goneP (s : RdS) : List Int × RdS := listP rdInt2 (s.num 1) (s.tk 1)
def partsP (s : RdS) : List PartL × RdS := listP rdPart (s.num 1) (s.tk 1)
theorem listP_stop {α : Type} (rd : RdS → α × RdS) (n : Nat) (s : RdS) (h : n = 0 ∨ s.bad = true) : listP rd n s = ([], s) := by
  cases n with
  | zero => rfl
  | succ n =>
    rcases h with h | h
    · cases h
    · simp [listP, h]
theorem listP_next {α : Type} (rd : RdS → α × RdS) (n : Nat) (s : RdS) (h0 : 0 < n) (h : s.bad = false) : listP rd n s = ((rd s).1 :: (listP rd (n - 1) (rd s).2).1, (listP rd (n - 1) (rd s).2).2) := by
  cases n with
  | zero => omega
  | succ n => simp [listP, h]
theorem parts_snoc (pa : List PartL) (p : PartL) (i : Nat) (hi : i < pa.length + 1) : (if i < pa.length then [SV.str (pa.getD i part0).name, SV.arr 32 (.u8 (pa.getD i part0).hash)] else nthL [[SV.str p.name, SV.arr 32 (.u8 p.hash)]] (0 + (i - pa.length))) = [SV.str ((pa ++ [p]).getD i part0).name, SV.arr 32 (.u8 ((pa ++ [p]).getD i part0).hash)] := by
  by_cases h : i < pa.length
  · rw [if_pos h]
    simp [List.getD_eq_getElem?_getD, List.getElem?_append_left h]
  · rw [if_neg h]
    have : i = pa.length := by omega
    subst this
    simp [nthL]
theorem parts_pure (pa : List PartL) (p : PartL) : pureE (.g (pa.length + 1) 33 fun i => if i < pa.length then [SV.str (pa.getD i part0).name, SV.arr 32 (.u8 (pa.getD i part0).hash)] else nthL [[SV.str p.name, SV.arr 32 (.u8 p.hash)]] (0 + (i - pa.length))) := fun i hi => by
  have h := parts_snoc pa p i hi
  show pureL (if i < pa.length then _ else _)
  rw [h]
  exact ⟨trivial, by simp [pureS, pureE], trivial⟩
/-- The state after the header; what is read. -/
def hd8 (b : List UInt8) : RdS := ⟨(tkR (tkR (tkR (tkR (tkR (tkR (tkR (tkR b 1) 2) 2) 4) 4) 32) 2) 32), (tkB (tkR (tkR (tkR (tkR (tkR (tkR (tkR b 1) 2) 2) 4) 4) 32) 2) (tkB (tkR (tkR (tkR (tkR (tkR (tkR b 1) 2) 2) 4) 4) 32) (tkB (tkR (tkR (tkR (tkR (tkR b 1) 2) 2) 4) 4) (tkB (tkR (tkR (tkR (tkR b 1) 2) 2) 4) (tkB (tkR (tkR (tkR b 1) 2) 2) (tkB (tkR (tkR b 1) 2) (tkB (tkR b 1) (tkB b false 1) 2) 2) 4) 4) 32) 2) 32)⟩
def parseP (b : List UInt8) : Rel := ⟨(numV (tkO (tkR b 1) 2) : Int), (numV (tkO (tkR (tkR b 1) 2) 2) : Int), (numV (tkO (tkR (tkR (tkR b 1) 2) 2) 4) : Int), (numV (tkO (tkR (tkR (tkR (tkR b 1) 2) 2) 4) 4) : Int), hashO (tkR (tkR (tkR (tkR (tkR b 1) 2) 2) 4) 4), (numV (tkO (tkR (tkR (tkR (tkR (tkR (tkR b 1) 2) 2) 4) 4) 32) 2) : Int), hashO (tkR (tkR (tkR (tkR (tkR (tkR (tkR b 1) 2) 2) 4) 4) 32) 2), (goneP (hd8 b)).1, (partsP (goneP (hd8 b)).2).1⟩
def zeroRel : Rel := ⟨0, 0, 0, 0, List.replicate 32 0, 0, List.replicate 32 0, [], []⟩
def okP (b : List UInt8) : Bool := !decide (b = []) && (validB (parseP b) && decide (bytesR (parseP b) = b))
theorem parse_walk (b : List UInt8) : Fun Tryd.prog [] 23 [.ro (.u8 b)] (.tup [(bif okP b then parseP b else zeroRel).v, .int .i64 (bif okP b then 0 else 260)]) := by
  refine Fun.mkF 7 Tryd.func23 rfl Tryd.ntmps23 rfl rfl fun hf T w0 => ?_
  repeat' (first
      | ((with_reducible apply Sat.run (X := X64)); exact rfl; (first | exact True.intro | (exact phi) | skip))
      | ((with_reducible apply Sat.drawn); kernel_rfl)
      | ((with_reducible apply DSat.run (X := X64)); exact rfl; (first | exact True.intro | (exact phi) | skip))
      | ((with_reducible apply DSat.fin); kernel_rfl)
      | ((with_reducible apply Sat.cond_t); exact rfl)
      | ((with_reducible apply Sat.cond_f); exact rfl)
      | ((with_reducible apply Sat.cond_pt); exact rfl; (try dsimp only [V.EV.sub, V.EV.len]); first | assumption | omega)
      | ((with_reducible apply Sat.cond_pf); exact rfl; (try dsimp only [V.EV.sub, V.EV.len]); first | assumption | omega)
      | ((with_reducible apply Sat.cond_p); exact rfl; all_goals intro h)
      | ((with_reducible apply Sat.cond); exact rfl; all_goals intro h)
      | ((with_reducible apply Sat.mcall (take1_rd _ _)); exact rfl; exact rfl; kernel_rfl; (exact cnvX); exact rfl; exact purX; exact rfl; exact rfl)
      | ((with_reducible apply DSat.mcall (take1_rd _ _)); exact rfl; exact rfl; kernel_rfl; (exact cnvX); exact rfl; exact purX; exact rfl; exact rfl)
      | ((with_reducible apply Sat.mcall (num2_rd _ _)); exact rfl; exact rfl; kernel_rfl; (exact cnvX); exact rfl; exact purX; exact rfl; exact rfl)
      | ((with_reducible apply DSat.mcall (num2_rd _ _)); exact rfl; exact rfl; kernel_rfl; (exact cnvX); exact rfl; exact purX; exact rfl; exact rfl)
      | ((with_reducible apply Sat.mcall (num4_rd _ _)); exact rfl; exact rfl; kernel_rfl; (exact cnvX); exact rfl; exact purX; exact rfl; exact rfl)
      | ((with_reducible apply DSat.mcall (num4_rd _ _)); exact rfl; exact rfl; kernel_rfl; (exact cnvX); exact rfl; exact purX; exact rfl; exact rfl)
      | ((with_reducible apply Sat.mcall (sum_spec _ _)); exact rfl; exact rfl; kernel_rfl; (exact cnvX); exact rfl; exact purX; exact rfl; exact rfl)
      | ((with_reducible apply DSat.mcall (sum_spec _ _)); exact rfl; exact rfl; kernel_rfl; (exact cnvX); exact rfl; exact purX; exact rfl; exact rfl) | fail)
  generalize el : (tkR (tkR (tkR (tkR (tkR (tkR (tkR (tkR b 1) 2) 2) 4) 4) 32) 2) 32) = l8
  generalize eb : (tkB (tkR (tkR (tkR (tkR (tkR (tkR (tkR b 1) 2) 2) 4) 4) 32) 2) (tkB (tkR (tkR (tkR (tkR (tkR (tkR b 1) 2) 2) 4) 4) 32) (tkB (tkR (tkR (tkR (tkR (tkR b 1) 2) 2) 4) 4) (tkB (tkR (tkR (tkR (tkR b 1) 2) 2) 4) (tkB (tkR (tkR (tkR b 1) 2) 2) (tkB (tkR (tkR b 1) 2) (tkB (tkR b 1) (tkB b false 1) 2) 2) 4) 4) 32) 2) 32) = b8
  have hnv := numV_le (tkR b 1) 2
  generalize env : numV (tkO (tkR b 1) 2) = nv at hnv ⊢
  have hnf := numV_le (tkR (tkR b 1) 2) 2
  generalize enf : numV (tkO (tkR (tkR b 1) 2) 2) = nf at hnf ⊢
  have hne := numV_le (tkR (tkR (tkR b 1) 2) 2) 4
  generalize ene : numV (tkO (tkR (tkR (tkR b 1) 2) 2) 4) = ne at hne ⊢
  have hns := numV_le (tkR (tkR (tkR (tkR b 1) 2) 2) 4) 4
  generalize ens : numV (tkO (tkR (tkR (tkR (tkR b 1) 2) 2) 4) 4) = ns at hns ⊢
  have hnc := numV_le (tkR (tkR (tkR (tkR (tkR (tkR b 1) 2) 2) 4) 4) 32) 2
  generalize enc : numV (tkO (tkR (tkR (tkR (tkR (tkR (tkR b 1) 2) 2) 4) 4) 32) 2) = nc at hnc ⊢
  have him := hashO_len (tkR (tkR (tkR (tkR (tkR b 1) 2) 2) 4) 4)
  generalize eim : hashO (tkR (tkR (tkR (tkR (tkR b 1) 2) 2) 4) 4) = im at him ⊢
  have htr := hashO_len (tkR (tkR (tkR (tkR (tkR (tkR (tkR b 1) 2) 2) 4) 4) 32) 2)
  generalize etr : hashO (tkR (tkR (tkR (tkR (tkR (tkR (tkR b 1) 2) 2) 4) 4) 32) 2) = tr at htr ⊢
  have hN := numV_le l8 1
  repeat' (first
      | ((with_reducible apply Sat.run (X := X64)); exact rfl; (first | exact True.intro | (exact phi) | skip))
      | ((with_reducible apply Sat.drawn); kernel_rfl)
      | ((with_reducible apply DSat.run (X := X64)); exact rfl; (first | exact True.intro | (exact phi) | skip))
      | ((with_reducible apply DSat.fin); kernel_rfl)
      | ((with_reducible apply Sat.inl 7 [] Tryd.func69 Tryd.ntmps69); exact rfl; exact rfl; kernel_rfl; exact rfl; exact rfl; exact rfl; exact rfl; ((repeat' (first | exact AllP.nil | with_reducible refine AllP.cons ?_ ?_)) <;> (first | exact True.intro | exact purX)); intro _ _)
      | ((with_reducible apply Sat.mcall (num1_rd _ _)); exact rfl; exact rfl; kernel_rfl; (exact cnvX); exact rfl; exact purX; exact rfl; exact rfl)
      | ((with_reducible apply DSat.mcall (num1_rd _ _)); exact rfl; exact rfl; kernel_rfl; (exact cnvX); exact rfl; exact purX; exact rfl; exact rfl) | fail)
  generalize eg : listP rdInt2 (numV (tkO l8 1)) ⟨tkR l8 1, tkB l8 b8 1⟩ = gp
  generalize en : numV (tkO l8 1) = n0 at hN eg ⊢
  generalize eq1 : tkR l8 1 = l9 at eg ⊢
  generalize eq2 : tkB l8 b8 1 = b9 at eg ⊢
  apply Sat.loop (α := Nat × RdS × List Int) (fun x => x.1 + x.2.2.length < 256 ∧ gp = (x.2.2 ++ (listP rdInt2 x.1 x.2.1).1, (listP rdInt2 x.1 x.2.1).2)) (fun x => x.1) (n0, ⟨l9, b9⟩, []) (fun x => [(6, .int .i64 (x.1 : Int)), (5, .row 4 0 1 0 x.2.2.length)]) (fun x => [(1, .cells 117 [.ro (.u8 x.2.1.l), .bool x.2.1.bad]), (4, .row 3 (.ints .i64 x.2.2))]) [] [(4, none)] 1
  · intro x; exact rfl
  · intro x; exact rfl
  · exact rfl
  · exact rfl
  · (repeat' (first | exact AllP.nil | with_reducible refine AllP.cons ?_ ?_)) <;> first | with_reducible exact rfl | exact rfl | exact trivial | (intro _ _; simp [pureL, pureS, pureE]; done) | exact ⟨rfl, rfl, rfl, rfl⟩
  · refine ⟨?_, ?_⟩
    · dsimp only [List.length_nil]; omega
    · rw [← eg]; rfl
  · rintro ⟨n, s, acc⟩ ⟨x1, x2⟩
    obtain ⟨l, bad⟩ := s
    dsimp only at x1 x2 ⊢
    repeat' (first
        | ((with_reducible apply Sat.run (X := X64)); exact rfl; (first | exact True.intro | (exact phi) | skip))
        | ((with_reducible apply Sat.drawn); kernel_rfl)
        | ((with_reducible apply DSat.run (X := X64)); exact rfl; (first | exact True.intro | (exact phi) | skip))
        | ((with_reducible apply DSat.fin); kernel_rfl)
        | ((with_reducible apply Sat.cond_t); exact rfl)
        | ((with_reducible apply Sat.cond_f); exact rfl)
        | ((with_reducible apply Sat.cond_pt); exact rfl; (try dsimp only [V.EV.sub, V.EV.len]); first | assumption | omega)
        | ((with_reducible apply Sat.cond_pf); exact rfl; (try dsimp only [V.EV.sub, V.EV.len]); first | assumption | omega)
        | ((with_reducible apply Sat.cond_p); exact rfl; all_goals (intro h; (try simp only [V.EV.sub, V.EV.len] at h)))
        | ((with_reducible apply Sat.cond); exact rfl; all_goals (intro h; (try simp only [V.EV.sub, V.EV.len, Bool.cond_true_left, Bool.cond_false_right, Bool.or_eq_true, Bool.and_eq_true, Bool.or_eq_false_iff, Bool.and_eq_false_iff, Bool.not_eq_true', Bool.not_eq_false', decide_eq_true_eq, decide_eq_false_iff_not, ne_eq] at h)))
        | ((with_reducible apply Sat.inl 7 [] Tryd.func70 Tryd.ntmps70); exact rfl; exact rfl; kernel_rfl; exact rfl; exact rfl; exact rfl; exact rfl; ((repeat' (first | exact AllP.nil | with_reducible refine AllP.cons ?_ ?_)) <;> (first | exact True.intro | exact purX)); intro _ _)
        | ((with_reducible apply Sat.mcall (num2_rd _ _)); exact rfl; exact rfl; kernel_rfl; (exact cnvX); exact rfl; exact purX; exact rfl; exact rfl)
        | ((with_reducible apply DSat.mcall (num2_rd _ _)); exact rfl; exact rfl; kernel_rfl; (exact cnvX); exact rfl; exact purX; exact rfl; exact rfl)
        | ((with_reducible apply Sat.out1 (C := ⟨_, _, _, _, _, _, _, _, _⟩)); exact rfl; (first | exact .inl rfl | exact .inr rfl); exact rfl; (exact phi); exact rfl)
        | ((with_reducible apply Sat.out0 (C := ⟨_, _, _, _, _, _, _, _, _⟩)); exact rfl; (first | exact .inl rfl | exact .inr rfl); exact rfl)
        | ((with_reducible apply Sat.out2 (C := ⟨_, _, _, _, _, _, _, _, _⟩)); exact rfl; (first | exact .inl rfl | exact .inr rfl); exact rfl; (exact phi); exact rfl; (exact phi); exact rfl) | fail)
    · obtain ⟨hn, hb⟩ : 0 < n ∧ bad = false := by revert h; cases bad <;> simp <;> omega
      refine Sat.back (n - 1, ⟨tkR l 2, tkB l bad 2⟩, acc ++ [(numV (tkO l 2) : Int)]) [(4, some 6)] rfl ?_ ?_ ?_
      · (repeat' (first | exact AllP.nil | with_reducible refine AllP.cons ?_ ?_)) <;> first | with_reducible exact rfl | (show (n : Int) - 1 = ((n - 1 : Nat) : Int); omega) | (show _ = (acc ++ [(numV (tkO l 2) : Int)]).length; simp [EV.len, EV.sub]; done) | exact rfl | exact trivial | (intro _ _; simp [pureL, pureS, pureE]; done) | (refine ⟨rfl, rfl, rfl, ?_⟩; show _ = (acc ++ [(numV (tkO l 2) : Int)]).length; simp [EV.len, EV.sub]; done) | exact ⟨rfl, rfl, rfl, rfl⟩
      · refine ⟨by simp only [List.length_append, List.length_cons, List.length_nil]; omega, ?_⟩
        dsimp only
        rw [x2, listP_next rdInt2 n ⟨l, bad⟩ hn hb]
        simp only [List.append_assoc, List.cons_append, List.nil_append]
        rfl
      · dsimp only; omega
    · have hs : n = 0 ∨ bad = true := by revert h; cases bad <;> simp
      rw [listP_stop rdInt2 n ⟨l, bad⟩ hs, List.append_nil] at x2
      clear h hs
      have hN2 := numV_le l 1
      repeat' (first
          | ((with_reducible apply Sat.run (X := X64)); exact rfl; (first | exact True.intro | (exact phi) | skip))
          | ((with_reducible apply Sat.drawn); kernel_rfl)
          | ((with_reducible apply DSat.run (X := X64)); exact rfl; (first | exact True.intro | (exact phi) | skip))
          | ((with_reducible apply DSat.fin); kernel_rfl)
          | ((with_reducible apply Sat.inl 7 [] Tryd.func71 Tryd.ntmps71); exact rfl; exact rfl; kernel_rfl; exact rfl; exact rfl; exact rfl; exact rfl; ((repeat' (first | exact AllP.nil | with_reducible refine AllP.cons ?_ ?_)) <;> (first | exact True.intro | exact purX)); intro _ _)
          | ((with_reducible apply Sat.mcall (num1_rd _ _)); exact rfl; exact rfl; kernel_rfl; (exact cnvX); exact rfl; exact purX; exact rfl; exact rfl)
          | ((with_reducible apply DSat.mcall (num1_rd _ _)); exact rfl; exact rfl; kernel_rfl; (exact cnvX); exact rfl; exact purX; exact rfl; exact rfl) | fail)
      generalize eg2 : listP rdPart (numV (tkO l 1)) ⟨tkR l 1, tkB l bad 1⟩ = pp
      generalize en2 : numV (tkO l 1) = n2 at hN2 eg2 ⊢
      generalize eq3 : tkR l 1 = l10 at eg2 ⊢
      generalize eq4 : tkB l bad 1 = b10 at eg2 ⊢
      apply Sat.loop (α := Nat × RdS × List PartL) (fun x => x.1 + x.2.2.length < 256 ∧ pp = (x.2.2 ++ (listP rdPart x.1 x.2.1).1, (listP rdPart x.1 x.2.1).2)) (fun x => x.1) (n2, ⟨l10, b10⟩, []) (fun x => [(6, .int .i64 (x.1 : Int)), (5, .row 5 0 33 0 x.2.2.length)]) (fun x => [(1, .cells 117 [.ro (.u8 x.2.1.l), .bool x.2.1.bad]), (5, .row 66 (partsE x.2.2))]) [] [(5, none)] 1
      · intro x; exact rfl
      · intro x; exact rfl
      · exact rfl
      · exact rfl
      · (repeat' (first | exact AllP.nil | with_reducible refine AllP.cons ?_ ?_)) <;> first | with_reducible exact rfl | exact rfl | exact trivial | (intro _ _; simp [pureL, pureS, pureE]; done) | exact ⟨rfl, rfl, rfl, rfl⟩
      · refine ⟨?_, ?_⟩
        · dsimp only [List.length_nil]; omega
        · rw [← eg2]; rfl
      · rintro ⟨m, s, pa⟩ ⟨y1, y2⟩
        obtain ⟨k, bd⟩ := s
        dsimp only at y1 y2 ⊢
        have ht := take_spec (tkR k 1) (tkB k bd 1) (numV (tkO k 1))
        repeat' (first
            | ((with_reducible apply Sat.run (X := X64)); exact rfl; (first | exact True.intro | (exact phi) | skip))
            | ((with_reducible apply Sat.drawn); kernel_rfl)
            | ((with_reducible apply DSat.run (X := X64)); exact rfl; (first | exact True.intro | (exact phi) | skip))
            | ((with_reducible apply DSat.fin); kernel_rfl)
            | ((with_reducible apply Sat.cond_t); exact rfl)
            | ((with_reducible apply Sat.cond_f); exact rfl)
            | ((with_reducible apply Sat.cond_pt); exact rfl; (try dsimp only [V.EV.sub, V.EV.len]); first | assumption | omega)
            | ((with_reducible apply Sat.cond_pf); exact rfl; (try dsimp only [V.EV.sub, V.EV.len]); first | assumption | omega)
            | ((with_reducible apply Sat.cond_p); exact rfl; all_goals (intro h; (try simp only [V.EV.sub, V.EV.len] at h)))
            | ((with_reducible apply Sat.cond); exact rfl; all_goals (intro h; (try simp only [V.EV.sub, V.EV.len, Bool.cond_true_left, Bool.cond_false_right, Bool.or_eq_true, Bool.and_eq_true, Bool.or_eq_false_iff, Bool.and_eq_false_iff, Bool.not_eq_true', Bool.not_eq_false', decide_eq_true_eq, decide_eq_false_iff_not, ne_eq] at h)))
            | ((with_reducible apply Sat.inl 7 [] Tryd.func72 Tryd.ntmps72); exact rfl; exact rfl; kernel_rfl; exact rfl; exact rfl; exact rfl; exact rfl; ((repeat' (first | exact AllP.nil | with_reducible refine AllP.cons ?_ ?_)) <;> (first | exact True.intro | exact purX)); intro _ _)
            | ((with_reducible apply Sat.mcall (num1_rd _ _)); exact rfl; exact rfl; kernel_rfl; (exact cnvX); exact rfl; exact purX; exact rfl; exact rfl)
            | ((with_reducible apply DSat.mcall (num1_rd _ _)); exact rfl; exact rfl; kernel_rfl; (exact cnvX); exact rfl; exact purX; exact rfl; exact rfl)
            | ((with_reducible apply Sat.mcall (ht)); exact rfl; exact rfl; kernel_rfl; (exact cnvX); exact rfl; exact purX; exact rfl; exact rfl)
            | ((with_reducible apply DSat.mcall (ht)); exact rfl; exact rfl; kernel_rfl; (exact cnvX); exact rfl; exact purX; exact rfl; exact rfl)
            | ((with_reducible apply Sat.mcall (sum_spec _ _)); exact rfl; exact rfl; kernel_rfl; (exact cnvX); exact rfl; exact purX; exact rfl; exact rfl)
            | ((with_reducible apply DSat.mcall (sum_spec _ _)); exact rfl; exact rfl; kernel_rfl; (exact cnvX); exact rfl; exact purX; exact rfl; exact rfl)
            | ((with_reducible apply Sat.out1 (C := ⟨_, _, _, _, _, _, _, _, _⟩)); exact rfl; (first | exact .inl rfl | exact .inr rfl); exact rfl; (exact phi); exact rfl)
            | ((with_reducible apply Sat.out0 (C := ⟨_, _, _, _, _, _, _, _, _⟩)); exact rfl; (first | exact .inl rfl | exact .inr rfl); exact rfl)
            | ((with_reducible apply Sat.out2 (C := ⟨_, _, _, _, _, _, _, _, _⟩)); exact rfl; (first | exact .inl rfl | exact .inr rfl); exact rfl; (exact phi); exact rfl; (exact phi); exact rfl) | fail)
        · obtain ⟨hn, hb⟩ : 0 < m ∧ bd = false := by revert h; cases bd <;> simp <;> omega
          refine Sat.back (m - 1, ⟨tkR (tkR (tkR k 1) (numV (tkO k 1))) 32, tkB (tkR (tkR k 1) (numV (tkO k 1))) (tkB (tkR k 1) (tkB k bd 1) (numV (tkO k 1))) 32⟩, pa ++ [(⟨tkO (tkR k 1) (numV (tkO k 1)), hashO (tkR (tkR k 1) (numV (tkO k 1)))⟩ : PartL)]) [(5, some 8)] rfl ?_ ?_ ?_
          · (repeat' (first | exact AllP.nil | with_reducible refine AllP.cons ?_ ?_)) <;> first | with_reducible exact rfl | (show (m : Int) - 1 = ((m - 1 : Nat) : Int); omega) | (show _ = (pa ++ [(⟨tkO (tkR k 1) (numV (tkO k 1)), hashO (tkR (tkR k 1) (numV (tkO k 1)))⟩ : PartL)]).length; simp [EV.len, EV.sub]; done) | (show pa.length + 1 = (pa ++ [(⟨tkO (tkR k 1) (numV (tkO k 1)), hashO (tkR (tkR k 1) (numV (tkO k 1)))⟩ : PartL)]).length; simp; done) | exact parts_snoc pa (⟨tkO (tkR k 1) (numV (tkO k 1)), hashO (tkR (tkR k 1) (numV (tkO k 1)))⟩ : PartL) | exact parts_pure pa (⟨tkO (tkR k 1) (numV (tkO k 1)), hashO (tkR (tkR k 1) (numV (tkO k 1)))⟩ : PartL) | (intro i hi; exact parts_snoc pa (⟨tkO (tkR k 1) (numV (tkO k 1)), hashO (tkR (tkR k 1) (numV (tkO k 1)))⟩ : PartL) i hi) | exact rfl | exact trivial | (refine ⟨rfl, rfl, rfl, ?_⟩; show _ = (pa ++ [(⟨tkO (tkR k 1) (numV (tkO k 1)), hashO (tkR (tkR k 1) (numV (tkO k 1)))⟩ : PartL)]).length; simp [EV.len, EV.sub]; done) | (intro i _; simp only []; split <;> simp [pureL, pureS, pureE, nthL]; done) | (intro _ _; simp [pureL, pureS, pureE]; done) | exact ⟨rfl, rfl, rfl, rfl⟩
          · refine ⟨by simp only [List.length_append, List.length_cons, List.length_nil]; omega, ?_⟩
            dsimp only
            rw [y2, listP_next rdPart m ⟨k, bd⟩ hn hb]
            simp only [List.append_assoc, List.cons_append, List.nil_append]
            rfl
          · dsimp only; omega
        · have hs : m = 0 ∨ bd = true := by revert h; cases bd <;> simp
          rw [listP_stop rdPart m ⟨k, bd⟩ hs, List.append_nil] at y2
          clear h hs
          have hq : okLen b.length := hf.1.1
          have hP : parseP b = ⟨nv, nf, ne, ns, im, nc, tr, acc, pa⟩ := by
            subst en2 eq3 eq4 eg2 en eq1 eq2 eg el eb env enf ene ens enc eim etr
            have x3 : goneP (hd8 b) = (acc, ⟨l, bad⟩) := x2
            have y3 : partsP ⟨l, bad⟩ = (pa, ⟨k, bd⟩) := y2
            unfold parseP
            rw [x3]
            dsimp only
            rw [y3]
          by_cases hb0 : b = []
          · have hgd : ¬ (decide (((EV.u8 b).len : Int) = 0) = false) := fun h => of_decide_eq_false h (by rw [hb0]; rfl)
            have hl0 : decide (((EV.u8 b).len : Int) = 0) = true := by rw [hb0]; rfl
            have hok : okP b = false := by unfold okP; rw [decide_eq_true hb0]; rfl
            repeat' (first
                | ((with_reducible apply Sat.run (X := X64)); exact rfl; (first | exact True.intro | (exact phi) | skip))
                | ((with_reducible apply Sat.drawn); kernel_rfl)
                | ((with_reducible apply DSat.run (X := X64)); exact rfl; (first | exact True.intro | (exact phi) | skip))
                | ((with_reducible apply DSat.fin); kernel_rfl)
                | ((with_reducible apply Sat.cond_t); exact rfl)
                | ((with_reducible apply Sat.cond_f); exact rfl)
                | ((with_reducible apply Sat.cond_pt); exact rfl; (try dsimp only [V.EV.sub, V.EV.len]); first | assumption | omega)
                | ((with_reducible apply Sat.cond_pf); exact rfl; (try dsimp only [V.EV.sub, V.EV.len]); first | assumption | omega)
                | ((with_reducible apply Sat.cond_p); exact rfl; all_goals intro h)
                | ((with_reducible apply Sat.cond); exact rfl; all_goals intro h)
                | ((with_reducible apply Sat.goffM (.bool true)); exact rfl; exact hgd; exact rfl) | fail)
            · (refine Sat.fin (Sat.end2 rfl rfl rfl rfl True.intro True.intro (.agg _ _ (.cons _ _ _ _ (.refl _ trivial) (.cons _ _ _ _ (.refl _ trivial) (.cons _ _ _ _ (.refl _ trivial) (.cons _ _ _ _ (.refl _ trivial) (.cons _ _ _ _ (.refl _ trivial) (.cons _ _ _ _ (.refl _ trivial) (.cons _ _ _ _ (.refl _ trivial) (.cons _ _ _ _ (.nils (.ints .i64 []) rfl) (.cons _ _ _ _ (.nils (partsE []) rfl) .nil)))))))))) (.refl _ trivial) (by first | exact .inl rfl | exact .inr rfl) (fun _ h => h)) ?_; rw [hok]; rfl)
            · exfalso
              rw [hl0] at h
              cases h
          · have hgd : decide (((EV.u8 b).len : Int) = 0) = false := decide_eq_false fun e => hb0 (List.eq_nil_of_length_eq_zero (by simp only [EV.len] at e; omega))
            repeat' (first
                | ((with_reducible apply Sat.run (X := X64)); exact rfl; (first | exact True.intro | (exact phi) | skip))
                | ((with_reducible apply Sat.drawn); kernel_rfl)
                | ((with_reducible apply DSat.run (X := X64)); exact rfl; (first | exact True.intro | (exact phi) | skip))
                | ((with_reducible apply DSat.fin); kernel_rfl)
                | ((with_reducible apply Sat.cond_t); exact rfl)
                | ((with_reducible apply Sat.cond_f); exact rfl)
                | ((with_reducible apply Sat.cond_pt); exact rfl; (try dsimp only [V.EV.sub, V.EV.len]); first | assumption | omega)
                | ((with_reducible apply Sat.cond_pf); exact rfl; (try dsimp only [V.EV.sub, V.EV.len]); first | assumption | omega)
                | ((with_reducible apply Sat.cond_p); exact rfl; all_goals intro h)
                | ((with_reducible apply Sat.cond); exact rfl; all_goals intro h)
                | ((with_reducible apply Sat.gon); exact rfl; exact hgd) | fail)
            refine Sat.freezeR true 4 rfl ?_ ?_
            · (repeat' (first | exact AllP.nil | with_reducible refine AllP.cons ?_ ?_)) <;> first | exact rfl | exact trivial | exact .inl ⟨rfl, rfl, rfl⟩ | (intro _ _; simp [pureL, pureS, pureE]; done) | (intro _ _; exact rfl) | (intro _; exact rfl) | (intro _; exact trivial) | (intro _; exact .inl ⟨rfl, rfl, rfl⟩) | (intro _ _ _; simp [pureL, pureS, pureE]; done) | exact ⟨rfl, rfl, rfl, rfl⟩ | (intro _; exact ⟨rfl, rfl, rfl, rfl⟩)
            refine Sat.freezeR true 5 rfl ?_ ?_
            · (repeat' (first | exact AllP.nil | with_reducible refine AllP.cons ?_ ?_)) <;> first | exact rfl | exact trivial | exact .inl ⟨rfl, rfl, rfl⟩ | (intro _ _; simp [pureL, pureS, pureE]; done) | (intro _ _; exact rfl) | (intro _; exact rfl) | (intro _; exact trivial) | (intro _; exact .inl ⟨rfl, rfl, rfl⟩) | (intro _ _ _; simp [pureL, pureS, pureE]; done) | exact ⟨rfl, rfl, rfl, rfl⟩ | (intro _; exact ⟨rfl, rfl, rfl, rfl⟩)
            by_cases hv : validB ⟨nv, nf, ne, ns, im, nc, tr, acc, pa⟩ = true
            · have p1 := bytes_spec ⟨nv, nf, ne, ns, im, nc, tr, acc, pa⟩ hv
              have p2 := equal_spec (bytesR ⟨nv, nf, ne, ns, im, nc, tr, acc, pa⟩) b
              by_cases he : bytesR ⟨nv, nf, ne, ns, im, nc, tr, acc, pa⟩ = b
              · rw [decide_eq_true he] at p2
                have hok : okP b = true := by unfold okP; rw [hP, hv, decide_eq_true he, decide_eq_false hb0]; rfl
                repeat' (first
                    | ((with_reducible apply Sat.run (X := X64)); exact rfl; (first | exact True.intro | (exact phi) | skip))
                    | ((with_reducible apply Sat.drawn); kernel_rfl)
                    | ((with_reducible apply DSat.run (X := X64)); exact rfl; (first | exact True.intro | (exact phi) | skip))
                    | ((with_reducible apply DSat.fin); kernel_rfl)
                    | ((with_reducible apply Sat.cond_t); exact rfl)
                    | ((with_reducible apply Sat.cond_f); exact rfl)
                    | ((with_reducible apply Sat.cond_pt); exact rfl; (try dsimp only [V.EV.sub, V.EV.len]); first | assumption | omega)
                    | ((with_reducible apply Sat.cond_pf); exact rfl; (try dsimp only [V.EV.sub, V.EV.len]); first | assumption | omega)
                    | ((with_reducible apply Sat.cond_p); exact rfl; all_goals intro h)
                    | ((with_reducible apply Sat.cond); exact rfl; all_goals intro h)
                    | ((with_reducible apply Sat.gon); exact rfl; exact hgd)
                    | ((with_reducible apply Sat.call (p1)); exact rfl; exact rfl; kernel_rfl; (exact cnvX); exact rfl)
                    | ((with_reducible apply DSat.call (p1)); exact rfl; exact rfl; kernel_rfl; (exact cnvX); exact rfl)
                    | ((with_reducible apply Sat.callR (p2)); exact rfl; exact rfl; exact rfl; kernel_rfl; (exact cnvX); exact rfl)
                    | ((with_reducible apply DSat.callR (p2)); exact rfl; exact rfl; exact rfl; kernel_rfl; (exact cnvX); exact rfl) | fail)
                · exfalso; rw [hgd] at h; cases h
                · (refine Sat.fin (Sat.end2 rfl rfl rfl rfl True.intro True.intro (.refl _ (by (repeat' (first | exact True.intro | (intro _ _; simp [pureL, pureS, pureE]; done) | apply And.intro)))) (.refl _ trivial) (by first | exact .inl rfl | exact .inr rfl) (fun _ h => h)) ?_; rw [hok, hP]; rfl)
              · rw [decide_eq_false he] at p2
                have hok : okP b = false := by unfold okP; rw [hP, decide_eq_false he]; simp
                repeat' (first
                    | ((with_reducible apply Sat.run (X := X64)); exact rfl; (first | exact True.intro | (exact phi) | skip))
                    | ((with_reducible apply Sat.drawn); kernel_rfl)
                    | ((with_reducible apply DSat.run (X := X64)); exact rfl; (first | exact True.intro | (exact phi) | skip))
                    | ((with_reducible apply DSat.fin); kernel_rfl)
                    | ((with_reducible apply Sat.cond_t); exact rfl)
                    | ((with_reducible apply Sat.cond_f); exact rfl)
                    | ((with_reducible apply Sat.cond_pt); exact rfl; (try dsimp only [V.EV.sub, V.EV.len]); first | assumption | omega)
                    | ((with_reducible apply Sat.cond_pf); exact rfl; (try dsimp only [V.EV.sub, V.EV.len]); first | assumption | omega)
                    | ((with_reducible apply Sat.cond_p); exact rfl; all_goals intro h)
                    | ((with_reducible apply Sat.cond); exact rfl; all_goals intro h)
                    | ((with_reducible apply Sat.gon); exact rfl; exact hgd)
                    | ((with_reducible apply Sat.call (p1)); exact rfl; exact rfl; kernel_rfl; (exact cnvX); exact rfl)
                    | ((with_reducible apply DSat.call (p1)); exact rfl; exact rfl; kernel_rfl; (exact cnvX); exact rfl)
                    | ((with_reducible apply Sat.callR (p2)); exact rfl; exact rfl; exact rfl; kernel_rfl; (exact cnvX); exact rfl)
                    | ((with_reducible apply DSat.callR (p2)); exact rfl; exact rfl; exact rfl; kernel_rfl; (exact cnvX); exact rfl) | fail)
                · (refine Sat.fin (Sat.end2 rfl rfl rfl rfl True.intro True.intro (.agg _ _ (.cons _ _ _ _ (.refl _ trivial) (.cons _ _ _ _ (.refl _ trivial) (.cons _ _ _ _ (.refl _ trivial) (.cons _ _ _ _ (.refl _ trivial) (.cons _ _ _ _ (.refl _ trivial) (.cons _ _ _ _ (.refl _ trivial) (.cons _ _ _ _ (.refl _ trivial) (.cons _ _ _ _ (.nils (.ints .i64 []) rfl) (.cons _ _ _ _ (.nils (partsE []) rfl) .nil)))))))))) (.refl _ trivial) (by first | exact .inl rfl | exact .inr rfl) (fun _ h => h)) ?_; rw [hok]; rfl)
                · exfalso; rw [hgd] at h; cases h
            · have hv' : validB ⟨nv, nf, ne, ns, im, nc, tr, acc, pa⟩ = false := by simpa using hv
              have p1 := bytes_f ⟨nv, nf, ne, ns, im, nc, tr, acc, pa⟩ hv'
              have p2 := equal_spec [] b
              rw [decide_eq_false (fun e : [] = b => hb0 e.symm)] at p2
              have hok : okP b = false := by unfold okP; rw [hP, hv']; simp
              repeat' (first
                  | ((with_reducible apply Sat.run (X := X64)); exact rfl; (first | exact True.intro | (exact phi) | skip))
                  | ((with_reducible apply Sat.drawn); kernel_rfl)
                  | ((with_reducible apply DSat.run (X := X64)); exact rfl; (first | exact True.intro | (exact phi) | skip))
                  | ((with_reducible apply DSat.fin); kernel_rfl)
                  | ((with_reducible apply Sat.cond_t); exact rfl)
                  | ((with_reducible apply Sat.cond_f); exact rfl)
                  | ((with_reducible apply Sat.cond_pt); exact rfl; (try dsimp only [V.EV.sub, V.EV.len]); first | assumption | omega)
                  | ((with_reducible apply Sat.cond_pf); exact rfl; (try dsimp only [V.EV.sub, V.EV.len]); first | assumption | omega)
                  | ((with_reducible apply Sat.cond_p); exact rfl; all_goals intro h)
                  | ((with_reducible apply Sat.cond); exact rfl; all_goals intro h)
                  | ((with_reducible apply Sat.gon); exact rfl; exact hgd)
                  | ((with_reducible apply Sat.call (p1)); exact rfl; exact rfl; kernel_rfl; (exact cnvX); exact rfl)
                  | ((with_reducible apply DSat.call (p1)); exact rfl; exact rfl; kernel_rfl; (exact cnvX); exact rfl)
                  | ((with_reducible apply Sat.callR (p2)); exact rfl; exact rfl; exact rfl; kernel_rfl; (exact cnvX); exact rfl)
                  | ((with_reducible apply DSat.callR (p2)); exact rfl; exact rfl; exact rfl; kernel_rfl; (exact cnvX); exact rfl) | fail)
              · (refine Sat.fin (Sat.end2 rfl rfl rfl rfl True.intro True.intro (.agg _ _ (.cons _ _ _ _ (.refl _ trivial) (.cons _ _ _ _ (.refl _ trivial) (.cons _ _ _ _ (.refl _ trivial) (.cons _ _ _ _ (.refl _ trivial) (.cons _ _ _ _ (.refl _ trivial) (.cons _ _ _ _ (.refl _ trivial) (.cons _ _ _ _ (.refl _ trivial) (.cons _ _ _ _ (.nils (.ints .i64 []) rfl) (.cons _ _ _ _ (.nils (partsE []) rfl) .nil)))))))))) (.refl _ trivial) (by first | exact .inl rfl | exact .inr rfl) (fun _ h => h)) ?_; rw [hok]; rfl)
              · exfalso; rw [hgd] at h; cases h
end Go.Proofs.YtegbdcadlmefgaaDoor
end
