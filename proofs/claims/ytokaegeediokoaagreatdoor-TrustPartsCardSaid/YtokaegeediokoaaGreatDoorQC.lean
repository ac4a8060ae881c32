/-
  Joined texts: Ba: A walk by abstract values: a bytes.Buffer of one's own that is only written (in the mode in which everything new is hidden from what is read).
  Bb: A walk by abstract values: functions that write one block of their caller's.
  Bc: A walk by abstract values: copy into an array of one's own, the whole of it or nothing.
  Bd: A walk by abstract values: one operation of a region alone.
  Be: Calls without arguments; calls under a guard that is known to hold, in a region that draws its order.
  Tac: A walk by abstract values: how side conditions are closed (kept once, as default proofs).
  SA: SHA: what the hash reckons; words, rounds.
  SB: SHA: the program's block.
  Bf: Operations of a region that draws its order, under a guard that is known not to hold; a row that stands in the elements of another is given up.
  Bt: The context of a walk changed on the way; things that stand hidden in memory.
  SC: SHA: the reference's words, numbers, block.
  SD: SHA: what is hashed, padded; the reference's Sum.
  Bu: Is a slice that is read nil?
  SE: SHA: the program's Sum.
  MA: Meta: In, Same, Ints, Rising, Name, Plain, Sum of the references.
  SF: Signatures: steps of a chain.
  Bits: Numbers of some bits: masks, shifts, words put together.
  SG: Signatures: the digits of a body.
  SH: Signatures: the secrets of the reference, the starts and the ends of their chains.
  SI: Signatures: the public keys of the reference's secrets.
  SJ: Signatures: what the reference signs.
  SK: Signatures: bodies signed by some of three secrets.
  SL: Signatures: Verify of both, for signatures of keys of their own.
  TU: Trust: what the rows list, as the door lays it.
  TW: Trust: what the laws' arguments read as.
  MB: Meta: releases; Valid of the reference.
  MC: Meta: small, within; the library's searches in lists of numbers.
  MD: Meta: within, Contains.
  Sh: DERIVED: THE SHELF's CONTRACTS AT THIS DUMP, IN PLAIN WORDS (tools/lay-plain.mjs out of 'TryzShelf.lean', which tools/lay-shelf.mjs wrote): THE SAME DECLARATIONS UNDER THE SAME NAMES: 'import', 'namespace', 'open', 'def', 'theorem' AND NOTHING ELSE: no command of the shelf's: FOR A HAND-IN. Each laying: the table of numbers ('.._ren') and one theorem, a field a fact of the dump's own or the kernel's comparison; each contract: ONE APPLICATION.
  ME: Meta: Compare; rising and ContainsFunc of parts.
-/
import Derived.Test.YtokaegeediokoaaGreatDoorQB
import Derived.Lib.BufferAt
import Derived.Lib.OthersKept
import Derived.Lib.UnsafeStr
import Derived.Test.YtokaegeediokoaaGreatDoorCards
import Derived.Test.YtokaegeediokoaaGreatDoorTie
import Derived.Lib.LaidTab
import Derived.MakeChecks
import Derived.Stop.LaidErr
import Derived.Lay
import Derived.Shelf.Small.Bits
import Derived.Shelf.Small.Strs
import Derived.Shelf.Strconv.Itoa0
import Derived.Shelf.LaysM
import Derived.Shelf.Bytes.GrowSliceCatch
import Derived.Shelf.Bytes.GrowSlice
import Derived.Shelf.Sort.Plain
import Derived.Shelf.Bytes.LenAt
import Derived.Shelf.Bytes.TryGrowAt
import Derived.Shelf.Bytes.GrowRow0At
import Derived.Shelf.Bytes.GrowRowAt
import Derived.Shelf.GgClosure.StringsIndexFunc
import Derived.Shelf.Bytes.GrowNilAt
import Derived.Shelf.Bytes.GrowAt
import Derived.Ground.GgwProg
import Derived.Shelf.GgClosure.StringsIndexFuncTop
import Derived.Shelf.Bytes.WriteByteAt
import Derived.Shelf.GgClosure.StringsRunes
import Derived.Shelf.Bytes.WriteStringAt
import Derived.Shelf.Bytes.WriteAt
import Derived.Ground.Names2Prog
import Derived.Shelf.Slices.CompactI
import Derived.Shelf.Slices.In.SortNone
import Derived.Shelf.Bytes.SlEqualAll
import Derived.Shelf.Bytes.Small
import Derived.Test.YtokaegeediokoaaGreatDoorProg
section
namespace Go.Proofs.YtokaegeediokoaaGreatDoor.V
open Go.RowKit
section
variable {E E' : Env} {T T' : Nat → Prop} {w w' : World}
mutual
theorem Rep.monoW (hE : ∀ i b, E i = some b → E' i = some b) (hT : ∀ b, b < w.heap.size → T' b → T b) (hz : w.heap.size ≤ w'.heap.size) (hk : ∀ b, b < w.heap.size → ¬ T b → w'.heap[b]? = w.heap[b]?) (hs : ∀ i b x, E i = some (some b) → w.shape? b = some x → w'.shape? b = some x) :
    ∀ {s : SV} {v : Value}, Rep E T w s v → Rep E' T' w' s v
  | _, _, .bool b => .bool b
  | _, _, .int k n h => .int k n h
  | _, _, .str l h => .str l h
  | _, _, .nilp => .nilp
  | _, _, .ptr id off b h => .ptr id off b (hE _ _ h)
  | _, _, .pel id base sz i j b h => .pel id base sz i j b (hE _ _ h)
  | _, _, .rop e i j b o c hT' hn hc hr hi hj hb =>
    .rop e i j b o c (fun h => hT' (hT b hb h)) hn (fun i j v hi hj => (World.cell?_of_block (hk b hb hT')).trans (hc i j v hi hj)) (fun i hi => Items.monoW hE hT hz hk hs (hr i hi)) hi hj (Nat.lt_of_lt_of_le hb hz)
  | _, _, .nils => .nils
  | _, _, .row id base sz sub len b o c n t h hs' ho hl ok => .row id base sz sub len b o c n t (hE _ _ h) (hs _ _ _ h hs') ho hl ok
  | _, _, .row0 id base sz sub len h hl => .row0 id base sz sub len (hE _ _ h) hl
  | _, _, .ro0 e h => .ro0 e h
  | _, _, .ro1 e a h => .ro1 e a h
  | _, _, .ro e b o n k c hT' hn hc hr he hl ok hb =>
    .ro e b o n k c (fun h => hT' (hT b hb h)) hn (fun i j v hi hj => (World.cell?_of_block (hk b hb hT')).trans (hc i j v hi hj)) (fun i hi => Items.monoW hE hT hz hk hs (hr i hi)) he hl ok (Nat.lt_of_lt_of_le hb hz)
  | _, _, .agg l cs h => .agg l cs (Items.monoW hE hT hz hk hs h)
  | _, _, .arr n e cs c hn hl he h1 hc hr => .arr n e cs c hn hl he h1 hc (fun i hi => Items.monoW hE hT hz hk hs (hr i hi))
  | _, _, .tup l vs h => .tup l vs (Tup.monoW hE hT hz hk hs h)
  | _, _, .fn f l vs h => .fn f l vs (Tup.monoW hE hT hz hk hs h)
  | _, _, .mv f l vs h => .mv f l vs (Tup.monoW hE hT hz hk hs h)
  | _, _, .ifc t s v h => .ifc t s v (Rep.monoW hE hT hz hk hs h)
  | _, _, .nili => .nili
  | _, _, .nilf => .nilf
  | _, _, .may1 g s v h hr => .may1 g s v h (Rep.monoW hE hT hz hk hs hr)
  | _, _, .may0 g s h => .may0 g s h
  | _, _, .bsl id len b n t h hs' hl ok => .bsl id len b n t (hE _ _ h) (hs _ _ _ h hs') hl ok
  | _, _, .bsl0 id len h hl => .bsl0 id len (hE _ _ h) hl
  | _, _, .anyi k n => .anyi k n
  | _, _, .val x => .val x
theorem Items.monoW (hE : ∀ i b, E i = some b → E' i = some b) (hT : ∀ b, b < w.heap.size → T' b → T b) (hz : w.heap.size ≤ w'.heap.size) (hk : ∀ b, b < w.heap.size → ¬ T b → w'.heap[b]? = w.heap[b]?) (hs : ∀ i b x, E i = some (some b) → w.shape? b = some x → w'.shape? b = some x) :
    ∀ {l : List SV} {cs : List Value}, Items E T w l cs → Items E' T' w' l cs
  | _, _, .nil => .nil
  | _, _, .one s c l cs h hr hl => .one s c l cs h (Rep.monoW hE hT hz hk hs hr) (Items.monoW hE hT hz hk hs hl)
  | _, _, .arr n e l c1 cs hr hl => .arr n e l c1 cs (Rep.monoW hE hT hz hk hs hr) (Items.monoW hE hT hz hk hs hl)
theorem Tup.monoW (hE : ∀ i b, E i = some b → E' i = some b) (hT : ∀ b, b < w.heap.size → T' b → T b) (hz : w.heap.size ≤ w'.heap.size) (hk : ∀ b, b < w.heap.size → ¬ T b → w'.heap[b]? = w.heap[b]?) (hs : ∀ i b x, E i = some (some b) → w.shape? b = some x → w'.shape? b = some x) :
    ∀ {l : List SV} {vs : List Value}, Tup E T w l vs → Tup E' T' w' l vs
  | _, _, .nil => .nil
  | _, _, .cons s v l vs hr hl => .cons s v l vs (Rep.monoW hE hT hz hk hs hr) (Tup.monoW hE hT hz hk hs hl)
end
end
@[reducible] def kill3 : List Nat := [3, 4, 5, 6, 7, 8, 9, 10, 11, 12, 13, 14, 15, 16, 17, 18, 19, 20, 21, 22, 23, 24, 25, 26, 27, 28, 29, 30, 31, 32, 33, 34, 35, 36, 37, 38, 39, 40, 41, 42, 43, 44, 45, 46, 47, 48, 49, 50, 51, 52, 53, 54, 55, 56, 57, 58, 59]
def idsM (j : Option Nat) : Mem → List Nat
  | [] => []
  | (k, _) :: r => match j with
    | some j' => match Nat.beq k j' with
      | true => idsM j r
      | false => k :: idsM j r
    | none => k :: idsM none r
def bufK (p : List Nat) (e : TypeId) (i : Nat) (j : Option Nat) : Mem → Option (List Prop)
  | [] => some []
  | (k, B) :: r => match Nat.beq k i || (match j with
      | some j' => Nat.beq k j'
      | none => false) with
    | true => bufK p e i j r
    | false => match B with
      | .cells t l => match Nat.beq t e with
        | true => none
        | false => match kpL p l with
          | some φ => match bufK p e i j r with
            | some ψ => some (φ ++ ψ)
            | none => none
          | none => none
      | .row t x => match Nat.beq t e with
        | true => none
        | false => match kpE x with
          | some φ => match bufK p e i j r with
            | some ψ => some (φ ++ ψ)
            | none => none
          | none => none
      | .obj _ => none
def lastB : SV → Bool
  | .anyi .i8 => true
  | .int .i8 _ => true
  | _ => false
structure BufR where
  t : TypeId
  j : Option Nat
  l : List UInt8
  φ : List Prop
def bufAt (e : TypeId) (M : Mem) (i : Nat) : Option BufR :=
  match find M i with
  | some (.cells t [s0, .int .i64 (.ofNat 0), z]) => match lastB z with
    | true => match s0 with
      | .nils => some ⟨t, none, [], []⟩
      | .bsl j len => match find M j with
        | some (.row e' (.u8 l)) => match Nat.beq e' e with
          | true => some ⟨t, some j, l, [len = l.length]⟩
          | false => none
        | _ => none
      | _ => none
    | false => none
  | _ => none
structure BufO where
  G : Tr
  M : Mem
  φ : List Prop
def bufM (pins : List Nat) (e : TypeId) (F : Tr) (M : Mem) (i nx : Nat) (m : List UInt8) : Option BufO :=
  match bufAt e M i with
  | some ⟨t, j, l, φ0⟩ => match keepT (idsM j M) F, bufK (idsM j M) e i j M, pins.all (idsM j M).elem with
    | some (G, φ), some ψ, true => match upd (delO M j) i (.cells t [.bsl nx (l ++ m).length, .int .i64 0, .anyi .i8]) with
      | some M1 => fM M1 fun M1 => fP ((l.length + m.length ≤ 140737488355328) :: (φ0 ++ (φ ++ ψ))) fun χ => some ⟨G, (nx, .row e (.u8 (l ++ m))) :: M1, χ⟩
      | none => none
    | _, _, _ => none
  | none => none
theorem idsM_mem {j : Option Nat} : ∀ {M : Mem} {k : Nat}, (idsM j M).elem k = true → (find M k).isSome = true ∧ some k ≠ j
  | [], k, h => by simp [idsM] at h
  | (k0, B) :: r, k, h => by
    unfold idsM at h
    split at h
    · rename_i j'
      split at h
      · obtain ⟨q1, q2⟩ := idsM_mem h
        refine ⟨?_, q2⟩
        rw [find_cons]
        split
        · rfl
        · exact q1
      · rename_i hne
        rw [find_cons]
        by_cases e : k = k0
        · subst e
          rw [if_pos rfl]
          exact ⟨rfl, fun hj => by cases hj; simp at hne⟩
        · rw [if_neg e]
          refine idsM_mem ?_
          simpa [List.elem_cons, e] using h
    · rw [find_cons]
      by_cases e : k = k0
      · rw [if_pos e]; exact ⟨rfl, by simp⟩
      · rw [if_neg e]
        refine idsM_mem ?_
        simpa [List.elem_cons, e] using h
def othK (p : List Nat) (e : TypeId) : Blk → Prop
  | .cells t l => t ≠ e ∧ keepL p.elem l
  | .row t x => t ≠ e ∧ pureE x
  | .obj _ => False
theorem bufK_at {p : List Nat} {e : TypeId} {i : Nat} {j : Option Nat} : ∀ {M : Mem} {φ : List Prop}, bufK p e i j M = some φ → AllP φ → ∀ k B, find M k = some B → k ≠ i → some k ≠ j → othK p e B
  | [], φ, h, hφ, k, B, hf, _, _ => by simp [find] at hf
  | (k0, B0) :: r, φ, h, hφ, k, B, hf, h1, h2 => by
    rw [find_cons] at hf
    simp only [bufK] at h
    split at h
    · rename_i hk
      split at hf
      · rename_i he
        subst he
        exfalso
        simp only [Bool.or_eq_true] at hk
        rcases hk with hk | hk
        · exact h1 (Nat.eq_of_beq_eq_true hk)
        · split at hk
          · exact h2 (by rw [Nat.eq_of_beq_eq_true hk])
          · cases hk
      · exact bufK_at h hφ k B hf h1 h2
    · split at h
      · rename_i t l
        split at h
        · cases h
        · rename_i hne
          split at h
          · rename_i φ1 hφ1
            split at h
            · rename_i ψ hψ
              simp only [Option.some.injEq] at h
              subst h
              obtain ⟨q1, q2⟩ := AllP.app hφ
              split at hf
              · cases hf
                exact ⟨fun e => by subst e; simp at hne, kpL_ok hφ1 q1⟩
              · exact bufK_at hψ q2 k B hf h1 h2
            · cases h
          · cases h
      · rename_i t x
        split at h
        · cases h
        · rename_i hne
          split at h
          · rename_i φ1 hφ1
            split at h
            · rename_i ψ hψ
              simp only [Option.some.injEq] at h
              subst h
              obtain ⟨q1, q2⟩ := AllP.app hφ
              split at hf
              · cases hf
                exact ⟨fun e => by subst e; simp at hne, kpE_ok hφ1 q1⟩
              · exact bufK_at hψ q2 k B hf h1 h2
            · cases h
          · cases h
      · cases h
abbrev bytesC (l : List UInt8) : List Value := Lib.byteCells l
theorem bytesC_at (l : List UInt8) (i : Nat) (h : i < l.length) : (bytesC l)[i]? = some (.int .u8 ((l.getD i 0).toNat : Int)) := by
  simp [bytesC, Lib.byteCells, List.getD_eq_getElem?_getD, h]
theorem bytesC_len (l : List UInt8) : (bytesC l).length = l.length := Lib.byteCells_length l
theorem bytesC_app (l m : List UInt8) : bytesC (l ++ m) = bytesC l ++ bytesC m := by simp [bytesC, Lib.byteCells]
theorem bytesC_one (l : List UInt8) : ∀ v ∈ bytesC l, v.oneCell' = true := by
  intro v hv
  simp only [bytesC, Lib.byteCells, List.mem_map] at hv
  obtain ⟨b, _, rfl⟩ := hv
  rfl
theorem inR_byte (b : UInt8) : inR .u8 (b.toNat : Int) := by
  have := b.toNat_lt
  refine inR_u8' ?_ ?_ <;> omega
section
variable {C : Ctx} {F G : Tr} {M : Mem} {U : Nat → Prop} {E : Env} {a : Act} {w w' : World}
theorem buf_in (hst : St C F M U E a w) (hS : ∀ b, ¬ C.S b) {e : TypeId} {i b : Nat} {r : BufR} (h : bufAt e M i = some r) (hφ : AllP r.φ) (hE : E i = some (some b)) :
    LibA.IsBuffer r.t (fun _ => none) e C.W0.heap.size b 0 (bytesC r.l) w := by
  unfold bufAt at h
  split at h
  · rename_i t s0 z hf
    split at h
    · rename_i hz
      obtain ⟨hb, cs, hh, hI⟩ := hst.mem.at hf hE
      have hown : C.W0.heap.size ≤ b := (hst.own i b (by rw [hf]; rfl) hE).resolve_right (hS b)
      cases hI with
      | arr => dsimp only at h; cases h
      | one _ v0 _ _ q0 r0 hI =>
      cases hI with
      | one _ v1 _ _ q1 r1 hI =>
      cases hI with
      | arr => simp [lastB] at hz
      | one _ v2 _ _ q2 r2 hI =>
      cases hI
      cases r1
      have h3 : ∃ lr, v2 = .int .i8 lr := by
        unfold lastB at hz
        split at hz
        · cases r2; exact ⟨_, rfl⟩
        · cases r2; exact ⟨_, rfl⟩
        · cases hz
      obtain ⟨lr, rfl⟩ := h3
      have h3 := LibA.three_whole (w := w) (b := b) (T := t) (x := v0) (y := .int .i64 0) (z := .int .i8 lr) hh
      split at h
      · simp only [Option.some.injEq] at h
        subst h
        cases r0
        exact ⟨hown, _, lr, h3, World.ownsRow_nil _ _ _ _, by simp [Value.ownBlock]⟩
      · rename_i j len
        split at h
        · rename_i e' l hj
          split at h
          · rename_i he
            simp only [Option.some.injEq] at h
            subst h
            cases Nat.eq_of_beq_eq_true he
            have hlen : len = l.length := hφ.1
            dsimp only
            refine ⟨hown, v0, lr, h3, ?_, ?_⟩
            · refine ⟨by simp, ?_⟩
              rw [bytesC_len]
              cases r0 with
              | bsl0 _ _ hEj hl => exact .inl ⟨rfl, by omega⟩
              | bsl _ _ g n t' hEj hs hl ok =>
                obtain ⟨hg, cur, c, hc0, hc1, hc2, hc3, hc4⟩ := hst.mem.at hj hEj
                have hn : n = cur.length := by
                  simp only [World.shape?, hc0] at hs
                  simpa using (Prod.mk.inj (Option.some.inj hs)).2.symm
                have hgo : C.W0.heap.size ≤ g := (hst.own j g (by rw [hj]; rfl) hEj).resolve_right (hS g)
                refine .inr ⟨g, n, cur.toArray, by rw [hlen], hgo, hc0, by omega, ok, by simp [hn], ?_⟩
                simp only [EV.len, EV.sz, Nat.mul_one] at hc1 hc2 hc3 hc4 ⊢
                refine List.ext_getElem? fun x => ?_
                rw [List.getElem?_take]
                by_cases hx : x < l.length
                · rw [if_pos hx, bytesC_at l x hx]
                  have hI4 := hc4 x hx
                  simp only [EV.items] at hI4
                  have hc5 := hc3 x 0
                  generalize c x = cx at hI4 hc5
                  cases hI4 with
                  | one _ cv _ _ p0 pr pI =>
                    have h4 := hc5 cv hx rfl
                    cases pr
                    simpa using h4
                · rw [if_neg hx, List.getElem?_eq_none (by rw [bytesC_len]; omega)]
            · cases r0 with
              | bsl0 _ _ hEj hl => simp [Value.ownBlock]
              | bsl _ _ g n t' hEj hs hl ok =>
                simp only [Value.ownBlock, ne_eq, Option.some.injEq]
                intro hgb
                subst hgb
                have := hst.mem.inj j i g (by rw [hj]; rfl) (by rw [hf]; rfl) hEj hE
                subst this
                rw [hf] at hj
                cases hj
          · cases h
        · cases h
      · cases h
    · cases h
  · cases h
theorem three_whole' {b : Nat} {T : TypeId} {x y z : Value} (h : LibA.Three w b 0 T (fun _ => none) x y z) : w.heap[b]? = some (.cells #[x, y, z] T (0, 0)) := by
  obtain ⟨cs, h0, h1, h2, h3, h4⟩ := h
  rw [h0]
  have hs : cs.size = 3 := by
    have q1 := (Array.getElem?_eq_some_iff.1 h3).1
    have q2 := h4 3 (by omega)
    rw [Array.getElem?_eq_none_iff] at q2
    omega
  have : cs = #[x, y, z] := by
    apply Array.ext (by simpa using hs)
    intro k k1 k2
    have hk : k < 3 := by omega
    match k, hk with
    | 0, _ => exact (Array.getElem?_eq_some_iff.1 h1).2
    | 1, _ => exact (Array.getElem?_eq_some_iff.1 h2).2
    | 2, _ => exact (Array.getElem?_eq_some_iff.1 h3).2
  rw [this]
theorem row_of {t e : TypeId} {B b : Nat} {l : List UInt8} (h : LibA.IsBuffer t (fun _ => none) e B b 0 (bytesC l) w) : ∃ gx : Option Nat,
    (∃ v lr, w.heap[b]? = some (.cells #[v, .int .i64 0, .int .i8 lr] t (0, 0)) ∧ ∀ (E : Env) (T : Nat → Prop) (nx : Nat), E nx = some gx → Rep E T w (.bsl nx l.length) v) ∧
    ((∃ g cur, gx = some g ∧ B ≤ g ∧ g ≠ b ∧ w.heap[g]? = some (.cells cur e (0, 0)) ∧ ∀ (E : Env) (T : Nat → Prop), BOk E T w g (.row e (.u8 l))) ∨ (gx = none ∧ l.length = 0)) := by
  obtain ⟨hB, v, lr, h3, ⟨hxl, hown⟩, hne⟩ := h
  have h3' := three_whole' h3
  rw [bytesC_len] at hown
  rcases hown with ⟨rfl, h0⟩ | ⟨g, cap, cur, rfl, hBg, hg, hnc, hcm, hcs, htk⟩
  · exact ⟨none, ⟨_, lr, h3', fun E T nx hE => .bsl0 _ _ hE h0⟩, .inr ⟨rfl, h0⟩⟩
  · rw [Nat.mul_one] at hcs htk
    refine ⟨some g, ⟨_, lr, h3', fun E T nx hE => .bsl _ _ g cap e hE (by simp [World.shape?, hg, hcs]) hnc hcm⟩, .inl ⟨g, cur, rfl, hBg, fun e => hne (by simp [Value.ownBlock, e]), hg, fun E T => ?_⟩⟩
    have hat : ∀ i, i < l.length → cur.toList[i]? = some (.int .u8 ((l.getD i 0).toNat : Int)) := fun i hi => by
      have := congrArg (·[i]?) htk
      simp only [List.getElem?_take, if_pos hi, bytesC_at l i hi] at this
      exact this
    refine ⟨cur.toList, fun i => [.int .u8 ((l.getD i 0).toNat : Int)], hg, by simp [EV.len, EV.sz]; omega, fun i _ => rfl, fun i j v hi hv => ?_, fun i hi => ?_⟩
    · match j, hv with
      | 0, hv =>
        simp at hv
        subst hv
        have := hat i hi
        simpa [EV.sz] using this
      | j + 1, hv => simp at hv
    · exact .one _ _ _ _ rfl (.int _ _ (inR_byte _)) .nil
variable {nx : Nat} {M' : Mem} {φ : List Prop}
theorem bufAt_find {e : TypeId} {i : Nat} {r : BufR} (h : bufAt e M i = some r) : ∃ s0 z, find M i = some (.cells r.t [s0, .int .i64 0, z]) ∧ ∀ j, r.j = some j → ∃ l, find M j = some (.row e (.u8 l)) := by
  unfold bufAt at h
  split at h
  · rename_i t s0 z hf
    split at h
    · split at h
      · simp only [Option.some.injEq] at h
        subst h
        exact ⟨_, z, hf, fun j hj => by cases hj⟩
      · split at h
        · rename_i e' l hj
          split at h
          · rename_i he
            cases Nat.eq_of_beq_eq_true he
            simp only [Option.some.injEq] at h
            subst h
            exact ⟨_, z, hf, fun j hj' => by cases hj'; exact ⟨l, hj⟩⟩
          · cases h
        · cases h
      · cases h
    · cases h
  · cases h
theorem bufM_inv {pins : List Nat} {e : TypeId} {i : Nat} {m : List UInt8} (h : bufM pins e F M i nx m = some ⟨G, M', φ⟩) (hφ : AllP φ) : ∃ r φ1 φ2 M1, bufAt e M i = some r ∧ AllP r.φ ∧ r.l.length + m.length ≤ 140737488355328 ∧
    keepT (idsM r.j M) F = some (G, φ1) ∧ AllP φ1 ∧ bufK (idsM r.j M) e i r.j M = some φ2 ∧ AllP φ2 ∧ pins.all (idsM r.j M).elem = true ∧ upd (delO M r.j) i (.cells r.t [.bsl nx (r.l ++ m).length, .int .i64 0, .anyi .i8]) = some M1 ∧ M' = (nx, .row e (.u8 (r.l ++ m))) :: M1 := by
  unfold bufM at h
  split at h
  · rename_i t j l φ0 hr
    split at h
    · rename_i G' φ1 φ2 h1 h2 h3
      split at h
      · rename_i M1 hM1
        rw [fM_eq, fP_eq] at h
        simp only [Option.some.injEq, BufO.mk.injEq] at h
        obtain ⟨rfl, rfl, rfl⟩ := h
        obtain ⟨p1, p2⟩ := hφ
        obtain ⟨p2, p3⟩ := AllP.app p2
        obtain ⟨p3, p4⟩ := AllP.app p3
        exact ⟨⟨t, j, l, φ0⟩, φ1, φ2, M1, hr, p2, p1, h1, p3, h2, p4, h3, hM1, rfl⟩
      · cases h
    · cases h
  · cases h
theorem Chg.of_heap {S : Nat → Prop} {w0 w w' : World} (h : Chg S w0 w) (hb : Below w0.heap.size w w') : Chg S w0 w' :=
  ⟨Nat.le_trans h.size hb.size, fun b hlt hS => (hb.block b hlt).trans (h.keep b hlt hS), fun b hlt => by
    have := h.shape b hlt
    simp only [World.shape?] at this ⊢
    rw [hb.block b hlt]
    exact this⟩
theorem buf_out (hst : St C F M U E a w) (hU : U nx) (hS : ∀ b, ¬ C.S b) (hW : ∀ b, C.W0.heap.size ≤ b → C.T0 b) {e : TypeId} {i b : Nat} {m : List UInt8} {r : BufR} {φ1 φ2 : List Prop} {M1 : Mem} (hr : bufAt e M i = some r) (hφ : AllP r.φ) (hE : E i = some (some b))
    (hG : keepT (idsM r.j M) F = some (G, φ1)) (hφ1 : AllP φ1) (hK : bufK (idsM r.j M) e i r.j M = some φ2) (hφ2 : AllP φ2) (hp : C.pins.all (idsM r.j M).elem = true) (hM : upd (delO M r.j) i (.cells r.t [.bsl nx (r.l ++ m).length, .int .i64 0, .anyi .i8]) = some M1)
    (hB : LibA.IsBuffer r.t (fun _ => none) e C.W0.heap.size b 0 (bytesC (r.l ++ m)) w') (hbel : Below C.W0.heap.size w w') (hok : Lib.OthersKept e (some b) w w') :
    ∃ E', St C G ((nx, .row e (.u8 (r.l ++ m))) :: M1) (rest U nx) E' a w' := by
  have hB0 := buf_in hst hS hr hφ hE
  obtain ⟨s0, z, hfi, hfj⟩ := bufAt_find hr
  obtain ⟨gx, ⟨v, lr, hb', hv⟩, hrow⟩ := row_of hB
  have hb0 : ∃ v0 lr0, w.heap[b]? = some (.cells #[v0, .int .i64 0, .int .i8 lr0] r.t (0, 0)) := by
    obtain ⟨_, v0, lr0, h3, _⟩ := hB0
    exact ⟨v0, lr0, three_whole' h3⟩
  obtain ⟨v0, lr0, hb0⟩ := hb0
  have hnx := hst.fresh nx hU
  have hold : ∀ k x, E k = some x → envWith E nx gx k = some x := envWith_old hnx
  have hkeep : ∀ k, k < w.heap.size → ¬ trk C.T0 M E k → w'.heap[k]? = w.heap[k]? := fun k _ hn => by
    refine hbel.block k ?_
    rcases Nat.lt_or_ge k C.W0.heap.size with h | h
    · exact h
    · exact absurd (.inr (hW k h)) hn
  have hij : some i ≠ r.j := fun hj => by
    obtain ⟨l, hl⟩ := hfj i hj.symm
    rw [hfi] at hl
    cases hl
  have hoth : ∀ k B k', find M k = some B → k ≠ i → some k ≠ r.j → E k = some (some k') → w'.heap[k']? = w.heap[k']? ∧ ∃ cs t, w.heap[k']? = some (.cells cs t (0, 0)) ∧ t ≠ e := fun k B k' hf h1 h2 hEk => by
    have hK' := bufK_at hK hφ2 k B hf h1 h2
    obtain ⟨_, hBk⟩ := hst.mem.at hf hEk
    have hne : some k' ≠ some b := fun hh => by
      cases hh
      exact h1 (hst.mem.inj k i b (by rw [hf]; rfl) (by rw [hfi]; rfl) hEk hE)
    have key : ∀ cs t, w.heap[k']? = some (.cells cs t (0, 0)) → t ≠ e → w'.heap[k']? = w.heap[k']? ∧ ∃ cs t, w.heap[k']? = some (.cells cs t (0, 0)) ∧ t ≠ e := fun cs t hh ht =>
      ⟨(hok k' _ hh hne fun c fz hc => ht (by cases hc; rfl)).trans hh.symm, cs, t, hh, ht⟩
    cases B with
    | cells t l => obtain ⟨cs, hh, _⟩ := hBk; exact key _ _ hh hK'.1
    | row t x => obtain ⟨cs, c, hh, _⟩ := hBk; exact key _ _ hh hK'.1
    | obj o => exact hK'.elim
  have hlive : ∀ k, (idsM r.j M).elem k = true → ∀ k' x, E k = some (some k') → w.shape? k' = some x → w'.shape? k' = some x := fun k hk k' x hEk hx => by
    obtain ⟨h1, h2⟩ := idsM_mem hk
    obtain ⟨B, hf⟩ := Option.isSome_iff_exists.1 h1
    by_cases hki : k = i
    · subst hki
      rw [hE] at hEk
      cases hEk
      rw [← hx]
      simp [World.shape?, hb0, hb']
    · have := (hoth k B k' hf hki h2 hEk).1
      simpa only [World.shape?, this] using hx
  have hshp : ∀ k k' x, pinE (idsM r.j M).elem E k = some (some k') → w.shape? k' = some x → w'.shape? k' = some x := fun k k' x hEk hx => by
    unfold pinE at hEk
    split at hEk
    · rename_i hk; exact hlive k hk k' x hEk hx
    · cases hEk
  have hfind : ∀ k B, find ((nx, .row e (.u8 (r.l ++ m))) :: M1) k = some B → (k = nx ∧ B = .row e (.u8 (r.l ++ m))) ∨ (k ≠ nx ∧ k = i ∧ B = .cells r.t [.bsl nx (r.l ++ m).length, .int .i64 0, .anyi .i8]) ∨ (k ≠ nx ∧ k ≠ i ∧ some k ≠ r.j ∧ find M k = some B) := fun k B hf => by
    rw [find_cons] at hf
    split at hf
    · rename_i hk; cases hf; exact .inl ⟨hk, rfl⟩
    · rename_i hk
      rw [find_upd hM] at hf
      split at hf
      · rename_i hk2; cases hf; exact .inr (.inl ⟨hk, hk2, rfl⟩)
      · rename_i hk2
        obtain ⟨q1, q2⟩ := find_delO hf
        exact .inr (.inr ⟨hk, hk2, q2, q1⟩)
  have hEnx : envWith E nx gx nx = some gx := by simp [envWith]
  have hEne : ∀ k, k ≠ nx → envWith E nx gx k = E k := fun k hk => by simp [envWith, hk]
  have hown : ∀ k k', (find ((nx, .row e (.u8 (r.l ++ m))) :: M1) k).isSome = true → envWith E nx gx k = some (some k') → C.W0.heap.size ≤ k' := fun k k' hf hEk => by
    obtain ⟨B, hf⟩ := Option.isSome_iff_exists.1 hf
    rcases hfind k B hf with ⟨rfl, _⟩ | ⟨h1, rfl, _⟩ | ⟨h1, _, _, h2⟩
    · rw [hEnx] at hEk
      cases hEk
      rcases hrow with ⟨g, cur, hg, q, _⟩ | ⟨hg, _⟩
      · cases hg; exact q
      · cases hg
    · rw [hEne _ h1] at hEk
      exact (hst.own _ _ (by rw [hfi]; rfl) hEk).resolve_right (hS _)
    · rw [hEne _ h1] at hEk
      exact (hst.own _ _ (by rw [h2]; rfl) hEk).resolve_right (hS _)
  have hT : ∀ k, k < w.heap.size → trk C.T0 ((nx, .row e (.u8 (r.l ++ m))) :: M1) (envWith E nx gx) k → trk C.T0 M E k := by
    rintro k _ (⟨id, B, hf, hEk⟩ | h0)
    · exact .inr (hW k (hown id k (by rw [hf]; rfl) hEk))
    · exact .inr h0
  have hpe : ∀ k x, pinE (idsM r.j M).elem E k = some x → envWith E nx gx k = some x := fun k x h => by
    unfold pinE at h
    split at h
    · exact hold k x h
    · cases h
  refine ⟨envWith E nx gx, hst.defers, hst.size, fun t s hs => ?_, ⟨fun k B hf => ?_, fun k1 k2 k' h1 h2 h3 h4 => ?_⟩, fun k k' h1 h2 => .inl (hown k k' h1 h2), fun k hk => ?_, ?_, hst.hid, ?_, fun p hp' k x hx => ?_, fun p hp' t s hs => ?_⟩
  · obtain ⟨q1, q2⟩ := keepT_ok hG hφ1 t s hs
    exact ((hst.slots t s q1).keep q2).monoW hpe hT hbel.size hkeep hshp
  · rcases hfind k B hf with ⟨rfl, rfl⟩ | ⟨h1, rfl, rfl⟩ | ⟨h1, h2, h3, h4⟩
    · rcases hrow with ⟨g, cur, rfl, q1, q2, q3, q4⟩ | ⟨rfl, q1⟩
      · exact .inl ⟨g, hEnx, Lib.lt_of_heap q3, q4 _ _⟩
      · exact .inr ⟨hEnx, e, _, rfl, q1⟩
    · refine .inl ⟨b, by rw [hEne _ h1]; exact hE, Lib.lt_of_heap hb', [v, .int .i64 0, .int .i8 lr], hb', ?_⟩
      exact .one _ _ _ _ rfl (hv _ _ nx hEnx) (.one _ _ _ _ rfl (.int _ _ (inR_i64 (by omega) (by omega))) (.one _ _ _ _ rfl (.anyi _ _) .nil))
    · rcases hst.mem.blk k B h4 with ⟨k', q1, q2, q3⟩ | ⟨q1, q2⟩
      · refine .inl ⟨k', hold _ _ q1, Nat.lt_of_lt_of_le q2 hbel.size, ?_⟩
        have hh := (hoth k B k' h4 h2 h3 q1).1
        have hK' := bufK_at hK hφ2 k B h4 h2 h3
        cases B with
        | cells t l =>
          obtain ⟨cs, p1, p2⟩ := q3
          exact ⟨cs, hh.trans p1, (p2.keep hK'.2).monoW hpe hT hbel.size hkeep hshp⟩
        | row t x =>
          obtain ⟨cs, c, p1, p2, p3, p4, p5⟩ := q3
          exact ⟨cs, c, hh.trans p1, p2, p3, p4, fun i hi => ((p5 i hi).free_ (E' := fun _ => none) (hK'.2.items hi)).monoW (fun _ _ h => by cases h) hT hbel.size hkeep (fun _ _ _ h => by cases h)⟩
        | obj o => exact hK'.elim
      · exact .inr ⟨hold _ _ q1, q2⟩
  · obtain ⟨B1, f1⟩ := Option.isSome_iff_exists.1 h1
    obtain ⟨B2, f2⟩ := Option.isSome_iff_exists.1 h2
    have hx : ∀ k B, k ≠ nx → find ((nx, .row e (.u8 (r.l ++ m))) :: M1) k = some B → envWith E nx gx k = some (some k') → gx ≠ some k' := fun k B hk hf hEk hg => by
      rw [hEne _ hk] at hEk
      rcases hrow with ⟨g, cur, q0, q1, q2, q3, _⟩ | ⟨q0, _⟩
      · rw [hg] at q0
        cases q0
        rcases hfind k B hf with ⟨q, _⟩ | ⟨_, rfl, _⟩ | ⟨_, p1, p2, p3⟩
        · exact hk q
        · rw [hE] at hEk; cases hEk; exact q2 rfl
        · obtain ⟨p4, cs, t, p5, p6⟩ := hoth k B k' p3 p1 p2 hEk
          rw [p4, p5] at q3
          cases q3
          exact p6 rfl
      · rw [hg] at q0; cases q0
    by_cases e1 : k1 = nx
    · by_cases e2 : k2 = nx
      · omega
      · exfalso
        rw [e1, hEnx] at h3
        exact hx k2 B2 e2 f2 h4 (by simpa using h3)
    · by_cases e2 : k2 = nx
      · exfalso
        rw [e2, hEnx] at h4
        exact hx k1 B1 e1 f1 h3 (by simpa using h4)
      · rw [hEne _ e1] at h3
        rw [hEne _ e2] at h4
        have hs : ∀ k B, k ≠ nx → find ((nx, .row e (.u8 (r.l ++ m))) :: M1) k = some B → (find M k).isSome = true := fun k B hk hf => by
          rcases hfind k B hf with ⟨q, _⟩ | ⟨_, rfl, _⟩ | ⟨_, _, _, p3⟩
          · exact absurd q hk
          · rw [hfi]; rfl
          · rw [p3]; rfl
        exact hst.mem.inj k1 k2 k' (hs k1 B1 e1 f1) (hs k2 B2 e2 f2) h3 h4
  · rw [hEne _ hk.2]
    exact hst.fresh k hk.1
  · exact ⟨hbel.os.trans hst.kp.os, hbel.tape.trans hst.kp.tape, hbel.output.trans hst.kp.output, hst.kp.chg.of_heap hbel⟩
  · refine ⟨fun g x hg => (hst.glob.rep g x hg).monoW (fun _ _ h => by cases h) hT hbel.size hkeep (fun _ _ _ h => by cases h), fun g x hg => ?_⟩
    obtain ⟨t, ht⟩ := hst.glob.shp g x hg
    refine ⟨t, ?_⟩
    have hr := hst.glob.rep g x hg
    generalize hadr : (⟨g, 0, none⟩ : Addr) = ad at hr
    cases hr with
    | rop _ _ _ b' o c hT' _ _ _ _ _ hb =>
      have hgb : g = b' := congrArg Addr.block hadr
      subst hgb
      simpa only [World.shape?, hkeep g hb hT'] using ht
  · obtain ⟨q1, q2⟩ := hst.pin p hp' k x hx
    exact ⟨q1, hold _ _ q2⟩
  · refine (hst.held p hp' t s hs).monoW (fun _ _ h => h) hT hbel.size hkeep fun k k' x hEk hx => ?_
    obtain ⟨q1, q2⟩ := hst.pin p hp' k (some k') hEk
    exact hlive k (List.all_eq_true.1 hp k (by simpa using q1)) k' x q2 hx
def BufOk (P : Program) (e : TypeId) (f : FuncId) (args : List SV) (res : SV) (m : List UInt8) : Prop :=
  ∀ (T : TypeId) (B b : Nat) (l : List UInt8) (w : World) (vs : List Value), LibA.IsBuffer T (fun _ => none) e B b 0 (bytesC l) w → B ≤ w.heap.size → l.length + m.length ≤ 140737488355328 → Tup E0 (fun _ => False) w args vs →
    Calls P f (Value.pointer (some ⟨b, 0, none⟩) :: vs).toArray w fun en w' => (∃ v, en = .returned v ∧ ∀ (E : Env) (T : Nat → Prop) (w : World), Rep E T w res v) ∧ LibA.IsBuffer T (fun _ => none) e B b 0 (bytesC (l ++ m)) w' ∧ Below B w w' ∧ Lib.OthersKept e (some b) w w'
variable {Q0 : Exit → Act → World → Prop} {F' : Tr} {ids' : List Nat} {k : List Kont}
theorem Sat.buf {full rest : List Oper} {d : Option Tmp} {x : Operand} {f : FuncId} {xs : List Operand} {ats : Array TypeId} {type : TypeId} {pos : String} {after : Array Edge} {svs args : List SV} {res : SV} {i : Nat} {e : TypeId} {m : List UInt8}
    (hspec : BufOk C.P e f args res m) (hx : argsF C.Γ F x xs = some (f, .ptr i 0 :: svs)) (hc : callable C.P f = true) (hconv : Convs M svs args) (hb : bufM C.pins e F M i nx m = some ⟨G, M', φ⟩) (hφ : AllP φ) (hp : putD C.N G d (some res) some = some F')
    (hS : ∀ b, ¬ C.S b) (hW : ∀ b, C.W0.heap.size ≤ b → C.T0 b) (h : Sat C Q0 (.reg full rest F' M' ids' k)) :
    Sat C Q0 (.reg full (⟨d, .call ⟨.value x, ⟨xs⟩, ats⟩, type, pos, after, none⟩ :: rest) F M (nx :: ids') k) := by
  intro U E a w hsup hst
  obtain ⟨F1, h1, h2⟩ := putD_inv hp
  cases h1
  refine wpList_plain rfl fun K hK => ?_
  unfold Oper.wp
  obtain ⟨vs, ht, hex⟩ := argsF_ok hst.vw hx
  rw [hex, run_callFunc_go hc]
  obtain ⟨r, φ1, φ2, M1, q1, q2, q3, q4, q5, q6, q7, q8, q9, rfl⟩ := bufM_inv hb hφ
  cases ht with
  | cons _ v0 _ vs hr ht =>
  cases hr with
  | ptr _ _ b hE =>
  have ht' := Convs.tups (T' := fun _ => False) hst.mem (fun _ _ h => h.elim) (fun _ _ _ _ h => h) hconv ht
  refine (hspec r.t C.W0.heap.size b r.l w vs (buf_in hst hS q1 q2 hE) hst.kp.chg.size q3 ht').mono ?_
  rintro en w' ⟨⟨v, rfl, hv⟩, hB, hbel, hok⟩
  obtain ⟨E', hst'⟩ := buf_out hst hsup.1 hS hW q1 q2 hE q4 q5 q6 q7 q8 q9 hB hbel hok
  exact hK _ _ (h _ E' _ w' hsup.2 (hst'.putD h2 fun s' hs' => by cases hs'; exact hv _ _ _))
theorem Sat.callW {full rest : List Oper} {d : Option Tmp} {x : Operand} {f : FuncId} {xs : List Operand} {ats : Array TypeId} {type : TypeId} {pos : String} {after : Array Edge} {svs args : List SV} {res : SV} {ids : List Nat}
    (hspec : Fun C.P C.Γ f args res) (hrig : rigid res = true) (hx : argsF C.Γ F x xs = some (f, svs)) (hc : callable C.P f = true) (hconv : Convs [] svs args) (hp : putD C.N F d (some res) some = some F') (h : Sat C Q0 (.reg full rest F' M ids k)) :
    Sat C Q0 (.reg full (⟨d, .call ⟨.value x, ⟨xs⟩, ats⟩, type, pos, after, none⟩ :: rest) F M ids k) := by
  intro U E a w hsup hst
  obtain ⟨F1, h1, h2⟩ := putD_inv hp
  cases h1
  refine wpList_plain rfl fun K hK => ?_
  unfold Oper.wp
  obtain ⟨vs, ht, hex⟩ := argsF_ok hst.vw hx
  rw [hex, run_callFunc_go hc]
  have hH : MOk E (trk C.T0 M E) [] w := ⟨fun id B hf => by simp [find] at hf, fun id id' b hf => by simp [find] at hf⟩
  have hT : ∀ b, trk C.T0 M E b ∧ b < w.heap.size → trk C.T0 M E b := fun b h => h.1
  have ht' := Convs.tups (T' := fun b => trk C.T0 M E b ∧ b < w.heap.size) hH (fun b h1 h2 => h2.1) (fun id b hf => by simp [find] at hf) hconv ht
  refine (hspec (fun b => trk C.T0 M E b ∧ b < w.heap.size) w _ (fun b h => h.2) (hst.glob.mono (fun b _ h => h.1) (Chg.refl _ w)) ht').mono ?_
  rintro e w' ⟨v, rfl, hr, hb⟩
  exact hK _ _ (h U E _ w' hsup ((hst.below hb).putD h2 fun s' hs' => by cases hs'; exact hr.rigid_ hrig))
theorem Sat.drop {c : Code} {ids : List Nat} (hG : keepT (idsM none M) F = some (G, φ)) (hφ : AllP φ) (h : Sat C Q0 (.code c G M ids k)) : Sat C Q0 (.code c F M ids k) := fun U E a w hsup hst =>
  h U E a w hsup ⟨hst.defers, hst.size, fun t s hs => hst.slots t s (keepT_ok hG hφ t s hs).1, hst.mem, hst.own, hst.fresh, hst.kp, hst.hid, hst.glob, hst.pin, hst.held⟩
theorem killF_inv : ∀ {l : List Nat} {F : Tr} {K : Tr → Option Tr} {r : Tr}, killF l F K = some r → ∃ F', K F' = some r ∧ ∀ t s, F'.get t = some s → F.get t = some s
  | [], F, K, r, h => ⟨F, h, fun _ _ h => h⟩
  | d :: l, F, K, r, h => by
    simp only [killF] at h
    obtain ⟨F1, h1, h2⟩ := Tr.putK_eq F d none _ r h
    obtain ⟨F2, h3, h4⟩ := killF_inv h2
    refine ⟨F2, h3, fun t s hs => ?_⟩
    have := h4 t s hs
    rw [Tr.get_put F F1 d none h1] at this
    split at this
    · cases this
    · exact this
theorem Sat.kill {c : Code} {ids : List Nat} (l : List Nat) (hG : killF l F some = some G) (h : Sat C Q0 (.code c G M ids k)) : Sat C Q0 (.code c F M ids k) := fun U E a w hsup hst => by
  obtain ⟨F1, h1, h2⟩ := killF_inv hG
  cases h1
  exact h U E a w hsup ⟨hst.defers, hst.size, fun t s hs => hst.slots t s (h2 t s hs), hst.mem, hst.own, hst.fresh, hst.kp, hst.hid, hst.glob, hst.pin, hst.held⟩
theorem Sat.narrow {P : Program} {W0 : World} {S T : Nat → Prop} {Γ : Glob} {N : Nat} {c : Cfg} (hT : ∀ b, T b → b < W0.heap.size) (hS : ∀ b, ¬ S b) (h : Sat ⟨P, W0, S, T, Γ, N, [], [], false⟩ Q0 c) :
    Sat ⟨P, W0, S, fun b => T b ∨ W0.heap.size ≤ b, Γ, N, [], [], true⟩ Q0 c := by
  have key : ∀ {F M U E a w}, St ⟨P, W0, S, fun b => T b ∨ W0.heap.size ≤ b, Γ, N, [], [], true⟩ F M U E a w → St ⟨P, W0, S, T, Γ, N, [], [], false⟩ F M U E a w := fun {F M U E a w} hst => by
    have ht : ∀ b, b < w.heap.size → trk T M E b → trk (fun b => T b ∨ W0.heap.size ≤ b) M E b := by
      rintro b _ (h | h)
      · exact .inl h
      · exact .inr (.inl h)
    refine ⟨hst.defers, hst.size, fun t s hs => (hst.slots t s hs).mono (fun _ _ h => h) ht (Chg.refl _ w), ⟨fun id B hf => ?_, hst.mem.inj⟩, hst.own, hst.fresh, hst.kp, fun b hb => .inl ⟨hT b hb, hS b⟩, hst.glob.mono ht (Chg.refl _ w), fun p hp => (by cases hp), fun p hp => (by cases hp)⟩
    rcases hst.mem.blk id B hf with ⟨b, h1, h2, h3⟩ | h1
    · exact .inl ⟨b, h1, h2, h3.mono (fun _ _ h => h) ht (Chg.refl _ w) rfl⟩
    · exact .inr h1
  cases c with
  | reg full rest F M ids k => exact fun U E a w hsup hst => h U E a w hsup (key hst)
  | qreg full rest F M ids k => exact fun U E a w hsup hst => h U E a w hsup (key hst)
  | code c F M ids k => exact fun U E a w hsup hst => h U E a w hsup (key hst)
  | ext e F M ids k => exact fun U E a w hsup hst => h U E a w hsup (key hst)
theorem Fun.mkW {P : Program} {Γ : Glob} {f : FuncId} {fn : Func} {c : Code} {N : Nat} {args : List SV} {res : SV} {F : Tr} (dep : Nat) (hf : P.funcs[f]? = some fn) (hb : fn.body = some c) (hN : fn.ntmps = N) (hle : Nat.ble args.length N = true) (hF : argT 0 args (Tr.mk dep) = some F)
    (h : ∀ (T : Nat → Prop) (w : World), (∀ b, T b → b < w.heap.size) → Sat ⟨P, w, fun _ => False, fun b => T b ∨ w.heap.size ≤ b, Γ, N, [], [], true⟩ (bodyPost P fn (Post T w res)) (.code c F [] ids0 [])) : Fun P Γ f args res := by
  intro T w vs hT hG ht
  have hle' := Nat.le_of_ble_eq_true hle
  have hlen := ht.len
  have hT1 : ∀ b, b < w.heap.size → trk (fun b => T b ∨ w.heap.size ≤ b) [] E0 b → T b := fun b hlt hb => by
    rcases hb with ⟨id, B, hf, _⟩ | h0 | h0
    · simp [find] at hf
    · exact h0
    · omega
  refine calls_of_wp hf hb (h T w hT (fun _ => True) E0 _ w ?_ ⟨rfl, ?_, fun t s hs => ?_, ⟨fun id B hf => by simp [find] at hf, fun id id' b hf => by simp [find] at hf⟩, fun id b hf => by simp [find] at hf, fun _ _ => rfl, ⟨rfl, rfl, rfl, Chg.refl _ w⟩, fun b hb => .inr rfl, hG.mono hT1 (Chg.refl _ w), fun p hp => (by cases hp), fun p hp => (by cases hp)⟩)
  · have : ∀ (l : List Nat) (n : Nat) (U : Nat → Prop), (∀ i, i < l.length → l[i]? = some (n + i)) → (∀ k, n ≤ k → U k) → Sup l U := by
      intro l
      induction l with
      | nil => intro n _ _ _; trivial
      | cons i r ih =>
        intro n U hl hU
        have hi : i = n := by simpa using hl 0 (by simp)
        refine ⟨hU i (by omega), ih (n + 1) _ (fun j hj => ?_) fun k hk => ⟨hU k (by omega), by omega⟩⟩
        have := hl (j + 1) (by simpa using hj)
        simpa [Nat.add_assoc, Nat.add_comm 1 j] using this
    exact this ids0 0 _ (by decide) fun _ _ => trivial
  · simp only [Array.size_append, List.size_toArray, Array.size_replicate, hlen, hN]; omega
  · rcases argT_get hF ht t s hs with ⟨q1, _⟩ | ⟨_, v, q2, q3⟩ | ⟨_, q2⟩
    · omega
    · have hlt : t < vs.length := by simpa using (List.getElem?_eq_some_iff.1 q2).1
      have : (vs.toArray ++ Array.replicate (fn.ntmps - vs.toArray.size) undef).getD t undef = v := by
        rw [Array.getD_eq_getD_getElem?, Array.getElem?_append_left (by simpa using hlt)]
        simp only [Nat.sub_zero] at q2
        simp [q2]
      rw [this]
      exact q3.mono (fun _ _ h => h) hT1 (Chg.refl _ w)
    · rw [mk_get] at q2; cases q2
theorem buf_find {M1 : Mem} {i nx : Nat} {j : Option Nat} {B B' : Blk} (hM : upd (delO M j) i B = some M1) (id : Nat) : find ((nx, B') :: M1) id = (look ((nx, some B') :: (i, some B) :: odCh j) id).getD (find M id) := by
  rw [find_cons]
  simp only [look]
  by_cases h1 : id = nx
  · subst h1
    simp
  · have : Nat.beq nx id = false := by
      cases h : Nat.beq nx id with
      | false => rfl
      | true => exact absurd (Nat.eq_of_beq_eq_true h).symm h1
    rw [if_neg h1, this, find_upd hM]
    by_cases h2 : id = i
    · subst h2
      simp
    · have : Nat.beq i id = false := by
        cases h : Nat.beq i id with
        | false => rfl
        | true => exact absurd (Nat.eq_of_beq_eq_true h).symm h2
      rw [if_neg h2, this]
      cases j with
      | none => rfl
      | some j =>
        simp only [delO, find_del, odCh, look]
        by_cases h3 : id = j
        · subst h3
          simp
        · have : Nat.beq j id = false := by
            cases h : Nat.beq j id with
            | false => rfl
            | true => exact absurd (Nat.eq_of_beq_eq_true h).symm h3
          rw [if_neg h3, this]
          rfl
theorem DSat.buf {full rest : List Oper} {F0 : Tr} {M0 : Mem} {ids0 : List Nat} {n : Nat} {hist : List Ent} {d : Option Tmp} {x : Operand} {f : FuncId} {xs : List Operand} {ats : Array TypeId} {type : TypeId} {pos : String} {after : Array Edge} {svs args : List SV} {res : SV} {i : Nat} {e : TypeId} {m : List UInt8} {r : BufR}
    (hspec : BufOk C.P e f args res m) (hx : argsF C.Γ F x xs = some (f, .ptr i 0 :: svs)) (hc : callable C.P f = true) (hconv : Convs M svs args) (hr : bufAt e M i = some r) (hb : bufM C.pins e F M i nx m = some ⟨F, M', φ⟩) (hφ : AllP φ) (hp : putD C.N F d (some res) some = some F')
    (hS : ∀ b, ¬ C.S b) (hW : ∀ b, C.W0.heap.size ≤ b → C.T0 b)
    (h : DSat C Q0 k full F0 M0 ids0 (n + 1) (⟨n, d, some res, some nx, (nx, some (.row e (.u8 (r.l ++ m)))) :: (i, some (.cells r.t [.bsl nx (r.l ++ m).length, .int .i64 0, .anyi .i8])) :: odCh r.j, [], true⟩ :: hist) rest F' M' ids') :
    DSat C Q0 k full F0 M0 ids0 n hist (⟨d, .call ⟨.value x, ⟨xs⟩, ats⟩, type, pos, after, none⟩ :: rest) F M (nx :: ids') := by
  intro D
  obtain ⟨F1, h1, h2⟩ := putD_inv hp
  cases h1
  obtain ⟨p1, p2⟩ := putD_get h2
  obtain ⟨r', φ1, φ2, M1, q1, q2, q3, q4, q5, q6, q7, q8, q9, rfl⟩ := bufM_inv hb hφ
  rw [hr] at q1
  cases q1
  refine h (D.step (fun ho Q K Fa Ma U E a w u1 u2 u4 u3 hst hK => ?_) rfl rfl p2 (fun id => buf_find q9 id) rfl)
  obtain ⟨v1, v2⟩ := u4 rfl
  have hst' : St C F M U E a w := hst.ext (fun t => (v1 t).symm) (fun id => (v2 id).symm) fun _ h => h
  refine wpOp_plain ho rfl ?_
  unfold Oper.wp
  obtain ⟨vs, ht, hex⟩ := argsF_ok hst'.vw hx
  rw [hex, run_callFunc_go hc]
  cases ht with
  | cons _ v0 _ vs hr0 ht =>
  cases hr0 with
  | ptr _ _ b hE =>
  have ht' := Convs.tups (T' := fun _ => False) hst'.mem (fun _ _ h => h.elim) (fun _ _ _ _ h => h) hconv ht
  refine (hspec r.t C.W0.heap.size b r.l w vs (buf_in hst' hS hr q2 hE) hst'.kp.chg.size q3 ht').mono ?_
  rintro en w' ⟨⟨v, rfl, hv⟩, hB, hbel, hok⟩
  obtain ⟨E', hst2⟩ := buf_out hst' (u3 nx rfl) hS hW hr q2 hE q4 q5 q6 q7 q8 q9 hB hbel hok
  refine hK F' _ (V.rest U nx) E' _ w' (fun t => ?_) (fun id => ?_) (fun k => ⟨fun h => ⟨h.1, fun e => h.2 (by cases e; rfl)⟩, fun h => ⟨h.1, fun e => h.2 (by rw [e])⟩⟩) (hst2.putG p1 p2 fun s' hs' => by cases hs'; exact hv _ _ _)
  · rw [p2 t, v1 t]
  · rw [buf_find q9 id, v2 id]
theorem Fun.mkWF {P : Program} {Γ : Glob} {f : FuncId} {fn : Func} {c : Code} {N : Nat} {args : List SV} {res : SV} {F : Tr} (dep : Nat) (hf : P.funcs[f]? = some fn) (hb : fn.body = some c) (hN : fn.ntmps = N) (hle : Nat.ble args.length N = true) (hF : argT 0 args (Tr.mk dep) = some F)
    (h : factsL args → ∀ (T : Nat → Prop) (w : World), (∀ b, T b → b < w.heap.size) → Sat ⟨P, w, fun _ => False, fun b => T b ∨ w.heap.size ≤ b, Γ, N, [], [], true⟩ (bodyPost P fn (Post T w res)) (.code c F [] ids0 [])) : Fun P Γ f args res :=
  fun T w vs hT hG ht => Fun.mkW dep hf hb hN hle hF (h ht.facts) T w vs hT hG ht
end
end Go.Proofs.YtokaegeediokoaaGreatDoor.V
end
section
namespace Go.Proofs.YtokaegeediokoaaGreatDoor.V
open Go.RowKit
def MFun (P : Program) (Γ : Glob) (f : FuncId) (args : List SV) (t : TypeId) (c c' : List SV) (res : SV) : Prop :=
  ∀ (T : Nat → Prop) (w : World) (vs : List Value) (b : Nat) (cs : List Value), (∀ k, T k → k < w.heap.size) → T b → GOk Γ T w → w.heap[b]? = some (.cells cs.toArray t (0, 0)) → Items E0 T w c cs → Tup E0 T w args vs →
    Calls P f (Value.pointer (some ⟨b, 0, none⟩) :: vs).toArray w fun e w' => ∃ v cs', e = .returned v ∧ Rep E0 T w' res v ∧ w'.heap[b]? = some (.cells cs'.toArray t (0, 0)) ∧ cs'.length = cs.length ∧ Items E0 T w' c' cs' ∧
      w'.os = w.os ∧ w'.tape = w.tape ∧ w'.output = w.output ∧ w.heap.size ≤ w'.heap.size ∧ ∀ k, k < w.heap.size → k ≠ b → w'.heap[k]? = w.heap[k]?
def MPost (T : Nat → Prop) (w : World) (t : TypeId) (b n : Nat) (c' : List SV) (res : SV) (e : Ending) (w' : World) : Prop := ∃ v cs', e = .returned v ∧ Rep E0 T w' res v ∧ w'.heap[b]? = some (.cells cs'.toArray t (0, 0)) ∧ cs'.length = n ∧ Items E0 T w' c' cs' ∧
      w'.os = w.os ∧ w'.tape = w.tape ∧ w'.output = w.output ∧ w.heap.size ≤ w'.heap.size ∧ ∀ k, k < w.heap.size → k ≠ b → w'.heap[k]? = w.heap[k]?
def pe0 (b : Nat) : Env := fun i => if i = 0 then some (some b) else none
def ids1 : List Nat := 1 :: 2 :: 3 :: 4 :: 5 :: 6 :: 7 :: 8 :: 9 :: 10 :: 11 :: 12 :: 13 :: 14 :: 15 :: 16 :: 17 :: 18 :: 19 :: 20 :: 21 :: 22 :: 23 :: 24 :: 25 :: 26 :: 27 :: 28 :: 29 :: 30 :: 31 :: 32 :: 33 :: 34 :: 35 :: 36 :: 37 :: 38 :: 39 :: 40 :: []
@[reducible] def mctx (P : Program) (Γ : Glob) (N : Nat) (T : Nat → Prop) (w : World) (b : Nat) : Ctx := ⟨P, w, fun k => k = b, fun k => T k ∧ k ≠ b, Γ, N, [0], [⟨pe0 b, .e, fun _ => undef⟩], false⟩
theorem sup_ids {l : List Nat} {n : Nat} {U : Nat → Prop} (hl : ∀ i, i < l.length → l[i]? = some (n + i)) (hU : ∀ k, n ≤ k → U k) : Sup l U := by
  induction l generalizing n U with
  | nil => trivial
  | cons i r ih =>
    have hi : i = n := by simpa using hl 0 (by simp)
    refine ⟨hU i (by omega), ih (n := n + 1) (fun j hj => ?_) fun k hk => ⟨hU k (by omega), by omega⟩⟩
    have := hl (j + 1) (by simpa using hj)
    simpa [Nat.add_assoc, Nat.add_comm 1 j] using this
section
variable {P : Program} {Γ : Glob} {f : FuncId} {fn : Func} {c : Code} {N : Nat} {args : List SV} {res : SV} {F : Tr} {t : TypeId} {cl cl' : List SV}
theorem MFun.mk (dep : Nat) (hf : P.funcs[f]? = some fn) (hb : fn.body = some c) (hN : fn.ntmps = N) (hle : Nat.ble (args.length + 1) N = true) (hF : argT 0 (.ptr 0 0 :: args) (Tr.mk dep) = some F)
    (h : factsL args → factsL cl → ∀ (T : Nat → Prop) (w : World) (b : Nat), (∀ k, T k → k < w.heap.size) → T b → Sat (mctx P Γ N T w b) (bodyPost P fn (MPost T w t b (wI cl) cl' res)) (.code c F [(0, .cells t cl)] ids1 [])) : MFun P Γ f args t cl cl' res := by
  intro T w vs b cs hT hTb hG hbk hI ht
  have hle' := Nat.le_of_ble_eq_true hle
  have hlen := ht.len
  have hE : pe0 b 0 = some (some b) := rfl
  have hne : ∀ i x, pe0 b i = some x → i = 0 ∧ x = some b := fun i x hx => by
    unfold pe0 at hx
    split at hx
    · rename_i e; cases hx; exact ⟨e, rfl⟩
    · cases hx
  have htr : ∀ k, trk (fun k => T k ∧ k ≠ b) [(0, .cells t cl)] (pe0 b) k → T k := fun k hk => by
    rcases hk with ⟨id, B, hf, hEk⟩ | h0
    · have := (hne _ _ hEk).2
      cases this
      exact hTb
    · exact h0.1
  have hup : ∀ i x, E0 i = some x → pe0 b i = some x := fun i x hx => by cases hx
  have hwl := (wI_len hI).symm
  rw [hwl]
  refine calls_of_wp hf hb (h ht.facts hI.facts T w b hT hTb (fun k => k ≠ 0) (pe0 b) _ w (sup_ids (n := 1) (by decide) (fun k hk => by omega)) ⟨rfl, ?_, fun t' s hs => ?_, ⟨fun id B hf => ?_, fun id id' b' h1 h2 h3 h4 => ?_⟩, fun id b' hf hEk => .inr ?_, fun k hk => by simp [pe0, hk], ⟨rfl, rfl, rfl, Chg.refl _ w⟩, fun k hk => .inl ⟨hT k hk.1, hk.2⟩, hG.mono (fun k _ hk => htr k hk) (Chg.refl _ w), fun p hp id x hx => ?_, fun p hp t' s hs => ?_⟩)
  · simp only [Array.size_append, List.size_toArray, Array.size_replicate, List.length_cons, hlen, hN]; omega
  · have ht2 : Tup (pe0 b) (trk (fun k => T k ∧ k ≠ b) [(0, .cells t cl)] (pe0 b)) w (.ptr 0 0 :: args) (Value.pointer (some ⟨b, 0, none⟩) :: vs) :=
      .cons _ _ _ _ (.ptr 0 0 b hE) (ht.mono hup (fun k _ hk => htr k hk) (Chg.refl _ w))
    rcases argT_get hF ht2 t' s hs with ⟨q1, _⟩ | ⟨_, v, q2, q3⟩ | ⟨_, q2⟩
    · omega
    · have hlt : t' < (Value.pointer (some ⟨b, 0, none⟩) :: vs).length := by simpa using (List.getElem?_eq_some_iff.1 q2).1
      have : ((Value.pointer (some ⟨b, 0, none⟩) :: vs).toArray ++ Array.replicate (fn.ntmps - (Value.pointer (some ⟨b, 0, none⟩) :: vs).toArray.size) undef).getD t' undef = v := by
        rw [Array.getD_eq_getD_getElem?, Array.getElem?_append_left (by simpa using hlt)]
        simp only [Nat.sub_zero] at q2
        simpa using congrArg (fun o => Option.getD o undef) q2
      rw [this]
      exact q3
    · rw [mk_get] at q2; cases q2
  · rw [find_cons] at hf
    split at hf
    · rename_i e
      cases hf
      subst e
      exact .inl ⟨b, hE, hT b hTb, cs, hbk, hI.mono hup (fun k _ hk => htr k hk) (Chg.refl _ w)⟩
    · simp [find] at hf
  · rw [(hne _ _ h3).1, (hne _ _ h4).1]
  · have := (hne _ _ hEk).2
    cases this
    rfl
  · simp only [List.mem_singleton] at hp
    subst hp
    have := hne _ _ hx
    rw [this.1]
    exact ⟨rfl, by rw [this.2]; rfl⟩
  · simp only [List.mem_singleton] at hp
    subst hp
    cases t' <;> simp [Tr.get] at hs
variable {e : Ex} {M : Mem} {ids : List Nat} {w : World} {b n : Nat} {T : Nat → Prop}
theorem mend_core {c2 : List SV} (hT : ∀ k, T k → k < w.heap.size) (hfM : find M 0 = some (.cells t c2)) (hc : Convs (del M 0) c2 cl') (he : e = .ret ∨ e = .normal) (hn : wI c2 = n)
    (hv : ∀ U E a w', Sup ids U → St (mctx P Γ N T w b) F M U E a w' → ∃ v s, (results fn a.tmps).run P w' = .ok v w' ∧ Rep E (trk (fun k => T k ∧ k ≠ b) M E) w' s v ∧ Conv (del M 0) s res) :
    Sat (mctx P Γ N T w b) (bodyPost P fn (MPost T w t b n cl' res)) (.ext e F M ids []) := by
  intro U E a w' hsup hst
  obtain ⟨v, s, h1, h2, h3⟩ := hv U E a w' hsup hst
  have hE : E 0 = some (some b) := (hst.pin _ (List.mem_singleton.2 rfl) 0 (some b) rfl).2
  obtain ⟨hlt, cs, hh, hI⟩ := hst.mem.at hfM hE
  have hle : MLe (del M 0) M := fun id B hf => by
    rw [find_del] at hf
    split at hf
    · cases hf
    · exact hf
  have hM := hst.mem.le hle
  have hTT : ∀ k, k < w'.heap.size → T k → trk (fun k => T k ∧ k ≠ b) M E k := fun k _ hk => by
    by_cases hkb : k = b
    · subst hkb; exact .inl ⟨0, _, hfM, hE⟩
    · exact .inr ⟨hk, hkb⟩
  have ho : ∀ id k, (find (del M 0) id).isSome = true → E id = some (some k) → ¬ T k := fun id k hf hEk hTk => by
    obtain ⟨B, hB⟩ := Option.isSome_iff_exists.1 hf
    have hid : id ≠ 0 := fun e => by rw [find_del, if_pos e] at hB; cases hB
    have hfi := hle id B hB
    rcases hst.own id k (by rw [hfi]; rfl) hEk with h | h
    · have := hT k hTk
      dsimp only at h
      omega
    · dsimp only at h
      subst h
      exact hid (hst.mem.inj id 0 k (by rw [hfi]; rfl) (by rw [hfM]; rfl) hEk hE)
  have hpost : MPost T w t b n cl' res (.returned v) w' :=
    ⟨v, cs, rfl, Conv.ok hM hTT ho h3 h2, hh, (wI_len hI).symm.trans hn, Convs.items hM hTT ho hc hI, hst.kp.os, hst.kp.tape, hst.kp.output, hst.kp.chg.size, fun k hk hkb => hst.kp.chg.keep k hk hkb⟩
  rcases he with rfl | rfl <;> exact ⟨hst.defers, v, h1, hpost⟩
theorem Sat.mend1 {c2 : List SV} {r : ResultVar} {φ : List Prop} {s : SV} (hT : ∀ k, T k → k < w.heap.size) (hr : fn.results = #[r]) (h1 : resV P F M r = some (φ, s)) (hφ : AllP φ) (hfM : find M 0 = some (.cells t c2)) (hc : Convs (del M 0) c2 cl') (hs : Conv (del M 0) s res) (he : e = .ret ∨ e = .normal) (hn : wI c2 = n) :
    Sat (mctx P Γ N T w b) (bodyPost P fn (MPost T w t b n cl' res)) (.ext e F M ids []) :=
  mend_core hT hfM hc he hn fun U E a w' _ hst => by
    obtain ⟨v, q1, q2⟩ := resV_ok hst h1 hφ
    refine ⟨v, s, ?_, q1, hs⟩
    unfold results
    rw [hr]
    exact mapM_run1 q2
theorem Sat.mfin {x : Cfg} {Q : Ctx} {res' : SV} {cl2 : List SV} (h : Sat Q (bodyPost P fn (MPost T w t b n cl2 res')) x) (h1 : res = res') (h2 : cl' = cl2) : Sat Q (bodyPost P fn (MPost T w t b n cl' res)) x := by
  subst h1 h2
  exact h
end
section
variable {C : Ctx} {Q0 : Exit → Act → World → Prop} {F F' : Tr} {M M' : Mem} {ids : List Nat} {k : List Kont} {f : FuncId} {t : TypeId} {c c' : List SV} {args svs : List SV} {res : SV} {i : Nat}
theorem mcall_core {U : Nat → Prop} {E : Env} {a : Act} {w : World} (hst : St C F M U E a w) (hn : C.wide = false) (hspec : MFun C.P C.Γ f args t c c' res) (hf : find M i = some (.cells t c)) (hpc : pureL c) (hM : upd M i (.cells t c') = some M') {vs : List Value} {b : Nat} (hE : E i = some (some b)) (ht : Tup E0 (trk C.T0 M E) w args vs) :
    Calls C.P f (Value.pointer (some ⟨b, 0, none⟩) :: vs).toArray w fun e w' => ∃ v, e = .returned v ∧ Rep E0 (trk C.T0 M' E) w' res v ∧ St C F M' U E a w' := by
  obtain ⟨hlt, cs, hh, hI⟩ := hst.mem.at hf hE
  have hmine : mine M E b := ⟨i, _, hf, hE⟩
  refine (hspec (trk C.T0 M E) w vs b cs (hst.lt hn) (.inl hmine) hst.glob hh (hI.free_ hpc) ht).mono ?_
  rintro e w' ⟨v, cs', rfl, h1, h2, h3, h4, h5, h6, h7, h8, h9⟩
  have hfind := find_upd hM
  have htr : ∀ k, trk C.T0 M' E k ↔ trk C.T0 M E k := fun k => by
    constructor
    · rintro (⟨id, B, q1, q2⟩ | h0)
      · rw [hfind] at q1
        split at q1
        · rename_i e; subst e; exact .inl ⟨id, _, hf, q2⟩
        · exact .inl ⟨id, B, q1, q2⟩
      · exact .inr h0
    · rintro (⟨id, B, q1, q2⟩ | h0)
      · by_cases e : id = i
        · subst e; exact .inl ⟨id, .cells t c', by rw [hfind, if_pos rfl], q2⟩
        · exact .inl ⟨id, B, by rw [hfind, if_neg e]; exact q1, q2⟩
      · exact .inr h0
  have hteq : trk C.T0 M' E = trk C.T0 M E := funext fun k => propext (htr k)
  have hchg : Chg (mine M E) w w' := ⟨h8, fun k hk hnm => h9 k hk fun e => hnm (e ▸ hmine), fun k hk => by
    by_cases e : k = b
    · subst e; simp [World.shape?, hh, h2, h3]
    · simp [World.shape?, h9 k hk e]⟩
  have hchg2 := hchg.weak (T' := trk C.T0 M E) fun _ => .inl
  refine ⟨v, rfl, by rw [hteq]; exact h1, hst.go (fun _ _ h => h) (fun k _ hk => (htr k).1 hk) hchg h5 h6 h7 ⟨fun id B hB => ?_, fun id id' b' q1 q2 q3 q4 => ?_⟩ (fun id b' q1 q2 => ?_) hst.fresh⟩
  · rw [hfind] at hB
    split at hB
    · rename_i e
      subst e
      cases hB
      refine .inl ⟨b, hE, Nat.lt_of_lt_of_le hlt h8, cs', h2, ?_⟩
      rw [hteq]
      exact h4.mono (fun _ _ h => by cases h) (fun _ _ h => h) (Chg.refl _ w')
    · rename_i e
      rcases hst.mem.blk id B hB with ⟨b', q1, q2, q3⟩ | q1
      · refine .inl ⟨b', q1, Nat.lt_of_lt_of_le q2 h8, ?_⟩
        have hne : b' ≠ b := fun e2 => by
          subst e2
          exact e (hst.mem.inj id i b' (by rw [hB]; rfl) (by rw [hf]; rfl) q1 hE)
        rw [hteq]
        exact q3.mono (fun _ _ h => h) (fun _ _ h => h) hchg2 (h9 b' q2 hne)
      · exact .inr q1
  · have hs : ∀ j, (find M' j).isSome = true → (find M j).isSome = true := fun j hj => by
      rw [hfind] at hj
      split at hj
      · rename_i e; subst e; rw [hf]; rfl
      · exact hj
    exact hst.mem.inj id id' b' (hs id q1) (hs id' q2) q3 q4
  · refine hst.own id b' ?_ q2
    rw [hfind] at q1
    split at q1
    · rename_i e; subst e; rw [hf]; rfl
    · exact q1
theorem Sat.mcall {full rest : List Oper} {d : Option Tmp} {x : Operand} {xs : List Operand} {ats : Array TypeId} {type : TypeId} {pos : String} {after : Array Edge}
    (hspec : MFun C.P C.Γ f args t c c' res) (hn : C.wide = false) (hx : argsF C.Γ F x xs = some (f, .ptr i 0 :: svs)) (hc : callable C.P f = true) (hconv : Convs [] svs args) (hf : find M i = some (.cells t c)) (hpc : pureL c) (hM : upd M i (.cells t c') = some M') (hp : putD C.N F d (some res) some = some F') (h : Sat C Q0 (.reg full rest F' M' ids k)) :
    Sat C Q0 (.reg full (⟨d, .call ⟨.value x, ⟨xs⟩, ats⟩, type, pos, after, none⟩ :: rest) F M ids k) := by
  intro U E a w hsup hst
  obtain ⟨F1, h1, h2⟩ := putD_inv hp
  cases h1
  refine wpList_plain rfl fun K hK => ?_
  unfold Oper.wp
  obtain ⟨vs, ht, hex⟩ := argsF_ok hst.vw hx
  rw [hex, run_callFunc_go hc]
  cases ht with
  | cons _ v0 _ vs hr ht =>
  cases hr with
  | ptr _ _ b hE =>
  have hH : MOk E (trk C.T0 M E) [] w := ⟨fun id B hf => by simp [find] at hf, fun id id' b hf => by simp [find] at hf⟩
  have ht' := Convs.tups (T' := trk C.T0 M E) hH (fun _ _ h => h) (fun id b hf => by simp [find] at hf) hconv ht
  refine (mcall_core hst hn hspec hf hpc hM hE ht').mono ?_
  rintro e w' ⟨v, rfl, hr, hst'⟩
  exact hK _ _ (h U E _ w' hsup (hst'.putD h2 fun s' hs' => by cases hs'; exact hr.up))
theorem DSat.mcall {full rest : List Oper} {F0 : Tr} {M0 : Mem} {ids0 : List Nat} {n : Nat} {hist : List Ent} {d : Option Tmp} {x : Operand} {xs : List Operand} {ats : Array TypeId} {type : TypeId} {pos : String} {after : Array Edge}
    (hspec : MFun C.P C.Γ f args t c c' res) (hn : C.wide = false) (hx : argsF C.Γ F x xs = some (f, .ptr i 0 :: svs)) (hc : callable C.P f = true) (hconv : Convs [] svs args) (hf : find M i = some (.cells t c)) (hpc : pureL c) (hM : upd M i (.cells t c') = some M') (hp : putD C.N F d (some res) some = some F')
    (h : DSat C Q0 k full F0 M0 ids0 (n + 1) (⟨n, d, some res, none, [(i, some (.cells t c'))], [i], false⟩ :: hist) rest F' M' ids) :
    DSat C Q0 k full F0 M0 ids0 n hist (⟨d, .call ⟨.value x, ⟨xs⟩, ats⟩, type, pos, after, none⟩ :: rest) F M ids := by
  intro D
  obtain ⟨F1, h1, h2⟩ := putD_inv hp
  cases h1
  obtain ⟨p1, p2⟩ := putD_get h2
  have hlook : ∀ (M : Mem) (M' : Mem), upd M i (.cells t c') = some M' → ∀ id, find M' id = (look [(i, some (Blk.cells t c'))] id).getD (find M id) := fun M M' hM id => by
    rw [find_upd hM]
    simp only [look]
    by_cases e : id = i
    · subst e; simp
    · have : Nat.beq i id = false := by
        cases h : Nat.beq i id with
        | false => rfl
        | true => exact absurd (Nat.eq_of_beq_eq_true h).symm e
      rw [if_neg e, this]
      rfl
  refine h (D.step (fun ho Q K Fa Ma U E a w q1 q2 _ q3 hst hK => ?_) rfl rfl p2 (hlook _ _ hM) rfl)
  have hfa : find Ma i = some (.cells t c) := (q2 i (List.mem_singleton.2 rfl)).trans hf
  obtain ⟨Ma', hMa⟩ := upd_some (B' := .cells t c') hfa
  refine wpOp_plain ho rfl ?_
  unfold Oper.wp
  obtain ⟨vs, ht, hex⟩ := argsF_ok hst.vw (argsF_le (looks_le (F := F) q1 fun _ => rfl) hx)
  rw [hex, run_callFunc_go hc]
  cases ht with
  | cons _ v0 _ vs hr ht =>
  cases hr with
  | ptr _ _ b hE =>
  have hH : MOk E (trk C.T0 Ma E) [] w := ⟨fun id B hf => by simp [find] at hf, fun id id' b hf => by simp [find] at hf⟩
  have ht' := Convs.tups (T' := trk C.T0 Ma E) hH (fun _ _ h => h) (fun id b hf => by simp [find] at hf) hconv ht
  refine (mcall_core hst hn hspec hfa hpc hMa hE ht').mono ?_
  rintro e w' ⟨v, rfl, hr, hst'⟩
  obtain ⟨F2, hF2⟩ := tr_put Fa d (some res)
  exact hK F2 Ma' U E _ w' hF2 (hlook _ _ hMa) (fun k => by simp) (hst'.putG p1 hF2 fun s' hs' => by cases hs'; exact hr.up)
end
end Go.Proofs.YtokaegeediokoaaGreatDoor.V
end
section
namespace Go.Proofs.YtokaegeediokoaaGreatDoor.V
open Go.RowKit
theorem exec_copy {P : Program} {a : Act} {o : Oper} {s x : Operand} {t t' : TypeId} (ho : o.op = .call ⟨.builtin .copy, ⟨[s, x]⟩, ⟨[t, t']⟩⟩) {v : Value} {w w' : World} (h : (Builtin.copy_ #[t, t'] o.type #[a.eval s, a.eval x]).run P w = .ok v w') : (execOp a.eval o).run P w = .ok (.value v) w' := by
  obtain ⟨cs, hc⟩ := exec_call_builtin (a := a) ho
  rw [hc]
  simp only [builtin, Sem.run_bind]
  have : ([s, x].map a.eval).toArray = #[a.eval s, a.eval x] := rfl
  rw [this]
  simp [h]
theorem arr_rep {E : Env} {T : Nat → Prop} {w : World} {n : Nat} {m : List UInt8} (h : m.length = n) : Rep E T w (.arr n (.u8 m)) (.agg (bytesC m).toArray) := by
  refine .arr n (.u8 m) (bytesC m) (fun i => [.int .u8 ((m.getD i 0).toNat : Int)]) (fun i _ => rfl) (by rw [bytesC_len]; exact h) (by simp [EV.len, EV.sz, h]) (bytesC_one m) (fun i j v hi hv => ?_) (fun i hi => .one _ _ _ _ rfl (.int _ _ (inR_byte _)) .nil)
  match j, hv with
  | 0, hv =>
    simp at hv
    subst hv
    have := bytesC_at m i hi
    simpa [EV.sz] using this
  | j + 1, hv => simp at hv
theorem sizeF_size {P : Program} {t : TypeId} {n : Nat} (h : sizeF P t = some n) : (P.info? t).map (·.size) = some n := by
  unfold sizeF at h
  split at h
  · rename_i i hi
    simp only [Option.some.injEq] at h
    rw [hi]
    simp [h]
  · cases h
section
variable {C : Ctx} {Q0 : Exit → Act → World → Prop} {F F' : Tr} {M M' : Mem} {ids : List Nat} {k : List Kont} {i n : Nat} {t ta tb elem : TypeId} {old m : List UInt8}
theorem copy_core {U : Nat → Prop} {E : Env} {a : Act} {w : World} (hst : St C F M U E a w) {o : Oper} {x y : Operand} (ho : o.op = .call ⟨.builtin .copy, ⟨[x, y]⟩, ⟨[ta, tb]⟩⟩) (hu : C.P.underlying ta = some (.slice elem)) (hsz : sizeF C.P elem = some 1)
    (hx : opd C.Γ F x = some (.row i 0 1 0 n)) (hy : opd C.Γ F y = some (.ro (.u8 m))) (hn : 0 < n) (hf : find M i = some (.cells t [.arr n (.u8 old)])) (hm : m.length = n ∨ m.length = 0) (hM : upd M i (.cells t [.arr n (.u8 (if m.length = n then m else old))]) = some M') :
    ∃ w', (execOp a.eval o).run C.P w = .ok (.value (.int .i64 (m.length : Int))) w' ∧ St C F M' U E a w' := by
  have hrx := opd_rep hst.vw hx
  have hry := opd_rep hst.vw hy
  have hs1 := sizeF_size hsz
  generalize hvx : a.eval x = vx at hrx
  cases hrx with
  | row0 _ _ _ _ _ hE h0 => omega
  | row _ _ _ _ _ b o' c n' t' hE hs hoff hl ok =>
  have hc0 : c ≠ 0 := by omega
  obtain ⟨ho1, _⟩ := hoff hc0
  simp only [Nat.zero_mul, Nat.add_zero] at ho1
  subst ho1
  obtain ⟨hlt, cs, hh, hI⟩ := hst.mem.at hf hE
  cases hI with
  | one _ _ _ _ h1 => simp [SV.one] at h1
  | arr _ _ _ c1 cs' hra hl' =>
  cases hl'
  rw [List.append_nil] at hh
  have hlen1 := hra.arr_len
  obtain ⟨hol, hat⟩ := arr_u8_cells hra
  have key : ∀ (ad : Addr) (k' : Nat) (csrc : List Value), csrc.length = m.length → csrc = bytesC m → m.length ≤ n → a.eval y = .slice (some ad) m.length k' → (∀ j v, csrc[j]? = some v → w.cell? (ad.add j) = some v) →
      (execOp a.eval o).run C.P w = .ok (.value (.int .i64 (m.length : Int))) (w.setRow b (csrc ++ c1.drop m.length).toArray) := fun ad k' csrc q1 q2 q3 q4 q5 => by
    refine exec_copy ho ?_
    rw [hvx, q4]
    have := run_copy_row (P := C.P) w ta tb o.type elem b 0 n c ad m.length k' c1.toArray t csrc hu hs1 hh (by rw [q1]; exact (Nat.min_eq_left q3).symm) q5 (by simp [q1, hlen1]; omega) (by rw [q2]; exact bytesC_one m)
    rw [this]
    simp [goInt, q1]
  have fin : ∀ w1, (execOp a.eval o).run C.P w = .ok (.value (.int .i64 (m.length : Int))) w1 → (∃ cs2 : List Value, w1 = w.setRow b cs2.toArray ∧ cs2.length = c1.length ∧ ∀ E T w, Rep E T w (.arr n (.u8 (if m.length = n then m else old))) (.agg cs2.toArray)) →
      ∃ w', (execOp a.eval o).run C.P w = .ok (.value (.int .i64 (m.length : Int))) w' ∧ St C F M' U E a w' := fun w1 q1 ⟨cs2, q2, q3, q4⟩ => by
    subst q2
    refine ⟨_, q1, hst.upd_ hM hf hE hh q3 ⟨cs2, ?_, ?_⟩⟩
    · exact setRow_heap w b c1.toArray _ t (0, 0) hh
    · have := Items.arr (E := E) (T := trk C.T0 M' E) (w := w.setRow b cs2.toArray) n (.u8 (if m.length = n then m else old)) [] cs2 [] (q4 _ _ _) .nil
      rwa [List.append_nil] at this
  have hold : Rep E0 (fun _ => False) w (.arr n (.u8 old)) (.agg c1.toArray) := by
    have := Rep.free_ (E' := E0) hra (by simp [pureS, pureE])
    exact this.mono (fun _ _ h => h) (fun _ _ h => h.elim) (Chg.refl _ w)
  have holdc : ∀ (E : Env) (T : Nat → Prop) (w : World), Rep E T w (.arr n (.u8 old)) (.agg c1.toArray) := fun E T w => by
    have e : c1 = bytesC old := by
      refine List.ext_getElem? fun j => ?_
      by_cases hj : j < n
      · rw [hat j hj, bytesC_at old j (by omega)]
      · rw [List.getElem?_eq_none (by omega), List.getElem?_eq_none (by rw [bytesC_len]; omega)]
    rw [e]
    exact arr_rep hol
  by_cases hmn : m.length = n
  · generalize hvy : a.eval y = vy at hry
    cases hry with
    | ro0 _ h0 => simp only [EV.len] at h0; omega
    | ro1 _ _ h0 => simp only [EV.len] at h0; omega
    | ro _ bb oo n2 k2 c2 hT2 hn2 hc2 hr2 he2 hl2 ok2 hb2 =>
      simp only [EV.len, EV.sz, Nat.mul_one] at he2 hn2 hc2 hr2
      subst he2
      have hsrc : ∀ j v, (bytesC m)[j]? = some v → w.cell? ((⟨bb, oo, none⟩ : Addr).add j) = some v := fun j v hv => by
        rcases Nat.lt_or_ge j m.length with hj | hj
        · rw [bytesC_at m j hj] at hv
          cases hv
          have hI2 := hr2 j hj
          have hcj := hc2 j 0
          simp only [EV.items] at hI2
          generalize c2 j = cj at hI2 hcj
          cases hI2 with
          | one _ cv _ _ p0 pr pI =>
            cases pr
            rw [Lib.addr_add]
            exact hcj _ hj rfl
        · rw [List.getElem?_eq_none (by rw [bytesC_len]; exact hj)] at hv
          cases hv
      refine fin _ (key ⟨bb, oo, none⟩ k2 (bytesC m) (bytesC_len m) rfl (by omega) hvy hsrc) ⟨_, rfl, ?_, fun E T w => ?_⟩
      · simp [bytesC_len, hlen1, hmn]
      · rw [if_pos hmn, List.drop_of_length_le (by omega), List.append_nil]
        exact arr_rep hmn
  · have hm0 : m.length = 0 := hm.resolve_left hmn
    have hmnil : m = [] := List.eq_nil_of_length_eq_zero hm0
    subst hmnil
    have hself : ∀ w2, w2 = w → ∃ cs2 : List Value, w2 = w.setRow b cs2.toArray ∧ cs2.length = c1.length ∧ ∀ E T w, Rep E T w (.arr n (.u8 (if ([] : List UInt8).length = n then [] else old))) (.agg cs2.toArray) := fun w2 e => by
      refine ⟨c1, ?_, rfl, fun E T w => by rw [if_neg hmn]; exact holdc E T w⟩
      rw [e]
      exact (setRow_self w b c1.toArray t (0, 0) hh).symm
    have hsome : ∀ (ad : Addr) (k' : Nat), a.eval y = .slice (some ad) 0 k' → ∃ w', (execOp a.eval o).run C.P w = .ok (.value (.int .i64 ((([] : List UInt8)).length : Int))) w' ∧ St C F M' U E a w' := fun ad k' he => by
      have := key ad k' [] rfl rfl (Nat.zero_le _) he (fun j v hj => by simp at hj)
      refine fin _ this (hself _ ?_)
      simp only [List.nil_append, List.length_nil, List.drop_zero]
      exact setRow_self w b c1.toArray t (0, 0) hh
    generalize hvy : a.eval y = vy at hry
    cases hry with
    | ro0 _ h0 =>
      refine fin w ?_ (hself w rfl)
      refine exec_copy ho ?_
      rw [hvx, hvy]
      exact run_copy_nil (P := C.P) w ta tb o.type elem ⟨b, 0, none⟩ n c hu (by rw [hs1]; rfl)
    | ro1 _ ad h0 => exact hsome ad 0 hvy
    | ro _ bb oo n2 k2 c2 hT2 hn2 hc2 hr2 he2 hl2 ok2 hb2 =>
      simp only [EV.len, List.length_nil] at he2
      subst he2
      exact hsome ⟨bb, oo, none⟩ k2 hvy
theorem Sat.copy {full rest : List Oper} {d : Option Tmp} {x y : Operand} {type : TypeId} {pos : String} {after : Array Edge}
    (hu : C.P.underlying ta = some (.slice elem)) (hsz : sizeF C.P elem = some 1) (hx : opd C.Γ F x = some (.row i 0 1 0 n)) (hy : opd C.Γ F y = some (.ro (.u8 m))) (hn : Nat.blt 0 n = true) (hf : find M i = some (.cells t [.arr n (.u8 old)])) (hM : upd M i (.cells t [.arr n (.u8 (if m.length = n then m else old))]) = some M') (hm : m.length = n ∨ m.length = 0)
    (hp : putD C.N F d (some (.int .i64 (m.length : Int))) some = some F') (h : Sat C Q0 (.reg full rest F' M' ids k)) :
    Sat C Q0 (.reg full (⟨d, .call ⟨.builtin .copy, ⟨[x, y]⟩, ⟨[ta, tb]⟩⟩, type, pos, after, none⟩ :: rest) F M ids k) := by
  intro U E a w hsup hst
  obtain ⟨F1, h1, h2⟩ := putD_inv hp
  cases h1
  refine wpList_plain rfl fun K hK => ?_
  unfold Oper.wp
  obtain ⟨w', q1, q2⟩ := copy_core hst (o := ⟨d, .call ⟨.builtin .copy, ⟨[x, y]⟩, ⟨[ta, tb]⟩⟩, type, pos, after, none⟩) rfl hu hsz hx hy (by simpa using hn) hf hm hM
  rw [q1]
  have hlen : okLen m.length := by
    have hr := opd_rep hst.vw hy
    generalize a.eval y = vy at hr
    cases hr with
    | ro0 _ h0 => simp only [EV.len] at h0; rw [h0]; unfold okLen; omega
    | ro1 _ _ h0 => simp only [EV.len] at h0; rw [h0]; unfold okLen; omega
    | ro _ _ _ _ _ _ _ _ _ _ he hl ok _ => simp only [EV.len] at he; rw [← he]; unfold okLen at ok ⊢; omega
  unfold okLen at hlen
  exact hK _ _ (h U E _ w' hsup (q2.putD h2 fun s' hs' => by cases hs'; exact .int _ _ (inR_i64 (by omega) (by omega))))
theorem DSat.copy {full rest : List Oper} {F0 : Tr} {M0 : Mem} {ids0 : List Nat} {j : Nat} {hist : List Ent} {d : Option Tmp} {x y : Operand} {type : TypeId} {pos : String} {after : Array Edge}
    (hu : C.P.underlying ta = some (.slice elem)) (hsz : sizeF C.P elem = some 1) (hx : opd C.Γ F x = some (.row i 0 1 0 n)) (hy : opd C.Γ F y = some (.ro (.u8 m))) (hn : Nat.blt 0 n = true) (hf : find M i = some (.cells t [.arr n (.u8 old)])) (hM : upd M i (.cells t [.arr n (.u8 (if m.length = n then m else old))]) = some M') (hm : m.length = n ∨ m.length = 0)
    (hp : putD C.N F d (some (.int .i64 (m.length : Int))) some = some F')
    (h : DSat C Q0 k full F0 M0 ids0 (j + 1) (⟨j, d, some (.int .i64 (m.length : Int)), none, [(i, some (.cells t [.arr n (.u8 (if m.length = n then m else old))]))], [i], false⟩ :: hist) rest F' M' ids) :
    DSat C Q0 k full F0 M0 ids0 j hist (⟨d, .call ⟨.builtin .copy, ⟨[x, y]⟩, ⟨[ta, tb]⟩⟩, type, pos, after, none⟩ :: rest) F M ids := by
  intro D
  obtain ⟨F1, h1, h2⟩ := putD_inv hp
  cases h1
  obtain ⟨p1, p2⟩ := putD_get h2
  have hlook : ∀ (B : Blk) (M : Mem) (M' : Mem), upd M i B = some M' → ∀ id, find M' id = (look [(i, some B)] id).getD (find M id) := fun B M M' hM id => by
    rw [find_upd hM]
    simp only [look]
    by_cases e : id = i
    · subst e; simp
    · have : Nat.beq i id = false := by
        cases h : Nat.beq i id with
        | false => rfl
        | true => exact absurd (Nat.eq_of_beq_eq_true h).symm e
      rw [if_neg e, this]
      rfl
  refine h (D.step (fun ho Q K Fa Ma U E a w q1 q2 _ q3 hst hK => ?_) rfl rfl p2 (hlook _ _ _ hM) rfl)
  have hfa : find Ma i = some (.cells t [.arr n (.u8 old)]) := (q2 i (List.mem_singleton.2 rfl)).trans hf
  obtain ⟨Ma', hMa⟩ := upd_some (B' := .cells t [.arr n (.u8 (if m.length = n then m else old))]) hfa
  have hxa : opd C.Γ Fa x = some (.row i 0 1 0 n) := looks_le (F := F) q1 (fun _ => rfl) x (by simp [Op.operands, Call.operands]) _ hx
  have hya : opd C.Γ Fa y = some (.ro (.u8 m)) := looks_le (F := F) q1 (fun _ => rfl) y (by simp [Op.operands, Call.operands]) _ hy
  refine wpOp_plain ho rfl ?_
  unfold Oper.wp
  obtain ⟨w', r1, r2⟩ := copy_core hst (o := ⟨d, .call ⟨.builtin .copy, ⟨[x, y]⟩, ⟨[ta, tb]⟩⟩, type, pos, after, none⟩) rfl hu hsz hxa hya (by simpa using hn) hfa hm hMa
  rw [r1]
  have hlen : okLen m.length := by
    have hr := opd_rep hst.vw hya
    generalize a.eval y = vy at hr
    cases hr with
    | ro0 _ h0 => simp only [EV.len] at h0; rw [h0]; unfold okLen; omega
    | ro1 _ _ h0 => simp only [EV.len] at h0; rw [h0]; unfold okLen; omega
    | ro _ _ _ _ _ _ _ _ _ _ he hl ok _ => simp only [EV.len] at he; rw [← he]; unfold okLen at ok ⊢; omega
  unfold okLen at hlen
  obtain ⟨F2, hF2⟩ := tr_put Fa d (some (.int .i64 (m.length : Int)))
  exact hK F2 Ma' U E _ w' hF2 (hlook _ _ _ hMa) (fun k => by simp) (r2.putG p1 hF2 fun s' hs' => by cases hs'; exact .int _ _ (inR_i64 (by omega) (by omega)))
theorem Sat.freezeR {full rest : List Oper} {φ : List Prop} (wh : Bool) (id : Nat) (hz : frz C.wide C.pins ids wh id F M = some ⟨F', M', φ⟩) (hφ : AllP φ) (hn : Sat C Q0 (.reg full rest F' M' ids k)) : Sat C Q0 (.reg full rest F M ids k) := by
  intro U E a w _ hst
  obtain ⟨U', E', h1, h2⟩ := frz_ok hz hφ hst
  exact hn U' E' a w h1 h2
theorem Sat.goffM {full rest : List Oper} {d : Option Tmp} {op : Op} {type : TypeId} {pos : String} {after : Array Edge} {j : Nat} {want : Bool} {H : Prop} (v : SV) (hH : guardH F full j want = some H) (hh : ¬ H) (hp : putD C.N F d (some (.may H v)) some = some F') (h : Sat C Q0 (.reg full rest F' M ids k)) :
    Sat C Q0 (.reg full (⟨d, op, type, pos, after, some (j, want)⟩ :: rest) F M ids k) := by
  intro U E a w hsup hst
  have hy : ¬ (yielded full.toArray a.tmps j == some want) = true := fun hy => hh ((guardH_ok (full := full) hst hH).1 hy)
  obtain ⟨F1, h1, h2⟩ := putD_inv hp
  cases h1
  refine wpList_step fun K hK => ?_
  simp only [Region.wanted, hy]
  exact hK _ _ (h U E _ w hsup (hst.putD h2 fun s' hs' => by cases hs'; exact .may0 _ _ hh))
end
end Go.Proofs.YtokaegeediokoaaGreatDoor.V
end
section
namespace Go.Proofs.YtokaegeediokoaaGreatDoor.V
open Go.RowKit
section
variable {C : Ctx} {Q0 : Exit → Act → World → Prop} {F F' : Tr} {M M' : Mem} {ids : List Nat} {k : List Kont}
theorem Sat.one {X : IntKind → Bool} {full rest : List Oper} {o : Oper} {φ : List Prop} {ids' : List Nat} (h : step1 X C.P C.Γ C.N full o F M ids = some ⟨F', M', ids', φ⟩) (hφ : AllP φ) (hn : Sat C Q0 (.reg full rest F' M' ids' k)) : Sat C Q0 (.reg full (o :: rest) F M ids k) := by
  intro U E a w hsup hst
  exact step1_ok hst hsup h hφ.all fun U E a w h1 h2 => hn U E a w h1 h2
theorem Sat.enter {id : Nat} {ops : List Oper} (h : Sat C Q0 (.reg ops ops F M ids k)) : Sat C Q0 (.code (.region id ⟨ops⟩ false) F M ids k) :=
  fun U E a w hsup hst => wp_region_lit (h U E a w hsup hst)
end
end Go.Proofs.YtokaegeediokoaaGreatDoor.V
end
section
namespace Go.Proofs.YtokaegeediokoaaGreatDoor.V
open Go.RowKit
section
variable {C : Ctx} {Q0 : Exit → Act → World → Prop} {F F' F0 : Tr} {M M' M0 : Mem} {ids ids' ids0 : List Nat} {k : List Kont} {full rest : List Oper} {hist : List Ent} {i : Nat}
theorem Sat.call0 {d : Option Tmp} {x : Operand} {f : FuncId} {ats : Array TypeId} {type : TypeId} {pos : String} {after : Array Edge} {res : SV}
    (hspec : Fun C.P C.Γ f [] res) (hn : C.wide = false) (hx : argsF C.Γ F x [] = some (f, [])) (hc : callable C.P f = true) (hp : putD C.N F d (some res) some = some F') (h : Sat C Q0 (.reg full rest F' M ids k)) :
    Sat C Q0 (.reg full (⟨d, .call ⟨.value x, #[], ats⟩, type, pos, after, none⟩ :: rest) F M ids k) := Sat.call hspec hn hx hc .nil hp h
theorem DSat.call0 {d : Option Tmp} {x : Operand} {f : FuncId} {ats : Array TypeId} {type : TypeId} {pos : String} {after : Array Edge} {res : SV}
    (hspec : Fun C.P C.Γ f [] res) (hn : C.wide = false) (hx : argsF C.Γ F x [] = some (f, [])) (hc : callable C.P f = true) (hp : putD C.N F d (some res) some = some F')
    (h : DSat C Q0 k full F0 M0 ids0 (i + 1) (⟨i, d, some res, none, [], [], false⟩ :: hist) rest F' M ids) :
    DSat C Q0 k full F0 M0 ids0 i hist (⟨d, .call ⟨.value x, #[], ats⟩, type, pos, after, none⟩ :: rest) F M ids := DSat.call hspec hn hx hc .nil hp h
def hasAll (M : Mem) : List Nat → Bool
  | [] => true
  | i :: r => hasB M i && hasAll M r
def tidyK {α : Type} (M : Mem) : Tr → (Tr → Option α) → Option α
  | .e, K => K .e
  | .n l x r, K => tidyK M l fun l' => tidyK M r fun r' => match x with
    | none => K (.n l' none r')
    | some s => match hasAll M (idsOf s) with
      | true => K (.n l' (some s) r')
      | false => K (.n l' none r')
def tidyT (M : Mem) : Tr → Tr
  | .e => .e
  | .n l x r => match x with
    | none => .n (tidyT M l) none (tidyT M r)
    | some s => match hasAll M (idsOf s) with
      | true => .n (tidyT M l) (some s) (tidyT M r)
      | false => .n (tidyT M l) none (tidyT M r)
theorem tidyK_eq {α : Type} : ∀ {F : Tr} {K : Tr → Option α}, tidyK M F K = K (tidyT M F)
  | .e, K => rfl
  | .n l x r, K => by
    simp only [tidyK, tidyT]
    rw [tidyK_eq, tidyK_eq]
    cases x with
    | none => rfl
    | some s =>
      dsimp only
      cases hasAll M (idsOf s) <;> rfl
theorem tidyT_get : ∀ (F : Tr) (t : Nat) (s : SV), (tidyT M F).get t = some s → F.get t = some s
  | .e, t, s => fun h => by cases t <;> exact h
  | .n l x r, t, s => by
    have h1 := tidyT_get l
    have h2 := tidyT_get r
    intro h
    have key : ∀ y, (x = none → y = none) → (∀ z, y = some z → x = some z) → (Tr.n (tidyT M l) y (tidyT M r)).get t = some s → (Tr.n l x r).get t = some s := by
      intro y _ hy h
      cases t with
      | zero => exact hy _ h
      | succ t =>
        simp only [Tr.get] at h ⊢
        cases hb : Nat.beq (Nat.mod t 2) 0 with
        | true => rw [hb] at h; exact h1 _ _ h
        | false => rw [hb] at h; exact h2 _ _ h
    unfold tidyT at h
    cases x with
    | none => exact key none (fun h => h) (fun z hz => hz) h
    | some x =>
      dsimp only at h
      split at h
      · exact key (some x) (fun h => h) (fun z hz => hz) h
      · exact key none (fun _ => rfl) (fun z hz => by cases hz) h
theorem Sat.tidy (hz : tidyK M F some = some F') (hn : Sat C Q0 (.reg full rest F' M ids k)) : Sat C Q0 (.reg full rest F M ids k) := by
  rw [tidyK_eq] at hz
  cases hz
  intro U E a w hsup h
  exact hn U E a w hsup ⟨h.defers, h.size, fun t s hs => h.slots t s (tidyT_get _ _ _ hs), h.mem, h.own, h.fresh, h.kp, h.hid, h.glob, h.pin, h.held⟩
end
end Go.Proofs.YtokaegeediokoaaGreatDoor.V
end
section
namespace Go.Proofs.YtokaegeediokoaaGreatDoor.V
open Go.RowKit
theorem phi {p : Prop} (h : p := by ((try dsimp only [V.EV.sub, V.EV.len]) <;> (repeat' (first | exact AllP.nil | with_reducible refine AllP.cons ?_ ?_ | with_reducible apply And.intro)) <;> (first | assumption | exact True.intro | exact rfl | (show eqOk _ _ = true; kernel_rfl) | omega | decide | (simp only [V.EV.sub, V.EV.len, List.length_cons, List.length_nil, List.length_append, List.length_drop, List.length_take]; omega) | (simp only [IntKind.bits]; omega) | (show IntKind.min _ ≤ _ ∧ _ ≤ IntKind.max _; decide) | (apply inR_i64 <;> omega) | (apply inR_i64 <;> (try simp only [Int.reduceToNat, Int.reducePow, Int.reduceSub, Int.reduceMul, Int.reduceAdd, Nat.reducePow, Nat.reduceAdd, Nat.reduceSub]) <;> omega) | (apply inR_u64 <;> omega) | (apply inR_u32 <;> omega) | (apply inR_u8' <;> omega) | (intro _; first | contradiction | (show eqOk _ _ = true; kernel_rfl) | assumption | exact rfl | omega | (show IntKind.min _ ≤ _ ∧ _ ≤ IntKind.max _; decide) | (apply inR_i64 <;> omega) | (apply inR_i64 <;> (try simp only [Int.reduceToNat, Int.reducePow, Int.reduceSub, Int.reduceMul, Int.reduceAdd, Nat.reducePow, Nat.reduceAdd, Nat.reduceSub]) <;> omega) | (apply inR_u64 <;> omega) | (apply inR_u32 <;> omega) | (apply inR_u8' <;> omega) | (apply And.intro <;> first | omega | (simp only [IntKind.bits]; omega))) | (simp; done) | (simp_all; done) | (simp_all; omega))) <;> fail) : p := h
theorem pur {p : Prop} (h : p := by ((repeat' (first | exact True.intro | assumption | apply And.intro))) <;> fail) : p := h
theorem purX {p : Prop} (h : p := by ((repeat' (first | exact True.intro | assumption | (intro _ _; simp [pureL, pureS, pureE]; done) | apply And.intro))) <;> fail) : p := h
theorem cnv {p : Prop} (h : p := by ((repeat' (first | exact Convs.nil | apply Convs.cons | exact Conv.refl _ pur | (refine Conv.may _ _ _ ?_ ?_; first | exact rfl | assumption | (decide +kernel) | (simp_all; done) | omega) | exact Conv.nils _ rfl | (refine Conv.all _ _ _ _ _ rfl rfl ?_ ?_ <;> first | rfl | exact True.intro | assumption | omega) | (refine Conv.gx _ _ _ _ _ (Conv.all _ _ _ _ _ rfl rfl ?_ ?_) ?_; exact rfl; (refine fun i hi => ?_; rcases i with _ | _ | _ | _ | _ | _ | i <;> first | exact ⟨trivial, trivial⟩ | exact trivial | (exfalso; simp only [List.length_cons, List.length_nil] at hi; omega)); (intro i hi; rcases i with _ | _ | _ | _ | _ | _ | i <;> first | rfl | (exfalso; simp only [List.length_cons, List.length_nil] at hi; omega))) | apply Conv.agg | apply Conv.tup | apply Conv.fn | (refine Conv.pr _ _ _ _ rfl ?_ rfl ?_ <;> first | exact pur | decide)))) <;> fail) : p := h
theorem cnvX {p : Prop} (h : p := by ((repeat' (first | exact Convs.nil | apply Convs.cons | exact Conv.refl _ purX | (refine Conv.may _ _ _ ?_ ?_; first | exact rfl | assumption | (decide +kernel) | (simp_all; done) | omega) | exact Conv.nils _ rfl | (refine Conv.all _ _ _ _ _ rfl rfl ?_ ?_ <;> first | rfl | exact True.intro | assumption | omega) | (refine Conv.gx _ _ _ _ _ (Conv.all _ _ _ _ _ rfl rfl ?_ ?_) ?_; exact rfl; (refine fun i hi => ?_; rcases i with _ | _ | _ | _ | _ | _ | i <;> first | exact ⟨trivial, trivial⟩ | exact trivial | (exfalso; simp only [List.length_cons, List.length_nil] at hi; omega)); (intro i hi; rcases i with _ | _ | _ | _ | _ | _ | i <;> first | rfl | (exfalso; simp only [List.length_cons, List.length_nil] at hi; omega))) | apply Conv.agg | apply Conv.tup | apply Conv.fn | (refine Conv.pr _ _ _ _ rfl ?_ rfl ?_ <;> first | exact purX | decide)))) <;> fail) : p := h
end Go.Proofs.YtokaegeediokoaaGreatDoor.V
end
section
namespace Go.Proofs.YtokaegeediokoaaGreatDoor
open Go.RowKit V
set_option maxRecDepth 100000
set_option maxHeartbeats 8000000
set_option linter.unusedSimpArgs false
@[reducible] def XW : IntKind → Bool
  | .i64 => true
  | _ => false
def a32 (a b : Int) : Int := IntKind.u32.wrap (a + b)
def x32 (a b : Int) : Int := IntKind.u32.wrap ((BitVec.ofInt IntKind.u32.bits a ^^^ BitVec.ofInt IntKind.u32.bits b).toNat : Nat)
def n32 (a b : Int) : Int := IntKind.u32.wrap ((BitVec.ofInt IntKind.u32.bits a &&& BitVec.ofInt IntKind.u32.bits b).toNat : Nat)
def o32 (a b : Int) : Int := IntKind.u32.wrap ((BitVec.ofInt IntKind.u32.bits a ||| BitVec.ofInt IntKind.u32.bits b).toNat : Nat)
def c32 (a : Int) : Int := IntKind.u32.wrap ((BitVec.ofInt IntKind.u32.bits (if IntKind.u32.signed then -1 else IntKind.u32.max) ^^^ BitVec.ofInt IntKind.u32.bits a).toNat : Nat)
def sr32 (a b : Int) : Int := a.fdiv (2 ^ min b.toNat IntKind.u32.bits)
def sl32 (a b : Int) : Int := IntKind.u32.wrap (a * 2 ^ min b.toNat IntKind.u32.bits)
def ror (x n : Int) : Int := o32 (sr32 x n) (sl32 x (32 - n))
def wd (b : List UInt8) (t : Nat) : Int :=
  o32 (o32 (o32 (sl32 ((b.getD (4 * (t : Int)).toNat 0).toNat : Int) 24) (sl32 ((b.getD (4 * (t : Int) + 1).toNat 0).toNat : Int) 16)) (sl32 ((b.getD (4 * (t : Int) + 2).toNat 0).toNat : Int) 8)) ((b.getD (4 * (t : Int) + 3).toNat 0).toNat : Int)
def sg0 (x : Int) : Int := x32 (x32 (ror x 7) (ror x 18)) (sr32 x 3)
def sg1 (x : Int) : Int := x32 (x32 (ror x 17) (ror x 19)) (sr32 x 10)
def nxw (l : List Int) (n : Nat) : Int := a32 (a32 (a32 (l.getD n 0) (sg0 (l.getD (n + 1) 0))) (l.getD (n + 9) 0)) (sg1 (l.getD (n + 14) 0))
def schL (b : List UInt8) : Nat → List Int
  | 0 => (List.range 16).map (wd b)
  | n + 1 => schL b n ++ [nxw (schL b n) n]
theorem schL_len (b : List UInt8) : ∀ n, (schL b n).length = 16 + n
  | 0 => by simp [schL]
  | n + 1 => by simp [schL, schL_len b n]; omega
structure H8 where
  a : Int
  b : Int
  c : Int
  d : Int
  e : Int
  f : Int
  g : Int
  h : Int
def big0 (x : Int) : Int := x32 (x32 (ror x 2) (ror x 13)) (ror x 22)
def big1 (x : Int) : Int := x32 (x32 (ror x 6) (ror x 11)) (ror x 25)
def uOf (k w : Int) (s : H8) : Int := a32 (a32 (a32 (a32 s.h (big1 s.e)) (x32 (n32 s.e s.f) (n32 (c32 s.e) s.g))) k) w
def vOf (s : H8) : Int := a32 (big0 s.a) (x32 (x32 (n32 s.a s.b) (n32 s.a s.c)) (n32 s.b s.c))
def rnd (k w : Int) (s : H8) : H8 := ⟨a32 (uOf k w s) (vOf s), s.a, s.b, s.c, a32 s.d (uOf k w s), s.e, s.f, s.g⟩
def rnds (K W : List Int) (s : H8) : Nat → H8
  | 0 => s
  | n + 1 => rnd (K.getD n 0) (W.getD n 0) (rnds K W s n)
def add8 (s x : H8) : H8 := ⟨a32 s.a x.a, a32 s.b x.b, a32 s.c x.c, a32 s.d x.d, a32 s.e x.e, a32 s.f x.f, a32 s.g x.g, a32 s.h x.h⟩
@[reducible] def H8.v (s : H8) : List SV := [.int .u32 s.a, .int .u32 s.b, .int .u32 s.c, .int .u32 s.d, .int .u32 s.e, .int .u32 s.f, .int .u32 s.g, .int .u32 s.h]
def kL : List Int := [0x428a2f98, 0x71374491, 0xb5c0fbcf, 0xe9b5dba5, 0x3956c25b, 0x59f111f1, 0x923f82a4, 0xab1c5ed5,
  0xd807aa98, 0x12835b01, 0x243185be, 0x550c7dc3, 0x72be5d74, 0x80deb1fe, 0x9bdc06a7, 0xc19bf174,
  0xe49b69c1, 0xefbe4786, 0x0fc19dc6, 0x240ca1cc, 0x2de92c6f, 0x4a7484aa, 0x5cb0a9dc, 0x76f988da,
  0x983e5152, 0xa831c66d, 0xb00327c8, 0xbf597fc7, 0xc6e00bf3, 0xd5a79147, 0x06ca6351, 0x14292967,
  0x27b70a85, 0x2e1b2138, 0x4d2c6dfc, 0x53380d13, 0x650a7354, 0x766a0abb, 0x81c2c92e, 0x92722c85,
  0xa2bfe8a1, 0xa81a664b, 0xc24b8b70, 0xc76c51a3, 0xd192e819, 0xd6990624, 0xf40e3585, 0x106aa070,
  0x19a4c116, 0x1e376c08, 0x2748774c, 0x34b0bcb5, 0x391c0cb3, 0x4ed8aa4a, 0x5b9cca4f, 0x682e6ff3,
  0x748f82ee, 0x78a5636f, 0x84c87814, 0x8cc70208, 0x90befffa, 0xa4506ceb, 0xbef9a3f7, 0xc67178f2]
def h0 : H8 := ⟨0x6a09e667, 0xbb67ae85, 0x3c6ef372, 0xa54ff53a, 0x510e527f, 0x9b05688c, 0x1f83d9ab, 0x5be0cd19⟩
def blk (s : H8) (b : List UInt8) : H8 := add8 s (rnds kL (schL b 48) s 64)
def fillW (f : Nat → Int) (n x : Nat) : List Int := (List.range x).map f ++ List.replicate (n - x) 0
theorem fillW_len (f : Nat → Int) (n x : Nat) (h : x ≤ n) : (fillW f n x).length = n := by simp [fillW]; omega
theorem fillW_set (f : Nat → Int) (n x : Nat) (h : x < n) : (fillW f n x).set x (f x) = fillW f n (x + 1) := by
  refine List.ext_getElem (by simp [fillW]; omega) fun i h1 h2 => ?_
  simp only [fillW, List.getElem_set, List.getElem_append, List.length_map, List.length_range, List.getElem_map, List.getElem_range, List.getElem_replicate]
  repeat' split
  all_goals first | rfl | omega | (congr 1; omega) | (subst_vars; rfl) | skip
theorem sch_set (l : List Int) (m : Nat) (v : Int) (h : 0 < m) : (l ++ List.replicate m 0).set l.length v = (l ++ [v]) ++ List.replicate (m - 1) 0 := by
  obtain ⟨m, rfl⟩ : ∃ k, m = k + 1 := ⟨m - 1, by omega⟩
  rw [List.set_append_right _ _ (Nat.le_refl _), Nat.sub_self, List.replicate_succ, List.set_cons_zero, Nat.add_sub_cancel, List.append_assoc]
  rfl
theorem getD_app (l m : List Int) (i : Nat) (h : i < l.length) : (l ++ m).getD i 0 = l.getD i 0 := by
  simp only [List.getD_eq_getElem?_getD, List.getElem?_append_left h]
attribute [local irreducible] V.Sat V.DSat
theorem pror_spec {Γ : Glob} (x n : Int) (h0 : 0 ≤ n) (h1 : n ≤ 32) : Fun Tryz.prog Γ 179 [.int .u32 x, .int .i64 n] (.int .u32 (ror x n)) := by
  refine Fun.mk 6 Tryz.func179 rfl Tryz.ntmps179 rfl rfl fun T w0 => ?_
  repeat' (first
    | ((with_reducible apply Sat.run (X := XW)); exact rfl; (first | exact True.intro | (exact phi) | skip))
    | ((with_reducible apply Sat.drawn); kernel_rfl)
    | ((with_reducible apply DSat.run (X := XW)); exact rfl; (first | exact True.intro | (exact phi) | skip))
    | ((with_reducible apply DSat.fin); kernel_rfl) | fail)
  (refine Sat.fin (Sat.end1 rfl rfl rfl True.intro (.refl _ pur) (by first | exact .inl rfl | exact .inr rfl) (fun _ h => h)) ?_; rfl)
theorem rror_spec {Γ : Glob} (x n : Int) (h0 : 0 ≤ n) (h1 : n ≤ 32) : Fun Tryz.prog Γ 144 [.int .u32 x, .int .i64 n] (.int .u32 (ror x n)) := by
  refine Fun.mk 6 Tryz.func144 rfl Tryz.ntmps144 rfl rfl fun T w0 => ?_
  repeat' (first
    | ((with_reducible apply Sat.run (X := XW)); exact rfl; (first | exact True.intro | (exact phi) | skip))
    | ((with_reducible apply Sat.drawn); kernel_rfl)
    | ((with_reducible apply DSat.run (X := XW)); exact rfl; (first | exact True.intro | (exact phi) | skip))
    | ((with_reducible apply DSat.fin); kernel_rfl) | fail)
  (refine Sat.fin (Sat.end1 rfl rfl rfl True.intro (.refl _ pur) (by first | exact .inl rfl | exact .inr rfl) (fun _ h => h)) ?_; rfl)
end Go.Proofs.YtokaegeediokoaaGreatDoor
end
section
namespace Go.Proofs.YtokaegeediokoaaGreatDoor
open Go.RowKit V
set_option maxRecDepth 100000
set_option maxHeartbeats 8000000
set_option linter.unusedSimpArgs false
attribute [local irreducible] V.Sat V.DSat
@[reducible] def rtab : EV := .g 1 64 fun _ => [.arr 64 (.ints .u32 kL)]
@[reducible] def itab : EV := .g 1 8 fun _ => h0.v
@[reducible] def Γh : Glob := [(0, itab), (2, rtab)]
theorem V.Sat.mend0 {P : Program} {Γ : Glob} {N : Nat} {T : Nat → Prop} {w : World} {b n : Nat} {t : TypeId} {cl' c2 : List SV} {fn : Func} {F : Tr} {M : Mem} {ids : List Nat} {e : Ex} (hT : ∀ k, T k → k < w.heap.size) (hr : fn.results = #[]) (hfM : find M 0 = some (.cells t c2)) (hc : Convs (del M 0) c2 cl') (he : e = .ret ∨ e = .normal) (hn : wI c2 = n) :
    Sat (mctx P Γ N T w b) (bodyPost P fn (MPost T w t b n cl' (.tup []))) (.ext e F M ids []) :=
  mend_core hT hfM hc he hn fun _ _ _ _ _ _ => ⟨_, .tup [], results_none hr _ _ _, .tup _ [] .nil, .tup _ _ .nil⟩
def schT (b : List UInt8) (t : Nat) : List Int := schL b (t - 16) ++ List.replicate (64 - t) 0
theorem schT_len (b : List UInt8) (t : Nat) (h : 16 ≤ t) (h2 : t ≤ 64) : (schT b t).length = 64 := by
  simp [schT, schL_len]; omega
theorem schT_set (b : List UInt8) (t : Nat) (h : 16 ≤ t) (h2 : t < 64) : (schT b t).set (t : Int).toNat (a32 (a32 (a32 ((schT b t).getD ((t : Int) - 16).toNat 0) (sg0 ((schT b t).getD ((t : Int) - 15).toNat 0))) ((schT b t).getD ((t : Int) - 7).toNat 0)) (sg1 ((schT b t).getD ((t : Int) - 2).toNat 0))) = schT b (t + 1) := by
  obtain ⟨n, rfl⟩ : ∃ n, t = n + 16 := ⟨t - 16, by omega⟩
  have g : ∀ k, k < 16 + n → (schT b (n + 16)).getD k 0 = (schL b n).getD k 0 := fun k hk => by
    unfold schT
    rw [Nat.add_sub_cancel, getD_app _ _ _ (by rw [schL_len]; omega)]
  rw [show (((n + 16 : Nat) : Int) - 16).toNat = n by omega, show (((n + 16 : Nat) : Int) - 15).toNat = n + 1 by omega, show (((n + 16 : Nat) : Int) - 7).toNat = n + 9 by omega, show (((n + 16 : Nat) : Int) - 2).toNat = n + 14 by omega, g _ (by omega), g _ (by omega), g _ (by omega), g _ (by omega)]
  have hl : ((n + 16 : Nat) : Int).toNat = (schL b n).length := by rw [schL_len]; omega
  unfold schT
  rw [Nat.add_sub_cancel, hl, sch_set _ _ _ (by omega), show n + 16 + 1 - 16 = n + 1 by omega, schL, show 64 - (n + 16) - 1 = 64 - (n + 16 + 1) by omega]
  rfl
theorem pblock_spec (s : H8) (b : List UInt8) (hb : 64 ≤ b.length) : MFun Tryz.prog Γh 149 [.ro (.u8 b)] 217 s.v (blk s b).v (.tup []) := by
  have r2 := fun x => pror_spec (Γ := Γh) x 2 (by decide) (by decide)
  have r6 := fun x => pror_spec (Γ := Γh) x 6 (by decide) (by decide)
  have r7 := fun x => pror_spec (Γ := Γh) x 7 (by decide) (by decide)
  have r11 := fun x => pror_spec (Γ := Γh) x 11 (by decide) (by decide)
  have r13 := fun x => pror_spec (Γ := Γh) x 13 (by decide) (by decide)
  have r17 := fun x => pror_spec (Γ := Γh) x 17 (by decide) (by decide)
  have r18 := fun x => pror_spec (Γ := Γh) x 18 (by decide) (by decide)
  have r19 := fun x => pror_spec (Γ := Γh) x 19 (by decide) (by decide)
  have r22 := fun x => pror_spec (Γ := Γh) x 22 (by decide) (by decide)
  have r25 := fun x => pror_spec (Γ := Γh) x 25 (by decide) (by decide)
  refine MFun.mk 8 Tryz.func149 rfl Tryz.ntmps149 rfl rfl fun hf hg T w bb hT hTb => ?_
  clear hf hg
  repeat' (first
    | ((with_reducible apply Sat.run (X := XW)); exact rfl; (first | exact True.intro | (exact phi) | skip)) | fail)
  apply Sat.loop (α := Nat) (fun x => x ≤ 16) (fun x => 16 - x) 0 (fun x => [(25, .int .i64 (x : Int))]) (fun x => [(1, .cells 243 [.arr 64 (.ints .u32 (fillW (wd b) 64 x))])]) [] [] 0
  · intro x; exact rfl
  · intro x; exact rfl
  · exact rfl
  · exact rfl
  · ((repeat' (first | exact AllP.nil | with_reducible refine AllP.cons ?_ ?_)) <;> first | exact rfl | exact trivial | exact Int.natCast_add_one _ | exact ⟨rfl, rfl⟩ | exact ⟨rfl, rfl, rfl⟩ | exact ⟨rfl, rfl, rfl, rfl⟩ | exact ⟨rfl, .inl rfl⟩ | exact ⟨rfl, .inr rfl⟩ | exact pur | (intro _; exact rfl) | (intro _; exact trivial) | (intro _; exact pur))
  · exact Nat.zero_le _
  intro x hx
  have hl := fillW_len (wd b) 64 x (by omega)
  repeat' (first
    | ((with_reducible apply Sat.run (X := XW)); exact rfl; (first | exact True.intro | (exact phi) | skip))
    | ((with_reducible apply Sat.drawn); kernel_rfl)
    | ((with_reducible apply DSat.run (X := XW)); exact rfl; (first | exact True.intro | (exact phi) | skip))
    | ((with_reducible apply DSat.fin); kernel_rfl)
    | ((with_reducible apply Sat.cond_p); exact rfl; all_goals intro h) | fail)
  · refine Sat.back (x + 1) [] rfl ?_ (by omega) (by omega)
    have hs := fillW_set (wd b) 64 x (by omega)
    ((repeat' (first | exact AllP.nil | with_reducible refine AllP.cons ?_ ?_)) <;> first | exact rfl | exact trivial | exact Int.natCast_add_one _ | exact ⟨rfl, rfl⟩ | exact ⟨rfl, rfl, rfl⟩ | exact ⟨rfl, rfl, rfl, rfl⟩ | exact ⟨rfl, .inl rfl⟩ | exact ⟨rfl, .inr rfl⟩ | exact pur | (intro _; exact rfl) | (intro _; exact trivial) | (intro _; exact pur) | (exact congrArg (EV.ints .u32) hs))
  obtain rfl : x = 16 := by omega
  clear hl hx
  rw [show fillW (wd b) 64 16 = schT b 16 from rfl]
  repeat' (first
    | fail | fail)
  apply Sat.loop (α := Nat) (fun x => 16 ≤ x ∧ x ≤ 64) (fun x => 64 - x) 16 (fun x => [(6, .int .i64 (x : Int))]) (fun x => [(1, .cells 243 [.arr 64 (.ints .u32 (schT b x))])]) [] [] 0
  · intro x; exact rfl
  · intro x; exact rfl
  · exact rfl
  · exact rfl
  · ((repeat' (first | exact AllP.nil | with_reducible refine AllP.cons ?_ ?_)) <;> first | exact rfl | exact trivial | exact Int.natCast_add_one _ | exact ⟨rfl, rfl⟩ | exact ⟨rfl, rfl, rfl⟩ | exact ⟨rfl, rfl, rfl, rfl⟩ | exact ⟨rfl, .inl rfl⟩ | exact ⟨rfl, .inr rfl⟩ | exact pur | (intro _; exact rfl) | (intro _; exact trivial) | (intro _; exact pur))
  · exact ⟨Nat.le_refl _, by omega⟩
  rintro x ⟨hx1, hx2⟩
  have hl := schT_len b x hx1 hx2
  repeat' (first
    | ((with_reducible apply Sat.run (X := XW)); exact rfl; (first | exact True.intro | (exact phi) | skip))
    | ((with_reducible apply Sat.drawn); kernel_rfl)
    | ((with_reducible apply DSat.run (X := XW)); exact rfl; (first | exact True.intro | (exact phi) | skip))
    | ((with_reducible apply DSat.fin); kernel_rfl)
    | ((with_reducible apply Sat.cond_p); exact rfl; all_goals intro h)
    | ((with_reducible apply DSat.callR ((r7 _))); exact rfl; exact rfl; exact rfl; kernel_rfl; (exact cnv); exact rfl)
    | ((with_reducible apply DSat.callR ((r18 _))); exact rfl; exact rfl; exact rfl; kernel_rfl; (exact cnv); exact rfl)
    | ((with_reducible apply DSat.callR ((r17 _))); exact rfl; exact rfl; exact rfl; kernel_rfl; (exact cnv); exact rfl)
    | ((with_reducible apply DSat.callR ((r19 _))); exact rfl; exact rfl; exact rfl; kernel_rfl; (exact cnv); exact rfl) | fail)
  · refine Sat.back (x + 1) [] rfl ?_ ⟨by omega, by omega⟩ (by omega)
    have hs := schT_set b x hx1 (by omega)
    ((repeat' (first | exact AllP.nil | with_reducible refine AllP.cons ?_ ?_)) <;> first | exact rfl | exact trivial | exact Int.natCast_add_one _ | exact ⟨rfl, rfl⟩ | exact ⟨rfl, rfl, rfl⟩ | exact ⟨rfl, rfl, rfl, rfl⟩ | exact ⟨rfl, .inl rfl⟩ | exact ⟨rfl, .inr rfl⟩ | exact pur | (intro _; exact rfl) | (intro _; exact trivial) | (intro _; exact pur) | (exact congrArg (EV.ints .u32) hs))
  obtain rfl : x = 64 := by omega
  clear hl hx1 hx2
  obtain ⟨W, hW⟩ : ∃ W, W = schL b 48 := ⟨_, rfl⟩
  have hWl : W.length = 64 := by rw [hW, schL_len]
  rw [show schT b 64 = W by rw [hW]; simp [schT]]
  unfold blk
  rw [← hW]
  clear hW
  repeat' (first
    | fail | fail)
  apply Sat.loop (α := Nat) (fun x => x ≤ 64) (fun x => 64 - x) 0 (fun x => [(146, .int .i64 (x : Int)), (9, .int .u32 (rnds kL W s x).a), (10, .int .u32 (rnds kL W s x).b), (11, .int .u32 (rnds kL W s x).c), (12, .int .u32 (rnds kL W s x).d), (13, .int .u32 (rnds kL W s x).e), (14, .int .u32 (rnds kL W s x).f), (15, .int .u32 (rnds kL W s x).g), (16, .int .u32 (rnds kL W s x).h)]) (fun _ => []) [] [] 0
  · intro x; exact rfl
  · intro x; exact rfl
  · exact rfl
  · exact rfl
  · ((repeat' (first | exact AllP.nil | with_reducible refine AllP.cons ?_ ?_)) <;> first | exact rfl | exact trivial | exact Int.natCast_add_one _ | exact ⟨rfl, rfl⟩ | exact ⟨rfl, rfl, rfl⟩ | exact ⟨rfl, rfl, rfl, rfl⟩ | exact ⟨rfl, .inl rfl⟩ | exact ⟨rfl, .inr rfl⟩ | exact pur | (intro _; exact rfl) | (intro _; exact trivial) | (intro _; exact pur))
  · exact Nat.zero_le _
  intro x hx
  have hkl : kL.length = 64 := rfl
  obtain ⟨R, hR⟩ : ∃ R, R = rnds kL W s x := ⟨_, rfl⟩
  have hR1 : rnds kL W s (x + 1) = rnd (kL.getD (x : Int).toNat 0) (W.getD (x : Int).toNat 0) R := by rw [hR]; rfl
  rw [← hR]
  by_cases h64 : x < 64
  · have hc : (x : Int) < 64 := by omega
    repeat' (first
      | ((with_reducible apply Sat.run (X := XW)); exact rfl; (first | exact True.intro | (exact phi) | skip))
      | ((with_reducible apply Sat.drawn); kernel_rfl)
      | ((with_reducible apply DSat.run (X := XW)); exact rfl; (first | exact True.intro | (exact phi) | skip))
      | ((with_reducible apply DSat.fin); kernel_rfl)
      | ((with_reducible apply Sat.cond_pt); exact rfl; (try dsimp only [V.EV.sub, V.EV.len]); first | assumption | omega)
      | ((with_reducible apply Sat.callR ((r2 _))); exact rfl; exact rfl; exact rfl; kernel_rfl; (exact cnv); exact rfl)
      | ((with_reducible apply Sat.callR ((r13 _))); exact rfl; exact rfl; exact rfl; kernel_rfl; (exact cnv); exact rfl)
      | ((with_reducible apply Sat.callR ((r22 _))); exact rfl; exact rfl; exact rfl; kernel_rfl; (exact cnv); exact rfl)
      | ((with_reducible apply DSat.callR ((r6 _))); exact rfl; exact rfl; exact rfl; kernel_rfl; (exact cnv); exact rfl)
      | ((with_reducible apply DSat.callR ((r11 _))); exact rfl; exact rfl; exact rfl; kernel_rfl; (exact cnv); exact rfl)
      | ((with_reducible apply DSat.callR ((r25 _))); exact rfl; exact rfl; exact rfl; kernel_rfl; (exact cnv); exact rfl) | fail)
    refine Sat.back (x + 1) [] rfl ?_ (by omega) (by omega)
    rw [hR1]
    ((repeat' (first | exact AllP.nil | with_reducible refine AllP.cons ?_ ?_)) <;> first | exact rfl | exact trivial | exact Int.natCast_add_one _ | exact ⟨rfl, rfl⟩ | exact ⟨rfl, rfl, rfl⟩ | exact ⟨rfl, rfl, rfl, rfl⟩ | exact ⟨rfl, .inl rfl⟩ | exact ⟨rfl, .inr rfl⟩ | exact pur | (intro _; exact rfl) | (intro _; exact trivial) | (intro _; exact pur))
  obtain rfl : x = 64 := by omega
  rw [← hR]
  clear hR1 hR hkl hWl
  repeat' (first
    | ((with_reducible apply Sat.run (X := XW)); exact rfl; (first | exact True.intro | (exact phi) | skip))
    | ((with_reducible apply Sat.drawn); kernel_rfl)
    | ((with_reducible apply DSat.run (X := XW)); exact rfl; (first | exact True.intro | (exact phi) | skip))
    | ((with_reducible apply DSat.fin); kernel_rfl)
    | ((with_reducible apply Sat.cond_t); exact rfl)
    | ((with_reducible apply Sat.cond_f); exact rfl)
    | (with_reducible apply Sat.unroll 40)
    | (with_reducible apply Sat.again) | fail)
  refine Sat.mfin (Sat.mend0 hT rfl rfl (.cons _ _ _ _ (.refl _ trivial) (.cons _ _ _ _ (.refl _ trivial) (.cons _ _ _ _ (.refl _ trivial) (.cons _ _ _ _ (.refl _ trivial) (.cons _ _ _ _ (.refl _ trivial) (.cons _ _ _ _ (.refl _ trivial) (.cons _ _ _ _ (.refl _ trivial) (.cons _ _ _ _ (.refl _ trivial) .nil)))))))) (by first | exact .inl rfl | exact .inr rfl) rfl) rfl ?_
  rfl
end Go.Proofs.YtokaegeediokoaaGreatDoor
end
section
namespace Go.Proofs.YtokaegeediokoaaGreatDoor.V
open Go.RowKit
section
variable {C : Ctx} {Q0 : Exit → Act → World → Prop} {F F' F0 : Tr} {M M' M0 : Mem} {ids ids' ids0 : List Nat} {k : List Kont} {full rest : List Oper} {hist : List Ent} {i : Nat}
theorem DSat.goffM {d : Option Tmp} {op : Op} {type : TypeId} {pos : String} {after : Array Edge} {j : Nat} {want : Bool} {H : Prop} (v : SV) (hH : guardH F full j want = some H) (hh : ¬ H) (hp : putD C.N F d (some (.may H v)) some = some F')
    (h : DSat C Q0 k full F0 M0 ids0 (i + 1) (⟨i, d, some (.may H v), none, [], [], false⟩ :: hist) rest F' M ids) : DSat C Q0 k full F0 M0 ids0 i hist (⟨d, op, type, pos, after, some (j, want)⟩ :: rest) F M ids := by
  intro D
  obtain ⟨F1, h1, h2⟩ := putD_inv hp
  cases h1
  obtain ⟨p1, p2⟩ := putD_get h2
  refine h (D.step (fun ho Q K Fa Ma U E a w q1 q2 _ q3 hst hK => ?_) rfl rfl p2 (fun id => rfl) rfl)
  have hiff := guardH_ok (full := full) hst (guardH_le rfl q1 hH)
  have hy : ¬ (yielded full.toArray a.tmps j == some want) = true := fun hy => hh (hiff.1 hy)
  obtain ⟨F2, hF2⟩ := tr_put Fa d (some (.may H v))
  unfold wpOp
  simp only [List.getElem?_toArray, ho]
  simp only [Region.wanted, hy]
  exact hK F2 Ma U E _ w hF2 (fun id => rfl) (fun k => by simp) (hst.putG p1 hF2 fun s' hs' => by cases hs'; exact .may0 _ _ hh)
def setGK {α : Type} (Y : Nat) (g : Nat → List SV) : Mem → (Mem → Option α) → Option α
  | [], K => K []
  | (i, B) :: r, K => match Nat.beq i Y with
    | true => match B with
      | .row t (.g n sz _) => K ((i, .row t (.g n sz g)) :: r)
      | _ => none
    | false => setGK Y g r fun r' => K ((i, B) :: r')
theorem setGK_inv {α : Type} {Y : Nat} {g : Nat → List SV} {x : α} : ∀ {L : Mem} {K : Mem → Option α}, setGK Y g L K = some x → ∃ L', K L' = some x
  | [], K, h => ⟨_, h⟩
  | (i, B) :: r, K, h => by
    simp only [setGK] at h
    split at h
    · split at h
      · exact ⟨_, h⟩
      · cases h
    · obtain ⟨L', h'⟩ := setGK_inv h
      exact ⟨_, h'⟩
def nst (wide : Bool) (pins : List Nat) (ids : List Nat) (X Y : Nat) (g : Nat → List SV) (F : Tr) (M : Mem) : Option Frz :=
  frzTK M true X F fun F' => frzMK M true X M fun M1 => setGK Y g M1 fun M' => match intoF wide pins [(1000 + Y, none)] F M F' M' ids with
    | some φ => some ⟨F', M', φ⟩
    | none => none
theorem nst_ok {X Y : Nat} {g : Nat → List SV} {φ : List Prop} {U : Nat → Prop} {E : Env} {a : Act} {w : World} (h : nst C.wide C.pins ids X Y g F M = some ⟨F', M', φ⟩) (hφ : AllP φ) (hst : St C F M U E a w) : ∃ U' E', Sup ids U' ∧ St C F' M' U' E' a w := by
  unfold nst at h
  rw [frzTK_eq, frzMK_eq] at h
  obtain ⟨L', h⟩ := setGK_inv h
  split at h
  · rename_i ψ hi
    simp only [Option.some.injEq, Frz.mk.injEq] at h
    obtain ⟨rfl, rfl, rfl⟩ := h
    exact into_ok hst hi hφ
  · cases h
end
end Go.Proofs.YtokaegeediokoaaGreatDoor.V
end
section
namespace Go.Proofs.YtokaegeediokoaaGreatDoor.V
open Go.RowKit
section
def Ctx.at (C : Ctx) (w : World) (S T : Nat → Prop) (l : List (Nat × Nat)) : Ctx :=
  ⟨C.P, w, S, T, C.Γ, C.N, l.map (·.1), l.map fun p => ⟨fun i => if i = p.1 then some (some p.2) else none, .e, fun _ => undef⟩, C.wide⟩
structure Over (C : Ctx) (w : World) (S T : Nat → Prop) : Prop where
  kp : Kp C.W0 C.S w
  s : ∀ b, S b → C.W0.heap.size ≤ b ∨ C.S b
  t : ∀ b, C.T0 b → T b
structure Top (C : Ctx) : Prop where
  pins : C.pins = []
  hold : C.hold = []
  wide : C.wide = false
  hid : ∀ b, C.T0 b → b < C.W0.heap.size ∧ ¬ C.S b
theorem Kp.trans {W0 W1 w : World} {S S1 : Nat → Prop} (h : Kp W0 S W1) (h2 : Kp W1 S1 w) (hs : ∀ b, S1 b → W0.heap.size ≤ b ∨ S b) : Kp W0 S w := by
  refine ⟨h2.os.trans h.os, h2.tape.trans h.tape, h2.output.trans h.output, Nat.le_trans h.chg.size h2.chg.size, fun b hb hn => ?_, fun b hb => ?_⟩
  · refine (h2.chg.keep b (Nat.lt_of_lt_of_le hb h.chg.size) fun q => ?_).trans (h.chg.keep b hb hn)
    rcases hs b q with q | q
    · omega
    · exact hn q
  · exact (h2.chg.shape b (Nat.lt_of_lt_of_le hb h.chg.size)).trans (h.chg.shape b hb)
section
variable {C : Ctx} {Q0 : Exit → Act → World → Prop} {F F' : Tr} {M M' : Mem} {ids ids' : List Nat} {k : List Kont}
theorem St.up {w0 w : World} {S T : Nat → Prop} {l : List (Nat × Nat)} {U : Nat → Prop} {E : Env} {a : Act} (c : Top C) (o : Over C w0 S T) (h : St (C.at w0 S T l) F M U E a w) : St C F M U E a w := by
  have hT : ∀ b, b < w.heap.size → trk C.T0 M E b → trk T M E b := fun b _ hb => hb.elim .inl fun h0 => .inr (o.t b h0)
  refine ⟨h.defers, h.size, fun t s hs => (h.slots t s hs).mono (fun _ _ h => h) hT (Chg.refl _ w), ⟨fun id B hf => ?_, h.mem.inj⟩, fun id b hf hE => ?_, h.fresh, o.kp.trans h.kp o.s, fun b hb => .inl (c.hid b hb), h.glob.mono hT (Chg.refl _ w), ?_, ?_⟩
  · rcases h.mem.blk id B hf with ⟨b, h1, h2, h3⟩ | h1
    · exact .inl ⟨b, h1, h2, h3.mono (fun _ _ h => h) hT (Chg.refl _ w) rfl⟩
    · exact .inr h1
  · rcases h.own id b hf hE with h1 | h1
    · exact .inl (Nat.le_trans o.kp.chg.size h1)
    · exact o.s b h1
  · intro p hp; rw [c.hold] at hp; cases hp
  · intro p hp; rw [c.hold] at hp; cases hp
theorem Sat.up {w0 : World} {S T : Nat → Prop} {l : List (Nat × Nat)} {c' : Cfg} (c : Top C) (o : Over C w0 S T) (h : Sat C Q0 c') : Sat (C.at w0 S T l) Q0 c' := by
  cases c' with
  | reg full rest F M ids k => exact fun U E a w h1 h2 => h U E a w h1 (h2.up c o)
  | qreg full rest F M ids k => exact fun U E a w h1 h2 => h U E a w h1 (h2.up c o)
  | code cc F M ids k => exact fun U E a w h1 h2 => h U E a w h1 (h2.up c o)
  | ext e F M ids k => exact fun U E a w h1 h2 => h U E a w h1 (h2.up c o)
end
end
section
section
variable {C : Ctx} {Q0 : Exit → Act → World → Prop} {F F' G : Tr} {M M' : Mem} {ids : List Nat} {k : List Kont} {a b c : Code} {φ : List Prop}
theorem Sat.freezeC (wh : Bool) (id : Nat) (hz : frz C.wide C.pins ids wh id F M = some ⟨F', M', φ⟩) (hφ : AllP φ) (hn : Sat C Q0 (.code c F' M' ids k)) : Sat C Q0 (.code c F M ids k) := by
  intro U E a w _ hst
  obtain ⟨U', E', h1, h2⟩ := frz_ok hz hφ hst
  exact hn U' E' a w h1 h2
end
end
section
theorem St.anew {C : Ctx} {F : Tr} {M M' : Mem} {U U' : Nat → Prop} {E E' : Env} {a : Act} {w w' : World} {l : List (Nat × Nat)} (h : St C F M U E a w) (hE : ∀ i x, E i = some x → E' i = some x) (hw : Chg (trk C.T0 M E) w w') (T : Nat → Prop) (hT : ∀ b, T b → b < w'.heap.size ∧ ¬ mine M' E' b)
    (hTT : ∀ b, b < w.heap.size → trk T M' E' b → trk C.T0 M E b) (hm : MOk E' (trk T M' E') M' w') (hf : ∀ k, U' k → E' k = none) (hl : ∀ p ∈ l, E' p.1 = some (some p.2)) : St (C.at w' (mine M' E') T l) F M' U' E' a w' := by
  refine ⟨h.defers, h.size, fun t s hs => (h.slots t s hs).mono hE hTT hw, hm, fun id b hf hE => ?_, hf, ⟨rfl, rfl, rfl, Chg.refl _ w'⟩, fun b hb => .inl (hT b hb), h.glob.mono hTT hw, ?_, ?_⟩
  · right
    cases hq : find M' id with
    | none => rw [hq] at hf; cases hf
    | some B => exact ⟨id, B, hq, hE⟩
  · intro p hp id b hpe
    obtain ⟨q, hq, rfl⟩ := List.mem_map.1 hp
    dsimp only at hpe
    split at hpe
    · rename_i he
      subst he
      cases hpe
      exact ⟨List.elem_eq_true_of_mem (List.mem_map.2 ⟨q, hq, rfl⟩), hl q hq⟩
    · cases hpe
  · intro p hp t s hs
    obtain ⟨q, hq, rfl⟩ := List.mem_map.1 hp
    cases hs
end
section
structure Thing where
  own : World → (Nat → Prop) → Prop
  lt : ∀ {w S}, own w S → ∀ b, S b → b < w.heap.size
  kept : ∀ {w w' S}, own w S → (∀ b, S b → w'.heap[b]? = w.heap[b]?) → own w' S
structure AtX (C : Ctx) (O : Thing) (W : World) (S Sm : Nat → Prop) : Prop where
  kp : Kp C.W0 C.S W
  sp : ∀ b, S b → C.W0.heap.size ≤ b ∨ C.S b
  own : O.own W Sm
  new : ∀ b, Sm b → C.W0.heap.size ≤ b
@[reducible] def hidX (C : Ctx) (Sm : Nat → Prop) : Nat → Prop := fun b => C.T0 b ∨ Sm b
inductive Pos where
  | code (c : Code) (k : List Kont)
  | reg (full rest : List Oper) (k : List Kont)
  | ext (e : Ex) (k : List Kont)
@[reducible] def Pos.at : Pos → Tr → Mem → List Nat → Cfg
  | .code c k, F, M, ids => .code c F M ids k
  | .reg full rest k, F, M, ids => .reg full rest F M ids k
  | .ext e k, F, M, ids => .ext e F M ids k
section
variable {C : Ctx} {Q0 : Exit → Act → World → Prop} {F F' : Tr} {M M' : Mem} {ids ids' : List Nat} {W : World} {S Sm T : Nat → Prop} {l : List (Nat × Nat)} {U : Nat → Prop} {E : Env} {a : Act} {w : World}
theorem St.pinned (h : St (C.at W S T l) F M U E a w) {id p : Nat} (hl : (id, p) ∈ l) : E id = some (some p) :=
  (h.pin _ (List.mem_map.2 ⟨(id, p), hl, rfl⟩) id (some p) (by dsimp only; rw [if_pos rfl])).2
theorem AtX.here {O : Thing} (c : Top C) (hat : AtX C O W S Sm) (h : St (C.at W S (hidX C Sm) l) F M U E a w) : O.own w Sm :=
  O.kept hat.own fun b hb => h.kp.chg.keep b (O.lt hat.own b hb) (h.hid_ c.wide b (.inr hb)).2
theorem AtX.mine {O : Thing} (hat : AtX C O W S Sm) (h : St (C.at W S (hidX C Sm) l) F M U E a w) : ∀ b, mine M E b → C.W0.heap.size ≤ b ∨ C.S b := by
  rintro b ⟨j, B, q1, q2⟩
  rcases h.own j b (by rw [q1]; rfl) q2 with q | q
  · exact .inl (Nat.le_trans hat.kp.chg.size q)
  · exact hat.sp b q
theorem AtX.over {O : Thing} (hat : AtX C O W S Sm) : Over C W S (hidX C Sm) := ⟨hat.kp, hat.sp, fun _ => .inl⟩
end
section
variable {C : Ctx} {Q0 : Exit → Act → World → Prop} {F F' : Tr} {M M' : Mem} {ids ids' : List Nat} {k : List Kont} {l : List (Nat × Nat)} {U : Nat → Prop} {E : Env} {a : Act} {w : World}
def BackX (C : Ctx) {α : Type} (Ow : α → Thing) (l : List (Nat × Nat)) (ids : List Nat) (Fh : α → Tr) (Mh : α → Mem) (Cx : α → Prop) (m : α → Nat) (x : α) (a : Act) (w : World) : Prop :=
  ∃ x' W S Sm, Cx x' ∧ AtX C (Ow x') W S Sm ∧ m x' < m x ∧ ∃ U E, Sup ids U ∧ St (C.at W S (hidX C Sm) l) (Fh x') (Mh x') U E a w
theorem Sat.loopX {α : Type} {body : Code} {Fh : α → Tr} {Mh : α → Mem} {φ : List Prop} {W : World} {S Sm : Nat → Prop} (Ow : α → Thing) (Cx : α → Prop) (m : α → Nat) (x0 : α) (fr : α → List (Nat × SV)) (mr : α → List (Nat × Blk)) (dm : List Nat) (σ : List (Nat × Option Nat)) (n : Nat)
    (_hF : ∀ x, headT F body (fr x) = some (Fh x)) (_hM : ∀ x, headM M dm (mr x) = some (Mh x)) (_hi : dropN ids n = some ids') (hin : intoF C.wide (l.map (·.1)) σ F M (Fh x0) (Mh x0) ids' = some φ) (hφ : AllP φ) (h0 : Cx x0) (hat : AtX C (Ow x0) W S Sm)
    (step : ∀ x W S Sm, Cx x → AtX C (Ow x) W S Sm → Sat (C.at W S (hidX C Sm) l) Q0 (.code body (Fh x) (Mh x) ids' (.lp (BackX C Ow l ids' Fh Mh Cx m x) :: k))) :
    Sat (C.at W S (hidX C Sm) l) Q0 (.code (.loop body) F M ids k) := by
  intro U E a w hsup hst
  obtain ⟨U', E', h1, h2⟩ := into_ok hst hin hφ
  refine wp_loop_ghost (fun n a w => ∃ x W S Sm, Cx x ∧ AtX C (Ow x) W S Sm ∧ m x = n ∧ ∃ U E, Sup ids' U ∧ St (C.at W S (hidX C Sm) l) (Fh x) (Mh x) U E a w) (m x0) ⟨x0, W, S, Sm, h0, hat, rfl, U', E', h1, h2⟩ ?_
  rintro n a w ⟨x, W, S, Sm, hx, hat, rfl, U, E, hs, hst⟩
  refine wp_mono (step x W S Sm hx hat U E a w hs hst) ?_
  intro e a' w' hq
  cases e with
  | normal =>
    obtain ⟨x', W', S', Sm', q1, q2, q3, q4⟩ := hq
    exact ⟨m x', q3, x', W', S', Sm', q1, q2, rfl, q4⟩
  | exit id => exact hq
  | goto l => exact hq
  | ret => exact hq
  | panic v => exact hq
  | outgrown => exact hq
theorem Sat.backX {α : Type} {Fh : α → Tr} {Mh : α → Mem} {φ : List Prop} {ids0 : List Nat} {Ow : α → Thing} {Cx : α → Prop} {m : α → Nat} {x : α} {W : World} {S Sm : Nat → Prop} (x' : α) (σ : List (Nat × Option Nat)) (hin : intoF C.wide (l.map (·.1)) σ F M (Fh x') (Mh x') ids0 = some φ) (hφ : AllP φ) (hat : AtX C (Ow x') W S Sm) (hC : Cx x') (hm : m x' < m x) :
    Sat (C.at W S (hidX C Sm) l) Q0 (.ext .normal F M ids (.lp (BackX C Ow l ids0 Fh Mh Cx m x) :: k)) := by
  intro U E a w hsup hst
  obtain ⟨U', E', h1, h2⟩ := into_ok hst hin hφ
  exact ⟨x', W, S, Sm, hC, hat, hm, U', E', h1, h2⟩
theorem Sat.recell {pos : Pos} {id : Nat} {ty : TypeId} {sv sv' : List SV} (R : Env → Prop) (hR : ∀ U E a w, St C F M U E a w → R E) (hf : find M id = some (.cells ty sv)) (hI : ∀ E T w cs, R E → Items E T w sv cs → Items E T w sv' cs) (hu : upd M id (.cells ty sv') = some M') (h : Sat C Q0 (pos.at F M' ids)) : Sat C Q0 (pos.at F M ids) := by
  have key : ∀ U E a w, St C F M U E a w → St C F M' U E a w := fun U E a w hst => by
    have hfu := find_upd hu
    have hsome : ∀ j, (find M' j).isSome = true → (find M j).isSome = true := fun j hj => by
      rw [hfu] at hj
      split at hj
      · rename_i e; rw [e, hf]; rfl
      · exact hj
    have hT : ∀ b, b < w.heap.size → trk C.T0 M' E b → trk C.T0 M E b := by
      rintro b _ (⟨j, B, q1, q2⟩ | q)
      · obtain ⟨B', hB'⟩ := Option.isSome_iff_exists.1 (hsome j (by rw [q1]; rfl))
        exact .inl ⟨j, B', hB', q2⟩
      · exact .inr q
    refine hst.go (fun _ _ h => h) hT (Chg.refl _ w) rfl rfl rfl ⟨fun j B hj => ?_, fun j j' b h1 h2 => hst.mem.inj j j' b (hsome j h1) (hsome j' h2)⟩ (fun j b h1 h2 => hst.own j b (hsome j h1) h2) hst.fresh
    rw [hfu] at hj
    split at hj
    · rename_i e
      subst e
      cases hj
      rcases hst.mem.blk _ _ hf with ⟨b, q1, q2, cs, q3, q4⟩ | ⟨_, t, e, q2, _⟩
      · exact .inl ⟨b, q1, q2, cs, q3, hI _ _ _ _ (hR _ _ _ _ hst) (q4.mono (fun _ _ h => h) hT (Chg.refl _ w))⟩
      · cases q2
    · rcases hst.mem.blk _ _ hj with ⟨b, q1, q2, q3⟩ | q
      · exact .inl ⟨b, q1, q2, q3.mono (fun _ _ h => h) hT (Chg.refl _ w) rfl⟩
      · exact .inr q
  cases pos with
  | code c k => exact fun U E a w hs hst => h U E a w hs (key U E a w hst)
  | reg full rest k => exact fun U E a w hs hst => h U E a w hs (key U E a w hst)
  | ext e k => exact fun U E a w hs hst => h U E a w hs (key U E a w hst)
end
end
end Go.Proofs.YtokaegeediokoaaGreatDoor.V
end
section
namespace Go.Proofs.YtokaegeediokoaaGreatDoor
open Go.RowKit V
set_option maxRecDepth 100000
set_option maxHeartbeats 8000000
set_option linter.unusedSimpArgs false
theorem items_ints {E : Env} {T : Nat → Prop} {w : World} (k : IntKind) : ∀ (l : List Int) (cs : List Value), Items E T w (l.map (SV.int k)) cs → cs.length = l.length ∧ (∀ v ∈ cs, v.oneCell' = true) ∧ ∀ i (_ : i < l.length), ∃ v, cs[i]? = some v ∧ Items E T w [SV.int k (l.getD i 0)] [v]
  | [], cs, h => by
    cases h
    exact ⟨rfl, fun v hv => (by cases hv), fun i hi => absurd hi (Nat.not_lt_zero _)⟩
  | x :: l, cs, h => by
    cases h with
    | one _ c _ cs h1 hr hl =>
      obtain ⟨q1, q2, q3⟩ := items_ints k l cs hl
      refine ⟨by simp [q1], fun v hv => ?_, fun i hi => ?_⟩
      · rcases List.mem_cons.1 hv with rfl | hv
        · exact hr.oneCell h1
        · exact q2 v hv
      · cases i with
        | zero => exact ⟨c, rfl, .one _ _ _ _ h1 hr .nil⟩
        | succ i => exact q3 i (by simpa using hi)
theorem items_arr {E : Env} {T : Nat → Prop} {w : World} (k : IntKind) (l : List Int) (cs : List Value) (h : Items E T w (l.map (SV.int k)) cs) : Items E T w [.arr l.length (.ints k l)] cs := by
  obtain ⟨q1, q2, q3⟩ := items_ints k l cs h
  have := Items.arr (E := E) (T := T) (w := w) l.length (.ints k l) [] cs [] (.arr l.length (.ints k l) cs (fun i => [cs.getD i (.bool false)]) (fun i _ => rfl) q1 (Nat.mul_one _) q2 (fun i j v hi hj => ?_) (fun i hi => ?_)) .nil
  · rwa [List.append_nil] at this
  · have hi : i < l.length := hi
    cases j with
    | succ j => simp at hj
    | zero =>
      have hj : some (cs.getD i (.bool false)) = some v := hj
      cases hj
      show cs[i * 1 + 0]? = _
      rw [Nat.mul_one, Nat.add_zero, List.getD_eq_getElem?_getD, List.getElem?_eq_getElem (by omega)]
      rfl
  · have hi : i < l.length := hi
    obtain ⟨v, e1, e2⟩ := q3 i hi
    show Items E T w [SV.int k (l.getD i 0)] [cs.getD i (.bool false)]
    rw [List.getD_eq_getElem?_getD (l := cs), e1]
    exact e2
attribute [local irreducible] V.Sat V.DSat
theorem numbers_spec {Γ : Glob} : Fun Tryz.prog Γ 143 [] (.arr 64 (.ints .u32 kL)) := by
  refine Fun.mk 6 Tryz.func143 rfl Tryz.ntmps143 rfl rfl fun T w0 => ?_
  repeat' (first
    | ((with_reducible apply Sat.run (X := XW)); exact rfl; (first | exact True.intro | (exact phi) | skip)) | fail)
  refine Sat.recell (pos := .ext _ _) (id := 0) (ty := 210) (sv := kL.map (SV.int .u32)) (sv' := [.arr 64 (.ints .u32 kL)]) (fun _ => True) (fun _ _ _ _ _ => trivial) rfl (fun E T w cs _ h => items_arr .u32 kL cs h) rfl ?_
  (refine Sat.fin (Sat.end1 rfl rfl rfl True.intro (.refl _ pur) (by first | exact .inl rfl | exact .inr rfl) (fun _ h => h)) ?_; rfl)
theorem starts_spec {Γ : Glob} : Fun Tryz.prog Γ 75 [] (.agg h0.v) := by
  refine Fun.mk 6 Tryz.func75 rfl Tryz.ntmps75 rfl rfl fun T w0 => ?_
  repeat' (first
    | ((with_reducible apply Sat.run (X := XW)); exact rfl; (first | exact True.intro | (exact phi) | skip)) | fail)
  refine Sat.fin (Sat.end1 rfl rfl rfl True.intro (.refl _ ⟨trivial, trivial, trivial, trivial, trivial, trivial, trivial, trivial, trivial⟩) (by first | exact .inl rfl | exact .inr rfl) (fun _ h => h)) ?_
  rfl
theorem words_spec {Γ : Glob} (b : List UInt8) (hb : 64 ≤ b.length) : Fun Tryz.prog Γ 142 [.ro (.u8 b)] (.arr 64 (.ints .u32 (schL b 48))) := by
  have r7 := fun x => rror_spec (Γ := Γ) x 7 (by decide) (by decide)
  have r17 := fun x => rror_spec (Γ := Γ) x 17 (by decide) (by decide)
  have r18 := fun x => rror_spec (Γ := Γ) x 18 (by decide) (by decide)
  have r19 := fun x => rror_spec (Γ := Γ) x 19 (by decide) (by decide)
  refine Fun.mk 7 Tryz.func142 rfl Tryz.ntmps142 rfl rfl fun T w0 => ?_
  repeat' (first
    | ((with_reducible apply Sat.run (X := XW)); exact rfl; (first | exact True.intro | (exact phi) | skip)) | fail)
  apply Sat.loop (α := Nat) (fun x => x ≤ 16) (fun x => 16 - x) 0 (fun x => [(4, .int .i64 (x : Int))]) (fun x => [(1, .cells 210 [.arr 64 (.ints .u32 (fillW (wd b) 64 x))])]) [] [] 0
  · intro x; exact rfl
  · intro x; exact rfl
  · exact rfl
  · exact rfl
  · ((repeat' (first | exact AllP.nil | with_reducible refine AllP.cons ?_ ?_)) <;> first | exact rfl | exact trivial | exact Int.natCast_add_one _ | exact ⟨rfl, rfl⟩ | exact ⟨rfl, rfl, rfl⟩ | exact ⟨rfl, rfl, rfl, rfl⟩ | exact ⟨rfl, .inl rfl⟩ | exact ⟨rfl, .inr rfl⟩ | exact pur | (intro _; exact rfl) | (intro _; exact trivial) | (intro _; exact pur))
  · exact Nat.zero_le _
  intro x hx
  have hl := fillW_len (wd b) 64 x (by omega)
  repeat' (first
    | ((with_reducible apply Sat.run (X := XW)); exact rfl; (first | exact True.intro | (exact phi) | skip))
    | ((with_reducible apply Sat.drawn); kernel_rfl)
    | ((with_reducible apply DSat.run (X := XW)); exact rfl; (first | exact True.intro | (exact phi) | skip))
    | ((with_reducible apply DSat.fin); kernel_rfl)
    | ((with_reducible apply Sat.cond_p); exact rfl; all_goals intro h) | fail)
  · refine Sat.back (x + 1) [] rfl ?_ (by omega) (by omega)
    have hs := fillW_set (wd b) 64 x (by omega)
    ((repeat' (first | exact AllP.nil | with_reducible refine AllP.cons ?_ ?_)) <;> first | exact rfl | exact trivial | exact Int.natCast_add_one _ | exact ⟨rfl, rfl⟩ | exact ⟨rfl, rfl, rfl⟩ | exact ⟨rfl, rfl, rfl, rfl⟩ | exact ⟨rfl, .inl rfl⟩ | exact ⟨rfl, .inr rfl⟩ | exact pur | (intro _; exact rfl) | (intro _; exact trivial) | (intro _; exact pur) | (exact congrArg (EV.ints .u32) hs))
  obtain rfl : x = 16 := by omega
  clear hl hx
  rw [show fillW (wd b) 64 16 = schT b 16 from rfl]
  repeat' (first
    | fail | fail)
  apply Sat.loop (α := Nat) (fun x => 16 ≤ x ∧ x ≤ 64) (fun x => 64 - x) 16 (fun x => [(5, .int .i64 (x : Int))]) (fun x => [(1, .cells 210 [.arr 64 (.ints .u32 (schT b x))])]) [] [] 0
  · intro x; exact rfl
  · intro x; exact rfl
  · exact rfl
  · exact rfl
  · ((repeat' (first | exact AllP.nil | with_reducible refine AllP.cons ?_ ?_)) <;> first | exact rfl | exact trivial | exact Int.natCast_add_one _ | exact ⟨rfl, rfl⟩ | exact ⟨rfl, rfl, rfl⟩ | exact ⟨rfl, rfl, rfl, rfl⟩ | exact ⟨rfl, .inl rfl⟩ | exact ⟨rfl, .inr rfl⟩ | exact pur | (intro _; exact rfl) | (intro _; exact trivial) | (intro _; exact pur))
  · exact ⟨Nat.le_refl _, by omega⟩
  rintro x ⟨hx1, hx2⟩
  have hl := schT_len b x hx1 hx2
  repeat' (first
    | ((with_reducible apply Sat.run (X := XW)); exact rfl; (first | exact True.intro | (exact phi) | skip))
    | ((with_reducible apply Sat.drawn); kernel_rfl)
    | ((with_reducible apply DSat.run (X := XW)); exact rfl; (first | exact True.intro | (exact phi) | skip))
    | ((with_reducible apply DSat.fin); kernel_rfl)
    | ((with_reducible apply Sat.cond_p); exact rfl; all_goals intro h)
    | ((with_reducible apply DSat.callR ((r7 _))); exact rfl; exact rfl; exact rfl; kernel_rfl; (exact cnv); exact rfl)
    | ((with_reducible apply DSat.callR ((r18 _))); exact rfl; exact rfl; exact rfl; kernel_rfl; (exact cnv); exact rfl)
    | ((with_reducible apply DSat.callR ((r17 _))); exact rfl; exact rfl; exact rfl; kernel_rfl; (exact cnv); exact rfl)
    | ((with_reducible apply DSat.callR ((r19 _))); exact rfl; exact rfl; exact rfl; kernel_rfl; (exact cnv); exact rfl) | fail)
  · refine Sat.back (x + 1) [] rfl ?_ ⟨by omega, by omega⟩ (by omega)
    have hs := schT_set b x hx1 (by omega)
    ((repeat' (first | exact AllP.nil | with_reducible refine AllP.cons ?_ ?_)) <;> first | exact rfl | exact trivial | exact Int.natCast_add_one _ | exact ⟨rfl, rfl⟩ | exact ⟨rfl, rfl, rfl⟩ | exact ⟨rfl, rfl, rfl, rfl⟩ | exact ⟨rfl, .inl rfl⟩ | exact ⟨rfl, .inr rfl⟩ | exact pur | (intro _; exact rfl) | (intro _; exact trivial) | (intro _; exact pur) | (exact congrArg (EV.ints .u32) hs))
  obtain rfl : x = 64 := by omega
  (refine Sat.fin (Sat.end1 rfl rfl rfl True.intro (.refl _ pur) (by first | exact .inl rfl | exact .inr rfl) (fun _ h => h)) ?_; (rw [show schT b 64 = schL b 48 by simp [schT]]))
theorem rblock_spec {Γ : Glob} (s : H8) (b : List UInt8) (hb : 64 ≤ b.length) : Fun Tryz.prog Γ 77 [.agg s.v, .ro (.u8 b)] (.agg (blk s b).v) := by
  have r2 := fun x => rror_spec (Γ := Γ) x 2 (by decide) (by decide)
  have r6 := fun x => rror_spec (Γ := Γ) x 6 (by decide) (by decide)
  have r11 := fun x => rror_spec (Γ := Γ) x 11 (by decide) (by decide)
  have r13 := fun x => rror_spec (Γ := Γ) x 13 (by decide) (by decide)
  have r22 := fun x => rror_spec (Γ := Γ) x 22 (by decide) (by decide)
  have r25 := fun x => rror_spec (Γ := Γ) x 25 (by decide) (by decide)
  have hw := words_spec (Γ := Γ) b hb
  unfold blk
  have hWl : (schL b 48).length = 64 := by rw [schL_len]
  generalize schL b 48 = W at hw hWl ⊢
  have hn := numbers_spec (Γ := Γ)
  refine Fun.mk 7 Tryz.func77 rfl Tryz.ntmps77 rfl rfl fun T w0 => ?_
  repeat' (first
    | ((with_reducible apply Sat.run (X := XW)); exact rfl; (first | exact True.intro | (exact phi) | skip))
    | ((with_reducible apply Sat.drawn); kernel_rfl)
    | ((with_reducible apply DSat.run (X := XW)); exact rfl; (first | exact True.intro | (exact phi) | skip))
    | ((with_reducible apply DSat.fin); kernel_rfl)
    | ((with_reducible apply DSat.callR (hw)); exact rfl; exact rfl; exact rfl; kernel_rfl; (exact cnv); exact rfl)
    | ((with_reducible apply DSat.call0 (hn)); exact rfl; exact rfl; kernel_rfl; exact rfl) | fail)
  apply Sat.loop (α := Nat) (fun x => x ≤ 64) (fun x => 64 - x) 0 (fun x => [(8, .int .i64 (x : Int))]) (fun x => [(4, .cells 146 (rnds kL W s x).v)]) [] [] 0
  · intro x; exact rfl
  · intro x; exact rfl
  · exact rfl
  · exact rfl
  · ((repeat' (first | exact AllP.nil | with_reducible refine AllP.cons ?_ ?_)) <;> first | exact rfl | exact trivial | exact Int.natCast_add_one _ | exact ⟨rfl, rfl⟩ | exact ⟨rfl, rfl, rfl⟩ | exact ⟨rfl, rfl, rfl, rfl⟩ | exact ⟨rfl, .inl rfl⟩ | exact ⟨rfl, .inr rfl⟩ | exact pur | (intro _; exact rfl) | (intro _; exact trivial) | (intro _; exact pur))
  · exact Nat.zero_le _
  intro x hx
  have hkl : kL.length = 64 := rfl
  obtain ⟨R, hR⟩ : ∃ R, R = rnds kL W s x := ⟨_, rfl⟩
  have hR1 : rnds kL W s (x + 1) = rnd (kL.getD (x : Int).toNat 0) (W.getD (x : Int).toNat 0) R := by rw [hR]; rfl
  rw [← hR]
  by_cases h64 : x < 64
  · have hc : (x : Int) < 64 := by omega
    repeat' (first
      | ((with_reducible apply Sat.run (X := XW)); exact rfl; (first | exact True.intro | (exact phi) | skip))
      | ((with_reducible apply Sat.drawn); kernel_rfl)
      | ((with_reducible apply DSat.run (X := XW)); exact rfl; (first | exact True.intro | (exact phi) | skip))
      | ((with_reducible apply DSat.fin); kernel_rfl)
      | ((with_reducible apply Sat.cond_pt); exact rfl; (try dsimp only [V.EV.sub, V.EV.len]); first | assumption | omega)
      | ((with_reducible apply DSat.callR ((r2 _))); exact rfl; exact rfl; exact rfl; kernel_rfl; (exact cnv); exact rfl)
      | ((with_reducible apply DSat.callR ((r13 _))); exact rfl; exact rfl; exact rfl; kernel_rfl; (exact cnv); exact rfl)
      | ((with_reducible apply DSat.callR ((r22 _))); exact rfl; exact rfl; exact rfl; kernel_rfl; (exact cnv); exact rfl)
      | ((with_reducible apply DSat.callR ((r6 _))); exact rfl; exact rfl; exact rfl; kernel_rfl; (exact cnv); exact rfl)
      | ((with_reducible apply DSat.callR ((r11 _))); exact rfl; exact rfl; exact rfl; kernel_rfl; (exact cnv); exact rfl)
      | ((with_reducible apply DSat.callR ((r25 _))); exact rfl; exact rfl; exact rfl; kernel_rfl; (exact cnv); exact rfl) | fail)
    refine Sat.back (x + 1) [] rfl ?_ (by omega) (by omega)
    rw [hR1]
    ((repeat' (first | exact AllP.nil | with_reducible refine AllP.cons ?_ ?_)) <;> first | exact rfl | exact trivial | exact Int.natCast_add_one _ | exact ⟨rfl, rfl⟩ | exact ⟨rfl, rfl, rfl⟩ | exact ⟨rfl, rfl, rfl, rfl⟩ | exact ⟨rfl, .inl rfl⟩ | exact ⟨rfl, .inr rfl⟩ | exact pur | (intro _; exact rfl) | (intro _; exact trivial) | (intro _; exact pur))
  obtain rfl : x = 64 := by omega
  rw [← hR]
  clear hR1 hR hkl hWl
  repeat' (first
    | ((with_reducible apply Sat.run (X := XW)); exact rfl; (first | exact True.intro | (exact phi) | skip))
    | ((with_reducible apply Sat.drawn); kernel_rfl)
    | ((with_reducible apply DSat.run (X := XW)); exact rfl; (first | exact True.intro | (exact phi) | skip))
    | ((with_reducible apply DSat.fin); kernel_rfl)
    | ((with_reducible apply Sat.cond_t); exact rfl)
    | ((with_reducible apply Sat.cond_f); exact rfl)
    | (with_reducible apply Sat.unroll 40)
    | (with_reducible apply Sat.again) | fail)
  refine Sat.fin (Sat.end1 rfl rfl rfl True.intro (.refl _ ⟨trivial, trivial, trivial, trivial, trivial, trivial, trivial, trivial, trivial⟩) (by first | exact .inl rfl | exact .inr rfl) (fun _ h => h)) ?_
  rfl
end Go.Proofs.YtokaegeediokoaaGreatDoor
end
section
namespace Go.Proofs.YtokaegeediokoaaGreatDoor
open Go.RowKit V
set_option maxRecDepth 100000
set_option maxHeartbeats 8000000
set_option linter.unusedSimpArgs false
def zn (n : Nat) : Nat := (119 - n % 64) % 64
def lb8 (n : Nat) (k : Int) : UInt8 := UInt8.ofNat (IntKind.u8.wrap ((IntKind.u64.wrap (IntKind.u64.wrap (n : Int) * 8)).fdiv (2 ^ min k.toNat IntKind.u64.bits))).toNat
def len8 (n : Nat) : List UInt8 := [lb8 n 56, lb8 n 48, lb8 n 40, lb8 n 32, lb8 n 24, lb8 n 16, lb8 n 8, lb8 n 0]
def sfx (n : Nat) : List UInt8 := [128] ++ List.replicate (zn n) 0 ++ len8 n
def padL (b : List UInt8) : List UInt8 := b ++ sfx b.length
theorem zn_lt (n : Nat) : zn n < 64 := Nat.mod_lt _ (by omega)
theorem sfx_len (n : Nat) : (n + (sfx n).length) % 64 = 0 := by
  simp only [sfx, zn, len8, List.length_append, List.length_replicate, List.length_cons, List.length_nil]
  omega
def shaN (l : List UInt8) : Nat → H8
  | 0 => h0
  | m + 1 => blk (shaN l m) ((l.drop (64 * m)).take 64)
@[reducible] def H8.l (s : H8) : List Int := [s.a, s.b, s.c, s.d, s.e, s.f, s.g, s.h]
def ob (S : List Int) (i : Nat) : UInt8 := UInt8.ofNat (IntKind.u8.wrap ((S.getD ((i : Int) / 4).toNat 0).fdiv (2 ^ min (24 - 8 * ((i : Int) % 4)).toNat IntKind.u32.bits))).toNat
def outB (s : H8) : List UInt8 := (List.range 32).map (ob s.l)
def fillU (f : Nat → UInt8) (n x : Nat) : List UInt8 := (List.range x).map f ++ List.replicate (n - x) 0
theorem fillU_len (f : Nat → UInt8) (n x : Nat) (h : x ≤ n) : (fillU f n x).length = n := by simp [fillU]; omega
theorem fillU_set (f : Nat → UInt8) (n x : Nat) (h : x < n) : (fillU f n x).set x (f x) = fillU f n (x + 1) := by
  refine List.ext_getElem (by simp [fillU]; omega) fun i h1 h2 => ?_
  simp only [fillU, List.getElem_set, List.getElem_append, List.length_map, List.length_range, List.getElem_map, List.getElem_range, List.getElem_replicate]
  repeat' split
  all_goals first | rfl | omega | (congr 1; omega) | (subst_vars; rfl) | skip
def sha (b : List UInt8) : List UInt8 := outB (shaN (padL b) ((padL b).length / 64))
theorem sha_len (b : List UInt8) : (sha b).length = 32 := by simp [sha, outB]
attribute [local irreducible] V.Sat V.DSat
theorem padded_spec {Γ : Glob} (b : List UInt8) (hb : b.length ≤ 140737488355000) : Fun Tryz.prog Γ 76 [.ro (.u8 b)] (.ro (.u8 (padL b))) := by
  have hz := zn_lt b.length
  refine Fun.mk 6 Tryz.func76 rfl Tryz.ntmps76 rfl rfl fun T w0 => ?_
  repeat' (first
    | ((with_reducible apply Sat.run (X := XW)); exact rfl; (first | exact True.intro | (exact phi) | skip)) | fail)
  refine Sat.kill [5, 7, 8, 9, 10] rfl ?_
  apply Sat.loop (α := Nat) (fun x => x ≤ zn b.length) (fun x => zn b.length - x) 0 (fun x => [(3, .row 3 0 1 0 (b.length + 1 + x))]) (fun x => [(3, .row 5 (.u8 (b ++ [128] ++ List.replicate x 0)))]) [2] [] 0
  · intro x; exact rfl
  · intro x; exact rfl
  · exact rfl
  · exact rfl
  · ((repeat' (first | exact AllP.nil | with_reducible refine AllP.cons ?_ ?_)) <;> first | exact rfl | exact trivial | exact Int.natCast_add_one _ | (intro j _; simp [pureL, pureS, pureE]; done) | exact ⟨rfl, rfl, rfl, rfl⟩ | exact ⟨rfl, rfl, rfl, (by simp [EV.len, EV.sub]; try omega)⟩ | (simp [EV.len, EV.sub]; done))
  · exact Nat.zero_le _
  intro x hx
  have hl : (b ++ [128] ++ List.replicate x 0).length = b.length + 1 + x := by simp; omega
  generalize hL : b ++ [128] ++ List.replicate x (0 : UInt8) = L at hl
  by_cases hxz : x < zn b.length
  · have hm : ((b.length + 1 + x : Nat) : Int) % 64 ≠ 56 := by unfold zn at hxz; omega
    repeat' (first
      | ((with_reducible apply Sat.run (X := XW)); exact rfl; (first | exact True.intro | (exact phi) | skip))
      | ((with_reducible apply Sat.cond_pt); exact rfl; (try dsimp only [V.EV.sub, V.EV.len]); first | assumption | omega) | fail)
    refine Sat.back (x + 1) [(3, some 5)] rfl ?_ ?_ (by omega)
    · have e : L ++ [0] = b ++ [128] ++ List.replicate (x + 1) 0 := by rw [← hL, List.replicate_succ', List.append_assoc]
      ((repeat' (first | exact AllP.nil | with_reducible refine AllP.cons ?_ ?_)) <;> first | exact rfl | exact trivial | exact Int.natCast_add_one _ | (intro j _; simp [pureL, pureS, pureE]; done) | exact ⟨rfl, rfl, rfl, rfl⟩ | exact ⟨rfl, rfl, rfl, (by simp [EV.len, EV.sub]; try omega)⟩ | exact congrArg EV.u8 e)
    · omega
  · obtain rfl : x = zn b.length := by omega
    have hm : ((b.length + 1 + zn b.length : Nat) : Int) % 64 = 56 := by unfold zn; omega
    repeat' (first
      | ((with_reducible apply Sat.run (X := XW)); exact rfl; (first | exact True.intro | (exact phi) | skip))
      | ((with_reducible apply Sat.cond_t); exact rfl)
      | ((with_reducible apply Sat.cond_f); exact rfl)
      | ((with_reducible apply Sat.cond_pf); exact rfl; (try dsimp only [V.EV.sub, V.EV.len]); first | assumption | omega)
      | (with_reducible apply Sat.unroll 40)
      | (with_reducible apply Sat.again) | fail)
    refine Sat.fin (Sat.end1 rfl rfl rfl True.intro (.all _ _ _ _ _ rfl rfl ?_ trivial) (by first | exact .inl rfl | exact .inr rfl) (fun _ h => h)) ?_
    · simp [EV.len, EV.sub, hl]
    · rw [← hL]
      simp only [padL, sfx, List.append_assoc]
      rfl
theorem rsum_spec (b : List UInt8) (hb : b.length ≤ 140737488355000) : Fun Tryz.prog [] 33 [.ro (.u8 b)] (.arr 32 (.u8 (sha b))) := by
  have hp := padded_spec (Γ := []) b hb
  have hs := starts_spec (Γ := [])
  have hsh : sha b = outB (shaN (padL b) ((padL b).length / 64)) := rfl
  have hl0 := sfx_len b.length
  have hl : (padL b).length % 64 = 0 := by rw [padL, List.length_append]; exact hl0
  have hle : (padL b).length ≤ 140737488355328 := by
    have := zn_lt b.length
    simp only [padL, sfx, len8, List.length_append, List.length_replicate, List.length_cons, List.length_nil]
    omega
  rw [hsh]
  clear hsh hl0
  generalize padL b = L at hp hl hle ⊢
  refine Fun.mk 6 Tryz.func33 rfl Tryz.ntmps33 rfl rfl fun T w0 => ?_
  repeat' (first
    | ((with_reducible apply Sat.run (X := XW)); exact rfl; (first | exact True.intro | (exact phi) | skip))
    | ((with_reducible apply Sat.call0 (hs)); exact rfl; exact rfl; kernel_rfl; exact rfl)
    | ((with_reducible apply Sat.call (hp)); exact rfl; exact rfl; kernel_rfl; (exact cnv); exact rfl) | fail)
  apply Sat.loop (α := Nat) (fun m => 64 * m ≤ L.length) (fun m => L.length - 64 * m) 0 (fun m => [(6, .int .i64 ((64 * m : Nat) : Int))]) (fun m => [(1, .cells 146 (shaN L m).v)]) [] [] 0
  · intro x; exact rfl
  · intro x; exact rfl
  · exact rfl
  · exact rfl
  · ((repeat' (first | exact AllP.nil | with_reducible refine AllP.cons ?_ ?_)) <;> first | exact rfl | exact trivial | exact Int.natCast_add_one _ | (intro j _; simp [pureL, pureS, pureE]; done) | exact ⟨rfl, rfl, rfl, rfl⟩)
  · omega
  intro m hm
  by_cases hml : 64 * m < L.length
  · have hb := rblock_spec (Γ := []) (shaN L m) ((L.drop (64 * m)).take 64) (by rw [List.length_take, List.length_drop]; omega)
    have e1 : ((64 * m : Nat) : Int).toNat = 64 * m := rfl
    have e2 : (((64 * m : Nat) : Int) + 64).toNat - 64 * m = 64 := by omega
    have hb2 : Fun Tryz.prog [] 77 [.agg (shaN L m).v, .ro (.u8 ((L.drop ((64 * m : Nat) : Int).toNat).take ((((64 * m : Nat) : Int) + 64).toNat - ((64 * m : Nat) : Int).toNat)))] (.agg (blk (shaN L m) ((L.drop (64 * m)).take 64)).v) := by rw [e1, e2]; exact hb
    repeat' (first
      | ((with_reducible apply Sat.run (X := XW)); exact rfl; (first | exact True.intro | (exact phi) | skip))
      | ((with_reducible apply Sat.drawn); kernel_rfl)
      | ((with_reducible apply DSat.run (X := XW)); exact rfl; (first | exact True.intro | (exact phi) | skip))
      | ((with_reducible apply DSat.fin); kernel_rfl)
      | ((with_reducible apply Sat.cond_pt); exact rfl; (try dsimp only [V.EV.sub, V.EV.len]); first | assumption | omega)
      | ((with_reducible apply DSat.callR (hb2)); exact rfl; exact rfl; exact rfl; kernel_rfl; (exact cnv); exact rfl) | fail)
    refine Sat.back (m + 1) [] rfl ?_ (by omega) (by omega)
    ((repeat' (first | exact AllP.nil | with_reducible refine AllP.cons ?_ ?_)) <;> first | exact rfl | exact trivial | exact Int.natCast_add_one _ | (intro j _; simp [pureL, pureS, pureE]; done) | exact ⟨rfl, rfl, rfl, rfl⟩ | (show ((64 * m : Nat) : Int) + 64 = ((64 * (m + 1) : Nat) : Int); omega))
  · have hmm : L.length / 64 = m := by omega
    rw [hmm]
    generalize shaN L m = s
    repeat' (first
      | ((with_reducible apply Sat.run (X := XW)); exact rfl; (first | exact True.intro | (exact phi) | skip))
      | ((with_reducible apply Sat.cond_pf); exact rfl; (try dsimp only [V.EV.sub, V.EV.len]); first | assumption | omega) | fail)
    refine Sat.recell (pos := .code _ _) (id := 1) (ty := 146) (sv := s.l.map (SV.int .u32)) (sv' := [.arr 8 (.ints .u32 s.l)]) (fun _ => True) (fun _ _ _ _ _ => trivial) rfl (fun E T w cs _ h => items_arr .u32 s.l cs h) rfl ?_
    apply Sat.loop (α := Nat) (fun x => x ≤ 32) (fun x => 32 - x) 0 (fun x => [(7, .int .i64 (x : Int))]) (fun x => [(2, .cells 40 [.arr 32 (.u8 (fillU (ob s.l) 32 x))])]) [] [] 0
    · intro x; exact rfl
    · intro x; exact rfl
    · exact rfl
    · exact rfl
    · ((repeat' (first | exact AllP.nil | with_reducible refine AllP.cons ?_ ?_)) <;> first | exact rfl | exact trivial | exact Int.natCast_add_one _ | (intro j _; simp [pureL, pureS, pureE]; done) | exact ⟨rfl, rfl, rfl, rfl⟩)
    · exact Nat.zero_le _
    intro x hx
    have hl := fillU_len (ob s.l) 32 x hx
    have hsl : s.l.length = 8 := rfl
    repeat' (first
      | ((with_reducible apply Sat.run (X := XW)); exact rfl; (first | exact True.intro | (exact phi) | skip))
      | ((with_reducible apply Sat.cond_p); exact rfl; all_goals intro h) | fail)
    · refine Sat.back (x + 1) [] rfl ?_ (by omega) (by omega)
      have hs := fillU_set (ob s.l) 32 x (by omega)
      ((repeat' (first | exact AllP.nil | with_reducible refine AllP.cons ?_ ?_)) <;> first | exact rfl | exact trivial | exact Int.natCast_add_one _ | (intro j _; simp [pureL, pureS, pureE]; done) | exact ⟨rfl, rfl, rfl, rfl⟩ | (exact congrArg EV.u8 hs))
    obtain rfl : x = 32 := by omega
    (refine Sat.fin (Sat.end1 rfl rfl rfl True.intro (.refl _ pur) (by first | exact .inl rfl | exact .inr rfl) (fun _ h => h)) ?_; rfl)
end Go.Proofs.YtokaegeediokoaaGreatDoor
end
section
namespace Go.Proofs.YtokaegeediokoaaGreatDoor.V
open Go.RowKit
theorem run_equalIn_sl {P : Program} {t el : TypeId} (hu : P.underlying t = some (.slice el)) (d : Nat) (w : World) (q : Option Addr) (n c : Nat) : (Op.equalIn (d + 1) t (.slice q n c) (.slice none 0 0)).run P w = .ok q.isNone w := by
  unfold Op.equalIn
  simp only [Sem.run_bind, run_underlying hu, Result.andThen_ok]
  rcases q with _ | q <;> rfl
section
variable {C : Ctx} {Q0 : Exit → Act → World → Prop} {F F' F1 F2 : Tr} {M M' : Mem} {ids : List Nat} {k : List Kont} {full rest : List Oper}
theorem Sat.nilR {d : Option Tmp} {x : Operand} {t t' : TypeId} {type : TypeId} {pos : String} {after : Array Edge} {e : EV} {el : TypeId}
    (hu : C.P.underlying t = some (.slice el)) (hx : opd C.Γ F x = some (.ro e)) (hp1 : putD C.N F d (some (.bool true)) some = some F1) (hp2 : putD C.N F d (some (.bool false)) some = some F2)
    (h1 : e.len = 0 → Sat C Q0 (.reg full rest F1 M ids k)) (h2 : Sat C Q0 (.reg full rest F2 M ids k)) :
    Sat C Q0 (.reg full (⟨d, .binOp .eql t x (.const (.slice none 0 0)) t', type, pos, after, none⟩ :: rest) F M ids k) := by
  intro U E a w hsup hst
  obtain ⟨G1, e1, e2⟩ := putD_inv hp1
  cases e1
  obtain ⟨G2, e3, e4⟩ := putD_inv hp2
  cases e3
  refine wpList_plain rfl fun K hK => ?_
  unfold Oper.wp
  have hr := opd_rep hst.vw hx
  generalize hv : a.eval x = v at hr
  have run : ∀ b : Bool, ((∀ w' : World, (Op.equal t v (.slice none 0 0)).run C.P w' = .ok b w') ∧ (∀ w' : World, (eqGuard .eql t x (.const (.slice none 0 0)) v (.slice none 0 0)).run C.P w' = .ok () w') ∧ ∀ w' : World, (binOp .eql t v (.slice none 0 0)).run C.P w' = ((do pure (.bool (← Op.equal t v (.slice none 0 0))) : Sem Value)).run C.P w') → (execOp a.eval ⟨d, .binOp .eql t x (.const (.slice none 0 0)) t', type, pos, after, none⟩).run C.P w = .ok (.value (.bool b)) w := fun b ⟨q1, q2, q3⟩ => by
    have hc : a.eval (.const (.slice none 0 0)) = .slice none 0 0 := rfl
    unfold execOp
    simp only [hv, hc, Sem.run_bind, q2, Result.andThen_ok, q3, q1, Sem.run_pure]
  have eqn : ∀ (p : Option Addr) (n c : Nat), v = .slice p n c → ((∀ w' : World, (Op.equal t v (.slice none 0 0)).run C.P w' = .ok p.isNone w') ∧ (∀ w' : World, (eqGuard .eql t x (.const (.slice none 0 0)) v (.slice none 0 0)).run C.P w' = .ok () w') ∧ ∀ w' : World, (binOp .eql t v (.slice none 0 0)).run C.P w' = ((do pure (.bool (← Op.equal t v (.slice none 0 0))) : Sem Value)).run C.P w') := fun p n c hvv => by
    rw [hvv]
    refine ⟨fun w' => ?_, fun w' => ?_, fun w' => rfl⟩
    · exact run_equalIn_sl hu _ _ _ _ _
    · unfold eqGuard
      split <;> rfl
  cases hr with
  | ro0 _ h0 =>
    rw [run true (eqn none 0 0 rfl)]
    exact hK _ _ (h1 h0 U E _ _ hsup (hst.putD e2 fun s' hs' => by cases hs'; exact .bool _))
  | ro1 _ ad h0 =>
    rw [run false (eqn (some ad) 0 0 rfl)]
    exact hK _ _ (h2 U E _ _ hsup (hst.putD e4 fun s' hs' => by cases hs'; exact .bool _))
  | ro _ b o n c cc hT hn hc hr he hl ok hb =>
    rw [run false (eqn (some ⟨b, o, none⟩) n c rfl)]
    exact hK _ _ (h2 U E _ _ hsup (hst.putD e4 fun s' hs' => by cases hs'; exact .bool _))
variable {f : FuncId} {t : TypeId} {c c' : List SV} {args svs : List SV} {res : SV} {i : Nat}
theorem mcallR_core {U : Nat → Prop} {E : Env} {a : Act} {w : World} (hst : St C F M U E a w) (hn : C.wide = false) (hspec : MFun C.P C.Γ f args t c c' res) (hf : find M i = some (.cells t c)) (hpc : pureL c) (hM : upd M i (.cells t c') = some M') (hr1 : rigid res = true) (hr2 : V.rigid.rigids c' = true) {vs : List Value} {b : Nat} (hE : E i = some (some b)) (ht : Tup E0 (fun k => C.T0 k ∨ k = b) w args vs) :
    Calls C.P f (Value.pointer (some ⟨b, 0, none⟩) :: vs).toArray w fun e w' => ∃ v, e = .returned v ∧ (∀ (E : Env) (T : Nat → Prop) (w : World), Rep E T w res v) ∧ St C F M' U E a w' := by
  obtain ⟨hlt, cs, hh, hI⟩ := hst.mem.at hf hE
  have hmine : mine M E b := ⟨i, _, hf, hE⟩
  refine (hspec (fun k => C.T0 k ∨ k = b) w vs b cs (fun k hk => hk.elim (fun h => hst.lt hn k (.inr h)) fun e => e ▸ hlt) (.inr rfl) (hst.glob.mono (fun k _ hk => hk.elim .inr fun e => .inl (e ▸ hmine)) (Chg.refl _ w)) hh ((hI.free_ hpc).mono (fun _ _ h => h) (fun k _ hk => hk.elim .inr fun e => .inl (e ▸ hmine)) (Chg.refl _ w)) ht).mono ?_
  rintro e w' ⟨v, cs', rfl, h1, h2, h3, h4, h5, h6, h7, h8, h9⟩
  have hfind := find_upd hM
  have htr : ∀ k, trk C.T0 M' E k ↔ trk C.T0 M E k := fun k => by
    constructor
    · rintro (⟨id, B, q1, q2⟩ | h0)
      · rw [hfind] at q1
        split at q1
        · rename_i e; subst e; exact .inl ⟨id, _, hf, q2⟩
        · exact .inl ⟨id, B, q1, q2⟩
      · exact .inr h0
    · rintro (⟨id, B, q1, q2⟩ | h0)
      · by_cases e : id = i
        · subst e; exact .inl ⟨id, .cells t c', by rw [hfind, if_pos rfl], q2⟩
        · exact .inl ⟨id, B, by rw [hfind, if_neg e]; exact q1, q2⟩
      · exact .inr h0
  have hteq : trk C.T0 M' E = trk C.T0 M E := funext fun k => propext (htr k)
  have hchg : Chg (mine M E) w w' := ⟨h8, fun k hk hnm => h9 k hk fun e => hnm (e ▸ hmine), fun k hk => by
    by_cases e : k = b
    · subst e; simp [World.shape?, hh, h2, h3]
    · simp [World.shape?, h9 k hk e]⟩
  have hchg2 := hchg.weak (T' := trk C.T0 M E) fun _ => .inl
  refine ⟨v, rfl, fun E T w => h1.rigid_ hr1, hst.go (fun _ _ h => h) (fun k _ hk => (htr k).1 hk) hchg h5 h6 h7 ⟨fun id B hB => ?_, fun id id' b' q1 q2 q3 q4 => ?_⟩ (fun id b' q1 q2 => ?_) hst.fresh⟩
  · rw [hfind] at hB
    split at hB
    · rename_i e
      subst e
      cases hB
      refine .inl ⟨b, hE, Nat.lt_of_lt_of_le hlt h8, cs', h2, ?_⟩
      exact h4.rigid_ hr2
    · rename_i e
      rcases hst.mem.blk id B hB with ⟨b', q1, q2, q3⟩ | q1
      · refine .inl ⟨b', q1, Nat.lt_of_lt_of_le q2 h8, ?_⟩
        have hne : b' ≠ b := fun e2 => by
          subst e2
          exact e (hst.mem.inj id i b' (by rw [hB]; rfl) (by rw [hf]; rfl) q1 hE)
        rw [hteq]
        exact q3.mono (fun _ _ h => h) (fun _ _ h => h) hchg2 (h9 b' q2 hne)
      · exact .inr q1
  · have hs : ∀ j, (find M' j).isSome = true → (find M j).isSome = true := fun j hj => by
      rw [hfind] at hj
      split at hj
      · rename_i e; subst e; rw [hf]; rfl
      · exact hj
    exact hst.mem.inj id id' b' (hs id q1) (hs id' q2) q3 q4
  · refine hst.own id b' ?_ q2
    rw [hfind] at q1
    split at q1
    · rename_i e; subst e; rw [hf]; rfl
    · exact q1
theorem Sat.mcallR {full rest : List Oper} {d : Option Tmp} {x : Operand} {xs : List Operand} {ats : Array TypeId} {type : TypeId} {pos : String} {after : Array Edge}
    (hspec : MFun C.P C.Γ f args t c c' res) (hn : C.wide = false) (hx : argsF C.Γ F x xs = some (f, .ptr i 0 :: svs)) (hc : callable C.P f = true) (hr1 : rigid res = true) (hr2 : V.rigid.rigids c' = true) (hconv : Convs (del M i) svs args) (hf : find M i = some (.cells t c)) (hpc : pureL c) (hM : upd M i (.cells t c') = some M') (hp : putD C.N F d (some res) some = some F') (h : Sat C Q0 (.reg full rest F' M' ids k)) :
    Sat C Q0 (.reg full (⟨d, .call ⟨.value x, ⟨xs⟩, ats⟩, type, pos, after, none⟩ :: rest) F M ids k) := by
  intro U E a w hsup hst
  obtain ⟨F1, h1, h2⟩ := putD_inv hp
  cases h1
  refine wpList_plain rfl fun K hK => ?_
  unfold Oper.wp
  obtain ⟨vs, ht, hex⟩ := argsF_ok hst.vw hx
  rw [hex, run_callFunc_go hc]
  cases ht with
  | cons _ v0 _ vs hr ht =>
  cases hr with
  | ptr _ _ b hE =>
  have hsub : ∀ j B, find (del M i) j = some B → j ≠ i ∧ find M j = some B := fun j B hj => by
    rw [find_del] at hj
    split at hj
    · cases hj
    · rename_i hne; exact ⟨hne, hj⟩
  have hH : MOk E (trk C.T0 M E) (del M i) w := ⟨fun j B hj => hst.mem.blk j B (hsub j B hj).2, fun j j' b' q1 q2 q3 q4 => by
    obtain ⟨B, hB⟩ := Option.isSome_iff_exists.1 q1
    obtain ⟨B', hB'⟩ := Option.isSome_iff_exists.1 q2
    exact hst.mem.inj j j' b' (by rw [(hsub j B hB).2]; rfl) (by rw [(hsub j' B' hB').2]; rfl) q3 q4⟩
  have ht' := Convs.tups (T' := fun k => C.T0 k ∨ k = b) hH (fun k _ hk => hk.elim .inr fun e => .inl (e ▸ ⟨i, _, hf, hE⟩)) (fun j b' q1 q2 hk => by
    obtain ⟨B, hB⟩ := Option.isSome_iff_exists.1 q1
    obtain ⟨r1, r2⟩ := hsub j B hB
    rcases hk with hk | hk
    · exact hst.apart hn j b' (by rw [r2]; rfl) q2 hk
    · subst hk
      exact r1 (hst.mem.inj j i b' (by rw [r2]; rfl) (by rw [hf]; rfl) q2 hE)) hconv ht
  refine (mcallR_core hst hn hspec hf hpc hM hr1 hr2 hE ht').mono ?_
  rintro e w' ⟨v, rfl, hr, hst'⟩
  exact hK _ _ (h U E _ w' hsup (hst'.putD h2 fun s' hs' => by cases hs'; exact hr _ _ _))
end
theorem lenx {p : Prop} (h : p := by (first | with_reducible rfl | with_reducible assumption | (simp only [V.EV.len]; omega) | (simp [V.EV.len, V.EV.sub, *]; done) | (simp [V.EV.len, V.EV.sub, *]; omega)) <;> fail) : p := h
end Go.Proofs.YtokaegeediokoaaGreatDoor.V
end
section
namespace Go.Proofs.YtokaegeediokoaaGreatDoor
open Go.RowKit V
set_option maxRecDepth 100000
set_option maxHeartbeats 8000000
set_option linter.unusedSimpArgs false
theorem wd_take (b : List UInt8) (t : Nat) (h : t < 16) : wd (b.take 64) t = wd b t := by
  have g : ∀ k, k < 64 → (b.take 64).getD k 0 = b.getD k 0 := fun k hk => by
    simp only [List.getD_eq_getElem?_getD, List.getElem?_take, if_pos hk]
  unfold wd
  rw [g _ (by omega), g _ (by omega), g _ (by omega), g _ (by omega)]
theorem schL_take (b : List UInt8) : ∀ n, schL (b.take 64) n = schL b n
  | 0 => by
    simp only [schL]
    exact List.map_congr_left fun t ht => wd_take b t (by simpa using ht)
  | n + 1 => by simp only [schL, schL_take b n]
theorem blk_take (s : H8) (b : List UInt8) : blk s (b.take 64) = blk s b := by unfold blk; rw [schL_take]
theorem shaN_app (l m : List UInt8) : ∀ k, 64 * k ≤ l.length → shaN (l ++ m) k = shaN l k
  | 0, _ => rfl
  | k + 1, h => by
    have e : ((l ++ m).drop (64 * k)).take 64 = (l.drop (64 * k)).take 64 := by
      rw [List.drop_append_of_le_length (by omega), List.take_append_of_le_length (by rw [List.length_drop]; omega)]
    rw [shaN, shaN, shaN_app l m k (by omega), e]
attribute [local irreducible] V.Sat V.DSat
theorem psum_spec (b : List UInt8) (hb : b.length ≤ 140737488355000) : Fun Tryz.prog Γh 83 [.ro (.u8 b)] (.arr 32 (.u8 (sha b))) := by
  refine Fun.mk 7 Tryz.func83 rfl Tryz.ntmps83 rfl rfl fun T w0 => ?_
  repeat' (first
    | ((with_reducible apply Sat.run (X := XW)); exact rfl; (first | exact True.intro | (exact phi) | skip)) | fail)
  apply Sat.loop (α := Nat) (fun m => 64 * m ≤ b.length) (fun m => b.length - 64 * m) 0 (fun m => [(4, .ro (.u8 (b.drop (64 * m))))]) (fun m => [(1, .cells 217 (shaN b m).v)]) [] [] 0
  · intro x; exact rfl
  · intro x; exact rfl
  · exact rfl
  · exact rfl
  · ((repeat' (first | exact AllP.nil | with_reducible refine AllP.cons ?_ ?_)) <;> first | exact rfl | exact trivial | exact Int.natCast_add_one _ | (intro j _; simp [pureL, pureS, pureE]; done) | exact ⟨rfl, rfl, rfl, rfl⟩)
  · omega
  intro m hm
  have hdl : (b.drop (64 * m)).length = b.length - 64 * m := by rw [List.length_drop]
  by_cases hml : 64 * m + 64 ≤ b.length
  · have hbl := pblock_spec (shaN b m) (b.drop (64 * m)) (by omega)
    rw [← blk_take] at hbl
    generalize hD : b.drop (64 * m) = D at hdl hbl ⊢
    repeat' (first
      | ((with_reducible apply Sat.run (X := XW)); exact rfl; (first | exact True.intro | (exact phi) | skip))
      | ((with_reducible apply Sat.cond_pt); exact rfl; (try dsimp only [V.EV.sub, V.EV.len]); first | assumption | omega)
      | ((with_reducible apply Sat.mcall (hbl)); exact rfl; exact rfl; kernel_rfl; (exact cnv); exact rfl; exact pur; exact rfl; exact rfl) | fail)
    refine Sat.back (m + 1) [] rfl ?_ (by omega) (by omega)
    have e : List.take (D.length - 64) (List.drop 64 D) = b.drop (64 * (m + 1)) := by
      rw [← hD, List.drop_drop, List.take_of_length_le (by simp only [List.length_drop]; omega), show 64 * m + 64 = 64 * (m + 1) by omega]
    have e := congrArg EV.u8 e
    have es : shaN b (m + 1) = blk (shaN b m) (D.take 64) := by rw [shaN, hD]
    rw [es]
    (repeat' (first | exact AllP.nil | with_reducible refine AllP.cons ?_ ?_)) <;> first | with_reducible exact rfl | exact e | exact trivial | exact rfl
  · have hfull : padL b = b ++ sfx b.length := rfl
    have hlast : (padL b).drop (64 * m) = b.drop (64 * m) ++ sfx b.length := by rw [hfull, List.drop_append_of_le_length hm]
    have hsm : shaN b m = shaN (padL b) m := by rw [hfull, shaN_app _ _ _ hm]
    have hpl : (padL b).length % 64 = 0 := by rw [hfull, List.length_append]; exact sfx_len b.length
    have hout : sha b = outB (shaN (padL b) ((padL b).length / 64)) := rfl
    have hz := zn_lt b.length
    have hzz : (zn b.length) = (119 - b.length % 64) % 64 := rfl
    rw [hout, hsm]
    clear hout hsm
    generalize hD : b.drop (64 * m) = D at hdl hlast ⊢
    have hN : ((padL b).drop (64 * m)).length = (padL b).length - 64 * m := List.length_drop
    generalize hP : padL b = P at hlast hpl hN ⊢
    repeat' (first
      | ((with_reducible apply Sat.run (X := XW)); exact rfl; (first | exact True.intro | (exact phi) | skip))
      | ((with_reducible apply Sat.cond_t); exact rfl)
      | ((with_reducible apply Sat.cond_f); exact rfl)
      | ((with_reducible apply Sat.cond_pf); exact rfl; (try dsimp only [V.EV.sub, V.EV.len]); first | assumption | omega)
      | ((with_reducible apply Sat.inl 7 [] Tryz.func150 Tryz.ntmps150); exact rfl; exact rfl; kernel_rfl; exact rfl; exact rfl; exact rfl; exact rfl; ((repeat' (first | exact AllP.nil | with_reducible refine AllP.cons ?_ ?_)) <;> (first | exact True.intro | exact pur)); intro _ _)
      | ((with_reducible apply Sat.out1 (C := ⟨_, _, _, _, _, _, _, _, _⟩)); exact rfl; (first | exact .inl rfl | exact .inr rfl); exact rfl; (exact phi); exact rfl)
      | ((with_reducible apply Sat.nilR); exact rfl; exact rfl; exact rfl; exact rfl; intro h0) | fail)
    · have hD0 : D = [] := List.eq_nil_of_length_eq_zero h0
      refine Sat.kill [19, 20, 21, 22, 23, 24] rfl ?_
      apply Sat.loop (α := Nat) (fun x => x ≤ zn b.length) (fun x => zn b.length - x) 0 (fun x => [(5, .row 3 0 1 0 (D.length + 1 + x))]) (fun x => [(3, .row 5 (.u8 (D ++ [128] ++ List.replicate x 0)))]) [2] [] 0
      · intro x; exact rfl
      · intro x; exact rfl
      · exact rfl
      · exact rfl
      · ((repeat' (first | exact AllP.nil | with_reducible refine AllP.cons ?_ ?_)) <;> first | exact rfl | exact trivial | exact Int.natCast_add_one _ | (intro j _; simp [pureL, pureS, pureE]; done) | exact ⟨rfl, rfl, rfl, rfl⟩ | exact ⟨rfl, rfl, rfl, (by simp [EV.len, EV.sub, hD0]; try omega)⟩ | (simp [hD0]; done))
      · exact Nat.zero_le _
      intro x hx
      have hl : (D ++ [128] ++ List.replicate x 0).length = D.length + 1 + x := by simp; omega
      generalize hL : D ++ [128] ++ List.replicate x (0 : UInt8) = L at hl
      by_cases hxz : x < zn b.length
      · have hm : ((D.length + 1 + x : Nat) : Int) % 64 ≠ 56 := by omega
        repeat' (first
          | ((with_reducible apply Sat.run (X := XW)); exact rfl; (first | exact True.intro | (exact phi) | skip))
          | ((with_reducible apply Sat.cond_pt); exact rfl; (try dsimp only [V.EV.sub, V.EV.len]); first | assumption | omega) | fail)
        refine Sat.back (x + 1) [(3, some (3 + 2))] rfl ?_ ?_ (by omega)
        · have e : L ++ [0] = D ++ [128] ++ List.replicate (x + 1) 0 := by rw [← hL, List.replicate_succ', List.append_assoc]
          ((repeat' (first | exact AllP.nil | with_reducible refine AllP.cons ?_ ?_)) <;> first | exact rfl | exact trivial | exact Int.natCast_add_one _ | (intro j _; simp [pureL, pureS, pureE]; done) | exact ⟨rfl, rfl, rfl, rfl⟩ | exact ⟨rfl, rfl, rfl, (by simp [EV.len, EV.sub]; try omega)⟩ | exact congrArg EV.u8 e)
        · omega
      · obtain rfl : x = zn b.length := by omega
        have hm : ((D.length + 1 + zn b.length : Nat) : Int) % 64 = 56 := by omega
        repeat' (first
          | ((with_reducible apply Sat.run (X := XW)); exact rfl; (first | exact True.intro | (exact phi) | skip))
          | ((with_reducible apply Sat.cond_pf); exact rfl; (try dsimp only [V.EV.sub, V.EV.len]); first | assumption | omega) | fail)
        with_reducible apply Sat.unroll 40
        repeat' (first
          | ((with_reducible apply Sat.run (X := XW)); exact rfl; (first | exact True.intro | (exact phi) | skip))
          | ((with_reducible apply Sat.cond_t); exact rfl)
          | ((with_reducible apply Sat.cond_f); exact rfl)
          | (with_reducible apply Sat.again) | fail)
        have hLast : L ++ len8 b.length = P.drop (64 * m) := by
          rw [hlast, ← hL]
          simp only [sfx, List.append_assoc]
        have hLast2 : L ++ [lb8 b.length 56] ++ [lb8 b.length 48] ++ [lb8 b.length 40] ++ [lb8 b.length 32] ++ [lb8 b.length 24] ++ [lb8 b.length 16] ++ [lb8 b.length 8] ++ [lb8 b.length 0] = P.drop (64 * m) := by
          rw [← hLast]
          simp only [len8, List.append_assoc, List.cons_append, List.nil_append]
        have hN2 : P.length - 64 * m = L.length + 8 := by rw [← hN, ← hLast, List.length_append]; rfl
        refine Sat.kill [22, 33, 41, 42] rfl ?_
        apply Sat.loop (α := Nat) (fun j => 64 * m + 64 * j ≤ P.length) (fun j => P.length - 64 * j) 0 (fun j => [(5, .row 19 0 1 (64 * j) (P.length - 64 * m - 64 * j))]) (fun j => [(19, .row 5 (.u8 (P.drop (64 * m)))), (1, .cells 217 (shaN P (m + j)).v)]) [3 + 1, 3 + 3, 3 + 5, 3 + 7, 3 + 9, 3 + 11, 3 + 13, 3 + 15] [] 0
        · intro x; exact rfl
        · intro x; exact rfl
        · exact rfl
        · exact rfl
        · ((repeat' (first | exact AllP.nil | with_reducible refine AllP.cons ?_ ?_)) <;> first | exact rfl | exact trivial | exact Int.natCast_add_one _ | (intro j _; simp [pureL, pureS, pureE]; done) | exact ⟨rfl, rfl, rfl, rfl⟩ | exact ⟨rfl, rfl, rfl, (by simp [EV.len, EV.sub]; try omega)⟩ | exact congrArg EV.u8 hLast2)
        · omega
        intro j hj
        by_cases hjl : 64 * m + 64 * j < P.length
        · have hbl := pblock_spec (shaN P (m + j)) (((P.drop (64 * m)).drop (64 * j)).take (P.length - 64 * m - 64 * j)) (by simp only [List.length_take, List.length_drop]; omega)
          have hc : ((P.length - 64 * m - 64 * j : Nat) : Int) > 0 := by omega
          repeat' (first
            | ((with_reducible apply Sat.run (X := XW)); exact rfl; (first | exact True.intro | (exact phi) | skip))
            | ((with_reducible apply Sat.cond_pt); exact rfl; (try dsimp only [V.EV.sub, V.EV.len]); first | assumption | omega) | fail)
          refine Sat.mcallR hbl rfl rfl (by kernel_rfl) rfl rfl (Convs.cons _ _ _ _ (Conv.row _ _ _ _ _ (.u8 (P.drop (64 * m))) rfl rfl (by show 64 * j + (P.length - 64 * m - 64 * j) ≤ (P.drop (64 * m)).length; omega) trivial) .nil) rfl (by exact pur) rfl rfl ?_
          have hp1 : ((P.drop (64 * m)).drop (64 * j)).take (P.length - 64 * m - 64 * j) = P.drop (64 * (m + j)) := by
            rw [List.drop_drop, List.take_of_length_le (by simp only [List.length_drop]; omega), show 64 * m + 64 * j = 64 * (m + j) by omega]
          have es : shaN P (m + (j + 1)) = blk (shaN P (m + j)) (((P.drop (64 * m)).drop (64 * j)).take (P.length - 64 * m - 64 * j)) := by
            rw [hp1, show m + (j + 1) = m + j + 1 by omega, shaN, blk_take]
          rw [← es]
          clear hp1 hbl es
          have hq : 64 ≤ P.length - 64 * m - 64 * j := by omega
          repeat' (first
            | ((with_reducible apply Sat.run (X := XW)); exact rfl; (first | exact True.intro | (exact phi) | skip)) | fail)
          refine Sat.back (j + 1) [] rfl ?_ (by omega) (by omega)
          (repeat' (first | exact AllP.nil | with_reducible refine AllP.cons ?_ ?_)) <;> first | with_reducible exact rfl | exact trivial | exact ⟨rfl, rfl, (by show 64 * j + 64 = 64 * (j + 1); omega), (by show P.length - 64 * m - 64 * j - 64 = P.length - 64 * m - 64 * (j + 1); omega)⟩ | exact rfl
        · have hc : ((P.length - 64 * m - 64 * j : Nat) : Int) = 0 := by omega
          have hmj : P.length / 64 = m + j := by omega
          rw [hmj]
          generalize shaN P (m + j) = s
          repeat' (first
            | ((with_reducible apply Sat.run (X := XW)); exact rfl; (first | exact True.intro | (exact phi) | skip))
            | ((with_reducible apply Sat.cond_pf); exact rfl; (try dsimp only [V.EV.sub, V.EV.len]); first | assumption | omega) | fail)
          refine Sat.recell (pos := .code _ _) (id := 1) (ty := 217) (sv := s.l.map (SV.int .u32)) (sv' := [.arr 8 (.ints .u32 s.l)]) (fun _ => True) (fun _ _ _ _ _ => trivial) rfl (fun E T w cs _ h => items_arr .u32 s.l cs h) rfl ?_
          apply Sat.loop (α := Nat) (fun x => x ≤ 32) (fun x => 32 - x) 0 (fun x => [(50, .int .i64 (x : Int))]) (fun x => [(19 + 1, .cells 40 [.arr 32 (.u8 (fillU (ob s.l) 32 x))])]) [] [] 0
          · intro x; exact rfl
          · intro x; exact rfl
          · exact rfl
          · exact rfl
          · ((repeat' (first | exact AllP.nil | with_reducible refine AllP.cons ?_ ?_)) <;> first | exact rfl | exact trivial | exact Int.natCast_add_one _ | (intro j _; simp [pureL, pureS, pureE]; done) | exact ⟨rfl, rfl, rfl, rfl⟩)
          · exact Nat.zero_le _
          intro x hx
          have hl2 := fillU_len (ob s.l) 32 x hx
          have hsl : s.l.length = 8 := rfl
          clear hpl hN hN2 hmj hc hdl hD hlast hP hLast hLast2 hL hl hj hjl hfull hzz hxz hz
          repeat' (first
            | ((with_reducible apply Sat.run (X := XW)); exact rfl; (first | exact True.intro | (exact phi) | skip))
            | ((with_reducible apply Sat.cond_p); exact rfl; all_goals intro h) | fail)
          · refine Sat.back (x + 1) [] rfl ?_ (by omega) (by omega)
            have hs := fillU_set (ob s.l) 32 x (by omega)
            ((repeat' (first | exact AllP.nil | with_reducible refine AllP.cons ?_ ?_)) <;> first | exact rfl | exact trivial | exact Int.natCast_add_one _ | (intro j _; simp [pureL, pureS, pureE]; done) | exact ⟨rfl, rfl, rfl, rfl⟩ | (exact congrArg EV.u8 hs))
          obtain rfl : x = 32 := by omega
          (refine Sat.fin (Sat.end1 rfl rfl rfl True.intro (.refl _ pur) (by first | exact .inl rfl | exact .inr rfl) (fun _ h => h)) ?_; rfl)
    · have hD0 : True := trivial
      refine Sat.kill [19, 20, 21, 22, 23, 24] rfl ?_
      apply Sat.loop (α := Nat) (fun x => x ≤ zn b.length) (fun x => zn b.length - x) 0 (fun x => [(5, .row 5 0 1 0 (D.length + 1 + x))]) (fun x => [(5, .row 5 (.u8 (D ++ [128] ++ List.replicate x 0)))]) [4] [] 0
      · intro x; exact rfl
      · intro x; exact rfl
      · exact rfl
      · exact rfl
      · ((repeat' (first | exact AllP.nil | with_reducible refine AllP.cons ?_ ?_)) <;> first | exact rfl | exact trivial | exact Int.natCast_add_one _ | (intro j _; simp [pureL, pureS, pureE]; done) | exact ⟨rfl, rfl, rfl, rfl⟩ | exact ⟨rfl, rfl, rfl, (by simp [EV.len, EV.sub, hD0]; try omega)⟩ | (simp [hD0]; done))
      · exact Nat.zero_le _
      intro x hx
      have hl : (D ++ [128] ++ List.replicate x 0).length = D.length + 1 + x := by simp; omega
      generalize hL : D ++ [128] ++ List.replicate x (0 : UInt8) = L at hl
      by_cases hxz : x < zn b.length
      · have hm : ((D.length + 1 + x : Nat) : Int) % 64 ≠ 56 := by omega
        repeat' (first
          | ((with_reducible apply Sat.run (X := XW)); exact rfl; (first | exact True.intro | (exact phi) | skip))
          | ((with_reducible apply Sat.cond_pt); exact rfl; (try dsimp only [V.EV.sub, V.EV.len]); first | assumption | omega) | fail)
        refine Sat.back (x + 1) [(5, some (5 + 2))] rfl ?_ ?_ (by omega)
        · have e : L ++ [0] = D ++ [128] ++ List.replicate (x + 1) 0 := by rw [← hL, List.replicate_succ', List.append_assoc]
          ((repeat' (first | exact AllP.nil | with_reducible refine AllP.cons ?_ ?_)) <;> first | exact rfl | exact trivial | exact Int.natCast_add_one _ | (intro j _; simp [pureL, pureS, pureE]; done) | exact ⟨rfl, rfl, rfl, rfl⟩ | exact ⟨rfl, rfl, rfl, (by simp [EV.len, EV.sub]; try omega)⟩ | exact congrArg EV.u8 e)
        · omega
      · obtain rfl : x = zn b.length := by omega
        have hm : ((D.length + 1 + zn b.length : Nat) : Int) % 64 = 56 := by omega
        repeat' (first
          | ((with_reducible apply Sat.run (X := XW)); exact rfl; (first | exact True.intro | (exact phi) | skip))
          | ((with_reducible apply Sat.cond_pf); exact rfl; (try dsimp only [V.EV.sub, V.EV.len]); first | assumption | omega) | fail)
        with_reducible apply Sat.unroll 40
        repeat' (first
          | ((with_reducible apply Sat.run (X := XW)); exact rfl; (first | exact True.intro | (exact phi) | skip))
          | ((with_reducible apply Sat.cond_t); exact rfl)
          | ((with_reducible apply Sat.cond_f); exact rfl)
          | (with_reducible apply Sat.again) | fail)
        have hLast : L ++ len8 b.length = P.drop (64 * m) := by
          rw [hlast, ← hL]
          simp only [sfx, List.append_assoc]
        have hLast2 : L ++ [lb8 b.length 56] ++ [lb8 b.length 48] ++ [lb8 b.length 40] ++ [lb8 b.length 32] ++ [lb8 b.length 24] ++ [lb8 b.length 16] ++ [lb8 b.length 8] ++ [lb8 b.length 0] = P.drop (64 * m) := by
          rw [← hLast]
          simp only [len8, List.append_assoc, List.cons_append, List.nil_append]
        have hN2 : P.length - 64 * m = L.length + 8 := by rw [← hN, ← hLast, List.length_append]; rfl
        refine Sat.kill [22, 33, 41, 42] rfl ?_
        apply Sat.loop (α := Nat) (fun j => 64 * m + 64 * j ≤ P.length) (fun j => P.length - 64 * j) 0 (fun j => [(5, .row 21 0 1 (64 * j) (P.length - 64 * m - 64 * j))]) (fun j => [(21, .row 5 (.u8 (P.drop (64 * m)))), (1, .cells 217 (shaN P (m + j)).v)]) [5 + 1, 5 + 3, 5 + 5, 5 + 7, 5 + 9, 5 + 11, 5 + 13, 5 + 15] [] 0
        · intro x; exact rfl
        · intro x; exact rfl
        · exact rfl
        · exact rfl
        · ((repeat' (first | exact AllP.nil | with_reducible refine AllP.cons ?_ ?_)) <;> first | exact rfl | exact trivial | exact Int.natCast_add_one _ | (intro j _; simp [pureL, pureS, pureE]; done) | exact ⟨rfl, rfl, rfl, rfl⟩ | exact ⟨rfl, rfl, rfl, (by simp [EV.len, EV.sub]; try omega)⟩ | exact congrArg EV.u8 hLast2)
        · omega
        intro j hj
        by_cases hjl : 64 * m + 64 * j < P.length
        · have hbl := pblock_spec (shaN P (m + j)) (((P.drop (64 * m)).drop (64 * j)).take (P.length - 64 * m - 64 * j)) (by simp only [List.length_take, List.length_drop]; omega)
          have hc : ((P.length - 64 * m - 64 * j : Nat) : Int) > 0 := by omega
          repeat' (first
            | ((with_reducible apply Sat.run (X := XW)); exact rfl; (first | exact True.intro | (exact phi) | skip))
            | ((with_reducible apply Sat.cond_pt); exact rfl; (try dsimp only [V.EV.sub, V.EV.len]); first | assumption | omega) | fail)
          refine Sat.mcallR hbl rfl rfl (by kernel_rfl) rfl rfl (Convs.cons _ _ _ _ (Conv.row _ _ _ _ _ (.u8 (P.drop (64 * m))) rfl rfl (by show 64 * j + (P.length - 64 * m - 64 * j) ≤ (P.drop (64 * m)).length; omega) trivial) .nil) rfl (by exact pur) rfl rfl ?_
          have hp1 : ((P.drop (64 * m)).drop (64 * j)).take (P.length - 64 * m - 64 * j) = P.drop (64 * (m + j)) := by
            rw [List.drop_drop, List.take_of_length_le (by simp only [List.length_drop]; omega), show 64 * m + 64 * j = 64 * (m + j) by omega]
          have es : shaN P (m + (j + 1)) = blk (shaN P (m + j)) (((P.drop (64 * m)).drop (64 * j)).take (P.length - 64 * m - 64 * j)) := by
            rw [hp1, show m + (j + 1) = m + j + 1 by omega, shaN, blk_take]
          rw [← es]
          clear hp1 hbl es
          have hq : 64 ≤ P.length - 64 * m - 64 * j := by omega
          repeat' (first
            | ((with_reducible apply Sat.run (X := XW)); exact rfl; (first | exact True.intro | (exact phi) | skip)) | fail)
          refine Sat.back (j + 1) [] rfl ?_ (by omega) (by omega)
          (repeat' (first | exact AllP.nil | with_reducible refine AllP.cons ?_ ?_)) <;> first | with_reducible exact rfl | exact trivial | exact ⟨rfl, rfl, (by show 64 * j + 64 = 64 * (j + 1); omega), (by show P.length - 64 * m - 64 * j - 64 = P.length - 64 * m - 64 * (j + 1); omega)⟩ | exact rfl
        · have hc : ((P.length - 64 * m - 64 * j : Nat) : Int) = 0 := by omega
          have hmj : P.length / 64 = m + j := by omega
          rw [hmj]
          generalize shaN P (m + j) = s
          repeat' (first
            | ((with_reducible apply Sat.run (X := XW)); exact rfl; (first | exact True.intro | (exact phi) | skip))
            | ((with_reducible apply Sat.cond_pf); exact rfl; (try dsimp only [V.EV.sub, V.EV.len]); first | assumption | omega) | fail)
          refine Sat.recell (pos := .code _ _) (id := 1) (ty := 217) (sv := s.l.map (SV.int .u32)) (sv' := [.arr 8 (.ints .u32 s.l)]) (fun _ => True) (fun _ _ _ _ _ => trivial) rfl (fun E T w cs _ h => items_arr .u32 s.l cs h) rfl ?_
          apply Sat.loop (α := Nat) (fun x => x ≤ 32) (fun x => 32 - x) 0 (fun x => [(50, .int .i64 (x : Int))]) (fun x => [(21 + 1, .cells 40 [.arr 32 (.u8 (fillU (ob s.l) 32 x))])]) [] [] 0
          · intro x; exact rfl
          · intro x; exact rfl
          · exact rfl
          · exact rfl
          · ((repeat' (first | exact AllP.nil | with_reducible refine AllP.cons ?_ ?_)) <;> first | exact rfl | exact trivial | exact Int.natCast_add_one _ | (intro j _; simp [pureL, pureS, pureE]; done) | exact ⟨rfl, rfl, rfl, rfl⟩)
          · exact Nat.zero_le _
          intro x hx
          have hl2 := fillU_len (ob s.l) 32 x hx
          have hsl : s.l.length = 8 := rfl
          clear hpl hN hN2 hmj hc hdl hD hlast hP hLast hLast2 hL hl hj hjl hfull hzz hxz hz
          repeat' (first
            | ((with_reducible apply Sat.run (X := XW)); exact rfl; (first | exact True.intro | (exact phi) | skip))
            | ((with_reducible apply Sat.cond_p); exact rfl; all_goals intro h) | fail)
          · refine Sat.back (x + 1) [] rfl ?_ (by omega) (by omega)
            have hs := fillU_set (ob s.l) 32 x (by omega)
            ((repeat' (first | exact AllP.nil | with_reducible refine AllP.cons ?_ ?_)) <;> first | exact rfl | exact trivial | exact Int.natCast_add_one _ | (intro j _; simp [pureL, pureS, pureE]; done) | exact ⟨rfl, rfl, rfl, rfl⟩ | (exact congrArg EV.u8 hs))
          obtain rfl : x = 32 := by omega
          (refine Sat.fin (Sat.end1 rfl rfl rfl True.intro (.refl _ pur) (by first | exact .inl rfl | exact .inr rfl) (fun _ h => h)) ?_; rfl)
end Go.Proofs.YtokaegeediokoaaGreatDoor
end
section
namespace Go.Proofs.YtokaegeediokoaaGreatDoor
open Go.RowKit V
set_option maxRecDepth 100000
set_option maxHeartbeats 8000000
set_option linter.unusedSimpArgs false
attribute [local irreducible] V.Sat V.DSat
@[reducible] def X64 : IntKind → Bool
  | .i64 => true
  | _ => false
def inB (n low high : Int) : Bool := decide (low ≤ n) && decide (n ≤ high)
theorem in_ref (n low high : Int) : Fun Tryz.prog [] 93 [.int .i64 n, .int .i64 low, .int .i64 high] (.bool (inB n low high)) := by
  refine Fun.mk 6 Tryz.func93 rfl Tryz.ntmps93 rfl rfl fun T w0 => ?_
  repeat' (first
    | ((with_reducible apply Sat.run (X := X64)); exact rfl; (first | exact True.intro | (exact phi) | skip)) | fail)
  (refine Sat.fin (Sat.end1 rfl rfl rfl True.intro (.refl _ pur) (by first | exact .inl rfl | exact .inr rfl) (fun _ h => h)) ?_; (refine congrArg SV.bool ?_; unfold inB; cases decide (low ≤ n) <;> rfl))
theorem in_spec (n low high : Int) : Fun Tryz.prog [] 116 [.int .i64 n, .int .i64 low, .int .i64 high] (.bool (inB n low high)) := by
  refine Fun.mk 6 Tryz.func116 rfl Tryz.ntmps116 rfl rfl fun T w0 => ?_
  repeat' (first
    | ((with_reducible apply Sat.run (X := X64)); exact rfl; (first | exact True.intro | (exact phi) | skip)) | fail)
  (refine Sat.fin (Sat.end1 rfl rfl rfl True.intro (.refl _ pur) (by first | exact .inl rfl | exact .inr rfl) (fun _ h => h)) ?_; (refine congrArg SV.bool ?_; unfold inB; cases decide (low ≤ n) <;> rfl))
theorem ints_ref (l m : List Int) : Fun Tryz.prog [] 61 [.ro (.ints .i64 l), .ro (.ints .i64 m)] (.bool (decide (l = m))) := by
  refine Fun.mkF 6 Tryz.func61 rfl Tryz.ntmps61 rfl rfl fun hf T w0 => ?_
  obtain ⟨⟨hl, _⟩, ⟨hm, _⟩, _⟩ := hf
  dsimp only [EV.len] at hl hm
  unfold okLen at hl hm
  repeat' (first
    | ((with_reducible apply Sat.run (X := X64)); exact rfl; (first | exact True.intro | (exact phi) | skip))
    | ((with_reducible apply Sat.cond_p); exact rfl; all_goals (intro h; (try simp only [V.EV.sub, V.EV.len] at h))) | fail)
  · (refine Sat.fin (Sat.end1 rfl rfl rfl True.intro (.refl _ pur) (by first | exact .inl rfl | exact .inr rfl) (fun _ h => h)) ?_; (refine congrArg SV.bool ?_; exact decide_eq_false (fun e => by subst e; exact h rfl)))
  have hlm : l.length = m.length := by simp [EV.len] at h; omega
  apply Sat.loop (α := Nat) (fun x => x ≤ l.length ∧ ∀ i, i < x → l.getD i 0 = m.getD i 0) (fun x => l.length - x) 0 (fun x => [(5, .int .i64 (x : Int))]) (fun _ => []) [] [] 0
  · intro x; exact rfl
  · intro x; exact rfl
  · exact rfl
  · exact rfl
  · (repeat' (first | exact AllP.nil | with_reducible refine AllP.cons ?_ ?_)) <;> first | exact rfl | exact trivial
  · exact ⟨Nat.zero_le _, fun i hi => by omega⟩
  · rintro x ⟨x1, x2⟩
    repeat' (first
      | ((with_reducible apply Sat.run (X := X64)); exact rfl; (first | exact True.intro | (exact phi) | skip))
      | ((with_reducible apply Sat.drawn); kernel_rfl)
      | ((with_reducible apply DSat.run (X := X64)); exact rfl; (first | exact True.intro | (exact phi) | skip))
      | ((with_reducible apply DSat.fin); kernel_rfl)
      | ((with_reducible apply Sat.cond_p); exact rfl; all_goals (intro h; (try simp only [V.EV.sub, V.EV.len] at h))) | fail)
    · (refine Sat.fin (Sat.end1 rfl rfl rfl True.intro (.refl _ pur) (by first | exact .inl rfl | exact .inr rfl) (fun _ h => h)) ?_; (refine congrArg SV.bool (decide_eq_false fun e => ?_); subst e; exact h rfl))
    · refine Sat.back (x + 1) [] rfl ?_ ?_ ?_
      · (repeat' (first | exact AllP.nil | with_reducible refine AllP.cons ?_ ?_)) <;> first | exact rfl | exact trivial | exact Int.natCast_add_one _
      · refine ⟨by omega, fun i hi => ?_⟩
        rcases Nat.lt_succ_iff_lt_or_eq.1 hi with h1 | rfl
        · exact x2 i h1
        · have e : (i : Int).toNat = i := rfl
          rw [e] at h
          exact Decidable.not_not.1 h
      · omega
    · (refine Sat.fin (Sat.end1 rfl rfl rfl True.intro (.refl _ pur) (by first | exact .inl rfl | exact .inr rfl) (fun _ h => h)) ?_; (refine congrArg SV.bool (decide_eq_true ?_); exact (list_eq_iff rfl hlm.symm).1 fun j hj => x2 j (by omega)))
def RisP (l : List Int) (low high : Int) (i : Nat) : Prop := inB (l.getD i 0) low high = true ∧ (0 < i → l.getD (i - 1) 0 < l.getD i 0)
instance (l : List Int) (low high : Int) (i : Nat) : Decidable (RisP l low high i) := by unfold RisP; infer_instance
def risB (l : List Int) (low high : Int) : Bool := decide (∀ i, i < l.length → RisP l low high i)
theorem rising_ref (l : List Int) (low high : Int) : Fun Tryz.prog [] 94 [.ro (.ints .i64 l), .int .i64 low, .int .i64 high] (.bool (risB l low high)) := by
  refine Fun.mkF 6 Tryz.func94 rfl Tryz.ntmps94 rfl rfl fun hf T w0 => ?_
  obtain ⟨⟨hl, _⟩, _⟩ := hf
  dsimp only [EV.len] at hl
  unfold okLen at hl
  repeat' (first
    | ((with_reducible apply Sat.run (X := X64)); exact rfl; (first | exact True.intro | (exact phi) | skip)) | fail)
  apply Sat.loop (α := Nat) (fun x => x ≤ l.length ∧ ∀ i, i < x → RisP l low high i) (fun x => l.length - x) 0 (fun x => [(7, .int .i64 (x : Int))]) (fun _ => []) [] [] 0
  · intro x; exact rfl
  · intro x; exact rfl
  · exact rfl
  · exact rfl
  · (repeat' (first | exact AllP.nil | with_reducible refine AllP.cons ?_ ?_)) <;> first | exact rfl | exact trivial
  · exact ⟨Nat.zero_le _, fun i hi => by omega⟩
  · rintro x ⟨x1, x2⟩
    have hin := in_ref (l.getD (x : Int).toNat 0) low high
    have key : RisP l low high x ↔ (inB (l.getD (x : Int).toNat 0) low high = true ∧ (¬ 0 < (x : Int) ∨ ¬ l.getD (x : Int).toNat 0 ≤ l.getD ((x : Int) - 1).toNat 0)) := by
      unfold RisP
      rw [show (x : Int).toNat = x from rfl, show ((x : Int) - 1).toNat = x - 1 by omega]
      refine and_congr_right fun _ => ?_
      rcases Nat.eq_zero_or_pos x with h0 | h0
      · subst h0; simp
      · have h1 : (0 : Int) < x := by omega
        simp [h0, h1]
    repeat' (first
      | ((with_reducible apply Sat.run (X := X64)); exact rfl; (first | exact True.intro | (exact phi) | skip))
      | ((with_reducible apply Sat.drawn); kernel_rfl)
      | ((with_reducible apply DSat.run (X := X64)); exact rfl; (first | exact True.intro | (exact phi) | skip))
      | ((with_reducible apply DSat.fin); kernel_rfl)
      | ((with_reducible apply Sat.cond_p); exact rfl; all_goals (intro h; (try simp only [V.EV.sub, V.EV.len] at h)))
      | ((with_reducible apply Sat.cond); exact rfl; all_goals (intro h; (try simp only [V.EV.sub, V.EV.len, Bool.cond_true_left, Bool.cond_false_right, Bool.or_eq_true, Bool.and_eq_true, Bool.or_eq_false_iff, Bool.and_eq_false_iff, Bool.not_eq_true', Bool.not_eq_false', decide_eq_true_eq, decide_eq_false_iff_not, ne_eq] at h)))
      | ((with_reducible apply DSat.callR (hin)); exact rfl; exact rfl; exact rfl; kernel_rfl; (exact cnv); exact rfl) | fail)
    · (refine Sat.fin (Sat.end1 rfl rfl rfl True.intro (.refl _ pur) (by first | exact .inl rfl | exact .inr rfl) (fun _ h => h)) ?_; (refine congrArg SV.bool (decide_eq_false fun e => ?_); have q := key.1 (e x (by omega)); rcases h with h | h <;> first | (rw [h] at q; exact absurd q.1 (by simp)) | (rcases q.2 with q | q <;> omega)))
    · refine Sat.back (x + 1) [] rfl ?_ ?_ ?_
      · (repeat' (first | exact AllP.nil | with_reducible refine AllP.cons ?_ ?_)) <;> first | exact rfl | exact trivial | exact Int.natCast_add_one _
      · refine ⟨by omega, fun i hi => ?_⟩
        rcases Nat.lt_succ_iff_lt_or_eq.1 hi with h1 | rfl
        · exact x2 i h1
        · exact key.2 h
      · omega
    · (refine Sat.fin (Sat.end1 rfl rfl rfl True.intro (.refl _ pur) (by first | exact .inl rfl | exact .inr rfl) (fun _ h => h)) ?_; (exact congrArg SV.bool (decide_eq_true fun i hi => x2 i (by omega))))
theorem all_iff {α : Type} (l : List α) (p : α → Bool) (z : α) : l.all p = true ↔ ∀ i, i < l.length → p (l.getD i z) = true := by
  rw [List.all_eq_true]
  constructor
  · intro h i hi
    rw [List.getD_eq_getElem?_getD, List.getElem?_eq_getElem hi]
    exact h _ (List.getElem_mem hi)
  · intro h x hx
    obtain ⟨i, hi, rfl⟩ := List.mem_iff_getElem.1 hx
    have := h i hi
    rwa [List.getD_eq_getElem?_getD, List.getElem?_eq_getElem hi] at this
def nameC (c : UInt8) : Bool := (decide (97 ≤ c.toNat) && decide (c.toNat ≤ 122)) || (decide (65 ≤ c.toNat) && decide (c.toNat ≤ 90)) || (decide (48 ≤ c.toNat) && decide (c.toNat ≤ 57))
def nameB (s : List UInt8) : Bool := s.all nameC && inB s.length 1 12
theorem name_ref (s : List UInt8) : Fun Tryz.prog [] 95 [.str s] (.bool (nameB s)) := by
  refine Fun.mkF 6 Tryz.func95 rfl Tryz.ntmps95 rfl rfl fun hf T w0 => ?_
  obtain ⟨hl, _⟩ := hf
  unfold factsS okLen at hl
  have hin := in_ref s.length 1 12
  repeat' (first
    | ((with_reducible apply Sat.run (X := X64)); exact rfl; (first | exact True.intro | (exact phi) | skip)) | fail)
  apply Sat.loop (α := Nat) (fun x => x ≤ s.length ∧ ∀ i, i < x → nameC (s.getD i 0) = true) (fun x => s.length - x) 0 (fun x => [(3, .int .i64 (x : Int))]) (fun _ => []) [] [] 0
  · intro x; exact rfl
  · intro x; exact rfl
  · exact rfl
  · exact rfl
  · (repeat' (first | exact AllP.nil | with_reducible refine AllP.cons ?_ ?_)) <;> first | exact rfl | exact trivial
  · exact ⟨Nat.zero_le _, fun i hi => by omega⟩
  · rintro x ⟨x1, x2⟩
    have key : nameC (s.getD (x : Int).toNat 0) = true ↔ ((97 ≤ ((s.getD (x : Int).toNat 0).toNat : Int) ∧ ((s.getD (x : Int).toNat 0).toNat : Int) ≤ 122) ∨ (65 ≤ ((s.getD (x : Int).toNat 0).toNat : Int) ∧ ((s.getD (x : Int).toNat 0).toNat : Int) ≤ 90) ∨ (48 ≤ ((s.getD (x : Int).toNat 0).toNat : Int) ∧ ((s.getD (x : Int).toNat 0).toNat : Int) ≤ 57)) := by
      unfold nameC
      simp only [Bool.or_eq_true, Bool.and_eq_true, decide_eq_true_eq]
      omega
    repeat' (first
      | ((with_reducible apply Sat.run (X := X64)); exact rfl; (first | exact True.intro | (exact phi) | skip))
      | ((with_reducible apply Sat.cond_p); exact rfl; all_goals (intro h; (try simp only [V.EV.sub, V.EV.len] at h)))
      | ((with_reducible apply Sat.cond); exact rfl; all_goals (intro h; (try simp only [V.EV.sub, V.EV.len, Bool.cond_true_left, Bool.cond_false_right, Bool.or_eq_true, Bool.and_eq_true, Bool.or_eq_false_iff, Bool.and_eq_false_iff, Bool.not_eq_true', Bool.not_eq_false', decide_eq_true_eq, decide_eq_false_iff_not, ne_eq] at h)))
      | ((with_reducible apply Sat.callR (hin)); exact rfl; exact rfl; exact rfl; kernel_rfl; (exact cnv); exact rfl) | fail)
    · (refine Sat.fin (Sat.end1 rfl rfl rfl True.intro (.refl _ pur) (by first | exact .inl rfl | exact .inr rfl) (fun _ h => h)) ?_; (refine congrArg SV.bool ?_; unfold nameB; rw [show s.all nameC = false from Bool.eq_false_iff.2 fun e => by have q := key.1 ((all_iff s nameC 0).1 e x (by omega)); omega]; rfl))
    · refine Sat.back (x + 1) [] rfl ?_ ?_ ?_
      · (repeat' (first | exact AllP.nil | with_reducible refine AllP.cons ?_ ?_)) <;> first | exact rfl | exact trivial | exact Int.natCast_add_one _
      · refine ⟨by omega, fun i hi => ?_⟩
        rcases Nat.lt_succ_iff_lt_or_eq.1 hi with h1 | rfl
        · exact x2 i h1
        · exact key.2 (by omega)
      · omega
    · (refine Sat.fin (Sat.end1 rfl rfl rfl True.intro (.refl _ pur) (by first | exact .inl rfl | exact .inr rfl) (fun _ h => h)) ?_; (refine congrArg SV.bool ?_; unfold nameB; rw [(all_iff s nameC 0).2 fun i hi => x2 i (by omega)]; rfl))
end Go.Proofs.YtokaegeediokoaaGreatDoor
end
section
namespace Go.Proofs.YtokaegeediokoaaGreatDoor
open Go.RowKit V
set_option maxRecDepth 100000
set_option maxHeartbeats 8000000
set_option linter.unusedSimpArgs false
theorem rsumh (b : List UInt8) (hb : b.length ≤ 140737488355000) : Fun Tryz.prog Γh 33 [.ro (.u8 b)] (.arr 32 (.u8 (sha b))) := (rsum_spec b hb).weak
def stp (x : List UInt8) : Nat → List UInt8
  | 0 => x
  | n + 1 => sha (3 :: stp x n)
theorem stp_len (x : List UInt8) (h : x.length = 32) : ∀ n, (stp x n).length = 32
  | 0 => h
  | _ + 1 => sha_len _
attribute [local irreducible] V.Sat V.DSat
theorem psteps_spec (x : List UInt8) (hx : x.length = 32) (n : Nat) (_hn : n ≤ 100) : Fun Tryz.prog Γh 101 [.arr 32 (.u8 x), .int .i64 (n : Int)] (.arr 32 (.u8 (stp x n))) := by
  refine Fun.mk 6 Tryz.func101 rfl Tryz.ntmps101 rfl rfl fun T w0 => ?_
  repeat' (first
    | ((with_reducible apply Sat.run (X := X64)); exact rfl; (first | exact True.intro | (exact phi) | skip)) | fail)
  apply Sat.loop (α := Nat) (fun j => j ≤ n) (fun j => n - j) 0 (fun j => [(6, .int .i64 (j : Int))]) (fun j => [(0, .cells 40 [.arr 32 (.u8 (stp x j))])]) [] [] 0
  · intro x; exact rfl
  · intro x; exact rfl
  · exact rfl
  · exact rfl
  · ((repeat' (first | exact AllP.nil | with_reducible refine AllP.cons ?_ ?_)) <;> first | exact rfl | exact trivial | exact Int.natCast_add_one _ | (intro j _; simp [pureL, pureS, pureE]; done) | exact ⟨rfl, rfl, rfl, rfl⟩)
  · exact Nat.zero_le _
  intro j hj
  have hl := stp_len x hx j
  have hs := psum_spec (3 :: stp x j) (by simp [hl])
  have e1 : stp x (j + 1) = sha (3 :: stp x j) := rfl
  generalize hy : stp x j = y at hl hs e1 ⊢
  by_cases h : j < n
  · have hc : (j : Int) < (n : Int) := by omega
    have ht : [UInt8.ofNat (Int.toNat 3)] ++ List.take 32 (List.drop 0 y) = 3 :: y := by rw [List.drop_zero, List.take_of_length_le (by omega)]; rfl
    repeat' (first
      | ((with_reducible apply Sat.run (X := X64)); exact rfl; (first | exact True.intro | (exact phi) | skip))
      | ((with_reducible apply Sat.cond_pt); exact rfl; (try dsimp only [V.EV.sub, V.EV.len]); first | assumption | omega)
      | ((with_reducible apply Sat.callR (hs)); exact rfl; exact rfl; exact rfl; kernel_rfl; ((repeat' (first | exact Convs.nil | apply Convs.cons | exact Conv.refl _ pur | (refine Conv.eq _ _ _ (Conv.all _ _ _ _ _ rfl rfl ?_ ?_) (congrArg SV.ro (congrArg EV.u8 ?_)); exact lenx; exact trivial; (exact ht))))); exact rfl) | fail)
    refine Sat.back (j + 1) [] rfl ?_ (by omega) (by omega)
    rw [e1]
    ((repeat' (first | exact AllP.nil | with_reducible refine AllP.cons ?_ ?_)) <;> first | exact rfl | exact trivial | exact Int.natCast_add_one _ | (intro j _; simp [pureL, pureS, pureE]; done) | exact ⟨rfl, rfl, rfl, rfl⟩)
  · obtain rfl : j = n := by omega
    repeat' (first
      | ((with_reducible apply Sat.run (X := X64)); exact rfl; (first | exact True.intro | (exact phi) | skip))
      | ((with_reducible apply Sat.cond_pf); exact rfl; (try dsimp only [V.EV.sub, V.EV.len]); first | assumption | omega) | fail)
    (refine Sat.fin (Sat.end1 rfl rfl rfl True.intro (.refl _ pur) (by first | exact .inl rfl | exact .inr rfl) (fun _ h => h)) ?_; (rw [hy]))
end Go.Proofs.YtokaegeediokoaaGreatDoor
end
section
namespace Go.Proofs.YtokaegeediokoaaGreatDoor.V
open Go.RowKit
theorem wrap_nat {k : IntKind} {n : Nat} (h : n < 2 ^ (k.bits - 1)) : k.wrap (n : Int) = n := by
  refine wrap_inR ?_
  cases k <;> simp [inR, IntKind.min, IntKind.max, IntKind.bits, IntKind.signed] at h ⊢ <;> omega
theorem toNat_ofInt_lt {n : Nat} {a : Int} : (BitVec.ofInt n a).toNat = (a % (2 ^ n : Nat)).toNat := by simp
theorem band_mask (k : IntKind) (a : Int) (m : Nat) (hm : m < k.bits) : k.wrap ((BitVec.ofInt k.bits a &&& BitVec.ofInt k.bits (2 ^ m - 1)).toNat : Int) = a % 2 ^ m := by
  have hp : (2 : Nat) ^ m < 2 ^ k.bits := Nat.pow_lt_pow_right (by decide) hm
  have hpos : 0 < (2 : Nat) ^ m := Nat.two_pow_pos m
  have hposb : 0 < (2 : Nat) ^ k.bits := Nat.two_pow_pos _
  have e1 : (BitVec.ofInt k.bits (2 ^ m - 1)).toNat = 2 ^ m - 1 := by
    rw [toNat_ofInt_lt]
    have h1 : ((2 : Int) ^ m - 1) = ((2 ^ m - 1 : Nat) : Int) := by
      rw [Int.natCast_sub hpos]
      simp
    rw [h1, ← Int.natCast_emod, Int.toNat_natCast]
    exact Nat.mod_eq_of_lt (by omega)
  have e2 : (((BitVec.ofInt k.bits a &&& BitVec.ofInt k.bits (2 ^ m - 1)).toNat : Nat) : Int) = a % 2 ^ m := by
    rw [BitVec.toNat_and, e1, Nat.and_two_pow_sub_one_eq_mod, toNat_ofInt_lt]
    have h0 : 0 ≤ a % ((2 ^ k.bits : Nat) : Int) := Int.emod_nonneg _ (by omega)
    rw [Int.natCast_emod, Int.toNat_of_nonneg h0]
    have hd : (((2 ^ m : Nat) : Int)) ∣ ((2 ^ k.bits : Nat) : Int) := Int.natCast_dvd_natCast.2 (Nat.pow_dvd_pow 2 (Nat.le_of_lt hm))
    rw [Int.emod_emod_of_dvd _ hd]
    simp
  rw [e2]
  have h0 : 0 ≤ a % 2 ^ m := Int.emod_nonneg _ (by have := Int.pow_pos (n := 2) (m := m) (by decide); omega)
  have h1 : a % 2 ^ m < 2 ^ m := Int.emod_lt_of_pos _ (Int.pow_pos (by decide))
  obtain ⟨n, hn⟩ := Int.eq_ofNat_of_zero_le h0
  rw [hn] at h1 ⊢
  apply wrap_nat
  have h2 : n < 2 ^ m := by
    have : ((n : Int)) < ((2 ^ m : Nat) : Int) := by simpa using h1
    exact_mod_cast this
  exact Nat.lt_of_lt_of_le h2 (Nat.pow_le_pow_right (by decide) (by omega))
theorem bor_add (k : IntKind) (a b : Nat) (m : Nat) (hb : b < 2 ^ m) (h : a * 2 ^ m + b < 2 ^ k.bits) (hs : k.signed = true → a * 2 ^ m + b < 2 ^ (k.bits - 1)) : k.wrap ((BitVec.ofInt k.bits ((a * 2 ^ m : Nat) : Int) ||| BitVec.ofInt k.bits (b : Int)).toNat : Int) = ((a * 2 ^ m + b : Nat) : Int) := by
  have e : ∀ n : Nat, n < 2 ^ k.bits → (BitVec.ofInt k.bits (n : Int)).toNat = n := fun n hn => by
    rw [toNat_ofInt_lt, ← Int.natCast_emod, Int.toNat_natCast, Nat.mod_eq_of_lt hn]
  have hor : a * 2 ^ m ||| b = a * 2 ^ m + b := by
    have := Nat.two_pow_add_eq_or_of_lt hb a
    rw [Nat.mul_comm]; exact this.symm
  rw [BitVec.toNat_or, e _ (by omega), e _ (by omega), hor]
  refine wrap_inR ?_
  clear hor e
  generalize a * 2 ^ m + b = c at h hs ⊢
  cases k <;> simp [inR, IntKind.min, IntKind.max, IntKind.bits, IntKind.signed] at h hs ⊢ <;> omega
end Go.Proofs.YtokaegeediokoaaGreatDoor.V
end
section
namespace Go.Proofs.YtokaegeediokoaaGreatDoor
open Go.RowKit V
set_option maxRecDepth 100000
set_option maxHeartbeats 8000000
set_option linter.unusedSimpArgs false
def nib (h : List UInt8) (t : Nat) : Nat := if t % 2 = 0 then (h.getD (t / 2) 0).toNat / 16 else (h.getD (t / 2) 0).toNat % 16
theorem nib_lt (h : List UInt8) (t : Nat) : nib h t < 16 := by
  have := (h.getD (t / 2) 0).toNat_lt
  unfold nib
  split <;> omega
theorem nib0 (h : List UInt8) (x : Nat) : nib h (2 * x) = (h.getD x 0).toNat / 16 := by
  unfold nib
  rw [if_pos (by omega), show 2 * x / 2 = x by omega]
theorem nib1 (h : List UInt8) (x : Nat) : nib h (2 * x + 1) = (h.getD x 0).toNat % 16 := by
  unfold nib
  rw [if_neg (by omega), show (2 * x + 1) / 2 = x by omega]
def nsum (h : List UInt8) : Nat → Nat
  | 0 => 0
  | x + 1 => nsum h x + (30 - nib h (2 * x) - nib h (2 * x + 1))
theorem nsum_le (h : List UInt8) : ∀ x, nsum h x ≤ 30 * x
  | 0 => Nat.le_refl _
  | x + 1 => by have := nsum_le h x; rw [nsum]; omega
def nibs (h : List UInt8) (x : Nat) : List Int := (List.range (2 * x)).map fun t => (nib h t : Int)
theorem nibs_len (h : List UInt8) (x : Nat) : (nibs h x).length = 2 * x := by simp [nibs]
theorem nibs_succ (h : List UInt8) (x : Nat) : nibs h (x + 1) = nibs h x ++ [(nib h (2 * x) : Int), (nib h (2 * x + 1) : Int)] := by
  unfold nibs
  rw [show 2 * (x + 1) = 2 * x + 1 + 1 by omega, List.range_succ, List.range_succ, List.map_append, List.map_append]
  simp
def dgP (h : List UInt8) (x : Nat) : List Int := nibs h x ++ List.replicate (67 - 2 * x) 0
theorem dgP_len (h : List UInt8) (x : Nat) (hx : x ≤ 32) : (dgP h x).length = 67 := by simp [dgP, nibs_len]; omega
theorem dgP_set (h : List UInt8) (x : Nat) (hx : x < 32) : ((dgP h x).set (2 * x) (nib h (2 * x) : Int)).set (2 * x + 1) (nib h (2 * x + 1) : Int) = dgP h (x + 1) := by
  have hl := nibs_len h x
  unfold dgP
  rw [nibs_succ, show 67 - 2 * x = (67 - 2 * (x + 1)) + 1 + 1 by omega, List.replicate_succ, List.replicate_succ, List.set_append_right _ _ (by omega), List.set_append_right _ _ (by omega), hl, Nat.sub_self, show 2 * x + 1 - 2 * x = 1 by omega]
  simp
theorem dgP_get0 (h : List UInt8) (x : Nat) (_hx : x < 32) : (dgP h (x + 1)).getD (2 * x) 0 = (nib h (2 * x) : Int) := by
  have hl := nibs_len h x
  unfold dgP
  rw [nibs_succ, List.getD_eq_getElem?_getD, List.append_assoc, List.getElem?_append_right (by omega), hl, Nat.sub_self]
  rfl
theorem dgP_get1 (h : List UInt8) (x : Nat) (_hx : x < 32) : (dgP h (x + 1)).getD (2 * x + 1) 0 = (nib h (2 * x + 1) : Int) := by
  have hl := nibs_len h x
  unfold dgP
  rw [nibs_succ, List.getD_eq_getElem?_getD, List.append_assoc, List.getElem?_append_right (by omega), hl, show 2 * x + 1 - 2 * x = 1 by omega]
  rfl
def dgs (h : List UInt8) : List Int := nibs h 32 ++ [((nsum h 32 / 256 : Nat) : Int), ((nsum h 32 / 16 % 16 : Nat) : Int), ((nsum h 32 % 16 : Nat) : Int)]
theorem dgs_len (h : List UInt8) : (dgs h).length = 67 := by simp [dgs, nibs_len]
theorem dgs_rng (h : List UInt8) (i : Nat) : ∃ n : Nat, (dgs h).getD i 0 = (n : Int) ∧ n ≤ 15 := by
  have hN := nsum_le h 32
  rcases Nat.lt_or_ge i 67 with hi | hi
  · have hm : (dgs h).getD i 0 ∈ dgs h := by
      rw [List.getD_eq_getElem?_getD, List.getElem?_eq_getElem (by rw [dgs_len]; exact hi)]
      exact List.getElem_mem _
    generalize (dgs h).getD i 0 = v at hm
    simp only [dgs, nibs, List.mem_append, List.mem_map, List.mem_cons, List.not_mem_nil, or_false] at hm
    rcases hm with ⟨t, _, rfl⟩ | rfl | rfl | rfl
    · exact ⟨_, rfl, by have := nib_lt h t; omega⟩
    · exact ⟨_, rfl, by omega⟩
    · exact ⟨_, rfl, by omega⟩
    · exact ⟨_, rfl, by omega⟩
  · exact ⟨0, by rw [List.getD_eq_getElem?_getD, List.getElem?_eq_none (by rw [dgs_len]; exact hi)]; rfl, by omega⟩
theorem u8_shr (c : UInt8) : ((c.toNat : Int)).fdiv (2 ^ min (Int.toNat 4) IntKind.u8.bits) = ((c.toNat / 16 : Nat) : Int) := by
  show ((c.toNat : Int)).fdiv 16 = _
  rw [Int.fdiv_eq_ediv_of_nonneg _ (by decide)]
  omega
theorem u8_and (c : UInt8) : IntKind.u8.wrap ((BitVec.ofInt IntKind.u8.bits (c.toNat : Int) &&& BitVec.ofInt IntKind.u8.bits 15).toNat : Nat) = ((c.toNat % 16 : Nat) : Int) := by
  have := band_mask .u8 (c.toNat : Int) 4 (by decide)
  rw [show ((2 : Int) ^ 4 - 1) = 15 from rfl] at this
  rw [this]
  omega
theorem i64_and (n : Nat) : IntKind.i64.wrap ((BitVec.ofInt IntKind.i64.bits (n : Int) &&& BitVec.ofInt IntKind.i64.bits 15).toNat : Nat) = ((n % 16 : Nat) : Int) := by
  have := band_mask .i64 (n : Int) 4 (by decide)
  rw [show ((2 : Int) ^ 4 - 1) = 15 from rfl] at this
  rw [this]
  omega
theorem dgs_set (h : List UInt8) : (((dgP h 32).set (Int.toNat 66) (IntKind.i64.wrap ((BitVec.ofInt IntKind.i64.bits (nsum h 32 : Int) &&& BitVec.ofInt IntKind.i64.bits 15).toNat : Nat))).set (66 - 1 : Int).toNat (IntKind.i64.wrap ((BitVec.ofInt IntKind.i64.bits ((nsum h 32 : Int) / 2 ^ (4 : Int).toNat) &&& BitVec.ofInt IntKind.i64.bits 15).toNat : Nat))).set (66 - 1 - 1 : Int).toNat (IntKind.i64.wrap ((BitVec.ofInt IntKind.i64.bits ((nsum h 32 : Int) / 2 ^ (4 : Int).toNat / 2 ^ (4 : Int).toNat) &&& BitVec.ofInt IntKind.i64.bits 15).toNat : Nat)) = dgs h := by
  have e1 : ((nsum h 32 : Int) / 2 ^ (4 : Int).toNat) = ((nsum h 32 / 16 : Nat) : Int) := by show (nsum h 32 : Int) / 16 = _; omega
  have e2 : (((nsum h 32 / 16 : Nat) : Int) / 2 ^ (4 : Int).toNat) = ((nsum h 32 / 256 : Nat) : Int) := by show ((nsum h 32 / 16 : Nat) : Int) / 16 = _; omega
  have hN := nsum_le h 32
  have hl := nibs_len h 32
  rw [e1, e2, i64_and, i64_and, i64_and, show (Int.toNat 66) = 66 from rfl, show (66 - 1 : Int).toNat = 65 from rfl, show (66 - 1 - 1 : Int).toNat = 64 from rfl, show nsum h 32 / 256 % 16 = nsum h 32 / 256 by omega]
  unfold dgP dgs
  rw [List.set_append_right _ _ (by omega), List.set_append_right _ _ (by omega), List.set_append_right _ _ (by omega), hl]
  rfl
attribute [local irreducible] V.Sat V.DSat
theorem pdigits_spec (b : List UInt8) (hb : b.length ≤ 1000000) : Fun Tryz.prog Γh 100 [.ro (.u8 b)] (.arr 67 (.ints .i64 (dgs (sha (4 :: b))))) := by
  have hs := psum_spec (4 :: b) (by simp; omega)
  have hhl := sha_len (4 :: b)
  generalize sha (4 :: b) = h at hs hhl
  refine Fun.mk 6 Tryz.func100 rfl Tryz.ntmps100 rfl rfl fun T w0 => ?_
  repeat' (first
    | ((with_reducible apply Sat.run (X := X64)); exact rfl; (first | exact True.intro | (exact phi) | skip))
    | ((with_reducible apply Sat.callR (hs)); exact rfl; exact rfl; exact rfl; kernel_rfl; ((repeat' (first | exact Convs.nil | apply Convs.cons | exact Conv.refl _ pur | (refine Conv.eq _ _ _ (Conv.all _ _ _ _ _ rfl rfl ?_ ?_) (congrArg SV.ro (congrArg EV.u8 ?_)); exact lenx; exact trivial; (exact rfl))))); exact rfl) | fail)
  refine Sat.kill [8] rfl ?_
  apply Sat.loop (α := Nat) (fun x => x ≤ 32) (fun x => 32 - x) 0 (fun x => [(12, .int .i64 (x : Int)), (4, .int .i64 (nsum h x : Int))]) (fun x => [(1, .cells 172 [.arr 67 (.ints .i64 (dgP h x))])]) [] [] 0
  · intro x; exact rfl
  · intro x; exact rfl
  · exact rfl
  · exact rfl
  · ((repeat' (first | exact AllP.nil | with_reducible refine AllP.cons ?_ ?_)) <;> first | exact rfl | exact trivial | exact Int.natCast_add_one _ | (intro j _; simp [pureL, pureS, pureE]; done) | exact ⟨rfl, rfl, rfl, rfl⟩)
  · omega
  intro x hx
  have hl := dgP_len h x hx
  have hN := nsum_le h x
  by_cases hx2 : x < 32
  · have hc : (x : Int) < 32 := by omega
    have e0 : ((h.getD (x : Int).toNat 0).toNat : Int).fdiv (2 ^ min (Int.toNat 4) IntKind.u8.bits) = (nib h (2 * x) : Int) := by rw [u8_shr, nib0]; rfl
    have e1 : IntKind.u8.wrap ((BitVec.ofInt IntKind.u8.bits ((h.getD (x : Int).toNat 0).toNat : Int) &&& BitVec.ofInt IntKind.u8.bits 15).toNat : Nat) = (nib h (2 * x + 1) : Int) := by rw [u8_and, nib1]; rfl
    have e2 : (2 * (x : Int)).toNat = 2 * x := by omega
    have e3 : (2 * (x : Int) + 1).toNat = 2 * x + 1 := by omega
    have e4 := dgP_set h x hx2
    have e5 := dgP_get0 h x hx2
    have e6 := dgP_get1 h x hx2
    have hl2 := dgP_len h (x + 1) (by omega)
    have b0 := nib_lt h (2 * x)
    have b1 := nib_lt h (2 * x + 1)
    repeat' (first
      | ((with_reducible apply Sat.run (X := X64)); exact rfl; (first | exact True.intro | (fail) | skip))
      | ((with_reducible apply Sat.drawn); kernel_rfl)
      | ((with_reducible apply DSat.run (X := X64)); exact rfl; (first | exact True.intro | (fail) | skip))
      | ((with_reducible apply DSat.fin); kernel_rfl)
      | ((with_reducible apply Sat.cond_pt); exact rfl; (try dsimp only [V.EV.sub, V.EV.len]); first | assumption | omega) | fail)
    all_goals (try rw [e0, e1, e2, e3, e4, e5, e6])
    · (repeat' (first | exact AllP.nil | with_reducible refine AllP.cons ?_ ?_)) <;> first | exact trivial | omega | (apply inR_i64 <;> omega) | (constructor <;> omega) | (simp only [EV.len, List.length_set]; omega)
    · (repeat' (first | exact AllP.nil | with_reducible refine AllP.cons ?_ ?_)) <;> first | exact trivial | omega | (apply inR_i64 <;> omega) | (constructor <;> omega) | (simp only [EV.len, List.length_set]; omega)
    · exact .cons (inR_i64 (by omega) (by omega)) .nil
    · refine Sat.back (x + 1) [] rfl ?_ (by omega) (by omega)
      have en : (nsum h x : Int) + (30 - (nib h (2 * x) : Int) - (nib h (2 * x + 1) : Int)) = (nsum h (x + 1) : Int) := by rw [nsum]; omega
      ((repeat' (first | exact AllP.nil | with_reducible refine AllP.cons ?_ ?_)) <;> first | exact rfl | exact trivial | exact Int.natCast_add_one _ | (intro j _; simp [pureL, pureS, pureE]; done) | exact ⟨rfl, rfl, rfl, rfl⟩ | exact en)
  · obtain rfl : x = 32 := by omega
    have b0 := nsum_le h 32
    have ew := dgs_set h
    repeat' (first
      | ((with_reducible apply Sat.run (X := X64)); exact rfl; (first | exact True.intro | (exact phi) | skip))
      | ((with_reducible apply Sat.cond_t); exact rfl)
      | ((with_reducible apply Sat.cond_f); exact rfl)
      | (with_reducible apply Sat.unroll 40)
      | (with_reducible apply Sat.again) | fail)
    refine Sat.fin (Sat.end1 rfl rfl rfl True.intro (.refl _ trivial) (by first | exact .inl rfl | exact .inr rfl) (fun _ h => h)) ?_
    rw [← ew]
end Go.Proofs.YtokaegeediokoaaGreatDoor
end
section
namespace Go.Proofs.YtokaegeediokoaaGreatDoor
open Go.RowKit V
set_option maxRecDepth 100000
set_option maxHeartbeats 8000000
set_option linter.unusedSimpArgs false
def u8s (l : List UInt8) : List SV := l.map fun b => .int .u8 (b.toNat : Int)
theorem items_u8s {E : Env} {T : Nat → Prop} {w : World} (r : List SV) : ∀ (l : List UInt8) (cs : List Value), Items E T w (u8s l ++ r) cs → ∃ c1 c2, cs = c1 ++ c2 ∧ Items E T w r c2 ∧ c1.length = l.length ∧ (∀ v ∈ c1, v.oneCell' = true) ∧ ∀ i (_ : i < l.length), ∃ v, c1[i]? = some v ∧ Items E T w [SV.int .u8 ((l.getD i 0).toNat : Int)] [v]
  | [], cs, h => ⟨[], cs, rfl, h, rfl, fun v hv => (by cases hv), fun i hi => absurd hi (Nat.not_lt_zero _)⟩
  | x :: l, cs, h => by
    cases h with
    | one _ c _ cs h1 hr hl =>
      obtain ⟨c1, c2, rfl, q0, q1, q2, q3⟩ := items_u8s r l cs hl
      refine ⟨c :: c1, c2, rfl, q0, by simp [q1], fun v hv => ?_, fun i hi => ?_⟩
      · rcases List.mem_cons.1 hv with rfl | hv
        · exact hr.oneCell h1
        · exact q2 v hv
      · cases i with
        | zero => exact ⟨c, rfl, .one _ _ _ _ h1 hr .nil⟩
        | succ i => exact q3 i (by simpa using hi)
theorem items_bytes {E : Env} {T : Nat → Prop} {w : World} (l : List UInt8) (r : List SV) (cs : List Value) (h : Items E T w (u8s l ++ r) cs) : Items E T w (.arr l.length (.u8 l) :: r) cs := by
  obtain ⟨c1, c2, rfl, q0, q1, q2, q3⟩ := items_u8s r l cs h
  refine Items.arr (E := E) (T := T) (w := w) l.length (.u8 l) r c1 c2 (.arr l.length (.u8 l) c1 (fun i => [c1.getD i (.bool false)]) (fun i _ => rfl) q1 (Nat.mul_one _) q2 (fun i j v hi hj => ?_) (fun i hi => ?_)) q0
  · have hi : i < l.length := hi
    cases j with
    | succ j => simp at hj
    | zero =>
      have hj : some (c1.getD i (.bool false)) = some v := hj
      cases hj
      show c1[i * 1 + 0]? = _
      rw [Nat.mul_one, Nat.add_zero, List.getD_eq_getElem?_getD, List.getElem?_eq_getElem (by omega)]
      rfl
  · have hi : i < l.length := hi
    obtain ⟨v, e1, e2⟩ := q3 i hi
    show Items E T w [SV.int .u8 ((l.getD i 0).toNat : Int)] [c1.getD i (.bool false)]
    rw [List.getD_eq_getElem?_getD (l := c1), e1]
    exact e2
def flatN (f : Nat → List UInt8) : Nat → List UInt8
  | 0 => []
  | x + 1 => flatN f x ++ f x
attribute [local irreducible] V.Sat V.DSat
end Go.Proofs.YtokaegeediokoaaGreatDoor
end
section
namespace Go.Proofs.YtokaegeediokoaaGreatDoor
open Go.RowKit V
set_option maxRecDepth 100000
set_option maxHeartbeats 8000000
set_option linter.unusedSimpArgs false
attribute [local irreducible] V.Sat V.DSat
end Go.Proofs.YtokaegeediokoaaGreatDoor
end
section
namespace Go.Proofs.YtokaegeediokoaaGreatDoor
open Go.RowKit V
set_option maxRecDepth 100000
set_option maxHeartbeats 8000000
set_option linter.unusedSimpArgs false
@[reducible] def sumsE (l : List (List UInt8)) : EV := .g l.length 32 fun i => [.arr 32 (.u8 (l.getD i []))]
theorem snocE {α : Type} (v : α → List SV) (d : α) (l : List α) (x : α) : ∀ i, i < l.length + 1 → (if i < l.length then v (l.getD i d) else nthL [v x] (0 + (i - l.length))) = v ((l ++ [x]).getD i d) := fun i hi => by
  split
  · rename_i h
    rw [List.getD_eq_getElem?_getD, List.getD_eq_getElem?_getD, List.getElem?_append_left h]
  · rename_i h
    obtain rfl : i = l.length := by omega
    rw [List.getD_eq_getElem?_getD, List.getElem?_append_right (Nat.le_refl _), Nat.sub_self]
    rfl
theorem snocP {α : Type} (v : α → List SV) (hv : ∀ y, pureL (v y)) (d : α) (l : List α) (x : α) : ∀ i, i < l.length + 1 → pureL (if i < l.length then v (l.getD i d) else nthL [v x] (0 + (i - l.length))) := fun i hi => by
  rw [snocE v d l x i hi]
  exact hv _
def dgn (b : List UInt8) (c : Nat) : Nat := ((dgs (sha (4 :: b))).getD c 0).toNat
theorem dgn_le (b : List UInt8) (c : Nat) : dgn b c ≤ 15 := by
  obtain ⟨n, h1, h2⟩ := dgs_rng (sha (4 :: b)) c
  unfold dgn
  rw [h1]
  exact h2
theorem dgn_eq (b : List UInt8) (c : Nat) : (dgs (sha (4 :: b))).getD c 0 = (dgn b c : Int) := by
  obtain ⟨n, h1, h2⟩ := dgs_rng (sha (4 :: b)) c
  unfold dgn
  rw [h1]
  rfl
@[reducible] def sigI (ch : List (List UInt8)) : List SV := [.int .i64 0, .ro (sumsE ch), .ro (.g 0 32 fun _ => [])]
attribute [local irreducible] V.Sat V.DSat
end Go.Proofs.YtokaegeediokoaaGreatDoor
end
section
namespace Go.Proofs.YtokaegeediokoaaGreatDoor
open Go.RowKit V
set_option maxRecDepth 100000
set_option maxHeartbeats 8000000
set_option linter.unusedSimpArgs false
structure SigL where
  key : Int
  ch : List (List UInt8)
def sig0 : SigL := ⟨0, []⟩
@[reducible] def SigL.v (s : SigL) : List SV := .int .i64 s.key :: sigI s.ch
theorem sig_pure (s : SigL) : pureL s.v := ⟨trivial, trivial, fun _ _ => ⟨trivial, trivial⟩, fun _ hi => absurd hi (Nat.not_lt_zero _), trivial⟩
@[reducible] def sigsE (l : List SigL) : EV := .g l.length 4 fun i => (l.getD i sig0).v
def bitU (m : UInt8) (i : Nat) : Bool := decide (m.toNat / 2 ^ i % 2 = 1)
theorem u8_bit (m : UInt8) (i : Nat) (hi : i ≤ 7) : decide (IntKind.u8.wrap ((BitVec.ofInt IntKind.u8.bits (((m.toNat : Int)).fdiv (2 ^ min ((i : Int)).toNat IntKind.u8.bits)) &&& BitVec.ofInt IntKind.u8.bits 1).toNat : Nat) = 1) = bitU m i := by
  have h1 := band_mask .u8 (((m.toNat : Int)).fdiv (2 ^ min ((i : Int)).toNat IntKind.u8.bits)) 1 (by decide)
  rw [show ((2 : Int) ^ 1 - 1) = 1 from rfl] at h1
  rw [h1]
  have e : ((m.toNat : Int)).fdiv (2 ^ min ((i : Int)).toNat IntKind.u8.bits) = ((m.toNat / 2 ^ i : Nat) : Int) := by
    have : min ((i : Int)).toNat IntKind.u8.bits = i := by simp only [IntKind.bits, Int.toNat_natCast]; omega
    rw [this, Int.fdiv_eq_ediv_of_nonneg _ (Int.le_of_lt (Int.pow_pos (by decide))), Int.natCast_ediv]
    simp
  rw [e]
  unfold bitU
  by_cases h : m.toNat / 2 ^ i % 2 = 1
  · rw [decide_eq_true h, decide_eq_true (by omega)]
  · rw [decide_eq_false h, decide_eq_false (by omega)]
attribute [local irreducible] V.Sat V.DSat
end Go.Proofs.YtokaegeediokoaaGreatDoor
end
section
namespace Go.Proofs.YtokaegeediokoaaGreatDoor
open Go.RowKit V
set_option maxRecDepth 100000
set_option maxHeartbeats 8000000
set_option linter.unusedSimpArgs false
def endsL (b : List UInt8) (ch : List (List UInt8)) (x : Nat) : List UInt8 := flatN (fun c => stp (ch.getD c []) (15 - dgn b c)) x
def ver (root b : List UInt8) (ch : List (List UInt8)) : Bool := decide (sha (0 :: endsL b ch 67) = root)
structure ChOk (ch : List (List UInt8)) : Prop where
  len : ch.length = 67
  each : ∀ i, i < 67 → (ch.getD i []).length = 32
theorem ends_len (b : List UInt8) (ch : List (List UInt8)) (h : ChOk ch) : ∀ x, x ≤ 67 → (endsL b ch x).length = 32 * x
  | 0, _ => rfl
  | x + 1, hx => by
    have := ends_len b ch h x (by omega)
    unfold endsL at this ⊢
    rw [flatN, List.length_append, this, stp_len _ (h.each x (by omega))]
    omega
attribute [local irreducible] V.Sat V.DSat
theorem pformed_spec (ch : List (List UInt8)) (h : ch.length = 67) : Fun Tryz.prog Γh 99 [.agg (sigI ch)] (.bool true) := by
  refine Fun.mk 6 Tryz.func99 rfl Tryz.ntmps99 rfl rfl fun T w0 => ?_
  have h1 : ((ch.length : Nat) : Int) = 67 := by omega
  repeat' (first
    | ((with_reducible apply Sat.run (X := X64)); exact rfl; (first | exact True.intro | (fail) | skip))
    | ((with_reducible apply Sat.drawn); kernel_rfl)
    | ((with_reducible apply DSat.run (X := X64)); exact rfl; (first | exact True.intro | (fail) | skip))
    | ((with_reducible apply DSat.fin); kernel_rfl) | fail)
  · (repeat' (first | exact AllP.nil | with_reducible refine AllP.cons ?_ ?_)) <;> first | exact trivial | (exact fun h => h) | (intro _; exact rfl) | (intro _; exact ⟨by decide, by decide, inR_i64 (by decide) (by decide)⟩) | (intro _; decide)
  · (refine Sat.fin (Sat.end1 rfl rfl rfl True.intro (.refl _ purX) (by first | exact .inl rfl | exact .inr rfl) (fun _ h => h)) ?_; (refine congrArg SV.bool ?_; simp [EV.len, h]))
theorem pleaf_spec (b : List UInt8) (hb : b.length ≤ 100000) : Fun Tryz.prog Γh 157 [.ro (.u8 b)] (.arr 32 (.u8 (sha (0 :: b)))) := by
  have h2 := psum_spec (0 :: b) (by simp; omega)
  refine Fun.mk 6 Tryz.func157 rfl Tryz.ntmps157 rfl rfl fun T w0 => ?_
  repeat' (first
    | ((with_reducible apply Sat.run (X := X64)); exact rfl; (first | exact True.intro | (exact phi) | skip))
    | ((with_reducible apply Sat.callR (h2)); exact rfl; exact rfl; exact rfl; kernel_rfl; ((repeat' (first | exact Convs.nil | apply Convs.cons | exact Conv.refl _ pur | (refine Conv.eq _ _ _ (Conv.all _ _ _ _ _ rfl rfl ?_ ?_) (congrArg SV.ro (congrArg EV.u8 ?_)); exact lenx; exact trivial; (exact rfl))))); exact rfl) | fail)
  (refine Sat.fin (Sat.end1 rfl rfl rfl True.intro (.refl _ purX) (by first | exact .inl rfl | exact .inr rfl) (fun _ h => h)) ?_; rfl)
theorem pcheck_spec (root b : List UInt8) (hb : b.length ≤ 100000) : Fun Tryz.prog Γh 102 [.arr 32 (.u8 root), .int .i64 1, .int .i64 0, .ro (.u8 b), .ro (.g 0 32 fun _ => [])] (.bool (decide (sha (0 :: b) = root))) := by
  have h1 := pleaf_spec b hb
  refine Fun.mk 6 Tryz.func102 rfl Tryz.ntmps102 rfl rfl fun T w0 => ?_
  repeat' (first
    | ((with_reducible apply Sat.run (X := X64)); exact rfl; (first | exact True.intro | (exact phi) | skip))
    | ((with_reducible apply Sat.cond_f); exact rfl)
    | (with_reducible apply Sat.unroll 40)
    | ((with_reducible apply Sat.callR (h1)); exact rfl; exact rfl; exact rfl; kernel_rfl; (exact cnvX); exact rfl) | fail)
  (refine Sat.fin (Sat.end1 rfl rfl rfl True.intro (.refl _ purX) (by first | exact .inl rfl | exact .inr rfl) (fun _ h => h)) ?_; rfl)
theorem pverify_spec (root b : List UInt8) (hb : b.length ≤ 1000000) (ch : List (List UInt8)) (h : ChOk ch) : Fun Tryz.prog Γh 45 [.arr 32 (.u8 root), .ro (.u8 b), .agg (sigI ch)] (.bool (ver root b ch)) := by
  have h1 := pformed_spec ch h.len
  have h2 := pdigits_spec b hb
  have h3 := pcheck_spec root (endsL b ch 67) (by rw [ends_len b ch h 67 (Nat.le_refl _)]; omega)
  have hdl := dgs_len (sha (4 :: b))
  refine Fun.mk 6 Tryz.func45 rfl Tryz.ntmps45 rfl rfl fun T w0 => ?_
  repeat' (first
    | ((with_reducible apply Sat.run (X := X64)); exact rfl; (first | exact True.intro | (exact phi) | skip))
    | ((with_reducible apply Sat.cond_f); exact rfl)
    | ((with_reducible apply Sat.callR (h1)); exact rfl; exact rfl; exact rfl; kernel_rfl; (exact cnvX); exact rfl)
    | ((with_reducible apply Sat.callR (h2)); exact rfl; exact rfl; exact rfl; kernel_rfl; (exact cnvX); exact rfl) | fail)
  apply Sat.loop (α := Nat) (fun x => x ≤ 67) (fun x => 67 - x) 0 (fun x => [(16, .int .i64 (x : Int)), (7, .row 2 0 1 0 (32 * x))]) (fun x => [(2, .row 5 (.u8 (endsL b ch x)))]) [] [(2, none)] 1
  · intro x; exact rfl
  · intro x; exact rfl
  · exact rfl
  · exact rfl
  · ((repeat' (first | exact AllP.nil | with_reducible refine AllP.cons ?_ ?_)) <;> first | exact rfl | exact trivial | exact Int.natCast_add_one _ | (intro j _; simp [pureL, pureS, pureE]; done) | exact ⟨rfl, rfl, rfl, rfl⟩)
  · omega
  intro x hx
  have hl := ends_len b ch h x hx
  by_cases hx2 : x < 67
  · have hc : (x : Int) < 67 := by omega
    have hd := dgn_le b x
    have h6 := psteps_spec (ch.getD x []) (h.each x hx2) (15 - dgn b x) (by omega)
    have h7 : Fun Tryz.prog Γh 101 [.arr 32 (.u8 (ch.getD (x : Int).toNat [])), .int .i64 (15 - (dgs (sha (4 :: b))).getD (x : Int).toNat 0)] (.arr 32 (.u8 (stp (ch.getD x []) (15 - dgn b x)))) := by
      rw [show (x : Int).toNat = x from rfl, dgn_eq, show (15 - (dgn b x : Int)) = ((15 - dgn b x : Nat) : Int) by omega]; exact h6
    have hd2 : (dgs (sha (4 :: b))).getD (x : Int).toNat 0 = (dgn b x : Int) := by rw [show (x : Int).toNat = x from rfl, dgn_eq]
    have hsl := stp_len _ (h.each x hx2) (15 - dgn b x)
    have es : endsL b ch (x + 1) = endsL b ch x ++ stp (ch.getD x []) (15 - dgn b x) := rfl
    have hcl := h.len
    have hdl2 : 67 = (dgs (sha (4 :: b))).length := hdl.symm
    generalize endsL b ch x = L at hl es ⊢
    generalize stp (ch.getD x []) (15 - dgn b x) = y at hsl es h7
    repeat' (first
      | ((with_reducible apply Sat.run (X := X64)); exact rfl; (first | exact True.intro | (fail) | skip))
      | ((with_reducible apply Sat.cond_pt); exact rfl; (try dsimp only [V.EV.sub, V.EV.len]); first | assumption | omega)
      | ((with_reducible apply Sat.callR (h7)); exact rfl; exact rfl; exact rfl; kernel_rfl; (exact cnvX); exact rfl) | fail)
    · exact .cons (by rw [hd2]; exact inR_i64 (by omega) (by omega)) (.cons ⟨by omega, by show (x : Int) < (ch.length : Int); omega⟩ (.cons ⟨by omega, by omega⟩ (.cons hdl2 .nil)))
    · exact .cons (inR_i64 (by omega) (by omega)) (.cons (by show 0 + (32 - 0) ≤ y.length; omega) (.cons hl.symm (.cons (by simp [EV.len, EV.sub, hsl]; omega) (.cons ⟨by decide, by decide⟩ (.cons hsl.symm .nil)))))
    refine Sat.back (x + 1) [(2, some 4)] rfl ?_ (by omega) (by omega)
    rw [es]
    have et : L ++ List.take 32 (List.drop 0 y) = L ++ y := by rw [List.drop_zero, List.take_of_length_le (by omega)]
    ((repeat' (first | exact AllP.nil | with_reducible refine AllP.cons ?_ ?_)) <;> first | exact rfl | exact trivial | exact Int.natCast_add_one _ | (intro j _; simp [pureL, pureS, pureE]; done) | exact ⟨rfl, rfl, rfl, rfl⟩ | (exact congrArg EV.u8 et) | exact ⟨rfl, rfl, rfl, (by simp [EV.len, EV.sub, hsl]; omega)⟩)
  · obtain rfl : x = 67 := by omega
    repeat' (first
      | ((with_reducible apply Sat.run (X := X64)); exact rfl; (first | exact True.intro | (exact phi) | skip))
      | ((with_reducible apply Sat.drawn); kernel_rfl)
      | ((with_reducible apply DSat.run (X := X64)); exact rfl; (first | exact True.intro | (exact phi) | skip))
      | ((with_reducible apply Sat.cond_f); exact rfl) | fail)
    refine DSat.callR h3 rfl rfl rfl (by kernel_rfl) ?_ rfl ?_
    · refine Convs.cons _ _ _ _ (.refl _ trivial) ?_
      refine Convs.cons _ _ _ _ (.refl _ trivial) ?_
      refine Convs.cons _ _ _ _ (.refl _ trivial) ?_
      refine Convs.cons _ _ _ _ (.all _ _ _ _ _ rfl rfl hl.symm trivial) ?_
      refine Convs.cons _ _ _ _ (.refl _ (fun i hi => absurd hi (Nat.not_lt_zero _))) .nil
    repeat' (first
      | ((with_reducible apply Sat.run (X := X64)); exact rfl; (first | exact True.intro | (exact phi) | skip))
      | ((with_reducible apply DSat.run (X := X64)); exact rfl; (first | exact True.intro | (exact phi) | skip))
      | ((with_reducible apply DSat.fin); kernel_rfl) | fail)
    (refine Sat.fin (Sat.end1 rfl rfl rfl True.intro (.refl _ purX) (by first | exact .inl rfl | exact .inr rfl) (fun _ h => h)) ?_; rfl)
end Go.Proofs.YtokaegeediokoaaGreatDoor
end
section
namespace Go.Proofs.YtokaegeediokoaaGreatDoor
open Go.RowKit Go.ChangeShapes Go.WideShapes V
set_option maxRecDepth 100000
set_option maxHeartbeats 4000000
theorem own : ownKnob Tryz.prog.godebug = none := by kernel_rfl
theorem laidOut : laidOutB Tryz.prog = true := by kernel_rfl
def tabs_laid : List (String × DataW Unit) := [("inlay/hash.initial", Rows.laid_inlay_hash_initial), ("inlay/hash.rounds", Rows.laid_inlay_hash_rounds), ("bytes.ErrTooLarge", Rows.laid_bytes_ErrTooLarge)]
theorem ini_data : (Rows.laid_inlay_hash_initial : DataW Unit) = Lib.tabData .u32 h0.l := rfl
theorem rnd_data : (Rows.laid_inlay_hash_rounds : DataW Unit) = Lib.tabData .u32 kL := rfl
theorem gIni : Tryz.prog.globalNamed "inlay/hash.initial" = some 0 := by kernel_rfl
theorem gRnd : Tryz.prog.globalNamed "inlay/hash.rounds" = some 2 := by kernel_rfl
theorem items_vals {E : Env} {T : Nat → Prop} {w : World} (k : IntKind) : ∀ zs : List Int, (∀ z ∈ zs, inR k z) → Items E T w (zs.map (SV.int k)) (zs.map fun z => Value.int k z)
  | [], _ => .nil
  | z :: zs, h => .one _ _ _ _ rfl (.int _ _ (h z (List.mem_cons_self ..))) (items_vals k zs fun y hy => h y (List.mem_cons_of_mem _ hy))
theorem u32_all (zs : List Int) (h : zs.all (fun z => decide (0 ≤ z ∧ z ≤ 4294967295)) = true) : ∀ z ∈ zs, inR IntKind.u32 z := fun z hz => by
  have := of_decide_eq_true (List.all_eq_true.1 h z hz)
  simp [inR, IntKind.min, IntKind.max, IntKind.bits, IntKind.signed]
  omega
theorem tab_rep {w : World} {n : String} {g : Nat} {zs : List Int} {l : List SV} (hg : Tryz.prog.globalNamed n = some g) {m : Nat} (hm : zs.length = m) (hn : 0 < m) (h : Lib.TabIs Tryz.prog w n .u32 zs) (hl : Items E0 (fun _ => False) w l (zs.map fun z => Value.int .u32 z)) :
    Rep E0 (fun _ => False) w (.rop (.g 1 m fun _ => l) 0 0) (.pointer (some ⟨g, 0, none⟩)) ∧ ∃ t, w.shape? g = some (t, (EV.g 1 m fun _ => l).len * (EV.g 1 m fun _ => l).sz) := by
  subst hm
  unfold Lib.TabIs World.var? at h
  simp only [hg, Option.bind_some] at h
  split at h
  · rename_i c t fr hh
    simp only [Option.some.injEq] at h
    have hcell : ∀ i, i < zs.length → w.cell? ⟨g, i, none⟩ = some (.int .u32 (zs.getD i 0)) := fun i hi => by
      unfold World.cell?
      rw [hh]
      simp [h, List.getD, List.getElem?_eq_getElem hi]
    have hce : ∀ i j v, i < 1 → (zs.map fun z => Value.int IntKind.u32 z)[j]? = some v → w.cell? ⟨g, 0 + i * zs.length + j, none⟩ = some v := fun i j v hi hj => by
      have hi0 : i = 0 := by omega
      subst hi0
      have hj2 : j < zs.length := by
        have := (List.getElem?_eq_some_iff.1 hj).1
        simpa using this
      rw [List.getElem?_map, List.getElem?_eq_getElem hj2] at hj
      simp only [Option.map_some, Option.some.injEq] at hj
      have h3 := hcell j hj2
      rw [List.getD_eq_getElem?_getD, List.getElem?_eq_getElem hj2, Option.getD_some, hj] at h3
      simpa [EV.sz] using h3
    have hrep := Rep.rop (E := E0) (T := fun _ => False) (w := w) (.g 1 zs.length fun _ => l) 0 0 g 0 (fun _ => zs.map fun z => Value.int .u32 z) (fun h => h) (fun i _ => (List.length_map _).trans rfl) hce (fun i hi => hl) (show 0 < 1 from Nat.one_pos) hn (block_lt_of_cell (hcell 0 hn))
    refine ⟨by simpa only [Nat.zero_mul, Nat.add_zero] using hrep, t, ?_⟩
    unfold World.shape?
    rw [hh]
    simp [h, EV.len, EV.sz]
  · cases h
theorem tabs_glob (W : World) (h : laidMetH Tryz.prog tabs_laid W) : GOk Γh (fun _ => False) W := by
  have h1 : laidMet Tryz.prog tabs_laid W := by
    rw [MakeChecks.laidMetH_plain _ _ _ (by kernel_rfl)] at h
    exact h
  have h2 := h1
  unfold tabs_laid at h2
  rw [ini_data] at h2
  have h3 := Lib.tabIs_of_head gIni (by kernel_rfl) Tryz.underlying217 Tryz.underlying216 (by kernel_rfl) (by kernel_rfl) h2
  have h4 := h1.tail
  rw [rnd_data] at h4
  have h5 := Lib.tabIs_of_head gRnd (by kernel_rfl) Tryz.underlying243 Tryz.underlying216 (by kernel_rfl) (by kernel_rfl) h4
  have i1 := tab_rep (l := h0.v) gIni rfl (by decide) h3 (items_vals .u32 h0.l (u32_all _ (by decide)))
  have i2 := tab_rep (l := [.arr 64 (.ints .u32 kL)]) gRnd rfl (by decide) h5 (items_arr .u32 kL _ (items_vals .u32 kL (u32_all _ (by decide))))
  have key : ∀ g e, gl Γh g = some e → (g = 0 ∧ e = itab) ∨ (g = 2 ∧ e = rtab) := by
    intro g e hg
    simp only [gl] at hg
    split at hg
    · rename_i hb
      exact .inl ⟨(Nat.eq_of_beq_eq_true hb).symm, by simpa using hg.symm⟩
    · split at hg
      · rename_i hb
        exact .inr ⟨(Nat.eq_of_beq_eq_true hb).symm, by simpa using hg.symm⟩
      · cases hg
  refine ⟨fun g e hg => ?_, fun g e hg => ?_⟩ <;> rcases key g e hg with ⟨rfl, rfl⟩ | ⟨rfl, rfl⟩
  · exact i1.1
  · exact i2.1
  · exact i1.2
  · exact i2.2
theorem door_met (os : Os) (args : Array Value) : laidMetH Tryz.prog tabs_laid ((World.laidAll Tryz.prog os tabs_laid).forCall (fun _ _ => 0) ⟨#[], args, []⟩).memory := by
  rw [MakeChecks.laidMetH_plain _ _ _ (by kernel_rfl)]
  exact laidMet_laidAll _ (by kernel_rfl) (by kernel_rfl)
end Go.Proofs.YtokaegeediokoaaGreatDoor
end
section
namespace Go.Proofs.YtokaegeediokoaaGreatDoor
open Go.RowKit V
section
variable {H : Type}
theorem u8Of_i (x : DataW H) (h : inR .u8 (iOf x)) : iOf x = ((u8Of x).toNat : Int) := by
  have h1 := u8_iff h
  unfold u8Of
  have h2 : (iOf x).toNat < 256 := by omega
  rw [UInt8.toNat_ofNat_of_lt' h2]
  omega
theorem nthD_out : ∀ (l : List (DataW H)) (i : Nat), l.length ≤ i → nthD l i = .nil
  | [], _, _ => rfl
  | x :: l, 0, h => by simp at h
  | x :: l, i + 1, h => nthD_out l i (by simpa using h)
end
end Go.Proofs.YtokaegeediokoaaGreatDoor
end
section
namespace Go.Proofs.YtokaegeediokoaaGreatDoor
open Go.RowKit V
set_option maxRecDepth 100000
set_option maxHeartbeats 8000000
set_option linter.unusedSimpArgs false
attribute [local irreducible] V.Sat V.DSat
structure PartL where
  name : List UInt8
  hash : List UInt8
@[reducible] def part0 : PartL := ⟨[], []⟩
@[reducible] def partsE (l : List PartL) : EV := .g l.length 33 fun i => [.str (l.getD i part0).name, .arr 32 (.u8 (l.getD i part0).hash)]
structure Rel where
  version : Int
  floor : Int
  expiry : Int
  size : Int
  image : List UInt8
  chunks : Int
  tree : List UInt8
  gone : List Int
  parts : List PartL
@[reducible] def Rel.v (r : Rel) : SV := .agg [.int .i64 r.version, .int .i64 r.floor, .int .i64 r.expiry, .int .i64 r.size, .arr 32 (.u8 r.image), .int .i64 r.chunks, .arr 32 (.u8 r.tree), .ro (.ints .i64 r.gone), .ro (partsE r.parts)]
def PartP (l : List PartL) (i : Nat) : Prop := nameB (l.getD i part0).name = true ∧ (0 < i → Op.bytesLess (l.getD (i - 1) part0).name (l.getD i part0).name = true)
instance (l : List PartL) (i : Nat) : Decidable (PartP l i) := by unfold PartP; infer_instance
def valid1 (r : Rel) : Bool := inB r.version 1 60000 && (inB r.floor 0 r.version && (inB r.expiry 0 1000000000 && (inB r.size 0 65536 && inB r.chunks 1 256)))
def valid2 (r : Rel) : Bool := decide (r.gone.length ≤ 16) && (risB r.gone 0 60000 && decide (r.parts.length ≤ 8))
def valid3 (r : Rel) : Bool := decide (∀ i, i < r.gone.length → r.gone.getD i 0 ≠ r.version)
def valid4 (r : Rel) : Bool := decide (∀ i, i < r.parts.length → PartP r.parts i)
def validB (r : Rel) : Bool := valid1 r && (valid2 r && (valid3 r && valid4 r))
theorem valid2_f (go : List Int) (pa : List PartL) (h : (decide (16 < (go.length : Int)) = true ∨ risB go 0 60000 = false) ∨ decide (8 < (pa.length : Int)) = true) : (decide (go.length ≤ 16) && (risB go 0 60000 && decide (pa.length ≤ 8))) = false := by
  rcases h with (h | h) | h
  · have := of_decide_eq_true h
    rw [decide_eq_false (by omega)]; rfl
  · rw [h]; simp
  · have := of_decide_eq_true h
    rw [decide_eq_false (p := pa.length ≤ 8) (by omega)]; simp
theorem valid2_t (go : List Int) (pa : List PartL) (h : (decide (16 < (go.length : Int)) = false ∧ risB go 0 60000 = true) ∧ decide (8 < (pa.length : Int)) = false) : (decide (go.length ≤ 16) && (risB go 0 60000 && decide (pa.length ≤ 8))) = true := by
  obtain ⟨⟨h1, h2⟩, h3⟩ := h
  have := of_decide_eq_false h1
  have := of_decide_eq_false h3
  rw [h2, decide_eq_true (p := go.length ≤ 16) (by omega), decide_eq_true (p := pa.length ≤ 8) (by omega)]; rfl
theorem valid_ref (r : Rel) : Fun Tryz.prog [] 40 [r.v] (.bool (validB r)) := by
  obtain ⟨v, fl, ex, sz, im, ch, tr, go, pa⟩ := r
  have i1 := in_ref v 1 60000
  have i2 := in_ref fl 0 v
  have i3 := in_ref ex 0 1000000000
  have i4 := in_ref sz 0 65536
  have i5 := in_ref ch 1 256
  have ri := rising_ref go 0 60000
  refine Fun.mkF 7 Tryz.func40 rfl Tryz.ntmps40 rfl rfl fun hf T w0 => ?_
  repeat' (first
    | ((with_reducible apply Sat.run (X := X64)); exact rfl; (first | exact True.intro | (exact phi) | skip))
    | ((with_reducible apply Sat.cond); exact rfl; all_goals (intro h; (try simp only [V.EV.sub, V.EV.len, Bool.cond_true_left, Bool.cond_false_right, Bool.or_eq_true, Bool.and_eq_true, Bool.or_eq_false_iff, Bool.and_eq_false_iff, Bool.not_eq_true', Bool.not_eq_false', decide_eq_true_eq, decide_eq_false_iff_not, ne_eq] at h)))
    | ((with_reducible apply Sat.callR (i1)); exact rfl; exact rfl; exact rfl; kernel_rfl; (exact cnv); exact rfl)
    | ((with_reducible apply Sat.callG1 (i2)); exact rfl; exact rfl; exact rfl; exact rfl; kernel_rfl; (intro hG; (exact cnv)); exact rfl)
    | ((with_reducible apply Sat.callG1 (i3)); exact rfl; exact rfl; exact rfl; exact rfl; kernel_rfl; (intro hG; (exact cnv)); exact rfl)
    | ((with_reducible apply Sat.callG1 (i4)); exact rfl; exact rfl; exact rfl; exact rfl; kernel_rfl; (intro hG; (exact cnv)); exact rfl)
    | ((with_reducible apply Sat.callG1 (i5)); exact rfl; exact rfl; exact rfl; exact rfl; kernel_rfl; (intro hG; (exact cnv)); exact rfl)
    | ((with_reducible apply Sat.callG1 (ri)); exact rfl; exact rfl; exact rfl; exact rfl; kernel_rfl; (intro hG; (exact cnv)); exact rfl) | fail)
  · (refine Sat.fin (Sat.end1 rfl rfl rfl True.intro (.refl _ pur) (by first | exact .inl rfl | exact .inr rfl) (fun _ h => h)) ?_; (refine congrArg SV.bool ?_; unfold validB valid1; rcases h with (((h | h) | h) | h) | h <;> simp [h]))
  · (refine Sat.fin (Sat.end1 rfl rfl rfl True.intro (.refl _ pur) (by first | exact .inl rfl | exact .inr rfl) (fun _ h => h)) ?_; (refine congrArg SV.bool ?_; unfold validB valid2; rw [valid2_f go pa h]; simp))
  have e2 := valid2_t go pa h
  rename_i h1
  have e1 : valid1 ⟨v, fl, ex, sz, im, ch, tr, go, pa⟩ = true := by
    obtain ⟨⟨⟨⟨q1, q2⟩, q3⟩, q4⟩, q5⟩ := h1
    unfold valid1; simp [q1, q2, q3, q4, q5]
  have e2 : valid2 ⟨v, fl, ex, sz, im, ch, tr, go, pa⟩ = true := e2
  have hg : go.length ≤ 16 := by
    unfold valid2 at e2; simp at e2; omega
  have hp : pa.length ≤ 8 := by
    unfold valid2 at e2; simp at e2; omega
  clear h h1
  apply Sat.loop (α := Nat) (fun x => x ≤ go.length ∧ ∀ i, i < x → go.getD i 0 ≠ v) (fun x => go.length - x) 0 (fun x => [(3, .int .i64 (x : Int))]) (fun _ => []) [] [] 0
  · intro x; exact rfl
  · intro x; exact rfl
  · exact rfl
  · exact rfl
  · (repeat' (first | exact AllP.nil | with_reducible refine AllP.cons ?_ ?_)) <;> first | exact rfl | exact trivial | (intro _ _; simp [pureL, pureS, pureE]; done) | exact ⟨rfl, rfl, rfl, rfl⟩
  · exact ⟨Nat.zero_le _, fun i hi => by omega⟩
  · rintro x ⟨x1, x2⟩
    repeat' (first
      | ((with_reducible apply Sat.run (X := X64)); exact rfl; (first | exact True.intro | (exact phi) | skip))
      | ((with_reducible apply Sat.drawn); kernel_rfl)
      | ((with_reducible apply DSat.run (X := X64)); exact rfl; (first | exact True.intro | (exact phi) | skip))
      | ((with_reducible apply DSat.fin); kernel_rfl)
      | ((with_reducible apply Sat.cond_p); exact rfl; all_goals (intro h; (try simp only [V.EV.sub, V.EV.len] at h))) | fail)
    · (refine Sat.fin (Sat.end1 rfl rfl rfl True.intro (.refl _ pur) (by first | exact .inl rfl | exact .inr rfl) (fun _ h => h)) ?_; (refine congrArg SV.bool ?_; unfold validB; rw [show valid3 ⟨v, fl, ex, sz, im, ch, tr, go, pa⟩ = false from decide_eq_false fun e => e x (by show x < go.length; omega) h]; simp))
    · refine Sat.back (x + 1) [] rfl ?_ ?_ ?_
      · (repeat' (first | exact AllP.nil | with_reducible refine AllP.cons ?_ ?_)) <;> first | exact rfl | exact trivial | exact Int.natCast_add_one _ | (intro _ _; simp [pureL, pureS, pureE]; done) | exact ⟨rfl, rfl, rfl, rfl⟩
      · refine ⟨by omega, fun i hi => ?_⟩
        rcases Nat.lt_succ_iff_lt_or_eq.1 hi with h1 | rfl
        · exact x2 i h1
        · exact h
      · omega
    have e3 : valid3 ⟨v, fl, ex, sz, im, ch, tr, go, pa⟩ = true := decide_eq_true fun i hi => x2 i (by dsimp only at hi; omega)
    apply Sat.loop (α := Nat) (fun x => x ≤ pa.length ∧ ∀ i, i < x → PartP pa i) (fun x => pa.length - x) 0 (fun x => [(4, .int .i64 (x : Int))]) (fun _ => []) [] [] 0
    · intro x; exact rfl
    · intro x; exact rfl
    · exact rfl
    · exact rfl
    · (repeat' (first | exact AllP.nil | with_reducible refine AllP.cons ?_ ?_)) <;> first | exact rfl | exact trivial | (intro _ _; simp [pureL, pureS, pureE]; done) | exact ⟨rfl, rfl, rfl, rfl⟩
    · exact ⟨Nat.zero_le _, fun i hi => by omega⟩
    · rintro y ⟨y1, y2⟩
      have hn := name_ref (pa.getD (y : Int).toNat part0).name
      have key : PartP pa y ↔ (nameB (pa.getD (y : Int).toNat part0).name = true ∧ (¬ 0 < (y : Int) ∨ Op.bytesLess (pa.getD ((y : Int) - 1).toNat part0).name (pa.getD (y : Int).toNat part0).name = true)) := by
        unfold PartP
        rw [show (y : Int).toNat = y from rfl, show ((y : Int) - 1).toNat = y - 1 by omega]
        refine and_congr_right fun _ => ?_
        rcases Nat.eq_zero_or_pos y with h0 | h0
        · subst h0; simp
        · have h1 : (0 : Int) < y := by omega
          simp [h0, h1]
      repeat' (first
        | ((with_reducible apply Sat.run (X := X64)); exact rfl; (first | exact True.intro | (exact phi) | skip))
        | ((with_reducible apply Sat.drawn); kernel_rfl)
        | ((with_reducible apply DSat.run (X := X64)); exact rfl; (first | exact True.intro | (exact phi) | skip))
        | ((with_reducible apply DSat.fin); kernel_rfl)
        | ((with_reducible apply Sat.cond_p); exact rfl; all_goals (intro h; (try simp only [V.EV.sub, V.EV.len] at h)))
        | ((with_reducible apply Sat.cond); exact rfl; all_goals (intro h; (try simp only [V.EV.sub, V.EV.len, Bool.cond_true_left, Bool.cond_false_right, Bool.or_eq_true, Bool.and_eq_true, Bool.or_eq_false_iff, Bool.and_eq_false_iff, Bool.not_eq_true', Bool.not_eq_false', decide_eq_true_eq, decide_eq_false_iff_not, ne_eq] at h)))
        | ((with_reducible apply DSat.callR (hn)); exact rfl; exact rfl; exact rfl; kernel_rfl; (exact cnv); exact rfl) | fail)
      · (refine Sat.fin (Sat.end1 rfl rfl rfl True.intro (.refl _ pur) (by first | exact .inl rfl | exact .inr rfl) (fun _ h => h)) ?_; (refine congrArg SV.bool ?_; unfold validB; rw [show valid4 ⟨v, fl, ex, sz, im, ch, tr, go, pa⟩ = false from decide_eq_false fun e => by have q := key.1 (e y (by show y < pa.length; omega)); rcases h with h | h <;> simp_all]; simp))
      · refine Sat.back (y + 1) [] rfl ?_ ?_ ?_
        · (repeat' (first | exact AllP.nil | with_reducible refine AllP.cons ?_ ?_)) <;> first | exact rfl | exact trivial | exact Int.natCast_add_one _ | (intro _ _; simp [pureL, pureS, pureE]; done) | exact ⟨rfl, rfl, rfl, rfl⟩
        · refine ⟨by omega, fun i hi => ?_⟩
          rcases Nat.lt_succ_iff_lt_or_eq.1 hi with h1 | rfl
          · exact y2 i h1
          · exact key.2 h
        · omega
      · (refine Sat.fin (Sat.end1 rfl rfl rfl True.intro (.refl _ pur) (by first | exact .inl rfl | exact .inr rfl) (fun _ h => h)) ?_; (refine congrArg SV.bool ?_; unfold validB; rw [e1, e2, e3, show valid4 ⟨v, fl, ex, sz, im, ch, tr, go, pa⟩ = true from decide_eq_true fun i hi => y2 i (by dsimp only at hi; omega)]; rfl))
end Go.Proofs.YtokaegeediokoaaGreatDoor
end
section
namespace Go.Proofs.YtokaegeediokoaaGreatDoor
open Go.RowKit V
set_option maxRecDepth 100000
set_option maxHeartbeats 8000000
set_option linter.unusedSimpArgs false
attribute [local irreducible] V.Sat V.DSat
def idxL {α : Type} (p : α → Bool) : List α → Nat → Int
  | [], _ => -1
  | a :: r, k => match p a with
    | true => (k : Int)
    | false => idxL p r (k + 1)
theorem idxL_at {α : Type} (p : α → Bool) (z : α) : ∀ (l : List α) (k x : Nat), (∀ i, i < x → p (l.getD i z) = false) → x < l.length → p (l.getD x z) = true → idxL p l k = ((k + x : Nat) : Int)
  | [], _, _, _, h, _ => by simp at h
  | a :: r, k, 0, _, _, h => by
    have : p a = true := h
    simp [idxL, this]
  | a :: r, k, x + 1, h1, h2, h3 => by
    have h0 : p a = false := h1 0 (by omega)
    simp only [idxL, h0]
    rw [idxL_at p z r (k + 1) x (fun i hi => by simpa using h1 (i + 1) (by omega)) (by simpa using h2) (by simpa using h3)]
    omega
theorem idxL_none {α : Type} (p : α → Bool) (z : α) : ∀ (l : List α) (k : Nat), (∀ i, i < l.length → p (l.getD i z) = false) → idxL p l k = -1
  | [], _, _ => rfl
  | a :: r, k, h => by
    have h0 : p a = false := h 0 (by simp)
    rw [idxL, h0]
    exact idxL_none p z r (k + 1) fun i hi => by simpa using h (i + 1) (by simpa using hi)
theorem idxL_any {α : Type} (p : α → Bool) : ∀ (l : List α) (k : Nat), decide (0 ≤ idxL p l k) = l.any p
  | [], _ => rfl
  | a :: r, k => by
    rw [idxL, List.any_cons]
    cases h : p a with
    | true => simp
    | false => simpa using idxL_any p r (k + 1)
theorem smallc_spec (n : Int) : Fun Tryz.prog [] 169 [.int .i64 n] (.bool (!inB n 0 1000000000)) := by
  have hi := in_spec n 0 1000000000
  refine Fun.mk 6 Tryz.func169 rfl Tryz.ntmps169 rfl rfl fun T w0 => ?_
  repeat' (first
    | ((with_reducible apply Sat.run (X := X64)); exact rfl; (first | exact True.intro | (exact phi) | skip))
    | ((with_reducible apply Sat.callR (hi)); exact rfl; exact rfl; exact rfl; kernel_rfl; (exact cnv); exact rfl) | fail)
  (refine Sat.fin (Sat.end1 rfl rfl rfl True.intro (.refl _ pur) (by first | exact .inl rfl | exact .inr rfl) (fun _ h => h)) ?_; rfl)
theorem indexFunc_int (p : Int → Bool) (f : FuncId) (hcl : callable Tryz.prog f = true) (hp : ∀ n, Fun Tryz.prog [] f [.int .i64 n] (.bool (p n))) (l : List Int) : Fun Tryz.prog [] 195 [.ro (.ints .i64 l), .fn f []] (.int .i64 (idxL p l 0)) := by
  refine Fun.mkF 6 Tryz.func195 rfl Tryz.ntmps195 rfl rfl fun hf T w0 => ?_
  obtain ⟨⟨hl, _⟩, _⟩ := hf
  dsimp only [EV.len] at hl
  unfold okLen at hl
  repeat' (first
    | ((with_reducible apply Sat.run (X := X64)); exact rfl; (first | exact True.intro | (exact phi) | skip)) | fail)
  apply Sat.loop (α := Nat) (fun x => x ≤ l.length ∧ ∀ i, i < x → p (l.getD i 0) = false) (fun x => l.length - x) 0 (fun x => [(8, .int .i64 (x : Int))]) (fun _ => []) [] [] 0
  · intro x; exact rfl
  · intro x; exact rfl
  · exact rfl
  · exact rfl
  · (repeat' (first | exact AllP.nil | with_reducible refine AllP.cons ?_ ?_)) <;> first | exact rfl | exact trivial
  · exact ⟨Nat.zero_le _, fun i hi => by omega⟩
  · rintro x ⟨x1, x2⟩
    have hc := hp (l.getD (x : Int).toNat 0)
    repeat' (first
      | ((with_reducible apply Sat.run (X := X64)); exact rfl; (first | exact True.intro | (exact phi) | skip))
      | ((with_reducible apply Sat.cond_p); exact rfl; all_goals (intro h; (try simp only [V.EV.sub, V.EV.len] at h)))
      | ((with_reducible apply Sat.cond); exact rfl; all_goals (intro h; (try simp only [V.EV.sub, V.EV.len, Bool.cond_true_left, Bool.cond_false_right, Bool.or_eq_true, Bool.and_eq_true, Bool.or_eq_false_iff, Bool.and_eq_false_iff, Bool.not_eq_true', Bool.not_eq_false', decide_eq_true_eq, decide_eq_false_iff_not, ne_eq] at h)))
      | ((with_reducible apply Sat.callR (hc)); exact rfl; exact rfl; exact rfl; exact hcl; (exact cnv); exact rfl) | fail)
    · (refine Sat.fin (Sat.end1 rfl rfl rfl True.intro (.refl _ pur) (by first | exact .inl rfl | exact .inr rfl) (fun _ h => h)) ?_; (exact congrArg (SV.int .i64) ((idxL_at p 0 l 0 x x2 (by omega) h).trans (by simp))))
    · refine Sat.back (x + 1) [] rfl ?_ ?_ ?_
      · (repeat' (first | exact AllP.nil | with_reducible refine AllP.cons ?_ ?_)) <;> first | exact rfl | exact trivial | exact Int.natCast_add_one _
      · refine ⟨by omega, fun i hi => ?_⟩
        rcases Nat.lt_succ_iff_lt_or_eq.1 hi with h1 | rfl
        · exact x2 i h1
        · exact h
      · omega
    · (refine Sat.fin (Sat.end1 rfl rfl rfl True.intro (.refl _ pur) (by first | exact .inl rfl | exact .inr rfl) (fun _ h => h)) ?_; (exact congrArg (SV.int .i64) (idxL_none p 0 l 0 fun i hi => x2 i (by omega))))
theorem containsFunc_int (p : Int → Bool) (f : FuncId) (hcl : callable Tryz.prog f = true) (hp : ∀ n, Fun Tryz.prog [] f [.int .i64 n] (.bool (p n))) (l : List Int) : Fun Tryz.prog [] 168 [.ro (.ints .i64 l), .fn f []] (.bool (l.any p)) := by
  have hi := indexFunc_int p f hcl hp l
  refine Fun.mk 6 Tryz.func168 rfl Tryz.ntmps168 rfl rfl fun T w0 => ?_
  repeat' (first
    | ((with_reducible apply Sat.run (X := X64)); exact rfl; (first | exact True.intro | (exact phi) | skip))
    | ((with_reducible apply Sat.callR (hi)); exact rfl; exact rfl; exact rfl; kernel_rfl; (exact cnv); exact rfl) | fail)
  (refine Sat.fin (Sat.end1 rfl rfl rfl True.intro (.refl _ pur) (by first | exact .inl rfl | exact .inr rfl) (fun _ h => h)) ?_; (exact congrArg SV.bool (idxL_any p l 0).symm))
theorem small_spec (l : List Int) : Fun Tryz.prog [] 117 [.ro (.ints .i64 l)] (.bool (!l.any fun n => !inB n 0 1000000000)) := by
  have hi := containsFunc_int (fun n => !inB n 0 1000000000) 169 (by kernel_rfl) smallc_spec l
  refine Fun.mk 6 Tryz.func117 rfl Tryz.ntmps117 rfl rfl fun T w0 => ?_
  repeat' (first
    | ((with_reducible apply Sat.run (X := X64)); exact rfl; (first | exact True.intro | (exact phi) | skip))
    | ((with_reducible apply Sat.callR (hi)); exact rfl; exact rfl; exact rfl; kernel_rfl; (exact cnv); exact rfl) | fail)
  (refine Sat.fin (Sat.end1 rfl rfl rfl True.intro (.refl _ pur) (by first | exact .inl rfl | exact .inr rfl) (fun _ h => h)) ?_; rfl)
end Go.Proofs.YtokaegeediokoaaGreatDoor
end
section
namespace Go.Proofs.YtokaegeediokoaaGreatDoor
open Go.RowKit V
set_option maxRecDepth 100000
set_option maxHeartbeats 8000000
set_option linter.unusedSimpArgs false
attribute [local irreducible] V.Sat V.DSat
@[reducible] def XF : IntKind → Bool := fun _ => false
@[reducible] def subW (a b : Int) : Int := IntKind.i64.wrap (a - b)
theorem withinc_spec (a b : Int) : Fun Tryz.prog [] 171 [.int .i64 a, .int .i64 b] (.int .i64 (subW a b)) := by
  refine Fun.mk 6 Tryz.func171 rfl Tryz.ntmps171 rfl rfl fun T w0 => ?_
  repeat' (first
    | ((with_reducible apply Sat.run (X := XF)); exact rfl; (first | exact True.intro | (exact phi) | skip)) | fail)
  (refine Sat.fin (Sat.end1 rfl rfl rfl True.intro (.refl _ pur) (by first | exact .inl rfl | exact .inr rfl) (fun _ h => h)) ?_; rfl)
def risC (c : Int → Int → Int) (l : List Int) : Bool := decide (∀ i, i < l.length → 0 < i → c (l.getD (i - 1) 0) (l.getD i 0) < 0)
theorem rising_int (c : Int → Int → Int) (f : FuncId) (hcl : callable Tryz.prog f = true) (hp : ∀ a b, Fun Tryz.prog [] f [.int .i64 a, .int .i64 b] (.int .i64 (c a b))) (l : List Int) : Fun Tryz.prog [] 170 [.ro (.ints .i64 l), .fn f []] (.bool (risC c l)) := by
  refine Fun.mkF 6 Tryz.func170 rfl Tryz.ntmps170 rfl rfl fun hf T w0 => ?_
  obtain ⟨⟨hl, _⟩, _⟩ := hf
  dsimp only [EV.len] at hl
  unfold okLen at hl
  repeat' (first
    | ((with_reducible apply Sat.run (X := X64)); exact rfl; (first | exact True.intro | (exact phi) | skip)) | fail)
  apply Sat.loop (α := Nat) (fun x => (1 ≤ x ∧ (x ≤ l.length ∨ x = 1)) ∧ ∀ i, i < x → 0 < i → c (l.getD (i - 1) 0) (l.getD i 0) < 0) (fun x => l.length + 1 - x) 1 (fun x => [(5, .int .i64 (x : Int))]) (fun _ => []) [] [] 0
  · intro x; exact rfl
  · intro x; exact rfl
  · exact rfl
  · exact rfl
  · (repeat' (first | exact AllP.nil | with_reducible refine AllP.cons ?_ ?_)) <;> first | exact rfl | exact trivial
  · exact ⟨⟨Nat.le_refl _, .inr rfl⟩, fun i hi h0 => by omega⟩
  · rintro x ⟨⟨x0, x1⟩, x2⟩
    have hc := hp (l.getD ((x : Int) - 1).toNat 0) (l.getD (x : Int).toNat 0)
    have e1 : ((x : Int) - 1).toNat = x - 1 := by omega
    have e2 : (x : Int).toNat = x := rfl
    repeat' (first
      | ((with_reducible apply Sat.run (X := X64)); exact rfl; (first | exact True.intro | (exact phi) | skip))
      | ((with_reducible apply Sat.drawn); kernel_rfl)
      | ((with_reducible apply DSat.run (X := X64)); exact rfl; (first | exact True.intro | (exact phi) | skip))
      | ((with_reducible apply DSat.fin); kernel_rfl)
      | ((with_reducible apply Sat.cond_p); exact rfl; all_goals (intro h; (try simp only [V.EV.sub, V.EV.len] at h)))
      | ((with_reducible apply DSat.callR (hc)); exact rfl; exact rfl; exact rfl; exact hcl; (exact cnv); exact rfl) | fail)
    · (refine Sat.fin (Sat.end1 rfl rfl rfl True.intro (.refl _ pur) (by first | exact .inl rfl | exact .inr rfl) (fun _ h => h)) ?_; (rw [e1, e2] at h; exact congrArg SV.bool (decide_eq_false fun e => by have := e x (by omega) (by omega); omega)))
    · refine Sat.back (x + 1) [] rfl ?_ ?_ ?_
      · (repeat' (first | exact AllP.nil | with_reducible refine AllP.cons ?_ ?_)) <;> first | exact rfl | exact trivial | exact Int.natCast_add_one _
      · refine ⟨by omega, fun i hi h0 => ?_⟩
        rcases Nat.lt_succ_iff_lt_or_eq.1 hi with h1 | rfl
        · exact x2 i h1 h0
        · rw [e1, e2] at h; omega
      · omega
    · (refine Sat.fin (Sat.end1 rfl rfl rfl True.intro (.refl _ pur) (by first | exact .inl rfl | exact .inr rfl) (fun _ h => h)) ?_; (exact congrArg SV.bool (decide_eq_true fun i hi h0 => x2 i (by omega) h0)))
def withinB (l : List Int) (low high : Int) : Bool := risC subW l && (decide (l.length = 0) || (decide (low ≤ l.getD 0 0) && decide (l.getD (l.length - 1) 0 ≤ high)))
theorem within_spec (l : List Int) (low high : Int) : Fun Tryz.prog [] 118 [.ro (.ints .i64 l), .int .i64 low, .int .i64 high] (.bool (withinB l low high)) := by
  have hr := rising_int subW 171 (by kernel_rfl) withinc_spec l
  unfold withinB
  cases hR : risC subW l <;> rw [hR] at hr
  all_goals
    refine Fun.mkF 6 Tryz.func118 rfl Tryz.ntmps118 rfl rfl fun hf T w0 => ?_
    obtain ⟨⟨hl, _⟩, _⟩ := hf
    dsimp only [EV.len] at hl
    unfold okLen at hl
    repeat' (first
      | ((with_reducible apply Sat.run (X := X64)); exact rfl; (first | exact True.intro | (exact phi) | skip))
      | ((with_reducible apply Sat.callR (hr)); exact rfl; exact rfl; exact rfl; kernel_rfl; (exact cnv); exact rfl) | fail)
  · (refine Sat.fin (Sat.end1 rfl rfl rfl True.intro (.refl _ pur) (by first | exact .inl rfl | exact .inr rfl) (fun _ h => h)) ?_; rfl)
  · dsimp only [V.EV.len]
    by_cases h0 : l.length = 0
    · (repeat' (first | exact AllP.nil | with_reducible refine AllP.cons ?_ ?_)) <;> (simp [h0])
    · have q1 : inR .i64 ((l.length : Int) - 1) := inR_i64 (by omega) (by omega)
      have q2 : (0 : Int) < l.length := by omega
      (repeat' (first | exact AllP.nil | with_reducible refine AllP.cons ?_ ?_)) <;> first | (simp [h0]; done) | (intros; exact q1) | (intros; omega) | (intros; exact ⟨by omega, by omega⟩)
  · (refine Sat.fin (Sat.end1 rfl rfl rfl True.intro (.refl _ pur) (by first | exact .inl rfl | exact .inr rfl) (fun _ h => h)) ?_; (refine congrArg SV.bool ?_; (have e : ((l.length : Int) - 1).toNat = l.length - 1 := by omega); by_cases h0 : l.length = 0 <;> simp [h0, e, V.EV.len]))
theorem index_int (x : Int) (l : List Int) : Fun Tryz.prog [] 98 [.ro (.ints .i64 l), .int .i64 x] (.int .i64 (idxL (fun y => decide (x = y)) l 0)) := by
  refine Fun.mkF 6 Tryz.func98 rfl Tryz.ntmps98 rfl rfl fun hf T w0 => ?_
  obtain ⟨⟨hl, _⟩, _⟩ := hf
  dsimp only [EV.len] at hl
  unfold okLen at hl
  repeat' (first
    | ((with_reducible apply Sat.run (X := X64)); exact rfl; (first | exact True.intro | (exact phi) | skip)) | fail)
  apply Sat.loop (α := Nat) (fun y => y ≤ l.length ∧ ∀ i, i < y → decide (x = l.getD i 0) = false) (fun x => l.length - x) 0 (fun x => [(8, .int .i64 (x : Int))]) (fun _ => []) [] [] 0
  · intro x; exact rfl
  · intro x; exact rfl
  · exact rfl
  · exact rfl
  · (repeat' (first | exact AllP.nil | with_reducible refine AllP.cons ?_ ?_)) <;> first | exact rfl | exact trivial
  · exact ⟨Nat.zero_le _, fun i hi => by omega⟩
  · rintro y ⟨x1, x2⟩
    repeat' (first
      | ((with_reducible apply Sat.run (X := X64)); exact rfl; (first | exact True.intro | (exact phi) | skip))
      | ((with_reducible apply Sat.cond_p); exact rfl; all_goals (intro h; (try simp only [V.EV.sub, V.EV.len] at h))) | fail)
    · (refine Sat.fin (Sat.end1 rfl rfl rfl True.intro (.refl _ pur) (by first | exact .inl rfl | exact .inr rfl) (fun _ h => h)) ?_; (exact congrArg (SV.int .i64) ((idxL_at (fun y => decide (x = y)) 0 l 0 y x2 (by omega) (decide_eq_true h)).trans (by simp))))
    · refine Sat.back (y + 1) [] rfl ?_ ?_ ?_
      · (repeat' (first | exact AllP.nil | with_reducible refine AllP.cons ?_ ?_)) <;> first | exact rfl | exact trivial | exact Int.natCast_add_one _
      · refine ⟨by omega, fun i hi => ?_⟩
        rcases Nat.lt_succ_iff_lt_or_eq.1 hi with h1 | rfl
        · exact x2 i h1
        · exact decide_eq_false h
      · omega
    · (refine Sat.fin (Sat.end1 rfl rfl rfl True.intro (.refl _ pur) (by first | exact .inl rfl | exact .inr rfl) (fun _ h => h)) ?_; (exact congrArg (SV.int .i64) (idxL_none (fun y => decide (x = y)) 0 l 0 fun i hi => x2 i (by omega))))
theorem contains_int (x : Int) (l : List Int) : Fun Tryz.prog [] 44 [.ro (.ints .i64 l), .int .i64 x] (.bool (l.any fun y => decide (x = y))) := by
  have hi := index_int x l
  refine Fun.mk 6 Tryz.func44 rfl Tryz.ntmps44 rfl rfl fun T w0 => ?_
  repeat' (first
    | ((with_reducible apply Sat.run (X := X64)); exact rfl; (first | exact True.intro | (exact phi) | skip))
    | ((with_reducible apply Sat.callR (hi)); exact rfl; exact rfl; exact rfl; kernel_rfl; (exact cnv); exact rfl) | fail)
  (refine Sat.fin (Sat.end1 rfl rfl rfl True.intro (.refl _ pur) (by first | exact .inl rfl | exact .inr rfl) (fun _ h => h)) ?_; (exact congrArg SV.bool (idxL_any _ l 0).symm))
theorem wrap_sub {a b : Int} (ha : 0 ≤ a ∧ a ≤ 1000000000) (hb : 0 ≤ b ∧ b ≤ 1000000000) : subW a b = a - b := wrap_inR (inR_i64 (by omega) (by omega))
theorem within_ris (l : List Int) (low high : Int) (h : (!l.any fun n => !inB n 0 1000000000) = true) : withinB l low high = risB l low high := by
  have hs : ∀ i, i < l.length → 0 ≤ l.getD i 0 ∧ l.getD i 0 ≤ 1000000000 := by
    intro i hi
    have h1 : l.any (fun n => !inB n 0 1000000000) = false := by simpa using h
    rw [List.any_eq_false] at h1
    have h2 := h1 (l.getD i 0) (by rw [List.getD_eq_getElem?_getD, List.getElem?_eq_getElem hi]; exact List.getElem_mem hi)
    simp [inB] at h2
    exact h2
  have hr : risC subW l = decide (∀ i, i < l.length → 0 < i → l.getD (i - 1) 0 < l.getD i 0) := by
    unfold risC
    refine decide_eq_decide.2 ⟨fun q i hi h0 => ?_, fun q i hi h0 => ?_⟩
    · have := q i hi h0
      rw [wrap_sub (hs _ (by omega)) (hs _ hi)] at this
      omega
    · have := q i hi h0
      rw [wrap_sub (hs _ (by omega)) (hs _ hi)]
      omega
  unfold withinB risB
  rw [hr]
  refine Bool.eq_iff_iff.2 ?_
  simp only [Bool.and_eq_true, Bool.or_eq_true, decide_eq_true_eq]
  constructor
  · rintro ⟨q, h0 | ⟨h1, h2⟩⟩ i hi
    · omega
    · have up : ∀ j, j < l.length → l.getD 0 0 ≤ l.getD j 0 := by
        intro j
        induction j with
        | zero => intro _; omega
        | succ j ih => intro hj; have := ih (by omega); have := q (j + 1) hj (by omega); simp only [Nat.add_sub_cancel] at this; omega
      have dn : ∀ k j, j + k = l.length - 1 → j < l.length → l.getD j 0 ≤ l.getD (l.length - 1) 0 := by
        intro k
        induction k with
        | zero => intro j hj _; rw [← hj]; simp
        | succ k ih =>
          intro j hj hl
          have := ih (j + 1) (by omega) (by omega)
          have := q (j + 1) (by omega) (by omega)
          simp only [Nat.add_sub_cancel] at this
          omega
      refine ⟨?_, fun h0 => q i hi h0⟩
      have u := up i hi
      have d := dn (l.length - 1 - i) i (by omega) hi
      unfold inB
      rw [Bool.and_eq_true, decide_eq_true_eq, decide_eq_true_eq]
      exact ⟨by omega, by omega⟩
  · intro q
    refine ⟨fun i hi h0 => (q i hi).2 h0, ?_⟩
    by_cases h0 : l.length = 0
    · exact .inl h0
    · right
      have q0 := (q 0 (by omega)).1
      have q1 := (q (l.length - 1) (by omega)).1
      unfold inB at q0 q1
      rw [Bool.and_eq_true, decide_eq_true_eq, decide_eq_true_eq] at q0 q1
      exact ⟨q0.1, q1.2⟩
end Go.Proofs.YtokaegeediokoaaGreatDoor
end
section
namespace Go.Proofs
open Go.Shelf
def Tryz.lays106_ren : Go.Shelf.Ren := ⟨fun | 106 => 123 | 213 => 173 | 265 => 196 | n => n, fun | 9 => 9 | 3 => 3 | n => n, fun | n => n⟩
theorem Tryz.lays106 : Go.Proofs.Lays.n106 Tryz.prog Tryz.lays106_ren := {
  mixed := by kernel_rfl
  f106 := Tryz.func123.trans (congrArg some (by kernel_rfl))
  f213 := Tryz.func173.trans (congrArg some (by kernel_rfl))
  f265 := Tryz.func196.trans (congrArg some (by kernel_rfl))
  t3 := Tryz.underlying3
  a3 := Tryz.isAgg3
  z3 := Tryz.sizeOf3
  v3 := Tryz.zeroValue3
  t9 := Tryz.underlying9
  a9 := Tryz.isAgg9
  z9 := Tryz.sizeOf9
  v9 := Tryz.zeroValue9 }
open Go.RowKit in
theorem Tryz.strings_Compare (a b : ByteArray) (w : World) :
    Calls Tryz.prog 123 #[.string a, .string b] w fun e w' => e = .returned (.int .i64 (Lib.compareBytes a.data.toList b.data.toList)) ∧ w' = w := Any.strings_Compare Tryz.lays106 a b w
def Tryz.lays189_ren : Go.Shelf.Ren := ⟨fun | 189 => 110 | 125 => 167 | 257 => 166 | 128 => 193 | 129 => 194 | 294 => 184 | 295 => 185 | 296 => 186 | 297 => 187 | 298 => 188 | 299 => 189 | 216 => 190 | 300 => 191 | 301 => 192 | 328 => 201 | 329 => 202 | 330 => 203 | 331 => 204 | 332 => 205 | 215 => 206 | 343 => 207 | n => n, fun | 28 => 30 | 3 => 3 | 46 => 224 | 0 => 0 | 51 => 145 | 53 => 209 | 4 => 4 | 183 => 249 | 182 => 248 | 131 => 191 | 5 => 5 | 9 => 9 | 218 => 259 | 222 => 263 | 228 => 265 | 229 => 266 | n => n, fun | n => n⟩
theorem Tryz.lays189 : Go.Proofs.Lays.n189 Tryz.prog Tryz.lays189_ren := {
  mixed := by kernel_rfl
  f125 := Tryz.func167.trans (congrArg some (by kernel_rfl))
  f128 := Tryz.func193.trans (congrArg some (by kernel_rfl))
  f129 := Tryz.func194.trans (congrArg some (by kernel_rfl))
  f189 := Tryz.func110.trans (congrArg some (by kernel_rfl))
  f215 := Tryz.func206.trans (congrArg some (by kernel_rfl))
  f216 := Tryz.func190.trans (congrArg some (by kernel_rfl))
  f257 := Tryz.func166.trans (congrArg some (by kernel_rfl))
  f294 := Tryz.func184.trans (congrArg some (by kernel_rfl))
  f295 := Tryz.func185.trans (congrArg some (by kernel_rfl))
  f296 := Tryz.func186.trans (congrArg some (by kernel_rfl))
  f297 := Tryz.func187.trans (congrArg some (by kernel_rfl))
  f298 := Tryz.func188.trans (congrArg some (by kernel_rfl))
  f299 := Tryz.func189.trans (congrArg some (by kernel_rfl))
  f300 := Tryz.func191.trans (congrArg some (by kernel_rfl))
  f301 := Tryz.func192.trans (congrArg some (by kernel_rfl))
  f328 := Tryz.func201.trans (congrArg some (by kernel_rfl))
  f329 := Tryz.func202.trans (congrArg some (by kernel_rfl))
  f330 := Tryz.func203.trans (congrArg some (by kernel_rfl))
  f331 := Tryz.func204.trans (congrArg some (by kernel_rfl))
  f332 := Tryz.func205.trans (congrArg some (by kernel_rfl))
  f343 := Tryz.func207.trans (congrArg some (by kernel_rfl))
  t0 := Tryz.underlying0
  a0 := Tryz.isAgg0
  z0 := Tryz.sizeOf0
  v0 := Tryz.zeroValue0
  t3 := Tryz.underlying3
  a3 := Tryz.isAgg3
  z3 := Tryz.sizeOf3
  v3 := Tryz.zeroValue3
  t4 := Tryz.underlying4
  a4 := Tryz.isAgg4
  z4 := Tryz.sizeOf4
  v4 := Tryz.zeroValue4
  t5 := Tryz.underlying5
  a5 := Tryz.isAgg5
  z5 := Tryz.sizeOf5
  v5 := Tryz.zeroValue5
  t9 := Tryz.underlying9
  a9 := Tryz.isAgg9
  z9 := Tryz.sizeOf9
  v9 := Tryz.zeroValue9
  t28 := Tryz.underlying30
  a28 := Tryz.isAgg30
  z28 := Tryz.sizeOf30
  v28 := Tryz.zeroValue30
  t46 := Tryz.underlying224
  a46 := Tryz.isAgg224
  z46 := Tryz.sizeOf224
  v46 := Tryz.zeroValue224
  t51 := Tryz.underlying145
  a51 := Tryz.isAgg145
  z51 := Tryz.sizeOf145
  v51 := Tryz.zeroValue145
  t53 := Tryz.underlying209
  a53 := Tryz.isAgg209
  z53 := Tryz.sizeOf209
  v53 := Tryz.zeroValue209
  t131 := Tryz.underlying191
  a131 := Tryz.isAgg191
  z131 := Tryz.sizeOf191
  v131 := Tryz.zeroValue191
  t182 := Tryz.underlying248
  a182 := Tryz.isAgg248
  z182 := Tryz.sizeOf248
  v182 := Tryz.zeroValue248
  t183 := Tryz.underlying249
  a183 := Tryz.isAgg249
  z183 := Tryz.sizeOf249
  v183 := Tryz.zeroValue249
  t218 := Tryz.underlying259
  a218 := Tryz.isAgg259
  z218 := Tryz.sizeOf259
  v218 := Tryz.zeroValue259
  t222 := Tryz.underlying263
  a222 := Tryz.isAgg263
  z222 := Tryz.sizeOf263
  v222 := Tryz.zeroValue263
  t228 := Tryz.underlying265
  a228 := Tryz.isAgg265
  z228 := Tryz.sizeOf265
  v228 := Tryz.zeroValue265
  t229 := Tryz.underlying266
  a229 := Tryz.isAgg266
  z229 := Tryz.sizeOf266
  v229 := Tryz.zeroValue266 }
open Go.Sort Go.RowKit in
theorem Tryz.slices_Sort_int (blk off cap : Nat) (zs : List Int) (w : World) (hH : Holds (Value.int .i64) w blk off zs.toArray) (hblk : blk < w.heap.size) (hsz : zs.length < 4611686018427387904) :
    Calls Tryz.prog 110 #[.slice (some ⟨blk, off, none⟩) zs.length cap] w fun e w' =>
      e = .returned (.tuple #[]) ∧ ∃ n os, w' = grow (putRow (Value.int .i64) (Sort.ahead w n) blk off (zs.mergeSort fun x y => decide (x ≤ y)).toArray) os := Any.slices_Sort_int Tryz.lays189 blk off cap zs w hH hblk hsz
def Tryz.laysGw17_ren : Go.Shelf.Ren := ⟨fun | 17 => 130 | 15 => 178 | 20 => 198 | n => n, fun | 9 => 9 | 23 => 195 | 4 => 4 | 3 => 3 | 0 => 0 | 21 => 21 | n => n, fun | n => n⟩
theorem Tryz.laysGw17 : Go.Proofs.LaysGw.n17 Tryz.prog Tryz.laysGw17_ren := {
  mixed := by kernel_rfl
  f15 := Tryz.func178.trans (congrArg some (by kernel_rfl))
  f17 := Tryz.func130.trans (congrArg some (by kernel_rfl))
  f20 := Tryz.func198.trans (congrArg some (by kernel_rfl))
  t0 := Tryz.underlying0
  a0 := Tryz.isAgg0
  z0 := Tryz.sizeOf0
  v0 := Tryz.zeroValue0
  i0 := by kernel_rfl
  t3 := Tryz.underlying3
  a3 := Tryz.isAgg3
  z3 := Tryz.sizeOf3
  v3 := Tryz.zeroValue3
  i3 := by kernel_rfl
  t4 := Tryz.underlying4
  a4 := Tryz.isAgg4
  z4 := Tryz.sizeOf4
  v4 := Tryz.zeroValue4
  i4 := by kernel_rfl
  t9 := Tryz.underlying9
  a9 := Tryz.isAgg9
  z9 := Tryz.sizeOf9
  v9 := Tryz.zeroValue9
  i9 := by kernel_rfl
  t21 := Tryz.underlying21
  a21 := Tryz.isAgg21
  z21 := Tryz.sizeOf21
  v21 := Tryz.zeroValue21
  i21 := by kernel_rfl
  t23 := Tryz.underlying195
  a23 := Tryz.isAgg195
  z23 := Tryz.sizeOf195
  v23 := Tryz.zeroValue195
  i23 := by kernel_rfl }
def Tryz.laysM179_ren : Go.Shelf.Ren := ⟨fun | 179 => 124 | 251 => 125 | 252 => 126 | 181 => 174 | 184 => 175 | 290 => 176 | 324 => 197 | n => n, fun | 130 => 190 | 5 => 5 | 75 => 123 | 0 => 0 | 93 => 118 | 91 => 116 | 3 => 3 | 131 => 191 | 4 => 4 | 37 => 33 | 20 => 20 | 80 => 269 | 9 => 9 | n => n, fun | 14 => 1 | n => n⟩
theorem Tryz.laysM179 : Go.Proofs.LaysM.n179 Tryz.prog Tryz.laysM179_ren := {
  mixed := by kernel_rfl
  f179 := Tryz.func124.trans (congrArg some (by kernel_rfl))
  f181 := Tryz.func174.trans (congrArg some (by kernel_rfl))
  f184 := Tryz.func175.trans (congrArg some (by kernel_rfl))
  f251 := Tryz.func125.trans (congrArg some (by kernel_rfl))
  f252 := Tryz.func126.trans (congrArg some (by kernel_rfl))
  f290 := Tryz.func176.trans (congrArg some (by kernel_rfl))
  f324 := Tryz.func197.trans (congrArg some (by kernel_rfl))
  t0 := Tryz.underlying0
  a0 := Tryz.isAgg0
  z0 := Tryz.sizeOf0
  v0 := Tryz.zeroValue0
  t3 := Tryz.underlying3
  a3 := Tryz.isAgg3
  z3 := Tryz.sizeOf3
  v3 := Tryz.zeroValue3
  t4 := Tryz.underlying4
  a4 := Tryz.isAgg4
  z4 := Tryz.sizeOf4
  v4 := Tryz.zeroValue4
  t5 := Tryz.underlying5
  a5 := Tryz.isAgg5
  z5 := Tryz.sizeOf5
  v5 := Tryz.zeroValue5
  t20 := Tryz.underlying20
  a20 := Tryz.isAgg20
  z20 := Tryz.sizeOf20
  v20 := Tryz.zeroValue20
  t37 := Tryz.underlying33
  a37 := Tryz.isAgg33
  z37 := Tryz.sizeOf33
  v37 := Tryz.zeroValue33
  t75 := Tryz.underlying123
  a75 := Tryz.isAgg123
  z75 := Tryz.sizeOf123
  v75 := Tryz.zeroValue123
  t91 := Tryz.underlying116
  a91 := Tryz.isAgg116
  z91 := Tryz.sizeOf116
  v91 := Tryz.zeroValue116
  t93 := Tryz.underlying118
  a93 := Tryz.isAgg118
  z93 := Tryz.sizeOf118
  v93 := Tryz.zeroValue118
  t130 := Tryz.underlying190
  a130 := Tryz.isAgg190
  z130 := Tryz.sizeOf190
  v130 := Tryz.zeroValue190
  t131 := Tryz.underlying191
  a131 := Tryz.isAgg191
  z131 := Tryz.sizeOf191
  v131 := Tryz.zeroValue191
  g14 := by kernel_rfl
  t9 := Tryz.underlying9
  a9 := Tryz.isAgg9
  z9 := Tryz.sizeOf9
  v9 := Tryz.zeroValue9
  t80 := Tryz.underlying269
  a80 := Tryz.isAgg269
  z80 := Tryz.sizeOf269
  v80 := Tryz.zeroValue269
  i0 := by kernel_rfl
  i3 := by kernel_rfl
  i4 := by kernel_rfl
  i5 := by kernel_rfl
  i9 := by kernel_rfl
  i20 := by kernel_rfl
  i37 := by kernel_rfl
  i75 := by kernel_rfl
  i80 := by kernel_rfl
  i91 := by kernel_rfl
  i93 := by kernel_rfl
  i130 := by kernel_rfl
  i131 := by kernel_rfl
  m14 := by kernel_rfl }
open Go.RowKit in
theorem Tryz.Buffer_WriteByte_at (T : TypeId) (R : Nat → Option Value) (B b q : Nat) (bs : List Value) (c : Int) (w : World) (h : LibA.IsBuffer T R 5 B b q bs w) (hBw : B ≤ w.heap.size) (h1 : ∀ v ∈ bs, v.oneCell' = true) (hlim : bs.length + 1 ≤ 140737488355328) :
    Calls Tryz.prog 124 #[.pointer (some ⟨b, q, none⟩), .int .u8 c] w fun e w' => e = .returned .nilIface ∧ LibA.IsBuffer T R 5 B b q (bs ++ [.int .u8 c]) w' ∧ Below B w w' ∧ Lib.OthersKept 5 (some b) w w' := Any.Buffer_WriteByte_at Tryz.laysM179 T R B b q bs c w h hBw h1 hlim
open Go.RowKit Go.Lib in
theorem Tryz.strings_ContainsFunc_runes (g : Nat) (lb : Array Value) (eg : ∀ args w, (callFunc g args).run Tryz.prog w = .ok (.enter g args) w) (p : Nat → Bool) (s : ByteArray) (w : World) (hp : PredAtRunes Tryz.prog g lb p w) :
    Calls Tryz.prog 130 #[.string s, .func (.func g) #[] lb] w fun e w' => e = .returned (.bool (decide (0 ≤ Lib.idxFunc p true s))) ∧ Below w.heap.size w w' := Any.strings_ContainsFunc_runes Tryz.laysGw17 g lb eg p s w hp
def Tryz.laysM178_ren : Go.Shelf.Ren := ⟨fun | 178 => 127 | 251 => 125 | 252 => 126 | 181 => 174 | 184 => 175 | 290 => 176 | 324 => 197 | n => n, fun | 130 => 190 | 9 => 9 | 3 => 3 | 75 => 123 | 0 => 0 | 93 => 118 | 91 => 116 | 131 => 191 | 4 => 4 | 37 => 33 | 20 => 20 | 80 => 269 | 5 => 5 | n => n, fun | 14 => 1 | n => n⟩
theorem Tryz.laysM178 : Go.Proofs.LaysM.n178 Tryz.prog Tryz.laysM178_ren := {
  mixed := by kernel_rfl
  f178 := Tryz.func127.trans (congrArg some (by kernel_rfl))
  f181 := Tryz.func174.trans (congrArg some (by kernel_rfl))
  f184 := Tryz.func175.trans (congrArg some (by kernel_rfl))
  f251 := Tryz.func125.trans (congrArg some (by kernel_rfl))
  f252 := Tryz.func126.trans (congrArg some (by kernel_rfl))
  f290 := Tryz.func176.trans (congrArg some (by kernel_rfl))
  f324 := Tryz.func197.trans (congrArg some (by kernel_rfl))
  t0 := Tryz.underlying0
  a0 := Tryz.isAgg0
  z0 := Tryz.sizeOf0
  v0 := Tryz.zeroValue0
  t3 := Tryz.underlying3
  a3 := Tryz.isAgg3
  z3 := Tryz.sizeOf3
  v3 := Tryz.zeroValue3
  t4 := Tryz.underlying4
  a4 := Tryz.isAgg4
  z4 := Tryz.sizeOf4
  v4 := Tryz.zeroValue4
  t9 := Tryz.underlying9
  a9 := Tryz.isAgg9
  z9 := Tryz.sizeOf9
  v9 := Tryz.zeroValue9
  t20 := Tryz.underlying20
  a20 := Tryz.isAgg20
  z20 := Tryz.sizeOf20
  v20 := Tryz.zeroValue20
  t37 := Tryz.underlying33
  a37 := Tryz.isAgg33
  z37 := Tryz.sizeOf33
  v37 := Tryz.zeroValue33
  t75 := Tryz.underlying123
  a75 := Tryz.isAgg123
  z75 := Tryz.sizeOf123
  v75 := Tryz.zeroValue123
  t91 := Tryz.underlying116
  a91 := Tryz.isAgg116
  z91 := Tryz.sizeOf116
  v91 := Tryz.zeroValue116
  t93 := Tryz.underlying118
  a93 := Tryz.isAgg118
  z93 := Tryz.sizeOf118
  v93 := Tryz.zeroValue118
  t130 := Tryz.underlying190
  a130 := Tryz.isAgg190
  z130 := Tryz.sizeOf190
  v130 := Tryz.zeroValue190
  t131 := Tryz.underlying191
  a131 := Tryz.isAgg191
  z131 := Tryz.sizeOf191
  v131 := Tryz.zeroValue191
  g14 := by kernel_rfl
  t5 := Tryz.underlying5
  a5 := Tryz.isAgg5
  z5 := Tryz.sizeOf5
  v5 := Tryz.zeroValue5
  t80 := Tryz.underlying269
  a80 := Tryz.isAgg269
  z80 := Tryz.sizeOf269
  v80 := Tryz.zeroValue269
  i0 := by kernel_rfl
  i3 := by kernel_rfl
  i4 := by kernel_rfl
  i5 := by kernel_rfl
  i9 := by kernel_rfl
  i20 := by kernel_rfl
  i37 := by kernel_rfl
  i75 := by kernel_rfl
  i80 := by kernel_rfl
  i91 := by kernel_rfl
  i93 := by kernel_rfl
  i130 := by kernel_rfl
  i131 := by kernel_rfl
  m14 := by kernel_rfl }
open Go.RowKit in
theorem Tryz.Buffer_WriteString_at (T : TypeId) (R : Nat → Option Value) (B b q : Nat) (bs : List Value) (s : ByteArray) (w : World) (h : LibA.IsBuffer T R 5 B b q bs w) (hBw : B ≤ w.heap.size) (h1 : ∀ v ∈ bs, v.oneCell' = true) (hlim : bs.length + s.size ≤ 140737488355328) :
    Calls Tryz.prog 127 #[.pointer (some ⟨b, q, none⟩), .string s] w fun e w' => e = .returned (.tuple #[.int .i64 s.size, .nilIface]) ∧ LibA.IsBuffer T R 5 B b q (bs ++ Lib.byteCells s.data.toList) w' ∧ Below B w w' ∧ Lib.OthersKept 5 (some b) w w' := Any.Buffer_WriteString_at Tryz.laysM178 T R B b q bs s w h hBw h1 hlim
def Tryz.laysM180_ren : Go.Shelf.Ren := ⟨fun | 180 => 54 | 251 => 125 | 252 => 126 | 181 => 174 | 184 => 175 | 290 => 176 | 324 => 197 | n => n, fun | 130 => 190 | 37 => 33 | 3 => 3 | 75 => 123 | 0 => 0 | 93 => 118 | 91 => 116 | 131 => 191 | 4 => 4 | 20 => 20 | 5 => 5 | 80 => 269 | 9 => 9 | n => n, fun | 14 => 1 | n => n⟩
theorem Tryz.laysM180 : Go.Proofs.LaysM.n180 Tryz.prog Tryz.laysM180_ren := {
  mixed := by kernel_rfl
  f180 := Tryz.func54.trans (congrArg some (by kernel_rfl))
  f181 := Tryz.func174.trans (congrArg some (by kernel_rfl))
  f184 := Tryz.func175.trans (congrArg some (by kernel_rfl))
  f251 := Tryz.func125.trans (congrArg some (by kernel_rfl))
  f252 := Tryz.func126.trans (congrArg some (by kernel_rfl))
  f290 := Tryz.func176.trans (congrArg some (by kernel_rfl))
  f324 := Tryz.func197.trans (congrArg some (by kernel_rfl))
  t0 := Tryz.underlying0
  a0 := Tryz.isAgg0
  z0 := Tryz.sizeOf0
  v0 := Tryz.zeroValue0
  t3 := Tryz.underlying3
  a3 := Tryz.isAgg3
  z3 := Tryz.sizeOf3
  v3 := Tryz.zeroValue3
  t4 := Tryz.underlying4
  a4 := Tryz.isAgg4
  z4 := Tryz.sizeOf4
  v4 := Tryz.zeroValue4
  t20 := Tryz.underlying20
  a20 := Tryz.isAgg20
  z20 := Tryz.sizeOf20
  v20 := Tryz.zeroValue20
  t37 := Tryz.underlying33
  a37 := Tryz.isAgg33
  z37 := Tryz.sizeOf33
  v37 := Tryz.zeroValue33
  t75 := Tryz.underlying123
  a75 := Tryz.isAgg123
  z75 := Tryz.sizeOf123
  v75 := Tryz.zeroValue123
  t91 := Tryz.underlying116
  a91 := Tryz.isAgg116
  z91 := Tryz.sizeOf116
  v91 := Tryz.zeroValue116
  t93 := Tryz.underlying118
  a93 := Tryz.isAgg118
  z93 := Tryz.sizeOf118
  v93 := Tryz.zeroValue118
  t130 := Tryz.underlying190
  a130 := Tryz.isAgg190
  z130 := Tryz.sizeOf190
  v130 := Tryz.zeroValue190
  t131 := Tryz.underlying191
  a131 := Tryz.isAgg191
  z131 := Tryz.sizeOf191
  v131 := Tryz.zeroValue191
  g14 := by kernel_rfl
  t5 := Tryz.underlying5
  a5 := Tryz.isAgg5
  z5 := Tryz.sizeOf5
  v5 := Tryz.zeroValue5
  t9 := Tryz.underlying9
  a9 := Tryz.isAgg9
  z9 := Tryz.sizeOf9
  v9 := Tryz.zeroValue9
  t80 := Tryz.underlying269
  a80 := Tryz.isAgg269
  z80 := Tryz.sizeOf269
  v80 := Tryz.zeroValue269
  i0 := by kernel_rfl
  i3 := by kernel_rfl
  i4 := by kernel_rfl
  i5 := by kernel_rfl
  i9 := by kernel_rfl
  i20 := by kernel_rfl
  i37 := by kernel_rfl
  i75 := by kernel_rfl
  i80 := by kernel_rfl
  i91 := by kernel_rfl
  i93 := by kernel_rfl
  i130 := by kernel_rfl
  i131 := by kernel_rfl
  m14 := by kernel_rfl }
open Go.RowKit in
theorem Tryz.Buffer_Write_at (T : TypeId) (R : Nat → Option Value) (B b q : Nat) (bs cs : List Value) (a : Addr) (n c : Nat) (w : World) (h : LibA.IsBuffer T R 5 B b q bs w) (hBw : B ≤ w.heap.size) (h1 : ∀ v ∈ bs, v.oneCell' = true) (hn : cs.length = n) (hab : a.block ≠ b) (hsrc : ∀ j v, cs[j]? = some v → w.cell? (a.add j) = some v) (h1c : ∀ v ∈ cs, v.oneCell' = true) (hlim : bs.length + n ≤ 140737488355328) :
    Calls Tryz.prog 54 #[.pointer (some ⟨b, q, none⟩), .slice (some a) n c] w fun e w' => e = .returned (.tuple #[.int .i64 n, .nilIface]) ∧ LibA.IsBuffer T R 5 B b q (bs ++ cs) w' ∧ Below B w w' ∧ Lib.OthersKept 5 (some b) w w' := Any.Buffer_Write_at Tryz.laysM180 T R B b q bs cs a n c w h hBw h1 hn hab hsrc h1c hlim
def Tryz.laysNm220_ren : Go.Shelf.Ren := ⟨fun | 20 => 111 | n => n, fun | 22 => 30 | 3 => 3 | 4 => 4 | 0 => 0 | n => n, fun | n => n⟩
theorem Tryz.laysNm220 : Go.Proofs.Lays2.n20 Tryz.prog Tryz.laysNm220_ren := {
  mixed := by kernel_rfl
  f20 := Tryz.func111.trans (congrArg some (by kernel_rfl))
  t0 := Tryz.underlying0
  a0 := Tryz.isAgg0
  z0 := Tryz.sizeOf0
  v0 := Tryz.zeroValue0
  t3 := Tryz.underlying3
  a3 := Tryz.isAgg3
  z3 := Tryz.sizeOf3
  v3 := Tryz.zeroValue3
  t4 := Tryz.underlying4
  a4 := Tryz.isAgg4
  z4 := Tryz.sizeOf4
  v4 := Tryz.zeroValue4
  t22 := Tryz.underlying30
  a22 := Tryz.isAgg30
  z22 := Tryz.sizeOf30
  v22 := Tryz.zeroValue30
  i3 := by kernel_rfl }
open Go.RowKit Go.Lib Go.Sort in
theorem Tryz.slices_Compact_int (blk off cap : Nat) (zs : List Int) (w : World) (hH : Holds (Value.int .i64) w blk off zs.toArray) (hsz : zs.length ≤ 9223372036854775807) (hcap : zs.length ≤ cap) :
    Calls Tryz.prog 111 #[.slice (some ⟨blk, off, none⟩) zs.length cap] w fun e w' => e = .returned (.slice (some ⟨blk, off, none⟩) (Lib.compact zs).length cap) ∧ ∃ q, w' = putRow (Value.int .i64) (Sort.ahead w q) blk off (Lib.compact zs ++ List.replicate (zs.length - (Lib.compact zs).length) 0).toArray := Any.slices_Compact_int Tryz.laysNm220 blk off cap zs w hH hsz hcap
open Go.RowKit Go.Lib Go.Sort in
theorem Tryz.slices_Compact_int_empty (a : Option Addr) (cap : Nat) (w : World) :
    Calls Tryz.prog 111 #[.slice a 0 cap] w fun e w' => e = .returned (.slice a 0 cap) ∧ w' = w := Any.slices_Compact_int_empty Tryz.laysNm220 a cap w
open Go.RowKit Go.Sort in
theorem Tryz.slices_Sort_int_none (p : Option Addr) (cap : Nat) (w : World) :
    Calls Tryz.prog 110 #[.slice p 0 cap] w fun e w' => e = .returned (.tuple #[]) ∧ w' = w := Any.slices_Sort_int_none Tryz.lays189 p cap w
def Tryz.laysnb115_ren : Go.Shelf.Ren := ⟨fun | 115 => 141 | n => n, fun | 37 => 33 | 4 => 4 | 9 => 9 | 5 => 5 | n => n, fun | n => n⟩
theorem Tryz.laysnb115 : Go.Proofs.Lays.nb115 Tryz.prog Tryz.laysnb115_ren := {
  mixed := by kernel_rfl
  f115 := Tryz.func141.trans (congrArg some (by kernel_rfl))
  t4 := Tryz.underlying4
  a4 := Tryz.isAgg4
  z4 := Tryz.sizeOf4
  v4 := Tryz.zeroValue4
  t9 := Tryz.underlying9
  a9 := Tryz.isAgg9
  z9 := Tryz.sizeOf9
  v9 := Tryz.zeroValue9
  t37 := Tryz.underlying33
  a37 := Tryz.isAgg33
  z37 := Tryz.sizeOf33
  v37 := Tryz.zeroValue33
  t5 := Tryz.underlying5
  a5 := Tryz.isAgg5
  z5 := Tryz.sizeOf5
  v5 := Tryz.zeroValue5 }
theorem Tryz.bytes_Equal_all (p1 p2 : Option Addr) (n c m d : Nat) (xs ys : List Int) (w : World) (hx : xs.length = n) (hy : ys.length = m) (h1 : Lib.BytesIn w p1 n xs) (h2 : Lib.BytesIn w p2 m ys) :
    Calls Tryz.prog 141 #[.slice p1 n c, .slice p2 m d] w fun e w' => e = .returned (.bool (Lib.bytesOf xs == Lib.bytesOf ys)) ∧ w' = w := Any.bytes_Equal_all Tryz.laysnb115 p1 p2 n c m d xs ys w hx hy h1 h2
end Go.Proofs
end
section
namespace Go.Proofs.YtokaegeediokoaaGreatDoor
open Go.RowKit V
set_option maxRecDepth 100000
set_option maxHeartbeats 8000000
set_option linter.unusedSimpArgs false
attribute [local irreducible] V.Sat V.DSat
theorem compare_spec (a b : List UInt8) : Fun Tryz.prog [] 123 [.str a, .str b] (.int .i64 (Lib.compareBytes a b)) := by
  intro T w vs hT hG ht
  cases ht with
  | cons s v l vs1 hr hl =>
    cases hl with
    | cons s2 v2 l2 vs2 hr2 hl3 =>
      cases hl3
      cases hr
      cases hr2
      refine (Tryz.strings_Compare ⟨a.toArray⟩ ⟨b.toArray⟩ w).mono ?_
      rintro e w' ⟨rfl, rfl⟩
      have : ∀ a b : List UInt8, -1 ≤ Lib.compareBytes a b ∧ Lib.compareBytes a b ≤ 1 := by
        intro a
        induction a with
        | nil => intro b; cases b <;> simp [Lib.compareBytes]
        | cons x r ih =>
          intro b
          cases b with
          | nil => simp [Lib.compareBytes]
          | cons y s =>
            simp only [Lib.compareBytes]
            split
            · omega
            · split
              · omega
              · exact ih s
      have hb := this a b
      exact ⟨_, rfl, .int _ _ (inR_i64 (by omega) (by omega)), Below.refl _ _⟩
theorem cmp_less (a b : List UInt8) : Lib.compareBytes a b < 0 ↔ Op.bytesLess a b = true := by
  induction a generalizing b with
  | nil => cases b <;> simp [Lib.compareBytes, Op.bytesLess]
  | cons x r ih =>
    cases b with
    | nil => simp [Lib.compareBytes, Op.bytesLess]
    | cons y s =>
      simp only [Lib.compareBytes, Op.bytesLess, Bool.or_eq_true, Bool.and_eq_true, decide_eq_true_eq, beq_iff_eq]
      split
      · rename_i h; simp [h]
      · rename_i h
        split
        · rename_i h2
          have : x ≠ y := fun e => by subst e; exact h h2
          simp [h, this]
        · rename_i h2
          have e : x = y := UInt8.toNat_inj.1 (by rw [UInt8.lt_iff_toNat_lt] at h h2; omega)
          subst e
          simp [ih s]
@[reducible] def PartL.v (p : PartL) : SV := .agg [.str p.name, .arr 32 (.u8 p.hash)]
theorem partc_spec (p q : PartL) : Fun Tryz.prog [] 122 [p.v, q.v] (.int .i64 (Lib.compareBytes p.name q.name)) := by
  obtain ⟨n1, h1⟩ := p
  obtain ⟨n2, h2⟩ := q
  have hc := compare_spec n1 n2
  refine Fun.mk 6 Tryz.func122 rfl Tryz.ntmps122 rfl rfl fun T w0 => ?_
  repeat' (first
    | ((with_reducible apply Sat.run (X := X64)); exact rfl; (first | exact True.intro | (exact phi) | skip))
    | ((with_reducible apply Sat.callR (hc)); exact rfl; exact rfl; exact rfl; kernel_rfl; (exact cnv); exact rfl) | fail)
  (refine Sat.fin (Sat.end1 rfl rfl rfl True.intro (.refl _ pur) (by first | exact .inl rfl | exact .inr rfl) (fun _ h => h)) ?_; rfl)
def risP (l : List PartL) : Bool := decide (∀ i, i < l.length → 0 < i → Op.bytesLess (l.getD (i - 1) part0).name (l.getD i part0).name = true)
theorem rising_part (l : List PartL) : Fun Tryz.prog [] 121 [.ro (partsE l), .fn 122 []] (.bool (risP l)) := by
  refine Fun.mkF 6 Tryz.func121 rfl Tryz.ntmps121 rfl rfl fun hf T w0 => ?_
  obtain ⟨⟨hl, _⟩, _⟩ := hf
  dsimp only [EV.len] at hl
  unfold okLen at hl
  repeat' (first
    | ((with_reducible apply Sat.run (X := X64)); exact rfl; (first | exact True.intro | (exact phi) | skip)) | fail)
  apply Sat.loop (α := Nat) (fun x => (1 ≤ x ∧ (x ≤ l.length ∨ x = 1)) ∧ ∀ i, i < x → 0 < i → Op.bytesLess (l.getD (i - 1) part0).name (l.getD i part0).name = true) (fun x => l.length + 1 - x) 1 (fun x => [(5, .int .i64 (x : Int))]) (fun _ => []) [] [] 0
  · intro x; exact rfl
  · intro x; exact rfl
  · exact rfl
  · exact rfl
  · (repeat' (first | exact AllP.nil | with_reducible refine AllP.cons ?_ ?_)) <;> first | exact rfl | exact trivial | (intro _ _; simp [pureL, pureS, pureE]; done)
  · exact ⟨⟨Nat.le_refl _, .inr rfl⟩, fun i hi h0 => by omega⟩
  · rintro x ⟨⟨x0, x1⟩, x2⟩
    have hc := partc_spec (l.getD ((x : Int) - 1).toNat part0) (l.getD (x : Int).toNat part0)
    have e1 : ((x : Int) - 1).toNat = x - 1 := by omega
    have e2 : (x : Int).toNat = x := rfl
    repeat' (first
      | ((with_reducible apply Sat.run (X := X64)); exact rfl; (first | exact True.intro | (exact phi) | skip))
      | ((with_reducible apply Sat.drawn); kernel_rfl)
      | ((with_reducible apply DSat.run (X := X64)); exact rfl; (first | exact True.intro | (exact phi) | skip))
      | ((with_reducible apply DSat.fin); kernel_rfl)
      | ((with_reducible apply Sat.cond_p); exact rfl; all_goals (intro h; (try simp only [V.EV.sub, V.EV.len] at h)))
      | ((with_reducible apply DSat.callR (hc)); exact rfl; exact rfl; exact rfl; kernel_rfl; (exact cnv); exact rfl) | fail)
    · (refine Sat.fin (Sat.end1 rfl rfl rfl True.intro (.refl _ pur) (by first | exact .inl rfl | exact .inr rfl) (fun _ h => h)) ?_; (rw [e1, e2] at h; exact congrArg SV.bool (decide_eq_false fun e => by have := (cmp_less _ _).2 (e x (by omega) (by omega)); omega)))
    · refine Sat.back (x + 1) [] rfl ?_ ?_ ?_
      · (repeat' (first | exact AllP.nil | with_reducible refine AllP.cons ?_ ?_)) <;> first | exact rfl | exact trivial | exact Int.natCast_add_one _ | (intro _ _; simp [pureL, pureS, pureE]; done)
      · refine ⟨by omega, fun i hi h0 => ?_⟩
        rcases Nat.lt_succ_iff_lt_or_eq.1 hi with h1 | rfl
        · exact x2 i h1 h0
        · rw [e1, e2] at h; exact (cmp_less _ _).1 (by omega)
      · omega
    · (refine Sat.fin (Sat.end1 rfl rfl rfl True.intro (.refl _ pur) (by first | exact .inl rfl | exact .inr rfl) (fun _ h => h)) ?_; (exact congrArg SV.bool (decide_eq_true fun i hi h0 => x2 i (by omega) h0)))
end Go.Proofs.YtokaegeediokoaaGreatDoor
end
