/-
  A walk by abstract values: conversions, slices, what is built; every operation that leaves memory alone.
-/
import Derived.Test.YtgpggoejkkhceaaDoorVe
import Derived.Laws.BytesString
import Derived.Laws.Tables
namespace Go.Proofs.YtgpggoejkkhceaaDoor.V
open Go.RowKit

section
variable {P : Program} {Γ : Glob} {F : Tr} {M : Mem} {E : Env} {a : Act} {w : World} {T : Nat → Prop}

/-! ### Bytes as a text -/
theorem foldl_push (l : List UInt8) : ∀ s : ByteArray, (l.map fun x => (x.toNat : Int)).foldl (fun r n => r.push (UInt8.ofNat n.toNat)) s = ⟨s.data ++ l.toArray⟩ := by
  induction l with
  | nil => intro s; simp
  | cons x l ih =>
    intro s
    simp only [List.map_cons, List.foldl_cons, ih]
    congr 1
    simp [ByteArray.push]
theorem run_bytesToString_list (b o : Nat) (l : List UInt8) (n k : Nat) (hn : n = l.length) (w : World) (h : ∀ i, i < l.length → w.cell? ⟨b, o + i, none⟩ = some (.int .u8 ((l.getD i 0).toNat : Int))) :
    (Conv.bytesToString (.slice (some ⟨b, o, none⟩) n k)).run P w = .ok (.string ⟨l.toArray⟩) w := by
  subst hn
  have hl := run_loadCells_list (P := P) (w := w) ⟨b, o, none⟩ ((l.map fun x => (x.toNat : Int)).map (Value.int .u8)) (fun j v hj => by
    rw [Addr.add_mk]
    have hlt : j < l.length := by simpa using (List.getElem?_eq_some_iff.1 hj).1
    rw [h j hlt]
    simp only [List.getElem?_map, List.getElem?_eq_getElem hlt, Option.map_some, Option.some.injEq] at hj
    rw [← hj]
    simp [List.getD, List.getElem?_eq_getElem hlt])
  have := run_bytesToString (P := P) w ⟨b, o, none⟩ l.length k (l.map fun x => (x.toNat : Int)) (by simpa using hl)
  rw [this, foldl_push]
  congr 3
  simp
theorem Items.head' {s : SV} {l : List SV} {cs : List Value} (h : Items E T w (s :: l) cs) (h1 : s.one = true) : ∃ c r, cs = c :: r ∧ Rep E T w s c ∧ Items E T w l r := h.head h1
theorem u8_cells {e : List UInt8} {c : Nat → List Value} (hr : ∀ i, i < e.length → Items E T w ((EV.u8 e).items i) (c i)) : ∀ i, i < e.length → c i = [.int .u8 ((e.getD i 0).toNat : Int)] := fun i hi => by
  have h := hr i hi
  simp only [EV.items] at h
  obtain ⟨x, r, h1, h2, h3⟩ := h.head rfl
  cases h2
  cases h3
  exact h1
theorem getD_slice (l : List UInt8) (a n i : Nat) (h : i < n) : ((l.drop a).take n).getD i 0 = l.getD (a + i) 0 := by
  simp [List.getD, List.getElem?_drop, h]
theorem run_conv_int {s d : TypeId} {k k' : IntKind} {n : Int} {x : TypeDesc} (hs : P.underlying s = some x) (hd : P.underlying d = some (.int k')) (w' : World) : (convert s d (.int k n)).run P w' = .ok (.int k' (k'.wrap n)) w' := by
  unfold convert
  simp only [Sem.run_bind, run_underlying hs, run_underlying hd, Result.andThen_ok]
  cases x <;> simp [Conv.intToInt]
theorem run_conv_bytes {s d e : TypeId} {x : Value} (hs : P.underlying s = some (.slice e)) (he : P.underlying e = some (.int .u8)) (hd : P.underlying d = some .string) {o : Option Addr} {n k : Nat} (hx : x = .slice o n k) (w' : World) :
    (convert s d x).run P w' = (Conv.bytesToString x).run P w' := by
  subst hx
  exact run_convert_bytes_string w' s d e o n k hs he hd
theorem okLen_le {n m : Nat} (h : n ≤ m) (hm : okLen m) : okLen n := by unfold okLen at *; omega
theorem convV_run (H : MOk E T M w) {X : IntKind → Bool} {s d : TypeId} {x r : SV} {v : Value} {φ : List Prop} (h : convV X P M s d x = some (φ, r)) (hφ : All φ) (hx : Rep E T w x v) :
    ∃ u, Rep E T w r u ∧ ∀ w', Below w.heap.size w w' → (convert s d v).run P w' = .ok u w' := by
  unfold convV at h
  split at h
  · rename_i k n
    cases hx with
    | int _ _ hr =>
      split at h
      · rename_i x k' hs hd
        split at h
        · rename_i hw
          simp at h; obtain ⟨rfl, rfl⟩ := h
          have hr' := inR_wider hw hr
          exact ⟨_, .int _ _ hr', fun w' _ => by rw [run_conv_int hs hd, wrap_inR hr']⟩
        · split at h <;> simp at h <;> obtain ⟨rfl, rfl⟩ := h
          · have hr' := hφ.one
            exact ⟨_, .int _ _ hr', fun w' _ => by rw [run_conv_int hs hd, wrap_inR hr']⟩
          · exact ⟨_, .int _ _ (inR_wrap _ _), fun w' _ => by rw [run_conv_int hs hd]⟩
      · cases h
  · rename_i l
    cases hx with
    | str _ ok =>
      split at h
      · rename_i x hs hd
        simp at h; obtain ⟨rfl, rfl⟩ := h
        refine ⟨_, .str _ ok, fun w' _ => ?_⟩
        unfold convert
        simp only [Sem.run_bind, run_underlying hs, run_underlying hd, Result.andThen_ok]
        cases x <;> simp
      · cases h
  · rename_i l
    split at h
    · rename_i e hs hd
      split at h
      · rename_i he
        simp at h; obtain ⟨rfl, rfl⟩ := h
        cases hx with
        | ro0 _ h0 =>
          have : l = [] := List.eq_nil_of_length_eq_zero (by simpa [EV.len] using h0)
          subst this
          refine ⟨_, .str [] (by simp [okLen]), fun w' _ => ?_⟩
          rw [run_conv_bytes hs he hd rfl]
          rfl
        | ro1 _ a0 h0 =>
          have : l = [] := List.eq_nil_of_length_eq_zero (by simpa [EV.len] using h0)
          subst this
          refine ⟨_, .str [] (by simp [okLen]), fun w' _ => ?_⟩
          rw [run_conv_bytes hs he hd rfl]
          have hl := run_loadCells_list (P := P) (w := w') a0 [] (fun j v hj => by simp at hj)
          have := run_bytesToString (P := P) w' a0 0 0 [] (by simpa using hl)
          rw [this]
          rfl
        | ro _ b o n k c hT hn hc hr hle hl ok hb =>
          have hcs := u8_cells hr
          refine ⟨_, .str l (okLen_le (by simpa [hle, EV.len] using hl) ok), fun w' hw => ?_⟩
          rw [run_conv_bytes hs he hd rfl]
          refine run_bytesToString_list b o l n k (by simpa [EV.len] using hle) w' fun i hi => below_cell hw ?_
          have := hc i 0 _ hi (by rw [hcs i hi]; rfl)
          simpa [EV.sz] using this
      · cases h
    · cases h
  · split at h
    · rename_i e hs hd
      split at h
      · rename_i he
        simp at h; obtain ⟨rfl, rfl⟩ := h
        cases hx
        refine ⟨_, .str [] (by simp [okLen]), fun w' _ => ?_⟩
        rw [run_conv_bytes hs he hd rfl]
        rfl
      · cases h
    · cases h
  · rename_i id base sz sub len
    split at h
    · rename_i e hs hd
      split at h
      · rename_i he
        split at h
        · rename_i l hrun
          split at h
          · rename_i hsz
            have := Nat.eq_of_beq_eq_true hsz
            subst this
            simp at h; obtain ⟨rfl, rfl⟩ := h
            have h0 : sub + len ≤ l.length := hφ _ (List.mem_cons_self ..)
            have hok : okLen len := hφ _ (List.mem_cons_of_mem _ (List.mem_cons_self ..))
            have hlen : ((l.drop sub).take len).length = len := by simp; omega
            cases hx with
            | row0 _ _ _ _ _ hE h0 =>
              subst h0
              refine ⟨_, .str _ (by rw [hlen]; exact hok), fun w' hw => ?_⟩
              rw [run_conv_bytes hs he hd rfl]
              simp [Conv.bytesToString]
              rfl
            | row _ _ _ _ _ b' o k n t hE hsh ho hl ok =>
              obtain ⟨c, hlt, hn, hc, hr⟩ := runAt_cells H hrun hE
              have hcs := u8_cells hr
              refine ⟨_, .str _ (by rw [hlen]; exact hok), fun w' hw => ?_⟩
              rw [run_conv_bytes hs he hd rfl]
              refine run_bytesToString_list b' o _ len k hlen.symm w' fun i hi => below_cell hw ?_
              rw [hlen] at hi
              obtain ⟨ho1, _⟩ := ho (by omega)
              have hi2 : sub + i < (EV.u8 l).len := by simp [EV.len]; omega
              have := hc (sub + i) 0 _ hi2 (by rw [hcs _ hi2]; rfl)
              rw [getD_slice l sub len i hi, ho1]
              simpa [EV.sz, Nat.add_assoc] using this
          · cases h
        · cases h
      · cases h
    · cases h
  · cases h

/-! ### Lengths, slices -/
theorem lenV_run {t ty : TypeId} {x r : SV} {v : Value} {φ : List Prop} (h : lenV P t x = some (φ, r)) (hx : Rep E T w x v) :
    ∃ u, Rep E T w r u ∧ ∀ w', (Builtin.len_ #[t] ty #[v]).run P w' = .ok u w' := by
  unfold lenV at h
  split at h
  · rename_i hu
    simp at h; obtain ⟨rfl, rfl⟩ := h
    rename_i l
    cases hx with
    | str _ ok =>
      have hz : (ByteArray.mk l.toArray).size = l.length := by simp [ByteArray.size]
      exact ⟨_, .int _ _ (inR_nat ok), fun w' => by unfold Builtin.len_; simp [run_underlying hu, goInt, hz]⟩
  · rename_i hu
    simp at h; obtain ⟨rfl, rfl⟩ := h
    cases hx with
    | ro0 _ h0 => exact ⟨_, .int _ _ (inR_nat (by simp [h0, okLen])), fun w' => by simp [Builtin.len_, run_underlying hu, goInt, h0]⟩
    | ro1 _ _ h0 => exact ⟨_, .int _ _ (inR_nat (by simp [h0, okLen])), fun w' => by simp [Builtin.len_, run_underlying hu, goInt, h0]⟩
    | ro _ b o n k c hT hn hc hr he hl ok hb => exact ⟨_, .int _ _ (inR_nat (okLen_le (he ▸ hl) ok)), fun w' => by simp [Builtin.len_, run_underlying hu, goInt, he]⟩
  · rename_i hu
    simp at h; obtain ⟨rfl, rfl⟩ := h
    cases hx with
    | row0 _ _ _ _ _ _ h0 => exact ⟨_, .int _ _ (inR_nat (by simp [h0, okLen])), fun w' => by simp [Builtin.len_, run_underlying hu, goInt, h0]⟩
    | row _ _ _ _ _ b o k n t hE hs ho hl ok => exact ⟨_, .int _ _ (inR_nat (okLen_le hl ok)), fun w' => by simp [Builtin.len_, run_underlying hu, goInt]⟩
  · rename_i hu
    simp at h; obtain ⟨rfl, rfl⟩ := h
    cases hx
    exact ⟨_, .int _ _ (by simpa using inR_nat (n := 0) (by simp [okLen])), fun w' => by simp [Builtin.len_, run_underlying hu, goInt]⟩
  · rename_i n e _ hu
    split at h
    · rename_i hn
      simp at h; obtain ⟨rfl, rfl⟩ := h
      exact ⟨_, .int _ _ (inR_nat (Nat.le_of_ble_eq_true hn)), fun w' => by unfold Builtin.len_; simp [run_underlying hu, goInt]⟩
    · cases h
  · cases h

theorem inR_max {k : IntKind} {a b : Int} (ha : inR k a) (hb : inR k b) : inR k (maxV a b) := by unfold maxV; split <;> assumption
theorem inR_min {k : IntKind} {a b : Int} (ha : inR k a) (hb : inR k b) : inR k (minV a b) := by unfold minV; split <;> assumption

theorem EV.sub_len {e : EV} {x n : Nat} (h : x + n ≤ e.len) : (e.sub x n).len = n := by
  cases e <;> simp [EV.sub, EV.len] at h ⊢ <;> omega
theorem EV.sub_sz (e : EV) (x n : Nat) : (e.sub x n).sz = e.sz := by cases e <;> rfl
theorem EV.sub_items {e : EV} {x n i : Nat} (h : i < n) : (e.sub x n).items i = e.items (x + i) := by
  cases e with
  | u8 l => simp only [EV.sub, EV.items, getD_slice l x n i h]
  | ints k l => simp [EV.sub, EV.items, List.getD, List.getElem?_drop, h]
  | g m sz f => rfl

/-- A slice of what may be read. -/
theorem ro_slice {e : EV} {b o n k : Nat} {lo hi : Nat} {c : Nat → List Value} (hT : ¬ T b) (hn : ∀ i, i < e.len → (c i).length = e.sz)
    (hc : ∀ i j v, i < e.len → (c i)[j]? = some v → w.cell? ⟨b, o + i * e.sz + j, none⟩ = some v)
    (hr : ∀ i, i < e.len → Items E T w (e.items i) (c i)) (_he : n = e.len) (hl : n ≤ k) (ok : okLen k) (hb : b < w.heap.size) (h1 : lo ≤ hi) (h2 : hi ≤ e.len) :
    Rep E T w (.ro (e.sub lo (hi - lo))) (.slice (some (if k = lo then ⟨b, o, none⟩ else ⟨b, o + lo * e.sz, none⟩)) (hi - lo) (k - lo)) := by
  have hlen : (e.sub lo (hi - lo)).len = hi - lo := EV.sub_len (by omega)
  by_cases hk : k = lo
  · rw [if_pos hk]
    have h0 : hi - lo = 0 := by omega
    refine .ro _ b o _ _ (fun _ => []) hT (fun i hi => ?_) (fun i j v hi => ?_) (fun i hi => ?_) hlen.symm (by omega) (okLen_le (Nat.sub_le ..) ok) hb <;> omega
  · rw [if_neg hk]
    refine .ro _ b _ _ _ (fun i => c (lo + i)) hT (fun i hi => ?_) (fun i j v hi hj => ?_) (fun i hi => ?_) hlen.symm (by omega) (okLen_le (Nat.sub_le ..) ok) hb
    · rw [EV.sub_sz]; exact hn _ (by omega)
    · rw [EV.sub_sz]
      have := hc (lo + i) j v (by omega) hj
      rw [Nat.add_mul] at this
      simpa [Nat.add_assoc] using this
    · rw [EV.sub_items (by omega)]
      exact hr _ (by omega)

/-- The bounds as the model reads them. -/
theorem run_bounds_slice (isS : Bool) (len cap : Nat) (lo hi : Option (IntKind × Nat)) (h1 : (lo.map (·.2)).getD 0 ≤ (hi.map (·.2)).getD len) (h2 : (hi.map (·.2)).getD len ≤ len) (h3 : len ≤ cap) (w' : World) :
    (Instr.sliceBounds isS len cap (lo.map fun x => .int x.1 (x.2 : Int)) (hi.map fun x => .int x.1 (x.2 : Int)) none).run P w' = .ok ((lo.map (·.2)).getD 0, (hi.map (·.2)).getD len, cap) w' := by
  cases hi with
  | none =>
    cases lo with
    | none => simp [Instr.sliceBounds]
    | some l =>
      simp at h1
      simp [Instr.sliceBounds, Instr.sliceBound, asIntOf, h1]
  | some h =>
    simp at h2
    cases lo with
    | none =>
      have : h.2 ≤ cap := by omega
      simp [Instr.sliceBounds, Instr.sliceBound, asIntOf, this]
    | some l =>
      simp at h1
      have : h.2 ≤ cap := by omega
      simp [Instr.sliceBounds, Instr.sliceBound, asIntOf, this, h1]

theorem sliceV_run (H : MOk E T M w) {t : TypeId} {lo hi : Option (IntKind × Nat)} {x r : SV} {v : Value} {φ0 φ : List Prop} (h : sliceV P M t (lo.map (·.2)) (hi.map (·.2)) φ0 x = some (φ, r)) (hφ : All φ) (hx : Rep E T w x v) :
    ∃ u, Rep E T w r u ∧ ∀ w', (Instr.sliceAt t v (lo.map fun x => .int x.1 (x.2 : Int)) (hi.map fun x => .int x.1 (x.2 : Int)) none).run P w' = .ok u w' := by
  unfold sliceV at h
  split at h
  · rename_i hu
    split at h
    · rename_i l
      simp only [Option.some.injEq, Prod.mk.injEq] at h; obtain ⟨rfl, rfl⟩ := h
      obtain ⟨h1, h2⟩ := hφ.app.2.one
      cases hx with
      | str _ ok =>
        refine ⟨_, .str _ (okLen_le (by simp; omega) ok), fun w' => ?_⟩
        have hsz : (ByteArray.mk l.toArray).size = l.length := by simp [ByteArray.size]
        have := run_bounds_slice (P := P) false l.length l.length lo hi h1 h2 (Nat.le_refl _) w'
        simp only [Instr.sliceAt, Sem.run_bind, run_underlying hu, Result.andThen_ok, Instr.slice, Option.isSome, Bool.false_eq_true, if_false, hsz, this, Sem.run_pure]
        congr 2
        apply ByteArray.ext
        apply Array.ext'
        simp [List.take_drop]
    · cases h
  · rename_i elem hu
    split at h
    · rename_i s hsz
      split at h
      · rename_i e
        split at h
        · rename_i hes
          have hes' := Nat.eq_of_beq_eq_true hes
          simp only [Option.some.injEq, Prod.mk.injEq] at h; obtain ⟨rfl, rfl⟩ := h
          obtain ⟨h1, h2⟩ := hφ.app.2.one
          cases hx with
          | ro0 _ h0 =>
            refine ⟨.slice none 0 0, .ro0 _ ?_, fun w' => ?_⟩
            · rw [EV.sub_len (by omega)]; omega
            · rw [h0] at h1 h2
              have := run_bounds_slice (P := P) true 0 0 lo hi (by omega) (by omega) (Nat.le_refl _) w'
              simp only [Instr.sliceAt, Sem.run_bind, run_underlying hu, Result.andThen_ok, Instr.slice, this, run_sizeOf hsz, Sem.run_pure]
              have e1 : (hi.map (·.2)).getD 0 = 0 := by omega
              have e2 : (lo.map (·.2)).getD 0 = 0 := by omega
              simp only [e1, e2]
              simp
          | ro1 _ a0 h0 =>
            refine ⟨.slice (some a0) 0 0, .ro1 _ _ ?_, fun w' => ?_⟩
            · rw [EV.sub_len (by omega)]; omega
            · rw [h0] at h1 h2
              have := run_bounds_slice (P := P) true 0 0 lo hi (by omega) (by omega) (Nat.le_refl _) w'
              simp only [Instr.sliceAt, Sem.run_bind, run_underlying hu, Result.andThen_ok, Instr.slice, this, run_sizeOf hsz, Sem.run_pure]
              have e1 : (hi.map (·.2)).getD 0 = 0 := by omega
              have e2 : (lo.map (·.2)).getD 0 = 0 := by omega
              simp only [e1, e2]
              simp
          | ro _ b o n k c hT hn hc hr he hl ok hb =>
            subst he
            refine ⟨_, ro_slice hT hn hc hr rfl hl ok hb h1 h2, fun w' => ?_⟩
            have := run_bounds_slice (P := P) true e.len k lo hi h1 h2 hl w'
            simp only [Instr.sliceAt, Sem.run_bind, run_underlying hu, Result.andThen_ok, Instr.slice, this, run_sizeOf hsz, Sem.run_pure]
            simp only [Option.map_some, Addr.add_mk, hes']
            split <;> rfl
        · cases h
      · rename_i id base sz sub len
        split at h
        · rename_i hes
          have hes' := Nat.eq_of_beq_eq_true hes
          subst hes'
          simp only [Option.some.injEq, Prod.mk.injEq] at h; obtain ⟨rfl, rfl⟩ := h
          obtain ⟨h1, h2⟩ := hφ.app.2.one
          cases hx with
          | row0 _ _ _ _ _ hE h0 =>
            subst h0
            refine ⟨.slice none 0 0, .row0 _ _ _ _ _ hE (by omega), fun w' => ?_⟩
            have := run_bounds_slice (P := P) true 0 0 lo hi h1 h2 (Nat.le_refl _) w'
            simp only [Instr.sliceAt, Sem.run_bind, run_underlying hu, Result.andThen_ok, Instr.slice, this, run_sizeOf hsz, Sem.run_pure]
            have e1 : (hi.map (·.2)).getD 0 = 0 := by omega
            have e2 : (lo.map (·.2)).getD 0 = 0 := by omega
            simp only [e1, e2]
            simp
          | row _ _ _ _ _ b o k n t' hE hs ho hl ok =>
            have hb := run_bounds_slice (P := P) true len k lo hi h1 h2 hl
            refine ⟨.slice (some (if k = (lo.map (·.2)).getD 0 then ⟨b, o, none⟩ else ⟨b, o + (lo.map (·.2)).getD 0 * (s + 1), none⟩)) ((hi.map (·.2)).getD len - (lo.map (·.2)).getD 0) (k - (lo.map (·.2)).getD 0), ?_, fun w' => ?_⟩
            · split
              · rename_i hk
                exact .row id base (s + 1) _ _ b o _ n t' hE hs (fun h => absurd (by omega) h) (by omega) (okLen_le (Nat.sub_le ..) ok)
              · rename_i hk
                refine .row id base (s + 1) _ _ b _ _ n t' hE hs (fun h => ?_) (by omega) (okLen_le (Nat.sub_le ..) ok)
                obtain ⟨ho1, ho2⟩ := ho (by omega)
                refine ⟨by rw [ho1, Nat.add_mul]; omega, ?_⟩
                rw [show sub + (lo.map (·.2)).getD 0 + (k - (lo.map (·.2)).getD 0) = sub + k by omega]
                exact ho2
            · simp only [Instr.sliceAt, Sem.run_bind, run_underlying hu, Result.andThen_ok, Instr.slice, hb, run_sizeOf hsz, Sem.run_pure]
              simp only [Option.map_some, Addr.add_mk]
              split <;> rfl
        · cases h
      · simp only [Option.some.injEq, Prod.mk.injEq] at h; obtain ⟨rfl, rfl⟩ := h
        obtain ⟨h1, h2⟩ := hφ.app.2.one
        cases hx
        refine ⟨.slice none 0 0, .nils, fun w' => ?_⟩
        have := run_bounds_slice (P := P) true 0 0 lo hi (by omega) (by omega) (Nat.le_refl _) w'
        simp only [Instr.sliceAt, Sem.run_bind, run_underlying hu, Result.andThen_ok, Instr.slice, this, run_sizeOf hsz, Sem.run_pure]
        simp only [h1, h2]
        simp
      · cases h
    · cases h
  · rename_i m elem hu
    split at h
    · rename_i s hsz
      split at h
      · rename_i id off
        split at h
        · rename_i e he
          split at h
          · rename_i hes
            simp only [Bool.and_eq_true] at hes
            have hes' := Nat.eq_of_beq_eq_true hes.1
            have hm := Nat.le_of_ble_eq_true hes.2
            simp only [Option.some.injEq, Prod.mk.injEq] at h; obtain ⟨rfl, rfl⟩ := h
            have h12 := hφ.app.2 _ (List.mem_cons_self ..)
            have h3 : m = e.len := hφ.app.2 _ (List.mem_cons_of_mem _ (List.mem_cons_self ..))
            obtain ⟨h1, h2⟩ := h12
            cases hx with
            | ptr _ _ b hE =>
              have hb := run_bounds_slice (P := P) false m m lo hi h1 h2 (Nat.le_refl _)
              have hsh : ∃ t' n, w.shape? b = some (t', n) ∧ off + m * (s + 1) ≤ n := by
                unfold runAt at he
                split at he
                · rename_i t' e' hf
                  split at he
                  · rename_i hz
                    have := Nat.eq_of_beq_eq_true hz
                    subst this
                    simp at he
                    subst he
                    obtain ⟨hlt, cs, c, hh, hle, _⟩ := H.at hf hE
                    exact ⟨t', cs.length, by simp [World.shape?, hh], by rw [h3, ← hes', Nat.zero_add]; exact hle⟩
                  · cases he
                · rename_i t' l hf
                  split at he
                  · rename_i n' e' rest hd
                    simp at he
                    subst he
                    obtain ⟨hlt, cs, hh, hI⟩ := H.at hf hE
                    obtain ⟨h4, h5⟩ := hI.drop_ hd
                    refine ⟨t', cs.length, by simp [World.shape?, hh], ?_⟩
                    generalize hds : cs.drop off = ds at h5
                    cases h5 with
                    | one _ _ _ _ h1 => simp [SV.one] at h1
                    | arr _ _ _ c1 cs' hr hl =>
                      have hl1 := hr.arr_len
                      generalize hv : Value.agg c1.toArray = v at hr
                      cases hr with
                      | arr _ _ cs2 c hn hl2 he h1 hc hr =>
                        have : (cs.drop off).length = c1.length + cs'.length := by rw [hds]; simp
                        simp at this
                        rw [h3, ← hes']
                        omega
                  · cases he
                · cases he
              obtain ⟨t', n, hsh, hle⟩ := hsh
              refine ⟨.slice (some (if m = (lo.map (·.2)).getD 0 then ⟨b, off, none⟩ else ⟨b, off + (lo.map (·.2)).getD 0 * (s + 1), none⟩)) ((hi.map (·.2)).getD m - (lo.map (·.2)).getD 0) (m - (lo.map (·.2)).getD 0), ?_, fun w' => ?_⟩
              · split
                · rename_i hk
                  exact .row id off (s + 1) _ _ b off _ n t' hE hsh (fun h => absurd (by omega) h) (by omega) (okLen_le (Nat.sub_le ..) hm)
                · rename_i hk
                  refine .row id off (s + 1) _ _ b _ _ n t' hE hsh (fun h => ⟨rfl, ?_⟩) (by omega) (okLen_le (Nat.sub_le ..) hm)
                  rw [show (lo.map (·.2)).getD 0 + (m - (lo.map (·.2)).getD 0) = m by omega]
                  exact hle
              · simp only [Instr.sliceAt, Sem.run_bind, run_underlying hu, Result.andThen_ok, Instr.sureAddr, hb, run_sizeOf hsz, Sem.run_pure]
                simp only [Addr.add_mk]
          · cases h
        · cases h
      · cases h
    · cases h
  · cases h
end
end Go.Proofs.YtgpggoejkkhceaaDoor.V
