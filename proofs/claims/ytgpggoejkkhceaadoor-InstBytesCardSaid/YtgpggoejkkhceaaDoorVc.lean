/-
  A walk by abstract values: what an operation reckons is what the model does.
-/
import Derived.Test.YtgpggoejkkhceaaDoorVb
namespace Go.Proofs.YtgpggoejkkhceaaDoor.V
open Go.RowKit

theorem inR_small {k : IntKind} {n : Int} (h : smallB k n = true) : inR k n := by
  unfold smallB at h
  split at h
  · rename_i m
    split at h
    · rename_i hm
      have hm' := Nat.le_of_ble_eq_true hm
      constructor
      · cases k <;> simp [IntKind.min, IntKind.signed, IntKind.bits] <;> omega
      · cases k <;> simp [IntKind.max, IntKind.signed, IntKind.bits] <;> omega
    · simpa [inR] using h
  · simpa [inR] using h

section
variable {E : Env} {T : Nat → Prop} {w : World}
theorem Rep.ofC {v : Value} {s : SV} (h : ofC v = some s) : Rep E T w s v ∧ s.one = true := by
  unfold V.ofC at h
  split at h <;> try (simp at h; done)
  · split at h
    · rename_i hs
      simp at h; subst h; exact ⟨.int _ _ (inR_small hs), rfl⟩
    · cases h
  · simp at h; subst h; exact ⟨.bool _, rfl⟩
  · split at h
    · rename_i hs
      simp at h; subst h
      exact ⟨.str _ (Nat.le_of_ble_eq_true hs), rfl⟩
    · cases h
  · simp at h; subst h; exact ⟨.nilp, rfl⟩
  · simp at h; subst h; exact ⟨.nils, rfl⟩
  · simp at h; subst h; exact ⟨.nilf, rfl⟩
  · simp at h; subst h; exact ⟨.nili, rfl⟩
  · simp at h; subst h; exact ⟨.fn _ _ [] .nil, rfl⟩
theorem Items.ofCs : ∀ {cs : List Value} {l : List SV}, ofCs cs = some l → Items E T w l cs
  | [], l, h => by simp [V.ofCs] at h; subst h; exact .nil
  | v :: r, l, h => by
    simp only [V.ofCs] at h
    split at h
    · rename_i s hs
      split at h
      · rename_i l' hl
        simp at h
        subst h
        obtain ⟨h1, h2⟩ := Rep.ofC (E := E) (T := T) (w := w) hs
        exact .one _ _ _ _ h2 h1 (Items.ofCs hl)
      · cases h
    · cases h
theorem Rep.ofV {v : Value} {s : SV} (h : ofV v = some s) : Rep E T w s v := by
  unfold V.ofV at h
  split at h
  · split at h
    · rename_i l hl
      simp at h
      subst h
      exact .agg _ _ (Items.ofCs hl)
    · cases h
  · exact (Rep.ofC h).1
theorem Rep.unmay {g : Prop} {s : SV} {v : Value} (h : Rep E T w (.may g s) v) (hg : g) : Rep E T w s v := by
  cases h with
  | may1 _ _ _ _ hr => exact hr
  | may0 _ _ hn => exact absurd hg hn
end

/-- What is known of the frame and of memory. -/
structure Vw (Γ : Glob) (F : Tr) (M : Mem) (E : Env) (T : Nat → Prop) (a : Act) (w : World) : Prop where
  slots : ∀ t s, F.get t = some s → Rep E T w s (a.tmps.getD t undef)
  mem : MOk E T M w
  glob : ∀ g e, gl Γ g = some e → Rep E T w (.rop e 0 0) (.pointer (some ⟨g, 0, none⟩))
theorem St.vw {C : Ctx} {F : Tr} {M : Mem} {U : Nat → Prop} {E : Env} {a : Act} {w : World} (h : St C F M U E a w) : Vw C.Γ F M E (trk C.T0 M E) a w := ⟨h.slots, h.mem, fun g e hg => (h.glob.rep g e hg).mono (fun i b hi => by simp [E0] at hi) (fun _ _ h => h) (Chg.refl _ w)⟩

def All (φ : List Prop) : Prop := ∀ p ∈ φ, p
theorem All.cons {p : Prop} {φ : List Prop} (h : All (p :: φ)) : p ∧ All φ := ⟨h p (List.mem_cons_self ..), fun q hq => h q (List.mem_cons_of_mem _ hq)⟩
theorem All.app {φ ψ : List Prop} (h : All (φ ++ ψ)) : All φ ∧ All ψ := ⟨fun q hq => h q (List.mem_append_left _ hq), fun q hq => h q (List.mem_append_right _ hq)⟩
theorem All.one {p : Prop} (h : All [p]) : p := h p (List.mem_cons_self ..)

section
variable {P : Program} {Γ : Glob} {F : Tr} {M : Mem} {E : Env} {a : Act} {w : World} {T : Nat → Prop}
theorem opd_rep (V : Vw Γ F M E T a w) {x : Operand} {s : SV} (h : opd Γ F x = some s) : Rep E T w s (a.eval x) := by
  cases x with
  | tmp t => exact V.slots t s h
  | const v => exact Rep.ofV h
  | global g =>
    simp only [opd] at h
    split at h
    · rename_i e he
      simp at h
      subst h
      exact V.glob g e he
    · cases h
  | func f =>
    simp [opd] at h
    subst h
    exact .fn f [] [] .nil

theorem op1_inv (V : Vw Γ F M E T a w) {x : Operand} {k : SV → R} {φ : List Prop} {r : SV} (h : op1 Γ F x k = some (φ, r)) (hφ : All φ) :
    ∃ s φ', Rep E T w s (a.eval x) ∧ k s = some (φ', r) ∧ All φ' := by
  unfold op1 at h
  split at h
  · rename_i s hs
    have hr := opd_rep V hs
    split at h
    · rename_i g s'
      split at h
      · rename_i φ' v' hk
        simp at h
        obtain ⟨rfl, rfl⟩ := h
        obtain ⟨hg, hφ'⟩ := hφ.cons
        exact ⟨s', φ', hr.unmay hg, hk, hφ'⟩
      · cases h
    · exact ⟨_, φ, hr, h, hφ⟩
  · cases h

theorem opds_tup (V : Vw Γ F M E T a w) : ∀ {l : List Operand} {r : List SV}, opds Γ F l = some r → Tup E T w r (l.map a.eval)
  | [], r, h => by simp [opds] at h; subst h; exact .nil
  | x :: l, r, h => by
    simp only [opds] at h
    split at h
    · rename_i s hs
      split at h
      · cases h
      · split at h
        · rename_i l' hl
          simp at h
          subst h
          exact .cons _ _ _ _ (opd_rep V hs) (opds_tup V hl)
        · cases h
    · cases h

/-! ### Reading -/
theorem run_isAgg {t : TypeId} {b : Bool} (h : isAggD (P.underlying t) = some b) (w : World) : (isAgg t).run P w = .ok b w := by
  unfold isAggD at h
  split at h <;> simp at h <;> subst h <;> rename_i hu <;> simp [isAgg, run_underlying hu]
theorem sizeF_info {t n : Nat} (h : sizeF P t = some n) : ∃ i, P.info? t = some i ∧ i.size = n := by
  unfold sizeF at h
  split at h
  · rename_i i hi; exact ⟨i, hi, by simpa using h⟩
  · cases h
theorem run_sizeOf {t n : Nat} (h : sizeF P t = some n) (w : World) : (sizeOf t).run P w = .ok n w := by
  obtain ⟨i, hi, rfl⟩ := sizeF_info h
  simp [sizeOf, typeInfo, hi]

theorem ofItems_rep {b : Bool} {r : List SV} {cs : List Value} {s : SV} (h : Items E T w r cs) (hs : ofItems b r = some s) :
    (b = true → Rep E T w s (.agg cs.toArray)) ∧ (b = false → ∃ c, cs = [c] ∧ Rep E T w s c) := by
  unfold ofItems at hs
  split at hs
  · rename_i n e
    simp at hs
    subst hs
    refine ⟨fun _ => ?_, by simp⟩
    cases h with
    | one _ c _ _ h1 => simp [SV.one] at h1
    | arr _ _ _ c1 cs' hr hl =>
      cases hl
      simpa using hr
  · simp at hs
    subst hs
    exact ⟨fun _ => .agg _ _ h, by simp⟩
  · rename_i s'
    split at hs
    · cases hs
    · rename_i hne
      simp at hs
      subst hs
      refine ⟨by simp, fun _ => ?_⟩
      cases h with
      | one _ c _ _ h1 hr hl =>
        cases hl
        exact ⟨c, rfl, hr⟩
      | arr n e _ c1 cs' hr hl => exact absurd rfl (hne n e)
  · cases hs

/-- A read of what parts stand for. -/
theorem see_run {t off b o : Nat} {l : List SV} {cs : List Value} {s : SV} (hI : Items E T w l cs) (hs : seeI P t l off = some s) :
    ∃ u, Rep E T w s u ∧ ∀ w' : World, (∀ j v, cs[j]? = some v → w'.cell? ⟨b, o + j, none⟩ = some v) → (loadVar t ⟨b, o + off, none⟩).run P w' = .ok u w' := by
  unfold seeI at hs
  split at hs
  · rename_i bb hA
    split at hs
    · rename_i n hn
      split at hs
      · rename_i r hr
        obtain ⟨hle, hI'⟩ := hI.cut hr
        obtain ⟨h1, h2⟩ := ofItems_rep hI' hs
        cases bb with
        | true =>
          refine ⟨_, h1 rfl, fun w' hc => ?_⟩
          have hlen : ((cs.drop off).take n).length = n := by simp; omega
          have hcell : ∀ j v, ((cs.drop off).take n)[j]? = some v → w'.cell? ((⟨b, o + off, none⟩ : Addr).add j) = some v := fun j v hj => by
            have ha : (⟨b, o + off, none⟩ : Addr).add j = ⟨b, o + (off + j), none⟩ := by unfold Addr.add; split <;> simp_all [Nat.add_assoc]
            rw [ha]
            refine hc _ _ ?_
            have hjn : j < n := by
              rcases Nat.lt_or_ge j n with hlt | hge
              · exact hlt
              · rw [List.getElem?_take, if_neg (by omega)] at hj; cases hj
            rw [List.getElem?_take, if_pos hjn, List.getElem?_drop] at hj
            exact hj
          have hlc := run_loadCells_list (P := P) (w := w') ⟨b, o + off, none⟩ _ hcell
          rw [hlen] at hlc
          simp only [loadVar, Sem.run_bind, run_isAgg hA, Result.andThen_ok, if_true, run_sizeOf hn, hlc, Sem.run_pure]
        | false =>
          obtain ⟨c, hc1, hrep⟩ := h2 rfl
          refine ⟨c, hrep, fun w' hc => ?_⟩
          have h0 : cs[off]? = some c := by
            have : ((cs.drop off).take n)[0]? = some c := by rw [hc1]; rfl
            rw [List.getElem?_take] at this
            split at this
            · rw [List.getElem?_drop] at this; simpa using this
            · cases this
          simp only [loadVar, Sem.run_bind, run_isAgg hA, Result.andThen_ok]
          simp [hc off c h0]
      · cases hs
    · cases hs
  · cases hs

theorem cell_blk {w : World} {g : Nat} {cs : List Value} {t : TypeId} {fr : Nat × Nat} (h : w.heap[g]? = some (.cells cs.toArray t fr)) (i : Nat) : w.cell? ⟨g, i, none⟩ = cs[i]? := by
  simp [World.cell?, h]
theorem withφ_inv {φ φ' : List Prop} {o : Option SV} {r : SV} (h : withφ φ o = some (φ', r)) : φ = φ' ∧ o = some r := by
  unfold withφ at h
  split at h
  · simp at h; exact ⟨h.1, by rw [h.2]⟩
  · cases h

/-- The cells of the run that begins at a place of a block. -/
theorem runAt_cells (H : MOk E T M w) {id base b : Nat} {e : EV} (h : runAt M id base = some e) (hE : E id = some (some b)) :
    ∃ (c : Nat → List Value), b < w.heap.size ∧ (∀ i, i < e.len → (c i).length = e.sz) ∧ (∀ i j v, i < e.len → (c i)[j]? = some v → w.cell? ⟨b, base + i * e.sz + j, none⟩ = some v) ∧
      (∀ i, i < e.len → Items E T w (e.items i) (c i)) := by
  unfold runAt at h
  split at h
  · rename_i t e' hf
    split at h
    · rename_i hb
      have := Nat.eq_of_beq_eq_true hb
      subst this
      simp at h
      subst h
      obtain ⟨hlt, cs, c, hh, hle, hn, hc, hr⟩ := H.at hf hE
      refine ⟨c, hlt, hn, fun i j v hi hj => ?_, hr⟩
      rw [cell_blk hh, Nat.zero_add]
      exact hc i j v hi hj
    · cases h
  · rename_i t l hf
    split at h
    · rename_i n e' rest hd
      simp at h
      subst h
      obtain ⟨hlt, cs, hh, hI⟩ := H.at hf hE
      obtain ⟨h1, h2⟩ := hI.drop_ hd
      generalize hds : cs.drop base = ds at h2
      cases h2 with
      | one _ c _ _ h1 => simp [SV.one] at h1
      | arr _ _ _ c1 cs' hr hl =>
        generalize hv : Value.agg c1.toArray = v at hr
        cases hr with
        | arr _ _ cs2 c hn hl2 he h1 hc hr =>
          simp at hv
          subst hv
          refine ⟨c, hlt, hn, fun i j v hi hj => ?_, hr⟩
          rw [cell_blk hh, Nat.add_assoc]
          have hc1 := hc i j v hi hj
          have : (cs.drop base)[i * e'.sz + j]? = some v := by
            rw [hds, List.getElem?_append_left]
            · exact hc1
            · exact (List.getElem?_eq_some_iff.1 hc1).1
          rwa [List.getElem?_drop] at this
    · cases h
  · cases h

theorem below_cell {w w' : World} (hb : Below w.heap.size w w') {p : Addr} {v : Value} (h : w.cell? p = some v) : w'.cell? p = some v :=
  (hb.cell (block_lt_of_cell h)).trans h

theorem loadV_run (H : MOk E T M w) {t : TypeId} {s r : SV} {v : Value} {φ : List Prop} (h : loadV P M t s = some (φ, r)) (hφ : All φ) (hs : Rep E T w s v) :
    ∃ u, Rep E T w r u ∧ ∀ w', Below w.heap.size w w' → (Instr.loadAt t v).run P w' = .ok u w' := by
  unfold loadV at h
  split at h
  · rename_i id off
    split at h
    · rename_i t' l hf
      obtain ⟨rfl, h'⟩ := withφ_inv h
      cases hs with
      | ptr _ _ b hE =>
        obtain ⟨hlt, cs, hh, hI⟩ := H.at hf hE
        obtain ⟨u, h1, h2⟩ := see_run (P := P) (b := b) (o := 0) hI h'
        refine ⟨u, h1, fun w' hb => ?_⟩
        have := h2 w' (fun j v hj => by
          rw [Nat.zero_add]
          refine below_cell hb ?_
          rw [cell_blk hh]; exact hj)
        simp only [Nat.zero_add] at this
        simp only [Instr.loadAt, Instr.sureAddr, Sem.run_bind, Sem.run_pure, Result.andThen_ok, this]
    · cases h
  · rename_i id base sz i j
    split at h
    · rename_i e he
      split at h
      · rename_i hsz
        have := Nat.eq_of_beq_eq_true hsz
        subst this
        obtain ⟨rfl, h'⟩ := withφ_inv h
        have hi := hφ.one
        cases hs with
        | pel _ _ _ _ _ b hE =>
          obtain ⟨c, hlt, hn, hc, hr⟩ := runAt_cells H he hE
          obtain ⟨u, h1, h2⟩ := see_run (P := P) (b := b) (o := base + i * e.sz) (hr i hi) h'
          refine ⟨u, h1, fun w' hb => ?_⟩
          have := h2 w' (fun j v hj => below_cell hb (hc i j v hi hj))
          simp only [Instr.loadAt, Instr.sureAddr, Sem.run_bind, Sem.run_pure, Result.andThen_ok, this]
      · cases h
    · cases h
  · rename_i e i j
    obtain ⟨rfl, h'⟩ := withφ_inv h
    cases hs with
    | rop _ _ _ b o c hT hn hc hr hi hj hb0 =>
      obtain ⟨u, h1, h2⟩ := see_run (P := P) (b := b) (o := o + i * e.sz) (hr i hi) h'
      refine ⟨u, h1, fun w' hb => ?_⟩
      have := h2 w' (fun j v hj => below_cell hb (hc i j v hi hj))
      simp only [Instr.loadAt, Instr.sureAddr, Sem.run_bind, Sem.run_pure, Result.andThen_ok, this]
  · cases h

/-! ### Places -/
theorem Addr.add_mk (b o n : Nat) : (⟨b, o, none⟩ : Addr).add n = ⟨b, o + n, none⟩ := by unfold Addr.add; split <;> simp_all
theorem offF_run {s f o : Nat} (h : offF P s f = some o) (b off : Nat) (w : World) : (Instr.fieldAt s (.pointer (some ⟨b, off, none⟩)) f).run P w = .ok (.pointer (some ⟨b, off + o, none⟩)) w := by
  unfold offF at h
  split at h
  · rename_i fs hu
    split at h
    · rename_i n t o' e tg pk bo hfl
      split at h
      · rename_i sz hsz
        simp at h
        subst h
        have hfa : fs[f]? = some ⟨n, t, o', e, tg, pk, bo⟩ := by simpa using hfl
        obtain ⟨i, hi, his⟩ := sizeF_info hsz
        simp [Instr.fieldAt, Instr.sureAddr, run_underlying hu, hfa, fieldPlace, sizeOf, typeInfo, hi, his, Addr.add_mk]
      · cases h
    · cases h
  · cases h
theorem fieldAddrV_run {s f o : Nat} (ho : offF P s f = some o) {p r : SV} {v : Value} {φ : List Prop} (h : fieldAddrV o p = some (φ, r)) (hp : Rep E T w p v) :
    ∃ u, Rep E T w r u ∧ ∀ w', (Instr.fieldAt s v f).run P w' = .ok u w' := by
  unfold fieldAddrV at h
  split at h
  · rename_i id off
    simp at h
    obtain ⟨_, rfl⟩ := h
    cases hp with
    | ptr _ _ b hE => exact ⟨_, .ptr id (off + o) b hE, fun w' => offF_run ho _ _ w'⟩
  · rename_i id base sz i j
    simp at h
    obtain ⟨_, rfl⟩ := h
    cases hp with
    | pel _ _ _ _ _ b hE => exact ⟨_, .pel id base sz i (j + o) b hE, fun w' => by rw [offF_run ho, Nat.add_assoc]⟩
  · rename_i e i j
    split at h
    · rename_i hlt
      simp at h
      obtain ⟨_, rfl⟩ := h
      cases hp with
      | rop _ _ _ b o' c hT hn hc hr hi hj hb => exact ⟨_, .rop e i (j + o) b o' c hT hn hc hr hi (by simpa using hlt) hb, fun w' => by rw [offF_run ho, Nat.add_assoc]⟩
    · cases h
  · cases h
theorem indexAddrV_run {t : TypeId} {k : IntKind} {n : Int} {p r : SV} {v : Value} {φ : List Prop} (h : indexAddrV P M t n p = some (φ, r)) (hφ : All φ) (hp : Rep E T w p v) :
    ∃ u, Rep E T w r u ∧ ∀ w', (Instr.indexAt t v (.int k n)).run P w' = .ok u w' := by
  unfold indexAddrV at h
  split at h
  · rename_i elem hu
    split at h
    · rename_i s hsz
      split at h
      · rename_i e
        split at h
        · rename_i hes
          have hes' := Nat.eq_of_beq_eq_true hes
          simp at h
          obtain ⟨rfl, rfl⟩ := h
          obtain ⟨h0, h1⟩ := hφ.one
          have hlt : n.toNat < e.len := by omega
          cases hp with
          | ro0 _ h => omega
          | ro1 _ _ h => omega
          | ro _ b o n' k' c hT hn hc hr he hl ok hb =>
            refine ⟨_, .rop e n.toNat 0 b o c hT hn hc hr hlt (by omega) hb, fun w' => ?_⟩
            simp only [Instr.indexAt, asIntOf, Sem.run_bind, Sem.run_pure, Result.andThen_ok, run_underlying hu]
            simp only [he, h0, h1, and_self, if_true, Sem.run_bind, run_sizeOf hsz, Result.andThen_ok, Sem.run_pure, Addr.add_mk, hes', Nat.add_zero]
        · cases h
      · rename_i id base sz sub len
        split at h
        · rename_i hes
          have hes' := Nat.eq_of_beq_eq_true hes
          subst hes'
          simp at h
          obtain ⟨rfl, rfl⟩ := h
          obtain ⟨h0, h1⟩ := hφ.one
          cases hp with
          | row0 _ _ _ _ _ _ hl => omega
          | row _ _ _ _ _ b o c m t' hE hs ho hl ok =>
            obtain ⟨ho1, ho2⟩ := ho (by omega)
            subst ho1
            refine ⟨_, .pel id base (s + 1) (sub + n.toNat) 0 b hE, fun w' => ?_⟩
            simp only [Instr.indexAt, asIntOf, Sem.run_bind, Sem.run_pure, Result.andThen_ok, run_underlying hu]
            simp only [h0, h1, and_self, if_true, Sem.run_bind, run_sizeOf hsz, Result.andThen_ok, Sem.run_pure, Addr.add_mk, Nat.add_zero, Nat.add_mul, Nat.add_assoc]
        · cases h
      · cases h
    · cases h
  · rename_i m elem hu
    split at h
    · rename_i s hsz
      split at h
      · rename_i id off
        split at h
        · rename_i e he
          split at h
          · rename_i hes
            have hes' := Nat.eq_of_beq_eq_true hes
            simp at h
            obtain ⟨rfl, rfl⟩ := h
            obtain ⟨h0, h1⟩ := hφ.one
            cases hp with
            | ptr _ _ b hE =>
              refine ⟨_, .pel id off e.sz n.toNat 0 b hE, fun w' => ?_⟩
              simp only [Instr.indexAt, asIntOf, Sem.run_bind, Sem.run_pure, Result.andThen_ok, run_underlying hu, Instr.sureAddr]
              simp only [h0, h1, and_self, if_true, Sem.run_bind, run_sizeOf hsz, Result.andThen_ok, Sem.run_pure, Addr.add_mk, Nat.add_zero, hes']
          · cases h
        · split at h
          · simp at h
            obtain ⟨rfl, rfl⟩ := h
            obtain ⟨h0, h1⟩ := hφ.one
            cases hp with
            | ptr _ _ b hE =>
              refine ⟨_, .ptr id _ b hE, fun w' => ?_⟩
              simp only [Instr.indexAt, asIntOf, Sem.run_bind, Sem.run_pure, Result.andThen_ok, run_underlying hu, Instr.sureAddr]
              simp only [h0, h1, and_self, if_true, Sem.run_bind, run_sizeOf hsz, Result.andThen_ok, Sem.run_pure, Addr.add_mk]
          · cases h
      · rename_i e i j
        split at h
        · rename_i hez
          have e3 := Nat.eq_of_beq_eq_true hez
          split at h
          · rename_i hes
            simp only [Bool.and_eq_true] at hes
            have e1 := Nat.eq_of_beq_eq_true hes.1
            have e2 := Nat.eq_of_beq_eq_true hes.2
            subst e1
            subst e2
            simp at h
            obtain ⟨rfl, rfl⟩ := h
            have h0 : 0 ≤ n := (hφ _ (List.mem_cons_self ..)).1
            have h1 : n < (m : Int) := (hφ _ (List.mem_cons_self ..)).2
            have h2 : m = e.len := hφ _ (List.mem_cons_of_mem _ (List.mem_cons_self ..))
            cases hp with
            | rop _ _ _ b o c hT hn hc hr hi hj hb =>
              refine ⟨_, .rop e n.toNat 0 b o c hT hn hc hr (by omega) hj hb, fun w' => ?_⟩
              simp only [Instr.indexAt, asIntOf, Sem.run_bind, Sem.run_pure, Result.andThen_ok, run_underlying hu, Instr.sureAddr]
              simp only [h0, h1, and_self, if_true, Sem.run_bind, run_sizeOf hsz, Result.andThen_ok, Sem.run_pure, Addr.add_mk, Nat.add_zero, Nat.zero_mul, e3]
          · cases h
        · split at h
          · rename_i hlt
            simp at h
            obtain ⟨rfl, rfl⟩ := h
            obtain ⟨h0, h1⟩ := hφ.one
            cases hp with
            | rop _ _ _ b o c hT hn hc hr hi hj hb =>
              refine ⟨_, .rop e i _ b o c hT hn hc hr hi (by simpa using hlt) hb, fun w' => ?_⟩
              simp only [Instr.indexAt, asIntOf, Sem.run_bind, Sem.run_pure, Result.andThen_ok, run_underlying hu, Instr.sureAddr]
              simp only [h0, h1, and_self, if_true, Sem.run_bind, run_sizeOf hsz, Result.andThen_ok, Sem.run_pure, Addr.add_mk, Nat.add_assoc]
          · cases h
      · cases h
    · cases h
  · cases h
end
end Go.Proofs.YtgpggoejkkhceaaDoor.V
