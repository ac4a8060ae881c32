/-
  What a law is given, as abstract values: from the readings of the arguments.
-/
import Derived.Test.YtgpggoejkkhceaaDoorVv
import Derived.Deep.Slices
namespace Go.Proofs.YtgpggoejkkhceaaDoor.V
open Go.RowKit Go.ChangeShapes Go.WideShapes

section
variable {H : Type}
def ptsD : DataW H → List (DataW H)
  | .agg l => l
  | _ => []
def nthD : List (DataW H) → Nat → DataW H
  | [], _ => .nil
  | x :: _, 0 => x
  | _ :: r, n + 1 => nthD r n
def iOf : DataW H → Int
  | .lit (.int _ n) => n
  | _ => 0
def bOf : DataW H → Bool
  | .lit (.bool b) => b
  | _ => false
def sOf : DataW H → List UInt8
  | .lit (.string l) => l
  | _ => []
def eOf : DataW H → List (DataW H)
  | .slice l _ => l
  | _ => []
def u8Of (x : DataW H) : UInt8 := UInt8.ofNat (iOf x).toNat
theorem nthD_get : ∀ (l : List (DataW H)) (i : Nat) (x : DataW H), l[i]? = some x → nthD l i = x
  | [], i, x, h => by simp at h
  | y :: r, 0, x, h => by simpa [nthD] using h
  | y :: r, i + 1, x, h => by simpa [nthD] using nthD_get r i x (by simpa using h)
def svFs (q : TypeId → DataW H → List SV) (l : List (DataW H)) : List Field → Nat → List SV
  | [], _ => []
  | ⟨_, t, _, _, _, _, _⟩ :: fs, i => q t (nthD l i) ++ svFs q l fs (i + 1)
def svEs (q : DataW H → List SV) (l : List (DataW H)) : Nat → Nat → List SV
  | 0, _ => []
  | n + 1, i => q (nthD l i) ++ svEs q l n (i + 1)
def szT (P : Program) (t : TypeId) : Nat :=
  match P.info? t with
  | some i => i.size
  | none => 0
/-- The parts of a value of a type, by its reading. -/
def svI (P : Program) : Nat → TypeId → DataW H → List SV
  | 0, _, _ => []
  | d + 1, t, x => match P.underlying t with
    | some .bool => [.bool (bOf x)]
    | some (.int k) => [.int k (iOf x)]
    | some .string => [.str (sOf x)]
    | some (.slice e) => match P.underlying e with
      | some (.int .u8) => [.ro (.u8 ((eOf x).map u8Of))]
      | some (.int k) => [.ro (.ints k ((eOf x).map iOf))]
      | _ => [.ro (.g (eOf x).length (szT P e) fun i => svI P d e (nthD (eOf x) i))]
    | some (.struct fs) => svFs (svI P d) (ptsD x) fs.toList 0
    | some (.array n e) => match P.underlying e with
      | some (.int .u8) => match Nat.ble 9 n with
        | true => [.arr n (.u8 ((ptsD x).map u8Of))]
        | false => svEs (svI P d e) (ptsD x) n 0
      | some (.int k) => match Nat.ble 9 n with
        | true => [.arr n (.ints k ((ptsD x).map iOf))]
        | false => svEs (svI P d e) (ptsD x) n 0
      | _ => svEs (svI P d e) (ptsD x) n 0
    | _ => []
def okFs (q : TypeId → Bool) (P : Program) : List Field → Nat → Nat → Bool
  | [], n, s => Nat.beq n s
  | ⟨_, t, off, _, _, _, _⟩ :: fs, n, s => q t && Nat.beq off n && okFs q P fs (n + P.cellsOf t) s
/-- Is a type one whose values are read so? -/
def okT (P : Program) : Nat → TypeId → Bool
  | 0, _ => false
  | d + 1, t => match P.underlying t with
    | some .bool | some (.int _) | some .string => Nat.beq (P.cellsOf t) 1
    | some (.slice e) => Nat.beq (P.cellsOf t) 1 && Nat.ble 1 (P.cellsOf e) && okT P d e
    | some (.struct fs) => okFs (okT P d) P fs.toList 0 (P.cellsOf t)
    | some (.array n e) => okT P d e && Nat.beq (n * P.cellsOf e) (P.cellsOf t)
    | _ => false
end

section
variable {H : Type} {enc : TypeId × Value → H} {P : Program} {w : World} {T : Nat → Prop}
theorem szT_eq (t : TypeId) : szT P t = P.cellsOf t := by
  unfold szT Program.cellsOf
  cases P.info? t <;> rfl
theorem cells_inv {a : Addr} {n : Nat} {cs : List Value} (h : w.cells? 0 a n = some cs) : cs.length = n ∧ ∀ j v, cs[j]? = some v → w.cell? (a.add j) = some v := by
  unfold World.cells? at h
  rw [if_pos (Nat.zero_le _)] at h
  have hl := mapM_some_length h
  refine ⟨by simpa using hl, fun j v hj => ?_⟩
  have hlt : j < n := by
    have := (List.getElem?_eq_some_iff.1 hj).1
    simp at hl; omega
  rw [mapM_some_get h j j (by simp [hlt]), hj]
theorem spot_of {a : Addr} {v : Value} (h : w.cell? a = some v) : a.spot = none := by
  unfold World.cell? at h
  split at h
  · split at h
    · cases h
    · rename_i hs
      cases hs' : a.spot with
      | none => rfl
      | some x => simp [hs'] at hs
  · cases h
theorem add_spot (a : Addr) (j : Nat) : (a.add j).spot = a.spot ∨ (0 < j ∧ (a.add j).spot = none) := by
  unfold Addr.add
  split
  · left; rfl
  · right; exact ⟨by omega, rfl⟩
theorem wf_int {k : IntKind} {n : Int} (h : (Lit.int k n).wf = true) : inR k n := by
  simp only [Lit.wf, Bool.and_eq_true, decide_eq_true_eq] at h
  exact h

theorem Items.appD {l m : List SV} {cs ds : List Value} (h : Items E0 T w l cs) (h' : Items E0 T w m ds) : Items E0 T w (l ++ m) (cs ++ ds) := h.app h'

theorem u8Of_lit {n : Int} (h : inR .u8 n) : ((u8Of (.lit (.int .u8 n) : DataW H)).toNat : Int) = n := by
  simp [inR, IntKind.min, IntKind.max, IntKind.signed, IntKind.bits] at h
  simp only [u8Of, iOf]
  have h2 : n.toNat < 256 := by omega
  rw [UInt8.toNat_ofNat_of_lt' (by exact h2)]
  omega

/-- **What is read, as parts.** -/
theorem trod_items (hT : ∀ b, ¬ T b) : ∀ (d fuel : Nat) {t : TypeId} {cs : List Value} {x : DataW H} {ps : List MemPlace}, okT P d t = true → DataW.trod enc P w 0 (fun _ => true) true fuel t cs = some (x, ps) →
    cs.length = P.cellsOf t ∧ Items E0 T w (svI P d t x) cs
  | 0, _, t, cs, x, ps, ho, h => by simp [okT] at ho
  | d + 1, fuel, t, cs, x, ps, ho, h => by
    simp only [okT] at ho
    split at ho
    · rename_i hu
      have hc := Nat.eq_of_beq_eq_true ho
      obtain ⟨b, rfl, hx⟩ := DataW.trod_bool hu h
      cases hx
      refine ⟨by simpa using hc.symm, ?_⟩
      simp only [svI, hu, bOf]
      exact .one _ _ _ _ rfl (.bool _) .nil
    · rename_i k hu
      have hc := Nat.eq_of_beq_eq_true ho
      obtain ⟨n, rfl, hx, hw⟩ := DataW.trod_int hu h
      cases hx
      refine ⟨by simpa using hc.symm, ?_⟩
      simp only [svI, hu, iOf]
      exact .one _ _ _ _ rfl (.int _ _ (wf_int hw)) .nil
    · rename_i hu
      have hc := Nat.eq_of_beq_eq_true ho
      obtain ⟨s, rfl, hx, hw⟩ := DataW.trod_string hu h
      cases hx
      refine ⟨by simpa using hc.symm, ?_⟩
      simp only [svI, hu, sOf]
      have : (Value.string s) = .string ⟨s.data.toList.toArray⟩ := by simp
      rw [this]
      refine .one _ _ _ _ rfl (.str _ ?_) .nil
      have h1 : s.data.toList.length = s.size := Array.length_toList
      unfold okLen
      rw [h1]
      exact Nat.le_trans hw (by decide)
    · rename_i e hu
      simp only [Bool.and_eq_true] at ho
      obtain ⟨⟨h1, h2⟩, h3⟩ := ho
      have hc := Nat.eq_of_beq_eq_true h1
      have hpos := Nat.le_of_ble_eq_true h2
      have hcl : cs.length = P.cellsOf t ∧ ∀ ev : EV, (ev.len = (eOf x).length) → (ev.sz = P.cellsOf e) →
          (∀ i y cs', (eOf x)[i]? = some y → cs'.length = P.cellsOf e → (∃ m p, DataW.trod enc P w 0 (fun _ => true) true m e cs' = some (y, p)) → Items E0 T w (ev.items i) cs') → Items E0 T w [.ro ev] cs := by
        rcases Deep.open_slice hu h with ⟨rfl, hx⟩ | ⟨a, len, cap, m, n, D, Pl, rfl, _, hl, hm, hmm, hx, hel⟩
        · cases hx
          refine ⟨by simpa using hc.symm, fun ev he _ _ => ?_⟩
          exact .one _ _ _ _ rfl (.ro0 _ (by simpa [eOf] using he)) .nil
        · simp only [if_true] at hmm
          subst hmm
          cases hx
          refine ⟨by simpa using hc.symm, fun ev he hz hI => ?_⟩
          simp only [eOf, List.length_map, List.length_range] at he
          refine .one _ _ _ _ rfl ?_ .nil
          rcases Nat.eq_zero_or_pos m with h0 | h0
          · subst h0
            have : len = 0 := by omega
            subst this
            exact .ro1 _ _ he
          · obtain ⟨c0, q0, _⟩ := hel 0 h0
            obtain ⟨l0, g0⟩ := cells_inv q0
            have hv0 : ∃ v, c0[0]? = some v := by
              rw [List.getElem?_eq_getElem (by omega)]
              exact ⟨_, rfl⟩
            obtain ⟨v0, hv0⟩ := hv0
            have hcell := g0 0 v0 hv0
            have ha : a.spot = none := by
              have := spot_of hcell
              have e1 : ((a.add (0 * P.cellsOf e)).add 0) = a := by simp [Addr.add]
              rw [e1] at this
              exact this
            have hb := block_lt_of_cell hcell
            have e1 : ((a.add (0 * P.cellsOf e)).add 0) = a := by simp [Addr.add]
            rw [e1] at hb
            obtain ⟨b, o, sp⟩ := a
            dsimp only at ha hb
            subst ha
            obtain ⟨c, hcc⟩ := Deep.choose_lt hel
            refine .ro _ b o len m c (hT b) (fun i hi => ?_) (fun i j v hi hj => ?_) (fun i hi => ?_) he.symm hl ?_ hb
            · rw [hz]; exact (cells_inv (hcc i (by omega)).1).1
            · have := (cells_inv (hcc i (by omega)).1).2 j v hj
              rw [Addr.add_mk, Addr.add_mk] at this
              rw [hz]
              exact this
            · have h5 := hcc i (by omega)
              refine hI i (D i) (c i) ?_ (cells_inv h5.1).1 ⟨n, _, h5.2⟩
              have : i < len := by omega
              simp [eOf, this]
            · unfold okLen
              exact Nat.le_trans hm (by decide)
      refine ⟨hcl.1, ?_⟩
      simp only [svI, hu]
      split
      · rename_i he
        refine hcl.2 _ (by simp [EV.len]) ?_ fun i y cs' hy hl' ⟨m, p, ht⟩ => ?_
        · have := trod_items hT d 1 h3 (t := e) (cs := [.int .u8 0]) (x := .lit (.int .u8 0)) (ps := []) (by simp [DataW.trod, he, Lit.wf, IntKind.min, IntKind.max, IntKind.signed, IntKind.bits])
          simpa [EV.sz] using this.1
        · obtain ⟨n, rfl, hx, hw⟩ := DataW.trod_int he ht
          cases hx
          have hlt := (List.getElem?_eq_some_iff.1 hy).1
          have e1 : ((eOf x).map u8Of).getD i 0 = u8Of (.lit (.int .u8 n) : DataW H) := by
            simp [List.getD, hy]
          simp only [EV.items, e1, u8Of_lit (wf_int hw)]
          exact .one _ _ _ _ rfl (.int _ _ (wf_int hw)) .nil
      · rename_i k _ he
        refine hcl.2 _ (by simp [EV.len]) ?_ fun i y cs' hy hl' ⟨m, p, ht⟩ => ?_
        · have := trod_items hT d 1 h3 (t := e) (cs := [.int k 0]) (x := .lit (.int k 0)) (ps := []) (by cases k <;> simp [DataW.trod, he, Lit.wf, IntKind.min, IntKind.max, IntKind.signed, IntKind.bits])
          simpa [EV.sz] using this.1
        · obtain ⟨n, rfl, hx, hw⟩ := DataW.trod_int he ht
          cases hx
          have e1 : ((eOf x).map iOf).getD i 0 = n := by
            simp [List.getD, hy, iOf]
          simp only [EV.items, e1]
          exact .one _ _ _ _ rfl (.int _ _ (wf_int hw)) .nil
      · refine hcl.2 _ (by simp [EV.len]) (szT_eq e) fun i y cs' hy hl' ⟨m, p, ht⟩ => ?_
        simp only [EV.items, nthD_get _ _ _ hy]
        exact (trod_items hT d m h3 ht).2
    · rename_i fs hu
      obtain ⟨xs, n, _, hx, hlen, hxl, hel⟩ := DataW.trod_struct hu h
      cases hx
      refine ⟨hlen, ?_⟩
      simp only [svI, hu, ptsD]
      have key : ∀ (fl : List Field) (i m : Nat), okFs (okT P d) P fl m (P.cellsOf t) = true → (∀ j f, fl[j]? = some f → fs.toList[i + j]? = some f) → m ≤ P.cellsOf t ∧ Items E0 T w (svFs (svI P d) (xs.map (·.1)) fl i) (cs.drop m) := by
        intro fl
        induction fl with
        | nil =>
          intro i m hok _
          have := Nat.eq_of_beq_eq_true hok
          subst this
          refine ⟨Nat.le_refl _, ?_⟩
          rw [List.drop_of_length_le (by omega)]
          exact .nil
        | cons f r ih =>
          intro i m hok hj
          obtain ⟨nm, ft, off, b1, b2, b3, b4⟩ := f
          simp only [okFs, Bool.and_eq_true] at hok
          obtain ⟨⟨q1, q2⟩, q3⟩ := hok
          have q2 := Nat.eq_of_beq_eq_true q2
          subst q2
          obtain ⟨i1, i2⟩ := ih (i + 1) _ q3 fun j f' hf' => by
            have := hj (j + 1) f' (by simpa using hf')
            rwa [show i + (j + 1) = i + 1 + j by omega] at this
          have hf := hj 0 _ rfl
          rw [Nat.add_zero] at hf
          have hf2 : fs[i]? = some ⟨nm, ft, off, b1, b2, b3, b4⟩ := by simpa using hf
          have ht := hel i _ hf2
          dsimp only at ht
          have hlt : i < xs.length := by
            have := (List.getElem?_eq_some_iff.1 hf).1
            rw [hxl]; simpa using this
          rw [List.getElem?_eq_getElem hlt] at ht
          have hh := trod_items hT d n q1 (x := xs[i].1) (ps := xs[i].2) ht
          refine ⟨by omega, ?_⟩
          simp only [svFs]
          have e1 : nthD (xs.map (·.1)) i = xs[i].1 := nthD_get _ _ _ (by simp [hlt])
          rw [e1]
          have e2 : cs.drop off = (cs.drop off).take (P.cellsOf ft) ++ cs.drop (off + P.cellsOf ft) := by
            rw [← List.drop_drop, List.take_append_drop]
          rw [e2]
          exact hh.2.app i2
      have := (key fs.toList 0 0 ho (fun j f hf => by simpa using hf)).2
      simpa using this
    · rename_i n e hu
      simp only [Bool.and_eq_true] at ho
      obtain ⟨h1, h2⟩ := ho
      have hn := Nat.eq_of_beq_eq_true h2
      have ⟨xs, m, hx, hlen, hxl, hel⟩ : ∃ (xs : List (DataW H × List MemPlace)) (m : Nat), x = .agg (xs.map (·.1)) ∧ cs.length = P.cellsOf t ∧ xs.length = n ∧ ∀ i, i < n → DataW.trod enc P w 0 (fun _ => true) true m e ((cs.drop (i * P.cellsOf e)).take (P.cellsOf e)) = xs[i]? := by
        cases fuel with
        | zero => simp [DataW.trod] at h
        | succ m =>
          unfold DataW.trod at h
          rw [hu] at h
          split at h <;> simp_all
          obtain ⟨hl, xs, hp, hd⟩ := h
          exact ⟨xs, hd.1.symm, by simpa using mapM_some_length hp, m, fun i hi => mapM_some_get hp i i (by simp [hi])⟩
      subst hx
      refine ⟨hlen, ?_⟩
      have el : ∀ i (hi : i < n), ∃ y p, xs[i]? = some (y, p) ∧ ((cs.drop (i * P.cellsOf e)).take (P.cellsOf e)).length = P.cellsOf e ∧ DataW.trod enc P w 0 (fun _ => true) true m e ((cs.drop (i * P.cellsOf e)).take (P.cellsOf e)) = some (y, p) ∧ Items E0 T w (svI P d e y) ((cs.drop (i * P.cellsOf e)).take (P.cellsOf e)) := fun i hi => by
        have ht := hel i hi
        rw [List.getElem?_eq_getElem (by omega)] at ht
        have hh := trod_items hT d m h1 (x := xs[i].1) (ps := xs[i].2) ht
        exact ⟨_, _, List.getElem?_eq_getElem (by omega), hh.1, ht, hh.2⟩
      have whole : Items E0 T w (svEs (svI P d e) (xs.map (·.1)) n 0) cs := by
        have key : ∀ (r i : Nat), i + r = n → Items E0 T w (svEs (svI P d e) (xs.map (·.1)) r i) (cs.drop (i * P.cellsOf e)) := by
          intro r
          induction r with
          | zero =>
            intro i hi
            rw [List.drop_of_length_le (by rw [hlen, ← hn]; simp at hi; rw [hi]; exact Nat.le_refl _)]
            exact .nil
          | succ r ih =>
            intro i hi
            obtain ⟨y, p, hy, _, _, hI⟩ := el i (by omega)
            have := ih (i + 1) (by omega)
            simp only [svEs]
            rw [nthD_get (xs.map (·.1)) i y (by simp [hy])]
            have e2 : cs.drop (i * P.cellsOf e) = (cs.drop (i * P.cellsOf e)).take (P.cellsOf e) ++ cs.drop ((i + 1) * P.cellsOf e) := by
              rw [Nat.add_mul, Nat.one_mul, ← List.drop_drop, List.take_append_drop]
            rw [e2]
            exact hI.app this
        simpa using key n 0 (by omega)
      have flat : ∀ (k : IntKind) (ev : EV), P.underlying e = some (.int k) → ev.len = n → ev.sz = 1 → (∀ i y, xs[i]? = some y → inR k (iOf y.1) → y.1 = .lit (.int k (iOf y.1)) → ev.items i = [.int k (iOf y.1)]) → Items E0 T w [.arr n ev] cs := by
        intro k ev he hl hz hit
        have hc1 : P.cellsOf e = 1 := by
          cases d with
          | zero => simp [okT] at h1
          | succ d =>
            simp only [okT, he] at h1
            exact Nat.eq_of_beq_eq_true h1
        rw [hc1] at hn
        have hcn : cs.length = n := by omega
        have cell : ∀ i (hi : i < n), ∃ q, inR k q ∧ cs[i]? = some (.int k q) ∧ ∃ p, xs[i]? = some (.lit (.int k q), p) := fun i hi => by
          obtain ⟨y, p, hy, _, ht, _⟩ := el i hi
          obtain ⟨q, hq, hx, hw⟩ := DataW.trod_int he ht
          rw [hc1, Nat.mul_one] at hq
          refine ⟨q, wf_int hw, ?_, p, by rw [hy]; simp only [Prod.mk.injEq] at hx; rw [hx.1]⟩
          have : ((cs.drop i).take 1)[0]? = some (.int k q) := by rw [hq]; rfl
          simpa using this
        have hr : Rep E0 T w (.arr n ev) (.agg cs.toArray) := by
          refine .arr n ev cs (fun i => [cs.getD i undef]) (fun i hi => by simp [hz]) hcn (by rw [hl, hz, Nat.mul_one]) (fun v hv => ?_) (fun i j v hi hj => ?_) (fun i hi => ?_)
          · obtain ⟨i, hi, hvi⟩ := List.getElem_of_mem hv
            obtain ⟨q, _, h2, _⟩ := cell i (by omega)
            rw [List.getElem?_eq_getElem hi, Option.some.injEq] at h2
            rw [← hvi, h2]
            rfl
          · obtain ⟨q, _, h2, _⟩ := cell i (by omega)
            cases j with
            | zero =>
              simp only [List.getElem?_cons_zero, Option.some.injEq] at hj
              rw [← hj, hz, Nat.mul_one, Nat.add_zero, h2]
              simp [List.getD, h2]
            | succ j => simp at hj
          · obtain ⟨q, h1, h2, p, h3⟩ := cell i (by omega)
            have h4 := hit i _ h3 h1 rfl
            simp only [iOf] at h4
            rw [h4]
            have : cs.getD i undef = .int k q := by simp [List.getD, h2]
            rw [this]
            exact .one _ _ _ _ rfl (.int _ _ h1) .nil
        have := Items.arr (E := E0) (T := T) (w := w) n ev [] cs [] hr .nil
        simpa using this
      simp only [svI, hu, ptsD]
      split
      · rename_i he
        split
        · refine flat .u8 _ he (by simp [EV.len, hxl]) rfl fun i y hy hr hl => ?_
          have e1 : ((xs.map (·.1)).map u8Of).getD i 0 = u8Of y.1 := by simp [List.getD, hy]
          simp only [EV.items, e1]
          have := u8Of_lit (H := H) hr
          rw [← hl] at this
          rw [this]
        · exact whole
      · rename_i k _ he
        split
        · refine flat k _ he (by simp [EV.len, hxl]) rfl fun i y hy hr hl => ?_
          have e1 : ((xs.map (·.1)).map iOf).getD i 0 = iOf y.1 := by simp [List.getD, hy]
          simp only [EV.items, e1]
        · exact whole
      · exact whole
    · cases ho
end
end Go.Proofs.YtgpggoejkkhceaaDoor.V
