/-
  A walk by abstract values: regions that draw their order, and write: the law.
-/
import Derived.Test.YtgpggoejkkhceaaDoorVr
namespace Go.Proofs.YtgpggoejkkhceaaDoor.V
open Go.RowKit

/-! ### What waits for what -/
def pmStep (acc : List (List Nat)) : List Edge → List Nat
  | [] => []
  | e :: r => match Region.binds .any e with
    | true => e.on :: (acc.getD e.on [] ++ pmStep acc r)
    | false => pmStep acc r
def dedup : List Nat → List Nat → List Nat
  | [], acc => acc
  | i :: r, acc => match acc.elem i with
    | true => dedup r acc
    | false => dedup r (i :: acc)
/-- What has come up, where an operation comes up. -/
def pmsOf : List Oper → List (List Nat) → List (List Nat)
  | [], acc => acc
  | o :: r, acc => pmsOf r (acc ++ [dedup (pmStep acc o.after.toList) []])
def subB : List Nat → List Nat → Bool
  | [], _ => true
  | i :: r, l => l.elem i && subB r l
/-- What is asked of the waits: none upwards; each list closed and no longer than it must be. -/
def waitB (full : List Oper) (pms : List (List Nat)) : Nat → Bool
  | 0 => true
  | i + 1 => waitB full pms i && match full[i]?, pms[i]? with
    | some o, some m => (o.after.toList.all fun e => !Region.binds .any e || Nat.blt e.on i) && subB m (pmStep pms o.after.toList)
    | _, _ => false
def opB (full : List Oper) (pms : List (List Nat)) (i : Nat) (o : Oper) (m : List Nat) : Nat → Bool
  | 0 => true
  | j + 1 => opB full pms i o m j && (Nat.beq i j || match full[j]?, pms[j]? with
    | some o', some m' => (match o'.dst with
      | some t => (!((o.looksAt full.toArray).elem t) && o.dst != some t) || m.elem j || m'.elem i
      | none => true)
    | _, _ => false)
def slotB (full : List Oper) (pms : List (List Nat)) : Nat → Bool
  | 0 => true
  | i + 1 => slotB full pms i && match full[i]?, pms[i]? with
    | some o, some m => opB full pms i o m full.length
    | _, _ => false
def disj : List Nat → List Nat → Bool
  | [], _ => true
  | i :: r, l => !(l.elem i) && disj r l
def wrs : List (Nat × Option Blk) → List Nat
  | [] => []
  | (i, _) :: r => i :: wrs r
def apartB (e e' : Ent) : Bool := disj (wrs e.ch) e'.foot && disj (wrs e'.ch) e.foot && disj (wrs e.ch) (wrs e'.ch)
def pairB (m : List Nat) (e : Ent) : List Ent → Bool
  | [] => true
  | e' :: r => (apartB e e' || m.elem e'.j) && pairB m e r
def pairsB (pms : List (List Nat)) : List Ent → Bool
  | [] => true
  | e :: r => pairB (pms.getD e.j []) e r && pairsB pms r
/-- All that is asked of the region and of what became of it. -/
def drawnB (full : List Oper) (pms : List (List Nat)) (hist : List Ent) : Bool :=
  waitB full pms full.length && slotB full pms full.length && pairsB pms hist

theorem subB_mem : ∀ {l l' : List Nat}, subB l l' = true → ∀ i ∈ l, i ∈ l'
  | [], _, _, i, hi => by cases hi
  | j :: r, l', h, i, hi => by
    simp only [subB, Bool.and_eq_true] at h
    rcases List.mem_cons.1 hi with rfl | hi
    · simpa using h.1
    · exact subB_mem h.2 i hi
theorem pmStep_mem {acc : List (List Nat)} : ∀ {l : List Edge} {t : Nat}, t ∈ pmStep acc l → ∃ e ∈ l, Region.binds .any e = true ∧ (t = e.on ∨ t ∈ acc.getD e.on [])
  | [], t, h => by cases h
  | e :: r, t, h => by
    simp only [pmStep] at h
    split at h
    · rename_i hb
      rcases List.mem_cons.1 h with rfl | h
      · exact ⟨e, List.mem_cons_self .., hb, .inl rfl⟩
      · rcases List.mem_append.1 h with h | h
        · exact ⟨e, List.mem_cons_self .., hb, .inr h⟩
        · obtain ⟨e', h1, h2⟩ := pmStep_mem h
          exact ⟨e', List.mem_cons_of_mem _ h1, h2⟩
    · obtain ⟨e', h1, h2⟩ := pmStep_mem h
      exact ⟨e', List.mem_cons_of_mem _ h1, h2⟩
theorem waitB_at {full : List Oper} {pms : List (List Nat)} : ∀ {n : Nat}, waitB full pms n = true → ∀ i, i < n → ∃ o m, full[i]? = some o ∧ pms[i]? = some m ∧ (∀ e ∈ o.after, Region.binds .any e = true → e.on < i) ∧ ∀ t ∈ m, ∃ e ∈ o.after, Region.binds .any e = true ∧ (t = e.on ∨ t ∈ pms.getD e.on [])
  | 0, _, i, hi => by omega
  | n + 1, h, i, hi => by
    simp only [waitB, Bool.and_eq_true] at h
    by_cases hin : i = n
    · subst hin
      have h2 := h.2
      split at h2
      · rename_i o m ho hm
        simp only [Bool.and_eq_true] at h2
        refine ⟨o, m, ho, hm, fun e he hb => ?_, fun t ht => ?_⟩
        · have := List.all_eq_true.1 h2.1 e (by simpa using he)
          simp only [hb, Bool.not_true, Bool.false_or] at this
          simpa using this
        · obtain ⟨e, h3, h4⟩ := pmStep_mem (subB_mem h2.2 t ht)
          exact ⟨e, by simpa using h3, h4⟩
      · cases h2
    · exact waitB_at h.1 i (by omega)
theorem opB_at {full : List Oper} {pms : List (List Nat)} {i : Nat} {o : Oper} {m : List Nat} : ∀ {n : Nat}, opB full pms i o m n = true → ∀ j, j < n → i ≠ j → ∃ o' m', full[j]? = some o' ∧ pms[j]? = some m' ∧ ∀ t, o'.dst = some t → (t ∈ o.looksAt full.toArray ∨ o.dst = some t) → j ∈ m ∨ i ∈ m'
  | 0, _, j, hj, _ => by omega
  | n + 1, h, j, hj, hne => by
    simp only [opB, Bool.and_eq_true, Bool.or_eq_true] at h
    by_cases hjn : j = n
    · subst hjn
      rcases h.2 with h2 | h2
      · exact absurd (Nat.eq_of_beq_eq_true h2) hne
      · split at h2
        · rename_i o' m' ho hm
          refine ⟨o', m', ho, hm, fun t ht hl => ?_⟩
          rw [ht] at h2
          simp only [Bool.or_eq_true, Bool.and_eq_true, Bool.not_eq_true', List.elem_eq_contains, List.contains_eq_mem, decide_eq_false_iff_not, decide_eq_true_eq, bne_iff_ne, ne_eq] at h2
          rcases h2 with (h2 | h2) | h2
          · rcases hl with hl | hl
            · exact absurd hl h2.1
            · exact absurd hl h2.2
          · exact .inl h2
          · exact .inr h2
        · cases h2
    · exact opB_at h.1 j (by omega) hne
theorem slotB_at {full : List Oper} {pms : List (List Nat)} : ∀ {n : Nat}, slotB full pms n = true → ∀ i, i < n → ∃ o m, full[i]? = some o ∧ pms[i]? = some m ∧ opB full pms i o m full.length = true
  | 0, _, i, hi => by omega
  | n + 1, h, i, hi => by
    simp only [slotB, Bool.and_eq_true] at h
    by_cases hin : i = n
    · subst hin
      have h2 := h.2
      split at h2
      · rename_i o m ho hm
        exact ⟨o, m, ho, hm, h2⟩
      · cases h2
    · exact slotB_at h.1 i (by omega)
theorem disj_mem : ∀ {l l' : List Nat}, disj l l' = true → ∀ i ∈ l, i ∉ l'
  | [], _, _, i, hi => by cases hi
  | j :: r, l', h, i, hi => by
    simp only [disj, Bool.and_eq_true] at h
    rcases List.mem_cons.1 hi with rfl | hi
    · simpa using h.1
    · exact disj_mem h.2 i hi
theorem wrs_look : ∀ {l : List (Nat × Option Blk)} {i : Nat}, (look l i).isSome = true → i ∈ wrs l
  | [], i, h => by simp [look] at h
  | (j, B) :: r, i, h => by
    simp only [look] at h
    split at h
    · rename_i hb
      rw [Nat.eq_of_beq_eq_true hb]
      exact List.mem_cons_self ..
    · exact List.mem_cons_of_mem _ (wrs_look h)
theorem pairB_at {m : List Nat} {e : Ent} : ∀ {l : List Ent}, pairB m e l = true → ∀ e' ∈ l, apartB e e' = true ∨ e'.j ∈ m
  | [], _, e', he => by cases he
  | e1 :: r, h, e', he => by
    simp only [pairB, Bool.and_eq_true, Bool.or_eq_true] at h
    rcases List.mem_cons.1 he with rfl | he
    · exact h.1.imp id fun h => by simpa using h
    · exact pairB_at h.2 e' he

section
variable {X : IntKind → Bool} {C : Ctx} {Q0 : Exit → Act → World → Prop} {F F' F0 : Tr} {M M' M0 : Mem} {ids ids' ids1 : List Nat} {k : List Kont} {full : List Oper}

/-! ### The state between: some have come up -/
def gF (F0 : Tr) (L : Nat → Bool) : List Ent → Nat → Option SV
  | [], t => F0.get t
  | e :: r, t => if L e.j = true ∧ e.dst = some t then e.val else gF F0 L r t
def gM (M0 : Mem) (L : Nat → Bool) : List Ent → Nat → Option Blk
  | [], id => find M0 id
  | e :: r, id => if L e.j = true then (look e.ch id).getD (gM M0 L r id) else gM M0 L r id
theorem gF_congr {L L' : Nat → Bool} {t : Nat} : ∀ {h : List Ent}, (∀ e ∈ h, e.dst = some t → L e.j = L' e.j) → gF F0 L h t = gF F0 L' h t
  | [], _ => rfl
  | e :: r, hc => by
    simp only [gF]
    rw [gF_congr fun e' he' => hc e' (List.mem_cons_of_mem _ he')]
    by_cases hd : e.dst = some t
    · rw [hc e (List.mem_cons_self ..) hd]
    · simp [hd]
theorem gM_congr {L L' : Nat → Bool} {id : Nat} : ∀ {h : List Ent}, (∀ e ∈ h, (look e.ch id).isSome = true → L e.j = L' e.j) → gM M0 L h id = gM M0 L' h id
  | [], _ => rfl
  | e :: r, hc => by
    simp only [gM]
    rw [gM_congr fun e' he' => hc e' (List.mem_cons_of_mem _ he')]
    cases hl : look e.ch id with
    | some B => rw [hc e (List.mem_cons_self ..) (by simp [hl])]
    | none => simp
theorem gF_skip {L : Nat → Bool} {t : Nat} : ∀ {h : List Ent} {r : List Ent}, (∀ e ∈ h, L e.j = false) → gF F0 L (h ++ r) t = gF F0 L r t
  | [], _, _ => rfl
  | e :: h, r, hc => by
    simp only [List.cons_append, gF, hc e (List.mem_cons_self ..)]
    simpa using gF_skip fun e' he' => hc e' (List.mem_cons_of_mem _ he')
theorem gM_skip {L : Nat → Bool} {id : Nat} : ∀ {h : List Ent} {r : List Ent}, (∀ e ∈ h, L e.j = false) → gM M0 L (h ++ r) id = gM M0 L r id
  | [], _, _ => rfl
  | e :: h, r, hc => by
    simp only [List.cons_append, gM, hc e (List.mem_cons_self ..)]
    simpa using gM_skip fun e' he' => hc e' (List.mem_cons_of_mem _ he')

abbrev all1 : Nat → Bool := fun _ => true
/-- What is known of those that have been reckoned: the last one first. -/
inductive HOk (C : Ctx) (full : List Oper) (F0 : Tr) (M0 : Mem) : List Ent → Prop
  | nil : HOk C full F0 M0 []
  | cons {h : List Ent} {e : Ent} {o : Oper} : HOk C full F0 M0 h → full[h.length]? = some o → e.j = h.length → e.dst = o.dst → OpOk C full o e (gF F0 all1 h) (gM M0 all1 h) → HOk C full F0 M0 (e :: h)
theorem HOk.lt : ∀ {h : List Ent}, HOk C full F0 M0 h → ∀ e ∈ h, e.j < h.length
  | _, .nil, e, he => by cases he
  | _, .cons hh _ hj _ _, e, he => by
    rcases List.mem_cons.1 he with rfl | he
    · simp [hj]
    · have := hh.lt e he
      simp only [List.length_cons]
      omega
theorem HOk.split : ∀ {h : List Ent}, HOk C full F0 M0 h → ∀ i, i < h.length → ∃ l e r o, h = l ++ e :: r ∧ r.length = i ∧ full[i]? = some o ∧ e.j = i ∧ e.dst = o.dst ∧ OpOk C full o e (gF F0 all1 r) (gM M0 all1 r) ∧ (∀ e' ∈ l, i < e'.j) ∧ ∀ e' ∈ r, e'.j < i
  | _, .nil, i, hi => by simp at hi
  | _, .cons (h := h) (e := e) (o := o) hh ho hj hd hok, i, hi => by
    by_cases hin : i = h.length
    · subst hin
      exact ⟨[], e, h, o, rfl, rfl, ho, hj, hd, hok, fun e' he' => (by cases he'), hh.lt⟩
    · obtain ⟨l, e1, r, o1, h1, h2, h3, h4, h5, h6, h7, h8⟩ := hh.split i (by simp only [List.length_cons] at hi; omega)
      refine ⟨e :: l, e1, r, o1, by rw [h1]; rfl, h2, h3, h4, h5, h6, fun e' he' => ?_, h8⟩
      rcases List.mem_cons.1 he' with rfl | he'
      · simp only [List.length_cons] at hi
        omega
      · exact h7 e' he'
theorem pairs_at {pms : List (List Nat)} : ∀ {l r : List Ent} {e : Ent}, pairsB pms (l ++ e :: r) = true → (∀ e' ∈ r, apartB e e' = true ∨ e'.j ∈ pms.getD e.j []) ∧ ∀ e' ∈ l, apartB e' e = true ∨ e.j ∈ pms.getD e'.j []
  | [], _, _, h => by
    simp only [List.nil_append, pairsB, Bool.and_eq_true] at h
    exact ⟨pairB_at h.1, fun e' he' => by cases he'⟩
  | e1 :: l, r, e, h => by
    simp only [List.cons_append, pairsB, Bool.and_eq_true] at h
    obtain ⟨h1, h2⟩ := pairs_at h.2
    refine ⟨h1, fun e' he' => ?_⟩
    rcases List.mem_cons.1 he' with rfl | he'
    · exact pairB_at h.1 e (by simp)
    · exact h2 e' he'

theorem Sup.mono : ∀ {l : List Nat} {U U' : Nat → Prop}, (∀ k, U k → U' k) → Sup l U → Sup l U'
  | [], _, _, _, _ => trivial
  | i :: r, _, _, h, hs => ⟨h i hs.1, Sup.mono (fun k hk => ⟨h k hk.1, hk.2⟩) hs.2⟩
theorem Sup.app : ∀ {l l' : List Nat} {U : Nat → Prop}, Sup (l ++ l') U → (∀ i ∈ l, U i) ∧ l.Nodup ∧ Sup l' fun k => U k ∧ k ∉ l
  | [], l', U, h => ⟨fun i hi => (by cases hi), List.nodup_nil, h.mono fun k hk => ⟨hk, by simp⟩⟩
  | i :: r, l', U, h => by
    obtain ⟨h1, h2, h3⟩ := Sup.app h.2
    refine ⟨fun j hj => ?_, List.nodup_cons.2 ⟨fun hi => (h1 i hi).2 rfl, h2⟩, h3.mono fun k hk => ⟨hk.1.1, ?_⟩⟩
    · rcases List.mem_cons.1 hj with rfl | hj
      · exact h.1
      · exact (h1 j hj).1
    · simp only [List.mem_cons, not_or]
      exact ⟨hk.1.2, hk.2⟩

/-! ### The law -/
def unl (L : Nat → Bool) : Nat → Nat
  | 0 => 0
  | n + 1 => unl L n + (if L n = true then 0 else 1)
theorem off_both {listed : Array Bool} {i : Nat} (h : listed.getD i true = false) : listed.getD i false = false := by
  rcases Nat.lt_or_ge i listed.size with h' | h'
  · simp [h'] at h ⊢; exact h
  · simp [Array.getElem?_eq_none h'] at h
theorem unl_zero {L : Nat → Bool} : ∀ {n : Nat}, unl L n = 0 → ∀ i, i < n → L i = true
  | 0, _, i, hi => by omega
  | n + 1, h, i, hi => by
    simp only [unl] at h
    by_cases hin : i = n
    · subst hin
      split at h
      · assumption
      · omega
    · exact unl_zero (Nat.add_eq_zero_iff.1 h).1 i (by omega)
theorem unl_same {L L' : Nat → Bool} : ∀ {n : Nat}, (∀ j, j < n → L' j = L j) → unl L' n = unl L n
  | 0, _ => rfl
  | n + 1, h => by
    have h1 := unl_same (n := n) fun j hj => h j (by omega)
    simp only [unl, h n (by omega), h1]
theorem unl_set {L L' : Nat → Bool} {i : Nat} (h0 : L i = false) (h1 : L' i = true) (h2 : ∀ j, j ≠ i → L' j = L j) : ∀ {n : Nat}, i < n → unl L n = unl L' n + 1
  | 0, hi => by omega
  | n + 1, hi => by
    simp only [unl]
    by_cases hin : i = n
    · subst hin
      rw [unl_same (L := L) fun j hj => h2 j (by omega), h0, h1]
      simp
    · rw [unl_set h0 h1 h2 (by omega), h2 n (by omega)]
      omega

theorem getD_of {pms : List (List Nat)} {i : Nat} {m : List Nat} (h : pms[i]? = some m) : pms.getD i [] = m := by simp [List.getD_eq_getElem?_getD, h]
theorem drawn_core {pms : List (List Nat)} {hist : List Ent} {ids0 : List Nat} {U0 : Nat → Prop} {Q : Exit → Act → World → Prop} (hh : HOk C full F0 M0 hist) (hlen : hist.length = full.length) (hB : drawnB full pms hist = true)
    (hids : ids0 = hist.reverse.filterMap (·.nid) ++ ids1) (hsup : Sup ids0 U0)
    (hfin : ∀ F M U E a w, (∀ t, F.get t = gF F0 all1 hist t) → (∀ id, find M id = gM M0 all1 hist id) → Sup ids1 U → St C F M U E a w → Q .normal a w) :
    ∀ (fuel : Nat) (listed : Array Bool) (F : Tr) (M : Mem) (U : Nat → Prop) (E : Env) (a : Act) (w : World), listed.size = full.length →
      (∀ i o, full[i]? = some o → listed.getD i false = true → ∀ e ∈ o.after, Region.binds .any e = true → listed.getD e.on false = true) →
      unl (fun j => listed.getD j false) full.length ≤ fuel → (∀ t, F.get t = gF F0 (fun j => listed.getD j false) hist t) → (∀ id, find M id = gM M0 (fun j => listed.getD j false) hist id) →
      (∀ k, U0 k → (∀ e ∈ hist, listed.getD e.j false = true → e.nid ≠ some k) → U k) → St C F M U E a w → wpAny C.P .any full.toArray Q fuel listed a w := by
  simp only [drawnB, Bool.and_eq_true] at hB
  obtain ⟨⟨hW, hS⟩, hP⟩ := hB
  subst hids
  obtain ⟨s1, s2, s3⟩ := Sup.app hsup
  -- what is listed waits for nothing above it
  have hlow : ∀ i, i < full.length → ∀ t ∈ pms.getD i [], t < i := by
    intro i
    induction i using Nat.strongRecOn with
    | _ i ih =>
      intro hi t ht
      obtain ⟨o, m, ho, hm, h1, h2⟩ := waitB_at hW i hi
      rw [getD_of hm] at ht
      obtain ⟨e, he, hb, hq⟩ := h2 t ht
      have h3 := h1 e he hb
      rcases hq with rfl | hq
      · exact h3
      · have := ih e.on h3 (by omega) t hq
        omega
  intro fuel
  -- the end
  have hend : ∀ (listed : Array Bool) (F : Tr) (M : Mem) (U : Nat → Prop) (E : Env) (a : Act) (w : World), (∀ i, i < full.length → listed.getD i false = true) → (∀ t, F.get t = gF F0 (fun j => listed.getD j false) hist t) → (∀ id, find M id = gM M0 (fun j => listed.getD j false) hist id) →
      (∀ k, U0 k → (∀ e ∈ hist, listed.getD e.j false = true → e.nid ≠ some k) → U k) → St C F M U E a w → Q .normal a w := by
    intro listed F M U E a w hall hF hM hU hst
    have hL : ∀ e ∈ hist, listed.getD e.j false = all1 e.j := fun e he => hall e.j (by rw [← hlen]; exact hh.lt e he)
    refine hfin F M U E a w (fun t => (hF t).trans (gF_congr fun e he _ => hL e he)) (fun id => (hM id).trans (gM_congr fun e he _ => hL e he)) (s3.mono fun k hk => hU k hk.1 fun e he _ hn => hk.2 ?_) hst
    exact List.mem_filterMap.2 ⟨e, List.mem_reverse.2 he, hn⟩
  -- none is ready: all have come up
  have hstop : ∀ (listed : Array Bool), listed.size = full.length → Region.ready .any full.toArray listed = [] → ∀ i, i < full.length → listed.getD i false = true := by
    intro listed hsz hr i
    induction i using Nat.strongRecOn with
    | _ i ih =>
      intro hi
      cases hl : listed.getD i false with
      | true => rfl
      | false =>
        exfalso
        obtain ⟨o, m, ho, hm, h1, _⟩ := waitB_at hW i hi
        have : i ∈ Region.ready .any full.toArray listed := mem_ready.2 ⟨by
          rw [Array.getD_eq_getD_getElem?] at hl ⊢
          rw [Array.getElem?_eq_getElem (by omega)] at hl ⊢
          simpa using hl, o, by simpa using ho, fun e he hb => ih e.on (h1 e he hb) (by have := h1 e he hb; omega)⟩
        rw [hr] at this
        cases this
  induction fuel with
  | zero =>
    intro listed F M U E a w hsz hcl hun hF hM hU hst
    have hall := unl_zero (n := full.length) (L := fun j => listed.getD j false) (by omega)
    refine ⟨?_, hend listed F M U E a w hall hF hM hU hst⟩
    rw [List.eq_nil_iff_forall_not_mem]
    intro i hi
    obtain ⟨h1, o, ho, _⟩ := mem_ready.1 hi
    have hilt : i < full.length := by have := (Array.getElem?_eq_some_iff.1 ho).1; simpa using this
    have h2 := hall i hilt
    rw [Array.getD_eq_getD_getElem?, Array.getElem?_eq_getElem (by omega)] at h1 h2
    simp at h1 h2
    rw [h1] at h2
    cases h2
  | succ fuel ih =>
    intro listed F M U E a w hsz hcl hun hF hM hU hst
    refine ⟨fun hr => hend listed F M U E a w (hstop listed hsz hr) hF hM hU hst, fun i hi => ?_⟩
    obtain ⟨hi1, o, ho, hdep⟩ := mem_ready.1 hi
    have hilt : i < full.length := by have := (Array.getElem?_eq_some_iff.1 ho).1; simpa using this
    have ho' : full[i]? = some o := by simpa using ho
    have hi0 : listed.getD i false = false := off_both hi1
    -- what is listed is closed under the waits
    have hdown : ∀ j, j < full.length → (∀ oj, full[j]? = some oj → ∀ e ∈ oj.after, Region.binds .any e = true → listed.getD e.on false = true) → ∀ t ∈ pms.getD j [], listed.getD t false = true := by
      intro j
      induction j using Nat.strongRecOn with
      | _ j ihj =>
        intro hj hd t ht
        obtain ⟨oj, m, hoj, hm, h1, h2⟩ := waitB_at hW j hj
        rw [getD_of hm] at ht
        obtain ⟨e, he, hb, hq⟩ := h2 t ht
        have h3 := hd oj hoj e he hb
        rcases hq with rfl | hq
        · exact h3
        · have h4 := h1 e he hb
          exact ihj e.on h4 (by omega) (fun o2 ho2 => hcl e.on o2 ho2 h3) t hq
    have hpre : ∀ t ∈ pms.getD i [], listed.getD t false = true := hdown i hilt fun oj hoj e he hb => by
      rw [ho'] at hoj
      cases hoj
      exact hdep e he hb
    have hpost : ∀ j, j < full.length → i ∈ pms.getD j [] → listed.getD j false = false := fun j hj hij => by
      cases hl : listed.getD j false with
      | false => rfl
      | true =>
        have := hdown j hj (fun oj hoj => hcl j oj hoj hl) i hij
        rw [hi0] at this
        cases this
    have hord : ∀ j, j < full.length → (j ∈ pms.getD i [] ∨ i ∈ pms.getD j []) → listed.getD j false = decide (j < i) := fun j hj h => by
      rcases h with h | h
      · rw [hpre j h]
        have := hlow i hilt j h
        simp [this]
      · rw [hpost j hj h]
        have := hlow j hj i h
        simp
        omega
    obtain ⟨l, e, r, o1, e1, e2, e3, e4, e5, e6, e7, e8⟩ := hh.split i (by omega)
    rw [ho'] at e3
    cases e3
    obtain ⟨p1, p2⟩ := pairs_at (e1 ▸ hP)
    have hmem : ∀ x, x ∈ hist ↔ x ∈ l ∨ x = e ∨ x ∈ r := fun x => by rw [e1]; simp
    -- a slot that is looked at, or written
    have hslot : ∀ t, (t ∈ o.looksAt full.toArray ∨ o.dst = some t) → ∀ x ∈ hist, x.dst = some t → x.j ≠ i → listed.getD x.j false = decide (x.j < i) := fun t ht x hx hd hne => by
      obtain ⟨o2, m, h1, h2, h3⟩ := slotB_at hS i hilt
      rw [ho'] at h1
      cases h1
      have hxj : x.j < full.length := by rw [← hlen]; exact hh.lt x hx
      obtain ⟨o', m', h4, h5, h6⟩ := opB_at h3 x.j hxj (Ne.symm hne)
      obtain ⟨_, x', r', o3, k1, k2, k3, k4, k5, _, k7, k8⟩ := hh.split x.j (by omega)
      rw [h4] at k3
      cases k3
      have hxx : x' = x := by
        rw [k1] at hx
        rcases List.mem_append.1 hx with hx | hx
        · have := k7 x hx; omega
        · rcases List.mem_cons.1 hx with hx | hx
          · exact hx.symm
          · have := k8 x hx; omega
      subst hxx
      refine hord x'.j hxj ?_
      rw [getD_of h2, getD_of h5]
      exact h6 t (k5 ▸ hd) ht
    -- a block that is looked at, or written
    have hblk : ∀ id, (id ∈ e.foot ∨ (look e.ch id).isSome = true) → ∀ x ∈ hist, (look x.ch id).isSome = true → x.j ≠ i → listed.getD x.j false = decide (x.j < i) := fun id hid x hx hl hne => by
      have hxj : x.j < full.length := by rw [← hlen]; exact hh.lt x hx
      have hw := wrs_look hl
      refine hord x.j hxj ?_
      rcases (hmem x).1 hx with hx | rfl | hx
      · rcases p2 x hx with h | h
        · simp only [apartB, Bool.and_eq_true] at h
          rcases hid with hid | hid
          · exact absurd hid (disj_mem h.1.1 id hw)
          · exact absurd (wrs_look hid) (disj_mem h.2 id hw)
        · right; rw [← e4]; exact h
      · exact absurd e4 hne
      · rcases p1 x hx with h | h
        · simp only [apartB, Bool.and_eq_true] at h
          rcases hid with hid | hid
          · exact absurd hid (disj_mem h.1.2 id hw)
          · exact absurd hw (disj_mem h.2 id (wrs_look hid))
        · left; rw [← e4]; exact h
    have huniq : ∀ x ∈ hist, x.j = i → x = e := fun x hx hj => by
      rcases (hmem x).1 hx with hx | rfl | hx
      · have := e7 x hx; omega
      · rfl
      · have := e8 x hx; omega
    have hset : ∀ j, (listed.setIfInBounds i true).getD j false = if j = i then true else listed.getD j false := fun j => by
      by_cases hji : j = i
      · subst hji
        simp [hsz, hilt]
      · rw [if_neg hji, getD_set_ne false (Ne.symm hji)]
    rw [← e4]
    refine e6 Q _ F M U E a w (fun t ht => ?_) (fun id hid => ?_) (fun k hk => hU k (s1 k ?_) fun x hx hl hn => ?_) hst fun F' M' U' E' a' w' hF' hM' hU' hst' => ?_
    · -- slots
      rw [hF t, gF_congr (L' := fun j => decide (j < i)) fun x hx hd => ?_, e1, gF_skip fun x hx => ?_]
      · simp only [gF, e4, Nat.lt_irrefl, decide_false, Bool.false_eq_true, false_and, if_false]
        exact gF_congr fun x hx _ => by simp [e8 x hx]
      · have := e7 x hx
        simp
        omega
      · by_cases hji : x.j = i
        · rw [hji, hi0]; simp
        · exact hslot t (.inl ht) x hx hd hji
    · rw [hM id, gM_congr (L' := fun j => decide (j < i)) fun x hx hd => ?_, e1, gM_skip fun x hx => ?_]
      · simp only [gM, e4, Nat.lt_irrefl, decide_false, Bool.false_eq_true, if_false]
        exact gM_congr fun x hx _ => by simp [e8 x hx]
      · have := e7 x hx
        simp
        omega
      · by_cases hji : x.j = i
        · rw [hji, hi0]; simp
        · exact hblk id (.inl hid) x hx hd hji
    · exact List.mem_filterMap.2 ⟨e, List.mem_reverse.2 ((hmem e).2 (.inr (.inl rfl))), hk⟩
    · -- two blocks are not made under one number
      have hne : x ≠ e := fun h => by subst h; rw [e4, hi0] at hl; cases hl
      rw [List.filterMap_reverse] at s2
      replace s2 : (hist.filterMap (·.nid)).Nodup := (List.pairwise_reverse.1 s2).imp Ne.symm
      rw [e1, List.filterMap_append, List.filterMap_cons_some hk, List.nodup_append] at s2
      obtain ⟨_, n2, n3⟩ := s2
      rcases (hmem x).1 hx with hx | rfl | hx
      · exact n3 k (List.mem_filterMap.2 ⟨x, hx, hn⟩) k (List.mem_cons_self ..) rfl
      · exact hne rfl
      · exact (List.nodup_cons.1 n2).1 (List.mem_filterMap.2 ⟨x, hx, hn⟩)
    · rw [e4]
      refine ih _ F' M' U' E' a' w' (by simp [hsz]) (fun j oj hoj hl x hx hb => ?_) ?_ (fun t => ?_) (fun id => ?_) (fun k hk hx => ?_) hst'
      · by_cases hji : j = i
        · subst hji
          rw [ho'] at hoj
          cases hoj
          exact getD_set_true (hdep x hx hb)
        · rw [hset, if_neg hji] at hl
          exact getD_set_true (hcl j oj hoj hl x hx hb)
      · have := unl_set (L := fun j => listed.getD j false) (L' := fun j => (listed.setIfInBounds i true).getD j false) (i := i) hi0 (by simp only [hset, if_true]) (fun j hj => by simp only [hset, if_neg hj]) hilt
        omega
      · rw [hF' t]
        split
        · rename_i hd
          rw [gF_congr (L' := fun j => decide (j ≤ i)) fun x hx hxd => ?_, e1, gF_skip fun x hx => ?_]
          · simp only [gF, e4, Nat.le_refl, decide_true, e5, hd, and_self, if_true]
          · have := e7 x hx
            simp
            omega
          · show (listed.setIfInBounds i true).getD x.j false = decide (x.j ≤ i)
            rw [hset]
            by_cases hji : x.j = i
            · simp [hji]
            · rw [if_neg hji, hslot t (.inr hd) x hx hxd hji]
              simp only [decide_eq_decide]
              omega
        · rename_i hd
          rw [hF t]
          refine gF_congr fun x hx hxd => ?_
          show listed.getD x.j false = (listed.setIfInBounds i true).getD x.j false
          rw [hset, if_neg]
          intro hji
          have := huniq x hx hji
          subst this
          exact hd (e5 ▸ hxd)
      · rw [hM' id]
        cases hl : look e.ch id with
        | some B =>
          rw [gM_congr (L' := fun j => decide (j ≤ i)) fun x hx hxd => ?_, e1, gM_skip fun x hx => ?_]
          · simp only [gM, e4, Nat.le_refl, decide_true, if_true, hl, Option.getD_some]
          · have := e7 x hx
            simp
            omega
          · show (listed.setIfInBounds i true).getD x.j false = decide (x.j ≤ i)
            rw [hset]
            by_cases hji : x.j = i
            · simp [hji]
            · rw [if_neg hji, hblk id (.inr (by rw [hl]; rfl)) x hx hxd hji]
              simp only [decide_eq_decide]
              omega
        | none =>
          rw [Option.getD_none, hM id]
          refine gM_congr fun x hx hxd => ?_
          show listed.getD x.j false = (listed.setIfInBounds i true).getD x.j false
          rw [hset, if_neg]
          intro hji
          have := huniq x hx hji
          subst this
          rw [hl] at hxd
          cases hxd
      · refine (hU' k).2 ⟨hU k hk fun x hx' hl => hx x hx' (getD_set_true hl), hx e ((hmem e).2 (.inr (.inl rfl))) ?_⟩
        rw [hset, if_pos e4]
end
end Go.Proofs.YtgpggoejkkhceaaDoor.V
