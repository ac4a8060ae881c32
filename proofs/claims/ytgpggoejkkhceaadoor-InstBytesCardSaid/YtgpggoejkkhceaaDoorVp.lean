/-
  A walk by abstract values: contracts, calls, ends.
-/
import Derived.Test.YtgpggoejkkhceaaDoorVo
namespace Go.Proofs.YtgpggoejkkhceaaDoor.V
open Go.RowKit

section
variable {E : Env} {T T' : Nat → Prop} {M : Mem} {w : World}
theorem Conv.one_ : ∀ {s s' : SV}, Conv M s s' → s.one = true → s'.one = true
  | _, _, .refl s h, h1 => h1
  | _, _, .nils e h, h1 => rfl
  | _, _, .row id base sz sub len e h hz hl hp, h1 => rfl
  | _, _, .all id base sz len e h hz hl hp, h1 => rfl
  | _, _, .agg l l' h, h1 => by simp [SV.one] at h1
  | _, _, .tup l l' h, h1 => by simp [SV.one] at h1
  | _, _, .may g s s' hg h, h1 => by simp [SV.one] at h1
  | _, _, .eq s s' s2 h e, h1 => by subst e; exact Conv.one_ h h1
  | _, _, .gx _ _ _ _ _ _ _, _ => rfl
theorem Conv.arr_ {n : Nat} {e : EV} : ∀ {s s' : SV}, Conv M s s' → s = .arr n e → s' = .arr n e ∧ pureE e
  | _, _, .refl s h, h1 => by subst h1; exact ⟨rfl, by simpa only [pureS] using h⟩
  | _, _, .nils e h, h1 => by cases h1
  | _, _, .row id base sz sub len e h hz hl hp, h1 => by cases h1
  | _, _, .all id base sz len e h hz hl hp, h1 => by cases h1
  | _, _, .agg l l' h, h1 => by cases h1
  | _, _, .tup l l' h, h1 => by cases h1
  | _, _, .may g s s' hg h, h1 => by cases h1
  | _, _, .eq s s' s2 h e, h1 => by subst e; exact Conv.arr_ h h1
  | _, _, .gx _ _ _ _ _ h _, h1 => by have := (Conv.arr_ h h1).1; cases this

theorem runAt_find {id base : Nat} {e : EV} (h : runAt M id base = some e) : (find M id).isSome = true := by
  unfold runAt at h
  split at h
  · rename_i hf; rw [hf]; rfl
  · rename_i hf; rw [hf]; rfl
  · cases h
theorem ro_of_row (H : MOk E T M w) (hT : ∀ b, b < w.heap.size → T' b → T b) (ho : ∀ id b, (find M id).isSome = true → E id = some (some b) → ¬ T' b) {id base sub len : Nat} {e : EV} {v : Value} (h : runAt M id base = some e) (hl : sub + len ≤ e.len) (hp : pureE e) (hr : Rep E T w (.row id base e.sz sub len) v) {e' : EV}
    (he1 : e'.len = len) (he2 : e'.sz = e.sz) (he3 : ∀ i, i < len → e'.items i = e.items (sub + i)) : Rep (fun _ => none) T' w (.ro e') v := by
  cases hr with
  | row0 _ _ _ _ _ hE h0 => exact .ro0 _ (by omega)
  | row _ _ _ _ _ b o c n t hE hs hoo hlc ok =>
    obtain ⟨cc, hlt, hn, hc, hrr⟩ := runAt_cells H h hE
    refine .ro e' b o len c (fun i => cc (sub + i)) (ho id b (runAt_find h) hE) (fun i hi => ?_) (fun i j v hi hj => ?_) (fun i hi => ?_) he1.symm hlc ok hlt
    · rw [he2]; exact hn _ (by omega)
    · have hcz : c ≠ 0 := by omega
      obtain ⟨h1, _⟩ := hoo hcz
      have := hc (sub + i) j v (by omega) hj
      rw [he2, h1]
      rw [Nat.add_mul] at this
      rw [← this]
      congr 2
      omega
    · rw [he3 i (by omega)]
      have h1 := hrr (sub + i) (by omega)
      have h2 : Items (fun _ => none) T w (e.items (sub + i)) (cc (sub + i)) := Items.free_ h1 (hp.items (by omega))
      exact h2.mono (fun _ _ h => h) hT (Chg.refl _ w)

mutual
theorem Conv.ok (H : MOk E T M w) (hT : ∀ b, b < w.heap.size → T' b → T b) (ho : ∀ id b, (find M id).isSome = true → E id = some (some b) → ¬ T' b) : ∀ {s s' : SV} {v : Value}, Conv M s s' → Rep E T w s v → Rep (fun _ => none) T' w s' v
  | _, _, v, .refl s h, hr => by
    have h1 : Rep (fun _ => none) T w s v := Rep.free_ hr h
    exact h1.mono (fun _ _ h => h) hT (Chg.refl _ w)
  | _, _, v, .nils e h, hr => by cases hr; exact .ro0 _ h
  | _, _, v, .row id base sz sub len e h hz hl hp, hr => by
    subst hz
    exact ro_of_row H hT ho h hl hp hr (EV.sub_len hl) (EV.sub_sz ..) (fun i hi => EV.sub_items hi)
  | _, _, v, .all id base sz len e h hz hl hp, hr => by
    subst hz
    exact ro_of_row H hT ho h (by omega) hp hr hl.symm rfl (fun i hi => by rw [Nat.zero_add])
  | _, _, v, .agg l l' h, hr => by
    cases hr with
    | agg _ cs hI => exact .agg _ _ (Convs.items H hT ho h hI)
  | _, _, v, .tup l l' h, hr => by
    cases hr with
    | tup _ vs ht => exact .tup _ _ (Convs.tups H hT ho h ht)
  | _, _, v, .may g s s' hg h, hr => Conv.ok H hT ho h (hr.unmay hg)
  | _, _, v, .eq s s' s2 h e, hr => by subst e; exact Conv.ok H hT ho h hr
  | _, _, v, .gx s n sz f g h he, hr => by
    have h1 := Conv.ok H hT ho h hr
    cases h1 with
    | ro0 _ h0 => exact .ro0 _ h0
    | ro1 _ a h0 => exact .ro1 _ a h0
    | ro _ b o n' k c hT' hn hc hrr hle hl ok hb =>
      refine .ro _ b o n' k c hT' hn hc (fun i hi => ?_) hle hl ok hb
      have := hrr i hi
      simp only [EV.items] at this ⊢
      rw [← he i hi]
      exact this
theorem Convs.items (H : MOk E T M w) (hT : ∀ b, b < w.heap.size → T' b → T b) (ho : ∀ id b, (find M id).isSome = true → E id = some (some b) → ¬ T' b) : ∀ {l l' : List SV} {cs : List Value}, Convs M l l' → Items E T w l cs → Items (fun _ => none) T' w l' cs
  | _, _, cs, .nil, hI => by cases hI; exact .nil
  | _, _, cs, .cons s s' l l' h hl, hI => by
    cases hI with
    | one _ c _ r h1 hr hI' => exact .one _ _ _ _ (h.one_ h1) (Conv.ok H hT ho h hr) (Convs.items H hT ho hl hI')
    | arr n e _ c1 r hr hI' =>
      obtain ⟨e1, hp⟩ := h.arr_ rfl
      subst e1
      have h1 : Rep (fun _ => none) T w (.arr n e) (.agg c1.toArray) := Rep.free_ hr (by simpa only [pureS] using hp)
      exact .arr _ _ _ _ _ (h1.mono (fun _ _ h => h) hT (Chg.refl _ w)) (Convs.items H hT ho hl hI')
theorem Convs.tups (H : MOk E T M w) (hT : ∀ b, b < w.heap.size → T' b → T b) (ho : ∀ id b, (find M id).isSome = true → E id = some (some b) → ¬ T' b) : ∀ {l l' : List SV} {vs : List Value}, Convs M l l' → Tup E T w l vs → Tup (fun _ => none) T' w l' vs
  | _, _, vs, .nil, ht => by cases ht; exact .nil
  | _, _, vs, .cons s s' l l' h hl, ht => by
    cases ht with
    | cons _ v _ r hr ht' => exact .cons _ _ _ _ (Conv.ok H hT ho h hr) (Convs.tups H hT ho hl ht')
end
end

/-! ### Contracts -/
/-- A function that only reads what it is given: what it returns, whatever the world. -/
def Fun (P : Program) (Γ : Glob) (f : FuncId) (args : List SV) (res : SV) : Prop :=
  ∀ (T : Nat → Prop) (w : World) (vs : List Value), (∀ b, T b → b < w.heap.size) → GOk Γ T w → Tup E0 T w args vs →
    Calls P f vs.toArray w fun e w' => ∃ v, e = .returned v ∧ Rep E0 T w' res v ∧ Below w.heap.size w w'
/-- A value in which no memory is read. -/
def rigid : SV → Bool
  | .bool _ | .int _ _ | .str _ | .nilp | .nils | .nili | .nilf => true
  | .agg l => rigids l
  | .tup l => rigids l
  | .arr _ e => match e with
    | .u8 _ | .ints _ _ => true
    | _ => false
  | _ => false
where
  rigids : List SV → Bool
  | [] => true
  | s :: r => rigid s && rigids r
theorem u8_items_rigid {E E' : Env} {T T' : Nat → Prop} {w w' : World} {e : EV} {i : Nat} {cs : List Value} (he : (∃ l, e = .u8 l) ∨ ∃ k l, e = .ints k l) (h : Items E T w (e.items i) cs) : Items E' T' w' (e.items i) cs := by
  rcases he with ⟨l, rfl⟩ | ⟨k, l, rfl⟩
  · simp only [EV.items] at h ⊢
    obtain ⟨c, r, rfl, h1, h2⟩ := h.head rfl
    cases h1 with
    | int _ _ hr =>
      cases h2
      exact .one _ _ _ _ rfl (.int _ _ hr) .nil
  · simp only [EV.items] at h ⊢
    obtain ⟨c, r, rfl, h1, h2⟩ := h.head rfl
    cases h1 with
    | int _ _ hr =>
      cases h2
      exact .one _ _ _ _ rfl (.int _ _ hr) .nil
section
variable {E E' : Env} {T T' : Nat → Prop} {w w' : World}
mutual
theorem Rep.rigid_ : ∀ {s : SV} {v : Value}, Rep E T w s v → rigid s = true → Rep E' T' w' s v
  | _, _, .bool b, _ => .bool b
  | _, _, .int k n h, _ => .int k n h
  | _, _, .str l h, _ => .str l h
  | _, _, .nilp, _ => .nilp
  | _, _, .nils, _ => .nils
  | _, _, .nili, _ => .nili
  | _, _, .nilf, _ => .nilf
  | _, _, .agg l cs h, hp => .agg l cs (Items.rigid_ h (by simpa only [rigid] using hp))
  | _, _, .tup l vs h, hp => .tup l vs (Tup.rigid_ h (by simpa only [rigid] using hp))
  | _, _, .arr n e cs c hn hl he h1 hc hr, hp => by
    refine .arr n e cs c hn hl he h1 hc (fun i hi => u8_items_rigid ?_ (hr i hi))
    cases e with
    | u8 l => exact .inl ⟨l, rfl⟩
    | ints k l => exact .inr ⟨k, l, rfl⟩
    | g n sz f => simp [rigid] at hp
  | _, _, .ptr id off b h, hp => by simp [rigid] at hp
  | _, _, .pel id base sz i j b h, hp => by simp [rigid] at hp
  | _, _, .rop e i j b o c hT' hn hc hr hi hj hb, hp => by simp [rigid] at hp
  | _, _, .row id base sz sub len b o c n t h hs ho hl ok, hp => by simp [rigid] at hp
  | _, _, .row0 id base sz sub len h hl, hp => by simp [rigid] at hp
  | _, _, .ro0 e h, hp => by simp [rigid] at hp
  | _, _, .ro1 e a h, hp => by simp [rigid] at hp
  | _, _, .ro e b o n k c hT' hn hc hr he hl ok hb, hp => by simp [rigid] at hp
  | _, _, .fn f l vs h, hp => by simp [rigid] at hp
  | _, _, .mv f l vs h, hp => by simp [rigid] at hp
  | _, _, .ifc t s v h, hp => by simp [rigid] at hp
  | _, _, .may1 g s v h hr, hp => by simp [rigid] at hp
  | _, _, .may0 g s h, hp => by simp [rigid] at hp
  | _, _, .val x, hp => by simp [rigid] at hp
theorem Items.rigid_ : ∀ {l : List SV} {cs : List Value}, Items E T w l cs → rigid.rigids l = true → Items E' T' w' l cs
  | _, _, .nil, _ => .nil
  | _, _, .one s c l cs h hr hl, hp => by
    simp only [rigid.rigids, Bool.and_eq_true] at hp
    exact .one s c l cs h (Rep.rigid_ hr hp.1) (Items.rigid_ hl hp.2)
  | _, _, .arr n e l c1 cs hr hl, hp => by
    simp only [rigid.rigids, Bool.and_eq_true] at hp
    exact .arr n e l c1 cs (Rep.rigid_ hr hp.1) (Items.rigid_ hl hp.2)
theorem Tup.rigid_ : ∀ {l : List SV} {vs : List Value}, Tup E T w l vs → rigid.rigids l = true → Tup E' T' w' l vs
  | _, _, .nil, _ => .nil
  | _, _, .cons s v l vs hr hl, hp => by
    simp only [rigid.rigids, Bool.and_eq_true] at hp
    exact .cons s v l vs (Rep.rigid_ hr hp.1) (Tup.rigid_ hl hp.2)
end
end

theorem arr_cells {e : EV} {cs : List Value} {c : Nat → List Value} {n : Nat} {g : Nat → Value} (hs : e.sz = 1) (hl : cs.length = n) (he : e.len * e.sz = n) (hc : ∀ i j v, i < e.len → (c i)[j]? = some v → cs[i * e.sz + j]? = some v) (hg : ∀ i, i < e.len → c i = [g i]) : cs = (List.range n).map g := by
  apply List.ext_getElem?
  intro i
  rw [hs, Nat.mul_one] at he
  by_cases hi : i < n
  · have := hc i 0 (g i) (by omega) (by rw [hg i (by omega)]; rfl)
    rw [hs, Nat.mul_one, Nat.add_zero] at this
    rw [this]
    simp [hi]
  · rw [List.getElem?_eq_none (by omega), List.getElem?_eq_none (by simpa using hi)]
section
variable {E E' : Env} {T T' : Nat → Prop} {w w' : World}
mutual
theorem Rep.uniq : ∀ {s : SV} {v v' : Value}, Rep E T w s v → rigid s = true → Rep E' T' w' s v' → v = v'
  | _, _, _, .bool b, _, h => by cases h; rfl
  | _, _, _, .int k n h, _, h' => by cases h'; rfl
  | _, _, _, .str l h, _, h' => by cases h'; rfl
  | _, _, _, .nilp, _, h => by cases h; rfl
  | _, _, _, .nils, _, h => by cases h; rfl
  | _, _, _, .nili, _, h => by cases h; rfl
  | _, _, _, .nilf, _, h => by cases h; rfl
  | _, _, _, .agg l cs h, hp, h' => by
    cases h' with
    | agg _ cs' h2 => rw [Items.uniq h (by simpa only [rigid] using hp) h2]
  | _, _, _, .tup l vs h, hp, h' => by
    cases h' with
    | tup _ vs' h2 => rw [Tup.uniq h (by simpa only [rigid] using hp) h2]
  | _, _, _, .arr n e cs c hn hl he h1 hc hr, hp, h' => by
    cases h' with
    | arr _ _ cs' c' hn' hl' he' h1' hc' hr' =>
      have key : ∀ g : Nat → Value, e.sz = 1 → (∀ i, i < e.len → c i = [g i]) → (∀ i, i < e.len → c' i = [g i]) → cs = cs' := fun g hs q1 q2 => by
        rw [arr_cells hs hl he hc q1, arr_cells hs hl' he' hc' q2]
      have fin : cs = cs' := by
        cases e with
        | u8 l =>
          refine key (fun i => .int .u8 ((l.getD i 0).toNat : Int)) rfl (fun i hi => ?_) (fun i hi => ?_)
          · obtain ⟨x, r, e1, e2, e3⟩ := (hr i hi).head rfl
            cases e2; cases e3; exact e1
          · obtain ⟨x, r, e1, e2, e3⟩ := (hr' i hi).head rfl
            cases e2; cases e3; exact e1
        | ints k l =>
          refine key (fun i => .int k (l.getD i 0)) rfl (fun i hi => ?_) (fun i hi => ?_)
          · obtain ⟨x, r, e1, e2, e3⟩ := (hr i hi).head rfl
            cases e2; cases e3; exact e1
          · obtain ⟨x, r, e1, e2, e3⟩ := (hr' i hi).head rfl
            cases e2; cases e3; exact e1
        | g n sz f => simp [rigid] at hp
      rw [fin]
  | _, _, _, .ptr id off b h, hp, _ => by simp [rigid] at hp
  | _, _, _, .pel id base sz i j b h, hp, _ => by simp [rigid] at hp
  | _, _, _, .rop e i j b o c hT' hn hc hr hi hj hb, hp, _ => by simp [rigid] at hp
  | _, _, _, .row id base sz sub len b o c n t h hs ho hl ok, hp, _ => by simp [rigid] at hp
  | _, _, _, .row0 id base sz sub len h hl, hp, _ => by simp [rigid] at hp
  | _, _, _, .ro0 e h, hp, _ => by simp [rigid] at hp
  | _, _, _, .ro1 e a h, hp, _ => by simp [rigid] at hp
  | _, _, _, .ro e b o n k c hT' hn hc hr he hl ok hb, hp, _ => by simp [rigid] at hp
  | _, _, _, .fn f l vs h, hp, _ => by simp [rigid] at hp
  | _, _, _, .mv f l vs h, hp, _ => by simp [rigid] at hp
  | _, _, _, .ifc t s v h, hp, _ => by simp [rigid] at hp
  | _, _, _, .may1 g s v h hr, hp, _ => by simp [rigid] at hp
  | _, _, _, .may0 g s h, hp, _ => by simp [rigid] at hp
  | _, _, _, .val x, hp, _ => by simp [rigid] at hp
theorem Items.uniq : ∀ {l : List SV} {cs cs' : List Value}, Items E T w l cs → rigid.rigids l = true → Items E' T' w' l cs' → cs = cs'
  | _, _, _, .nil, _, h => by cases h; rfl
  | _, _, _, .one s c l cs h hr hl, hp, h' => by
    simp only [rigid.rigids, Bool.and_eq_true] at hp
    obtain ⟨c', r', e1, e2, e3⟩ := h'.head h
    subst e1
    rw [Rep.uniq hr hp.1 e2, Items.uniq hl hp.2 e3]
  | _, _, _, .arr n e l c1 cs hr hl, hp, h' => by
    simp only [rigid.rigids, Bool.and_eq_true] at hp
    cases h' with
    | one _ _ _ _ h1 => simp [SV.one] at h1
    | arr _ _ _ c1' cs' hr' hl' =>
      have := Rep.uniq hr hp.1 hr'
      simp at this
      rw [this, Items.uniq hl hp.2 hl']
theorem Tup.uniq : ∀ {l : List SV} {vs vs' : List Value}, Tup E T w l vs → rigid.rigids l = true → Tup E' T' w' l vs' → vs = vs'
  | _, _, _, .nil, _, h => by cases h; rfl
  | _, _, _, .cons s v l vs hr hl, hp, h' => by
    simp only [rigid.rigids, Bool.and_eq_true] at hp
    cases h' with
    | cons _ v' _ vs' hr' hl' => rw [Rep.uniq hr hp.1 hr', Tup.uniq hl hp.2 hl']
end
end

section
variable {X : IntKind → Bool} {C : Ctx} {Q0 : Exit → Act → World → Prop} {F F' : Tr} {M M' : Mem} {ids ids' : List Nat} {k : List Kont}

def callable (P : Program) (f : FuncId) : Bool :=
  match P.funcs[f]? with
  | some fn => !(fn.name == "runtime.NumGoroutine") && fn.body.isSome
  | none => false
theorem run_callFunc_go {P : Program} {f : FuncId} {args : Array Value} (h : callable P f = true) (w : World) : (callFunc f args).run P w = .ok (.enter f args) w := by
  unfold callable at h
  split at h
  · rename_i fn hf
    simp only [Bool.and_eq_true, Bool.not_eq_true'] at h
    have hne : ¬ fn.name = "runtime.NumGoroutine" := by simpa using h.1
    have hb : ¬ fn.body = none := by intro hbo; rw [hbo] at h; simp at h
    simp [callFunc, hf, hne, hb]
  · cases h
theorem St.lt {U : Nat → Prop} {E : Env} {a : Act} {w : World} (h : St C F M U E a w) : ∀ b, trk C.T0 M E b → b < w.heap.size := by
  rintro b (⟨id, B, hf, hE⟩ | h0)
  · exact (h.mem.at hf hE).1
  · exact Nat.lt_of_lt_of_le (h.hid b h0).1 h.kp.chg.size
theorem St.apart {U : Nat → Prop} {E : Env} {a : Act} {w : World} (h : St C F M U E a w) : ∀ id b, (find M id).isSome = true → E id = some (some b) → ¬ C.T0 b := by
  intro id b hf hE h0
  obtain ⟨h1, h2⟩ := h.hid b h0
  rcases h.own id b hf hE with h3 | h3
  · omega
  · exact h2 h3
/-- What is given; some of it under a condition. -/
def opdsC (Γ : Glob) (F : Tr) : List Operand → Option (List SV)
  | [] => some []
  | x :: r => match opd Γ F x with
    | some s => match opdsC Γ F r with
      | some l => some (s :: l)
      | none => none
    | none => none
theorem opdsC_tup {Γ : Glob} {E : Env} {T : Nat → Prop} {a : Act} {w : World} (V : Vw Γ F M E T a w) : ∀ {l : List Operand} {r : List SV}, opdsC Γ F l = some r → Tup E T w r (l.map a.eval)
  | [], r, h => by simp [opdsC] at h; subst h; exact .nil
  | x :: l, r, h => by
    simp only [opdsC] at h
    split at h
    · rename_i s hs
      split at h
      · rename_i l' hl
        simp at h
        subst h
        exact .cons _ _ _ _ (opd_rep V hs) (opdsC_tup V hl)
      · cases h
    · cases h
/-- The function that is called, and what it is given. -/
def argsF (Γ : Glob) (F : Tr) (x : Operand) (xs : List Operand) : Option (FuncId × List SV) :=
  match opd Γ F x with
  | some (.fn f cap) => match opdsC Γ F xs with
    | some svs => match cap with
      | [] => some (f, svs)
      | c :: r => fL (svs ++ (c :: r)) fun l => some (f, l)
    | none => none
  | some (.mv f first) => match opdsC Γ F xs with
    | some svs => fL (first ++ svs) fun l => some (f, l)
    | none => none
  | _ => none
theorem Tup.app {E : Env} {T : Nat → Prop} {w : World} : ∀ {l m : List SV} {vs us : List Value}, Tup E T w l vs → Tup E T w m us → Tup E T w (l ++ m) (vs ++ us)
  | _, _, _, _, .nil, h => h
  | _, _, _, _, .cons s v l vs hr hl, h => .cons s v _ _ hr (Tup.app hl h)
theorem execOp_call_fn {a : Act} {dst : Option Tmp} {s : Operand} {f : FuncId} {xs : Array Operand} {first cap : Array Value} {ats : Array TypeId} {ty : TypeId} {pos : String} {after : Array Edge} {guard : Option (Nat × Bool)} (hs : a.eval s = .func (.func f) first cap) :
    execOp a.eval ⟨dst, .call ⟨.value s, xs, ats⟩, ty, pos, after, guard⟩ = callFunc f (first ++ xs.map a.eval ++ cap) := by
  unfold execOp resolve
  simp only [hs, Deferred.ofValue]
  rfl
theorem argsF_ok {Γ : Glob} {E : Env} {T : Nat → Prop} {a : Act} {w : World} (V : Vw Γ F M E T a w) {x : Operand} {xs : List Operand} {f : FuncId} {svs : List SV} (h : argsF Γ F x xs = some (f, svs)) :
    ∃ vs, Tup E T w svs vs ∧ ∀ (d : Option Tmp) (ats : Array TypeId) (type : TypeId) (pos : String) (after : Array Edge) (guard : Option (Nat × Bool)), execOp a.eval ⟨d, .call ⟨.value x, ⟨xs⟩, ats⟩, type, pos, after, guard⟩ = callFunc f vs.toArray := by
  unfold argsF at h
  split at h
  · rename_i f' cap hf
    have hr := opd_rep V hf
    split at h
    · rename_i svs' hx
      have ht := opdsC_tup V hx
      generalize hv : a.eval x = v at hr
      cases hr with
      | fn _ _ us hu =>
        have hq : f = f' ∧ svs = svs' ++ cap := by
          split at h
          · simp only [Option.some.injEq, Prod.mk.injEq] at h
            exact ⟨h.1.symm, by simp [h.2]⟩
          · rw [fL_eq] at h
            simp only [Option.some.injEq, Prod.mk.injEq] at h
            exact ⟨h.1.symm, h.2.symm⟩
        obtain ⟨rfl, rfl⟩ := hq
        refine ⟨xs.map a.eval ++ us, ht.app hu, fun d ats type pos after guard => ?_⟩
        rw [execOp_call_fn hv]
        congr 1
        simp
    · cases h
  · rename_i f' first hf
    have hr := opd_rep V hf
    split at h
    · rename_i svs' hx
      have ht := opdsC_tup V hx
      generalize hv : a.eval x = v at hr
      cases hr with
      | mv _ _ us hu =>
        rw [fL_eq] at h
        simp only [Option.some.injEq, Prod.mk.injEq] at h
        obtain ⟨rfl, rfl⟩ := h
        refine ⟨us ++ xs.map a.eval, hu.app ht, fun d ats type pos after guard => ?_⟩
        rw [execOp_call_fn hv]
        congr 1
        simp
    · cases h
  · cases h
/-- A call, what is given being read alone. -/
theorem Sat.call {full rest : List Oper} {d : Option Tmp} {x : Operand} {f : FuncId} {xs : List Operand} {ats : Array TypeId} {type : TypeId} {pos : String} {after : Array Edge} {svs args : List SV} {res : SV}
    (hspec : Fun C.P C.Γ f args res) (hx : argsF C.Γ F x xs = some (f, svs)) (hc : callable C.P f = true) (hconv : Convs [] svs args) (hp : putD C.N F d (some res) some = some F') (h : Sat C Q0 (.reg full rest F' M ids k)) :
    Sat C Q0 (.reg full (⟨d, .call ⟨.value x, ⟨xs⟩, ats⟩, type, pos, after, none⟩ :: rest) F M ids k) := by
  intro U E a w hsup hst
  obtain ⟨F1, h1, h2⟩ := putD_inv hp
  cases h1
  refine wpList_plain rfl fun K hK => ?_
  unfold Oper.wp
  obtain ⟨vs, ht, hex⟩ := argsF_ok hst.vw hx
  rw [hex, run_callFunc_go hc]
  have hH : MOk E (trk C.T0 M E) [] w := ⟨fun id B hf => by simp [find] at hf, fun id id' b hf => by simp [find] at hf⟩
  have ht' := Convs.tups (T' := trk C.T0 M E) hH (fun _ _ h => h) (fun id b hf => by simp [find] at hf) hconv ht
  refine (hspec (trk C.T0 M E) w _ hst.lt hst.glob ht').mono ?_
  rintro e w' ⟨v, rfl, hr, hb⟩
  exact hK _ _ (h U E _ w' hsup ((hst.below hb).putD h2 fun s' hs' => by cases hs'; exact hr.up))

/-- A call whose result is no memory. -/
theorem callR_core {f : FuncId} {svs args : List SV} {res : SV} {U : Nat → Prop} {E : Env} {a : Act} {w : World} (hst : St C F M U E a w) (hspec : Fun C.P C.Γ f args res) {vs : List Value} (ht : Tup E (trk C.T0 M E) w svs vs) (hconv : Convs M svs args) (hrig : rigid res = true) :
    Calls C.P f vs.toArray w fun e w' => ∃ v, e = .returned v ∧ (∀ (E : Env) (T : Nat → Prop) (w : World), Rep E T w res v) ∧ Below w.heap.size w w' := by
  have ht' := Convs.tups (T' := C.T0) hst.mem (fun _ _ h => .inr h) hst.apart hconv ht
  refine (hspec C.T0 w _ (fun b hb => hst.lt b (.inr hb)) (hst.glob.mono (fun _ _ h => .inr h) (Chg.refl _ w)) ht').mono ?_
  rintro e w' ⟨v, rfl, hr, hb⟩
  exact ⟨v, rfl, fun E T w => hr.rigid_ hrig, hb⟩
theorem Sat.callR {full rest : List Oper} {d : Option Tmp} {x : Operand} {f : FuncId} {xs : List Operand} {ats : Array TypeId} {type : TypeId} {pos : String} {after : Array Edge} {svs args : List SV} {res : SV}
    (hspec : Fun C.P C.Γ f args res) (hrig : rigid res = true) (hx : argsF C.Γ F x xs = some (f, svs)) (hc : callable C.P f = true) (hconv : Convs M svs args) (hp : putD C.N F d (some res) some = some F') (h : Sat C Q0 (.reg full rest F' M ids k)) :
    Sat C Q0 (.reg full (⟨d, .call ⟨.value x, ⟨xs⟩, ats⟩, type, pos, after, none⟩ :: rest) F M ids k) := by
  intro U E a w hsup hst
  obtain ⟨F1, h1, h2⟩ := putD_inv hp
  cases h1
  refine wpList_plain rfl fun K hK => ?_
  unfold Oper.wp
  obtain ⟨vs, ht, hex⟩ := argsF_ok hst.vw hx
  rw [hex, run_callFunc_go hc]
  refine (callR_core hst hspec ht hconv hrig).mono ?_
  rintro e w' ⟨v, rfl, hr, hb⟩
  exact hK _ _ (h U E _ w' hsup ((hst.below hb).putD h2 fun s' hs' => by cases hs'; exact hr _ _ _))
/-- The same under a guard. -/
theorem Sat.callG {full rest : List Oper} {d : Option Tmp} {x : Operand} {f : FuncId} {xs : List Operand} {ats : Array TypeId} {type : TypeId} {pos : String} {after : Array Edge} {svs args : List SV} {res : SV} {j : Nat} {want : Bool} {H : Prop}
    (hH : guardH F full j want = some H) (hspec : H → Fun C.P C.Γ f args res) (hrig : rigid res = true) (hx : argsF C.Γ F x xs = some (f, svs)) (hc : callable C.P f = true) (hconv : H → Convs M svs args) (hp : putD C.N F d (some (.may H res)) some = some F') (h : Sat C Q0 (.reg full rest F' M ids k)) :
    Sat C Q0 (.reg full (⟨d, .call ⟨.value x, ⟨xs⟩, ats⟩, type, pos, after, some (j, want)⟩ :: rest) F M ids k) := by
  intro U E a w hsup hst
  obtain ⟨F1, h1, h2⟩ := putD_inv hp
  cases h1
  have hiff := guardH_ok (full := full) hst hH
  refine wpList_step fun K hK => ?_
  by_cases hy : (yielded full.toArray a.tmps j == some want) = true
  · simp only [Region.wanted, hy, if_true]
    have hh := hiff.1 hy
    unfold Oper.wp
    obtain ⟨vs, ht, hex⟩ := argsF_ok hst.vw hx
    rw [hex, run_callFunc_go hc]
    refine (callR_core hst (hspec hh) ht (hconv hh) hrig).mono ?_
    rintro e w' ⟨v, rfl, hr, hb⟩
    exact hK _ _ (h U E _ w' hsup ((hst.below hb).putD h2 fun s' hs' => by cases hs'; exact .may1 _ _ _ hh (hr _ _ _)))
  · simp only [Region.wanted, hy]
    have hh : ¬ H := fun hh => hy (hiff.2 hh)
    exact hK _ _ (h U E _ w hsup (hst.putD h2 fun s' hs' => by cases hs'; exact .may0 _ _ hh))

theorem Sat.callG1 {full rest : List Oper} {d : Option Tmp} {x : Operand} {f : FuncId} {xs : List Operand} {ats : Array TypeId} {type : TypeId} {pos : String} {after : Array Edge} {svs args : List SV} {res : SV} {j : Nat} {want : Bool} {H : Prop}
    (hspec : Fun C.P C.Γ f args res) (hH : guardH F full j want = some H) (hrig : rigid res = true) (hx : argsF C.Γ F x xs = some (f, svs)) (hc : callable C.P f = true) (hconv : H → Convs M svs args) (hp : putD C.N F d (some (.may H res)) some = some F') (h : Sat C Q0 (.reg full rest F' M ids k)) :
    Sat C Q0 (.reg full (⟨d, .call ⟨.value x, ⟨xs⟩, ats⟩, type, pos, after, some (j, want)⟩ :: rest) F M ids k) := Sat.callG hH (fun _ => hspec) hrig hx hc hconv hp h
/-! ### The end -/
def resV (P : Program) (F : Tr) (M : Mem) : ResultVar → R
  | .tmp t => withφ [] (F.get t)
  | .cell p t => match F.get p with
    | some s => loadV P M t s
    | none => none
theorem resV_ok {U : Nat → Prop} {E : Env} {a : Act} {w : World} (hst : St C F M U E a w) {r : ResultVar} {φ : List Prop} {s : SV} (h : resV C.P F M r = some (φ, s)) (hφ : AllP φ) :
    ∃ v, Rep E (trk C.T0 M E) w s v ∧ (match r with
    | .tmp t => (pure (a.tmps.getD t undef) : Sem Value)
    | .cell p t => do loadVar t (← asAddr (a.tmps.getD p undef))).run C.P w = .ok v w := by
  unfold resV at h
  split at h
  · obtain ⟨_, h'⟩ := withφ_inv h
    exact ⟨_, hst.slots _ _ h', rfl⟩
  · rename_i p t
    split at h
    · rename_i s' hs'
      obtain ⟨u, h1, h2⟩ := loadV_run (P := C.P) hst.mem h hφ.all (hst.slots _ _ hs')
      refine ⟨u, h1, ?_⟩
      have := h2 w (Below.refl _ _)
      have hp : ∃ ad, a.tmps.getD p undef = .pointer (some ad) := by
        have hr := hst.slots _ _ hs'
        generalize a.tmps.getD p undef = v at hr
        unfold loadV at h
        split at h
        · cases hr; exact ⟨_, rfl⟩
        · cases hr; exact ⟨_, rfl⟩
        · cases hr; exact ⟨_, rfl⟩
        · cases h
      obtain ⟨ad, had⟩ := hp
      rw [had] at this ⊢
      simpa [Instr.loadAt, Instr.sureAddr, asAddr] using this
    · cases h

/-- What a contract asks of the end. -/
def Post (T : Nat → Prop) (w0 : World) (res : SV) (e : Ending) (w' : World) : Prop := ∃ v, e = .returned v ∧ Rep E0 T w' res v ∧ Below w0.heap.size w0 w'
theorem St.post {U : Nat → Prop} {E : Env} {a : Act} {w : World} (h : St C F M U E a w) (hS : ∀ b, ¬ C.S b) : Below C.W0.heap.size C.W0 w := ⟨h.kp.os, h.kp.tape, h.kp.output, h.kp.chg.size, fun b hb => h.kp.chg.keep b hb (hS b)⟩
theorem mapM_run1 {P : Program} {w : World} {f : ResultVar → Sem Value} {r : ResultVar} {v : Value} (h1 : (f r).run P w = .ok v w) :
    ((do let vs ← (#[r] : Array ResultVar).mapM f; pure (if h : vs.size = 1 then vs[0] else .tuple vs)) : Sem Value).run P w = .ok v w := by simp [h1]
theorem mapM_run2 {P : Program} {w : World} {f : ResultVar → Sem Value} {r r' : ResultVar} {v v' : Value} (h1 : (f r).run P w = .ok v w) (h2 : (f r').run P w = .ok v' w) :
    ((do let vs ← (#[r, r'] : Array ResultVar).mapM f; pure (if h : vs.size = 1 then vs[0] else .tuple vs)) : Sem Value).run P w = .ok (.tuple #[v, v']) w := by simp [h1, h2]
theorem end_core {fn : Func} {R : Ending → World → Prop} {e : Ex} (he : e = .ret ∨ e = .normal) (h : ∀ U E a w, Sup ids U → St C F M U E a w → ∃ v, (results fn a.tmps).run C.P w = .ok v w ∧ R (.returned v) w) : Sat C (bodyPost C.P fn R) (.ext e F M ids []) := by
  intro U E a w hsup hst
  obtain ⟨v, h1, h2⟩ := h U E a w hsup hst
  rcases he with rfl | rfl <;> exact ⟨hst.defers, v, h1, h2⟩
theorem Sat.end1 {fn : Func} {res : SV} {e : Ex} {r : ResultVar} {φ : List Prop} {s : SV} (hr : fn.results = #[r]) (h1 : resV C.P F M r = some (φ, s)) (hφ : AllP φ) (hc : Conv M s res) (he : e = .ret ∨ e = .normal) (hS : ∀ b, ¬ C.S b) :
    Sat C (bodyPost C.P fn (Post C.T0 C.W0 res)) (.ext e F M ids []) := end_core he fun U E a w _ hst => by
  obtain ⟨v, q1, q2⟩ := resV_ok hst h1 hφ
  refine ⟨v, ?_, v, rfl, Conv.ok hst.mem (fun _ _ h => .inr h) hst.apart hc q1, hst.post hS⟩
  unfold results
  rw [hr]
  exact mapM_run1 q2
theorem Sat.end2 {fn : Func} {res res' : SV} {e : Ex} {r r' : ResultVar} {φ φ' : List Prop} {s s' : SV} (hr : fn.results = #[r, r']) (h1 : resV C.P F M r = some (φ, s)) (h2 : resV C.P F M r' = some (φ', s')) (hφ : AllP φ) (hφ' : AllP φ') (hc : Conv M s res) (hc' : Conv M s' res') (he : e = .ret ∨ e = .normal) (hS : ∀ b, ¬ C.S b) :
    Sat C (bodyPost C.P fn (Post C.T0 C.W0 (.tup [res, res']))) (.ext e F M ids []) := end_core he fun U E a w _ hst => by
  obtain ⟨v, q1, q2⟩ := resV_ok hst h1 hφ
  obtain ⟨v', q1', q2'⟩ := resV_ok hst h2 hφ'
  have t1 := Conv.ok hst.mem (fun _ _ h => .inr h) hst.apart hc q1
  have t2 := Conv.ok hst.mem (fun _ _ h => .inr h) hst.apart hc' q1'
  refine ⟨.tuple #[v, v'], ?_, _, rfl, .tup _ [v, v'] (.cons _ _ _ _ t1 (.cons _ _ _ _ t2 .nil)), hst.post hS⟩
  unfold results
  rw [hr]
  exact mapM_run2 q2 q2'
theorem Sat.end0 {fn : Func} {e : Ex} (hr : fn.results = #[]) (he : e = .ret ∨ e = .normal) (hS : ∀ b, ¬ C.S b) : Sat C (bodyPost C.P fn (Post C.T0 C.W0 (.tup []))) (.ext e F M ids []) := end_core he fun _ _ _ _ _ hst =>
  ⟨_, results_none hr _ _ _, _, rfl, .tup _ [] .nil, hst.post hS⟩

theorem Sat.fin {fn : Func} {res res' : SV} {c : Cfg} {P : Program} {T : Nat → Prop} {w : World} (h : Sat C (bodyPost P fn (Post T w res')) c) (he : res = res') : Sat C (bodyPost P fn (Post T w res)) c := he ▸ h
theorem inR_i64 {n : Int} (h1 : -9223372036854775808 ≤ n) (h2 : n ≤ 9223372036854775807) : inR .i64 n := by simp [inR, IntKind.min, IntKind.max, IntKind.signed, IntKind.bits]; omega
theorem inR_u64 {n : Int} (h1 : 0 ≤ n) (h2 : n ≤ 18446744073709551615) : inR .u64 n := by simp [inR, IntKind.min, IntKind.max, IntKind.signed, IntKind.bits]; omega
theorem inR_u32 {n : Int} (h1 : 0 ≤ n) (h2 : n ≤ 4294967295) : inR .u32 n := by simp [inR, IntKind.min, IntKind.max, IntKind.signed, IntKind.bits]; omega
theorem inR_u8' {n : Int} (h1 : 0 ≤ n) (h2 : n ≤ 255) : inR .u8 n := by simp [inR, IntKind.min, IntKind.max, IntKind.signed, IntKind.bits]; omega

/-! ### The beginning -/
def argT : Nat → List SV → Tr → Option Tr
  | _, [], F => some F
  | n, s :: r, F => F.putK n (some s) fun F' => argT (n + 1) r F'
theorem mk_get : ∀ (d t : Nat), (Tr.mk d).get t = none
  | 0, t => rfl
  | d + 1, 0 => rfl
  | d + 1, t + 1 => by
    simp only [Tr.mk, Tr.get]
    split <;> exact mk_get d _
theorem argT_get {E : Env} {T : Nat → Prop} {w : World} : ∀ {n : Nat} {l : List SV} {F F' : Tr} {vs : List Value}, argT n l F = some F' → Tup E T w l vs → ∀ t s, F'.get t = some s → (t < n ∧ F.get t = some s) ∨ (n ≤ t ∧ ∃ v, vs[t - n]? = some v ∧ Rep E T w s v) ∨ (n + l.length ≤ t ∧ F.get t = some s)
  | n, [], F, F', vs, h, _, t, s, hs => by
    simp [argT] at h
    subst h
    rcases Nat.lt_or_ge t n with h1 | h1
    · exact .inl ⟨h1, hs⟩
    · exact .inr (.inr ⟨by simpa using h1, hs⟩)
  | n, x :: l, F, F', vs, h, ht, t, s, hs => by
    obtain ⟨F1, h1, h2⟩ := Tr.putK_eq F n (some x) _ F' h
    cases ht with
    | cons _ v _ vs' hr ht' =>
      have hg := Tr.get_put F F1 n (some x) h1
      rcases argT_get h2 ht' t s hs with ⟨q1, q2⟩ | ⟨q1, u, q2, q3⟩ | ⟨q1, q2⟩
      · rw [hg] at q2
        split at q2
        · rename_i e
          subst e
          cases q2
          exact .inr (.inl ⟨Nat.le_refl _, v, by simp, hr⟩)
        · rename_i e
          exact .inl ⟨by omega, q2⟩
      · refine .inr (.inl ⟨by omega, u, ?_, q3⟩)
        rw [show t - n = (t - (n + 1)) + 1 by omega, List.getElem?_cons_succ]
        exact q2
      · rw [hg, if_neg (by omega)] at q2
        exact .inr (.inr ⟨by simp; omega, q2⟩)
theorem Tup.len {E : Env} {T : Nat → Prop} {w : World} : ∀ {l : List SV} {vs : List Value}, Tup E T w l vs → vs.length = l.length
  | _, _, .nil => rfl
  | _, _, .cons s v l vs hr hl => by have := hl.len; simp [this]
/-- **A contract, by a walk.** -/
theorem Fun.mk {P : Program} {Γ : Glob} {f : FuncId} {fn : Func} {c : Code} {N : Nat} {args : List SV} {res : SV} {F : Tr} (dep : Nat) (hf : P.funcs[f]? = some fn) (hb : fn.body = some c) (hN : fn.ntmps = N) (hle : Nat.ble args.length N = true) (hF : argT 0 args (Tr.mk dep) = some F)
    (h : ∀ (T : Nat → Prop) (w : World), Sat ⟨P, w, fun _ => False, T, Γ, N, [], E0⟩ (bodyPost P fn (Post T w res)) (.code c F [] ids0 [])) : Fun P Γ f args res := by
  intro T w vs hT hG ht
  have hle' := Nat.le_of_ble_eq_true hle
  have hlen := ht.len
  refine calls_of_wp hf hb (h T w (fun _ => True) E0 _ w ?_ ⟨rfl, ?_, fun t s hs => ?_, ⟨fun id B hf => by simp [find] at hf, fun id id' b hf => by simp [find] at hf⟩, fun id b hf => by simp [find] at hf, fun _ _ => rfl, ⟨rfl, rfl, rfl, Chg.refl _ w⟩, fun b hb => ⟨hT b hb, fun h => h⟩, hG.mono (fun b _ hb => by rcases hb with ⟨id, B, hf, _⟩ | h0 <;> first | (simp [find] at hf; done) | exact h0) (Chg.refl _ w), fun i b h1 _ => by cases h1⟩)
  · have : ∀ (l : List Nat) (n : Nat) (U : Nat → Prop), (∀ i, i < l.length → l[i]? = some (n + i)) → (∀ k, n ≤ k → U k) → Sup l U := by
      intro l
      induction l with
      | nil => intro n _ _ _; trivial
      | cons i r ih =>
        intro n U hl hU
        have hi : i = n := by simpa using hl 0 (by simp)
        refine ⟨hU i (by omega), ih (n + 1) _ (fun j hj => ?_) fun k hk => ⟨hU k (by omega), by omega⟩⟩
        have := hl (j + 1) (by simpa using hj)
        simpa [Nat.add_assoc, Nat.add_comm 1 j] using this
    exact this ids0 0 _ (by decide) fun _ _ => trivial
  · simp only [Array.size_append, List.size_toArray, Array.size_replicate, hlen, hN]; omega
  · rcases argT_get hF ht t s hs with ⟨q1, _⟩ | ⟨_, v, q2, q3⟩ | ⟨_, q2⟩
    · omega
    · have hlt : t < vs.length := by simpa using (List.getElem?_eq_some_iff.1 q2).1
      have : (vs.toArray ++ Array.replicate (fn.ntmps - vs.toArray.size) undef).getD t undef = v := by
        rw [Array.getD_eq_getD_getElem?, Array.getElem?_append_left (by simpa using hlt)]
        simp only [Nat.sub_zero] at q2
        simp [q2]
      rw [this]
      exact q3.mono (fun _ _ h => h) (fun b _ hb => by rcases hb with ⟨id, B, hf, _⟩ | h0 <;> first | (simp [find] at hf; done) | exact h0) (Chg.refl _ w)
    · rw [mk_get] at q2; cases q2
end
end Go.Proofs.YtgpggoejkkhceaaDoor.V
