/-
  A walk by abstract values: every operation that leaves memory alone does what it reckons.
-/
import Derived.Test.YtgpggoejkkhceaaDoorVg
namespace Go.Proofs.YtgpggoejkkhceaaDoor.V
open Go.RowKit

section
variable {P : Program} {Γ : Glob} {F : Tr} {M : Mem} {E : Env} {a : Act} {w : World} {T : Nat → Prop}

theorem buildV_run {t : TypeId} {ps : List (Nat × SV)} {vs : List (Nat × Value)} {r : SV} (h : buildV P t ps = some r) (hp : PartsOk E T w ps vs) :
    ∃ u, Rep E T w r u ∧ ∀ w', (Instr.build t vs.toArray).run P w' = .ok u w' := by
  have key : (∃ cs : List Value, Rep E T w r (.agg cs.toArray) ∧ P.built t vs = some cs.toArray) → ∃ u, Rep E T w r u ∧ ∀ w', (Instr.build t vs.toArray).run P w' = .ok u w' := by
    rintro ⟨cs, h1, h2⟩
    exact ⟨_, h1, fun w' => run_build w' t vs.toArray cs.toArray (by simpa using h2)⟩
  apply key
  unfold buildV at h
  split at h
  · rename_i fs hu
    split at h
    · rename_i z hz
      split at h
      · rename_i pl hpl
        split at h
        · rename_i l hl
          simp at h
          subst h
          obtain ⟨i, v, hi, hiz, hI⟩ := zeroOf_items (E := E) (T := T) (w := w) hz
          obtain ⟨cs', h1, h2⟩ := fillI_run hl hp hI
          refine ⟨cs', .agg _ _ h2, ?_⟩
          unfold Program.built
          simp only [hi, hu, hiz, placesF_eq hpl]
          rw [show (fun x => pl.toArray[x]?) = nth pl from funext fun i => by rw [nth_eq]; simp]
          simpa using h1
        · cases h
      · cases h
    · cases h
  · rename_i n e hu
    split at h
    · rename_i zc hzc
      split at h
      · rename_i z hz
        split at h
        · rename_i s hs
          split at h
          · rename_i l hl
            simp at h
            subst h
            obtain ⟨i, v, hi, hiz, hv⟩ := zeroC_info hzc
            obtain ⟨ie, hie, rfl⟩ := sizeF_info hs
            obtain ⟨cs', h1, h2⟩ := fillI_run hl hp (Items.ofCs (E := E) (T := T) (w := w) hz)
            refine ⟨cs', .agg _ _ h2, ?_⟩
            unfold Program.built
            simp only [hi, hu, hiz, hie, hv]
            exact h1
          · cases h
        · cases h
      · cases h
    · cases h
  · cases h

theorem condOf_map {c : Prop} {s : SV} (h : All ((condOf s).map (c → ·))) (hc : c) {v : Value} (hr : Rep E T w s v) : Rep E T w (core s) v := by
  cases s <;> first | exact hr | skip
  rename_i g s'
  exact hr.unmay (h.one hc)
theorem pickV_run {cb : Bool} {x y r : SV} {φ : List Prop} {u v : Value} (h : pickV cb x y = some (φ, r)) (hφ : All φ) (hx : Rep E T w x u) (hy : Rep E T w y v) : Rep E T w r (if cb = true then u else v) := by
  have hx' : ∀ hc : cb = true, All ((condOf x).map (cb = true → ·)) → Rep E T w (core x) u := fun hc ha => condOf_map ha hc hx
  have hy' : ∀ hc : cb = false, All ((condOf y).map (cb = false → ·)) → Rep E T w (core y) v := fun hc ha => condOf_map ha hc hy
  unfold pickV at h
  simp only at h
  generalize hcx : core x = cx at h hx'
  generalize hcy : core y = cy at h hy'
  split at h
  · simp at h
    obtain ⟨rfl, rfl⟩ := h
    obtain ⟨h1, h2⟩ := hφ.app
    cases cb with
    | true =>
      have := hx' rfl h1
      cases this
      exact .bool _
    | false =>
      have := hy' rfl h2
      cases this
      exact .bool _
  · split at h
    · rename_i hk
      have hk' := kindB_eq hk
      subst hk'
      simp at h
      obtain ⟨rfl, rfl⟩ := h
      obtain ⟨h1, h2⟩ := hφ.app
      cases cb with
      | true => exact hx' rfl h1
      | false => exact hy' rfl h2
    · cases h
  · simp at h
    obtain ⟨rfl, rfl⟩ := h
    obtain ⟨h1, h2⟩ := hφ.app
    cases cb with
    | true => exact hx' rfl h1
    | false => exact hy' rfl h2
  · cases h

theorem nthI_run : ∀ {l : List SV} {vs : List Value} {i : Nat} {r : SV}, nthI l i = some r → Tup E T w l vs → ∃ v, vs[i]? = some v ∧ Rep E T w r v
  | _, _, i, r, h, .nil => by cases i <;> simp [nthI] at h
  | s :: l, v :: vs, 0, r, h, .cons _ _ _ _ hr hl => by simp [nthI] at h; subst h; exact ⟨v, rfl, hr⟩
  | s :: l, v :: vs, i + 1, r, h, .cons _ _ _ _ hr hl => by
    simp [nthI] at h
    obtain ⟨v', h1, h2⟩ := nthI_run h hl
    exact ⟨v', by simpa using h1, h2⟩

theorem bifV_run (V : Vw Γ F M E T a w) {b : Builtin} {ats : List TypeId} {xs : List Operand} {r : SV} {φ : List Prop} (h : bifV Γ P F b ats xs = some (φ, r)) (hφ : All φ) :
    ∃ u, Rep E T w r u ∧ ∀ (w' : World) (ty : TypeId) (cs : Array Bool), (builtin b ats.toArray ty cs (xs.map a.eval).toArray).run P w' = .ok (.value u) w' := by
  unfold bifV at h
  split at h
  · obtain ⟨s, φ', hs, hk, hφ'⟩ := op1_inv V h hφ
    obtain ⟨u, h1, h2⟩ := lenV_run (P := P) (ty := 0) hk hs
    refine ⟨u, h1, fun w' ty cs => ?_⟩
    have : ∀ ty' : TypeId, Builtin.len_ = fun a (_ : TypeId) v => Builtin.len_ a ty' v := fun ty' => by funext a t v; unfold Builtin.len_; rfl
    simp only [builtin, List.map_cons, List.map_nil, Sem.run_bind]
    rw [this 0, h2]
    rfl
  · obtain ⟨s, φ', hs, hk, hφ'⟩ := op1_inv V h hφ
    obtain ⟨s2, φ2, hs2, hk2, hφ2⟩ := op1_inv V hk hφ'
    split at hk2
    · split at hk2
      · rename_i hkk
        have := kindB_eq hkk
        subst this
        simp at hk2
        obtain ⟨rfl, rfl⟩ := hk2
        generalize hx : a.eval _ = vx at hs
        generalize hy : a.eval _ = vy at hs2
        cases hs with
        | int _ _ r1 =>
          cases hs2 with
          | int _ _ r2 =>
            refine ⟨_, .int _ _ (inR_max r1 r2), fun w' ty cs => ?_⟩
            simp [builtin, hx, hy, Builtin.max_, Builtin.max2, maxV]
      · cases hk2
    · cases hk2
  · obtain ⟨s, φ', hs, hk, hφ'⟩ := op1_inv V h hφ
    obtain ⟨s2, φ2, hs2, hk2, hφ2⟩ := op1_inv V hk hφ'
    split at hk2
    · split at hk2
      · rename_i hkk
        have := kindB_eq hkk
        subst this
        simp at hk2
        obtain ⟨rfl, rfl⟩ := hk2
        generalize hx : a.eval _ = vx at hs
        generalize hy : a.eval _ = vy at hs2
        cases hs with
        | int _ _ r1 =>
          cases hs2 with
          | int _ _ r2 =>
            refine ⟨_, .int _ _ (inR_min r1 r2), fun w' ty cs => ?_⟩
            simp [builtin, hx, hy, Builtin.min_, Builtin.min2, minV]
      · cases hk2
    · cases hk2
  · cases h

theorem exec_call_builtin {o : Oper} {b : Builtin} {xs : List Operand} {ats : List TypeId} (ho : o.op = .call ⟨.builtin b, ⟨xs⟩, ⟨ats⟩⟩) :
    ∃ cs : Array Bool, execOp a.eval o = builtin b ats.toArray o.type cs (xs.map a.eval).toArray := by
  refine ⟨(⟨xs⟩ : Array Operand).map fun | .const _ => true | _ => false, ?_⟩
  unfold execOp
  simp only [ho, resolve]
  rw [show ((⟨xs⟩ : Array Operand).map a.eval) = (xs.map a.eval).toArray by simp]
  rfl

theorem sliceV_φ {t : TypeId} {lo hi : Option Nat} {φ0 φ : List Prop} {x r : SV} (h : sliceV P M t lo hi φ0 x = some (φ, r)) : ∀ p ∈ φ0, p ∈ φ := by
  unfold sliceV at h
  repeat' split at h
  all_goals first | (cases h; done) | (simp only [Option.some.injEq, Prod.mk.injEq] at h; obtain ⟨rfl, rfl⟩ := h; exact fun p hp => List.mem_append_left _ hp)
theorem nat_of {n : Int} (h : 0 ≤ n) : n = ((n.toNat : Nat) : Int) := by omega

theorem ev1_run {X : IntKind → Bool} (V : Vw Γ F M E T a w) {op : Op} {r : SV} {φ : List Prop} (h : ev1 X P Γ F M op = some (φ, r)) (hφ : All φ) :
    ∃ v, Rep E T w r v ∧ ∀ w', Below w.heap.size w w' → ∀ o : Oper, o.op = op → (execOp a.eval o).run P w' = .ok (.value v) w' := by
  unfold ev1 at h
  split at h
  · obtain ⟨s, φ', hs, hk, hφ'⟩ := op1_inv V h hφ
    simp at hk; obtain ⟨_, rfl⟩ := hk
    exact ⟨_, hs, fun w' _ o ho => by unfold execOp; simp [ho]⟩
  · obtain ⟨s, φ', hs, hk, hφ'⟩ := op1_inv V h hφ
    simp at hk; obtain ⟨_, rfl⟩ := hk
    exact ⟨_, hs, fun w' _ o ho => by unfold execOp; simp [ho]⟩
  · rename_i c x y
    obtain ⟨s, φ', hs, hk, hφ'⟩ := op1_inv V h hφ
    split at hk
    · rename_i cb
      split at hk
      · rename_i sa hsa
        split at hk
        · rename_i sb hsb
          have := pickV_run hk hφ' (opd_rep V hsa) (opd_rep V hsb)
          refine ⟨_, this, fun w' _ o ho => ?_⟩
          generalize hc : a.eval c = vc at hs
          cases hs
          unfold execOp
          simp [ho, hc, asBool]
        · cases hk
      · cases hk
    · cases hk
  · obtain ⟨s, φ', hs, hk, hφ'⟩ := op1_inv V h hφ
    obtain ⟨u, h1, h2⟩ := loadV_run V.mem hk hφ' hs
    exact ⟨u, h1, fun w' hb o ho => by unfold execOp; simp [ho, h2 w' hb]⟩
  · split at h
    · rename_i o' ho'
      obtain ⟨s, φ', hs, hk, hφ'⟩ := op1_inv V h hφ
      obtain ⟨u, h1, h2⟩ := fieldAddrV_run ho' hk hs
      exact ⟨u, h1, fun w' hb o ho => by unfold execOp; simp [ho, h2 w']⟩
    · cases h
  · rename_i t x i
    obtain ⟨s, φ', hs, hk, hφ'⟩ := op1_inv V h hφ
    obtain ⟨s2, φ2, hs2, hk2, hφ2⟩ := op1_inv V hk hφ'
    split at hk2
    · rename_i k n
      generalize hi : a.eval i = vi at hs2
      cases hs2 with
      | int _ _ r1 =>
        obtain ⟨u, h1, h2⟩ := indexAddrV_run (k := k) hk2 hφ2 hs
        exact ⟨u, h1, fun w' hb o ho => by unfold execOp; simp [ho, hi, h2 w']⟩
    · cases hk2
  · rename_i t x i
    obtain ⟨s, φ', hs, hk, hφ'⟩ := op1_inv V h hφ
    obtain ⟨s2, φ2, hs2, hk2, hφ2⟩ := op1_inv V hk hφ'
    split at hk2
    · rename_i k n
      generalize hi : a.eval i = vi at hs2
      cases hs2 with
      | int _ _ r1 =>
        obtain ⟨u, h1, h2⟩ := indexV_run (P := P) (k := k) hk2 hφ2 hs
        exact ⟨u, h1, fun w' hb o ho => by unfold execOp; simp [ho, hi, h2 w']⟩
    · cases hk2
  · obtain ⟨s, φ', hs, hk, hφ'⟩ := op1_inv V h hφ
    obtain ⟨u, h1, h2⟩ := fieldV_run (P := P) hk hs
    exact ⟨u, h1, fun w' hb o ho => by unfold execOp; simp [ho, h2 w']⟩
  · obtain ⟨s, φ', hs, hk, hφ'⟩ := op1_inv V h hφ
    obtain ⟨s2, φ2, hs2, hk2, hφ2⟩ := op1_inv V hk hφ'
    obtain ⟨u, h1, h2⟩ := binV_run hk2 hφ2 hs hs2
    exact ⟨u, h1, fun w' hb o ho => h2 w' o ho⟩
  · obtain ⟨s, φ', hs, hk, hφ'⟩ := op1_inv V h hφ
    obtain ⟨u, h1, h2⟩ := unV_run (P := P) hk hφ' hs
    exact ⟨u, h1, fun w' hb o ho => by unfold execOp; simp [ho, h2 w']⟩
  · obtain ⟨s, φ', hs, hk, hφ'⟩ := op1_inv V h hφ
    obtain ⟨u, h1, h2⟩ := convV_run (P := P) V.mem hk hφ' hs
    exact ⟨u, h1, fun w' hb o ho => by unfold execOp; simp [ho, h2 w' hb]⟩
  · rename_i x i
    obtain ⟨s, φ', hs, hk, hφ'⟩ := op1_inv V h hφ
    split at hk
    · obtain ⟨_, hk'⟩ := withφ_inv hk
      generalize hx : a.eval x = vx at hs
      cases hs with
      | tup l vs ht =>
        obtain ⟨v, h1, h2⟩ := nthI_run hk' ht
        exact ⟨v, h2, fun w' hb o ho => by unfold execOp; simp [ho, hx, Instr.extract, h1]⟩
    · cases hk
  · rename_i f cs
    split at h
    · rename_i l hl
      simp at h; obtain ⟨_, rfl⟩ := h
      have ht := opds_tup V hl
      refine ⟨_, .fn f l _ ht, fun w' hb o ho => ?_⟩
      unfold execOp
      simp [ho, Instr.makeFunc]
    · cases h
  · rename_i f x fs
    split at h
    · rename_i l hl
      simp at h; obtain ⟨_, rfl⟩ := h
      have ht := opds_tup V hl
      refine ⟨_, .mv f l _ ht, fun w' hb o ho => ?_⟩
      unfold execOp
      simp [ho, Instr.makeFunc]
    · cases h
  · rename_i t x
    split at h
    · rename_i hi
      obtain ⟨s, φ', hs, hk, hφ'⟩ := op1_inv V h hφ
      simp at hk; obtain ⟨_, rfl⟩ := hk
      refine ⟨_, .ifc t s _ hs, fun w' hb o ho => ?_⟩
      unfold execOp
      unfold isIface at hi
      split at hi
      · simp at hi
      · rename_i d hne hu
        have : (Instr.makeInterface t (a.eval x)).run P w' = .ok (.iface t (a.eval x)) w' := by
          simp only [Instr.makeInterface, Sem.run_bind, run_underlying hu, Result.andThen_ok]
          cases d <;> first | rfl | (exact absurd rfl (hne _))
        simp [ho, this]
      · cases hi
    · cases h
  · rename_i x
    obtain ⟨s, φ', hs, hk, hφ'⟩ := op1_inv V h hφ
    generalize hx : a.eval x = vx at hs
    split at hk
    · simp at hk; obtain ⟨_, rfl⟩ := hk
      refine ⟨vx, hs, fun w' hb o ho => ?_⟩
      cases hs
      unfold execOp
      simp [ho, hx]
    · simp at hk; obtain ⟨_, rfl⟩ := hk
      refine ⟨vx, hs, fun w' hb o ho => ?_⟩
      cases hs
      unfold execOp
      simp [ho, hx]
    · simp at hk; obtain ⟨_, rfl⟩ := hk
      refine ⟨vx, hs, fun w' hb o ho => ?_⟩
      cases hs
      unfold execOp
      simp [ho, hx]
    · cases hk
  · rename_i t x lo hi
    obtain ⟨s, φ', hs, hk, hφ'⟩ := op1_inv V h hφ
    split at hk
    · obtain ⟨u, h1, h2⟩ := sliceV_run (P := P) V.mem (lo := none) (hi := none) hk hφ' hs
      exact ⟨u, h1, fun w' hb o ho => by unfold execOp; have := h2 w'; simp at this; simp [ho, this]⟩
    · rename_i l
      obtain ⟨s2, φ2, hs2, hk2, hφ2⟩ := op1_inv V hk hφ'
      split at hk2
      · rename_i k n
        generalize hl : a.eval l = vl at hs2
        cases hs2
        obtain ⟨u, h1, h2⟩ := sliceV_run (P := P) V.mem (lo := some (k, n.toNat)) (hi := none) hk2 hφ2 hs
        have hn : 0 ≤ n := by
          have := sliceV_φ hk2
          exact hφ2 _ (this _ (List.mem_cons_self ..))
        exact ⟨u, h1, fun w' hb o ho => by unfold execOp; have := h2 w'; simp only [Option.map_some, Option.map_none, ← nat_of hn] at this; simp [ho, hl, this]⟩
      · cases hk2
    · rename_i l
      obtain ⟨s2, φ2, hs2, hk2, hφ2⟩ := op1_inv V hk hφ'
      split at hk2
      · rename_i k n
        generalize hl : a.eval l = vl at hs2
        cases hs2
        obtain ⟨u, h1, h2⟩ := sliceV_run (P := P) V.mem (lo := none) (hi := some (k, n.toNat)) hk2 hφ2 hs
        have hn : 0 ≤ n := by
          have := sliceV_φ hk2
          exact hφ2 _ (this _ (List.mem_cons_self ..))
        exact ⟨u, h1, fun w' hb o ho => by unfold execOp; have := h2 w'; simp only [Option.map_some, Option.map_none, ← nat_of hn] at this; simp [ho, hl, this]⟩
      · cases hk2
    · rename_i l l'
      obtain ⟨s2, φ2, hs2, hk2, hφ2⟩ := op1_inv V hk hφ'
      split at hk2
      · rename_i k n
        obtain ⟨s3, φ3, hs3, hk3, hφ3⟩ := op1_inv V hk2 hφ2
        split at hk3
        · rename_i k' n'
          generalize hl : a.eval l = vl at hs2
          generalize hl' : a.eval l' = vl' at hs3
          cases hs2
          cases hs3
          obtain ⟨u, h1, h2⟩ := sliceV_run (P := P) V.mem (lo := some (k, n.toNat)) (hi := some (k', n'.toNat)) hk3 hφ3 hs
          have hh := sliceV_φ hk3
          have hn : 0 ≤ n := hφ3 _ (hh _ (List.mem_cons_self ..))
          have hn' : 0 ≤ n' := hφ3 _ (hh _ (List.mem_cons_of_mem _ (List.mem_cons_self ..)))
          exact ⟨u, h1, fun w' hb o ho => by unfold execOp; have := h2 w'; simp only [Option.map_some, ← nat_of hn, ← nat_of hn'] at this; simp [ho, hl, hl', this]⟩
        · cases hk3
      · cases hk2
  · rename_i t ps
    split at h
    · rename_i ψ l hl
      obtain ⟨rfl, h'⟩ := withφ_inv h
      obtain ⟨u, h1, h2⟩ := buildV_run (P := P) h' (partsC_ok V hl hφ)
      refine ⟨u, h1, fun w' hb o ho => ?_⟩
      unfold execOp
      have := h2 w'
      simp only [ho, Sem.run_bind]
      rw [show (Array.map (fun x => match x with | (i, x) => (i, a.eval x)) ⟨ps⟩) = (ps.map fun p => (p.1, a.eval p.2)).toArray by simp, this]
      rfl
    · cases h
  · obtain ⟨u, h1, h2⟩ := bifV_run V h hφ
    refine ⟨u, h1, fun w' hb o ho => ?_⟩
    obtain ⟨cs, hc⟩ := exec_call_builtin (a := a) ho
    rw [hc]
    exact h2 w' _ cs
  · cases h
end
end Go.Proofs.YtgpggoejkkhceaaDoor.V
