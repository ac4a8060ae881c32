/-
  Joined texts: TM: Trust: Errors.
  Z5: The law inlaylaw27.TrustErrors returns true for every input, and each argument reads behind the call as it read before: what is no release is refused first, then what is expired, has too few signatures, is below the floor, was withdrawn; an error changes nothing.
  Conditions: the package variables that the row lists hold, when the call begins, what the program's text lays there (the card ties them); no other narrowing.
-/
import Derived.Test.YtokaegeediokoaaGreatDoorQE
import Derived.Test.YtokaegeediokoaaGreatDoorQC
import Derived.SevenTiedAt
section
namespace Go.Proofs.YtokaegeediokoaaGreatDoor
open Go.RowKit V
set_option maxRecDepth 100000
set_option maxHeartbeats 8000000
set_option linter.unusedSimpArgs false
theorem okP_short (b : List UInt8) (h : b.length ≤ 30) : okP b = false := by
  cases hk : okP b with
  | false => rfl
  | true =>
    obtain ⟨e, _⟩ := okP_inv hk
    have h2 := bytesR_len (parseP b) (parseP_wf b)
    rw [← e] at h2
    omega
theorem listP_len {α : Type} (rd : RdS → α × RdS) : ∀ (n : Nat) (s : RdS), (listP rd n s).1.length ≤ n
  | 0, s => by rw [listP_stop rd 0 s (.inl rfl)]; exact Nat.le_refl _
  | n + 1, s => by
    cases hb : s.bad with
    | true => rw [listP_stop rd _ s (.inr hb)]; exact Nat.zero_le _
    | false =>
      rw [listP_next rd _ s (Nat.succ_pos n) hb, List.length_cons]
      exact Nat.succ_le_succ (listP_len rd n _)
theorem gone_le (b : List UInt8) : (parseP b).gone.length ≤ 1000 := by
  unfold parseP
  dsimp only
  refine Nat.le_trans (listP_len _ _ _) ?_
  refine Nat.le_trans (Nat.le_of_lt (numV_le _ 1)) ?_
  decide
section
variable {C : V.Ctx} {Q0 : Exit → Act → World → Prop} {F F' : V.Tr} {M M' : V.Mem} {ids : List Nat} {k : List V.Kont} {c : Code}
theorem V.Sat.freezeC2 {φ : List Prop} (id : Nat) (_hs : (find M id).isSome = true) (hz : frz C.wide C.pins ids true id F M = some ⟨F', M', φ⟩) (hφ : AllP φ) (hn : Sat C Q0 (.code c F' M' ids k)) : Sat C Q0 (.code c F M ids k) := Sat.freezeC true id hz hφ hn
end
@[reducible] def relX (r : Rel) : Rel := ⟨r.version, 0, 100, r.size, r.image, r.chunks, r.tree, [], r.parts⟩
theorem relX_valid (a b c d : UInt8) : validB (relX (relW a b c d)) = true := by
  have ha := a.toNat_lt
  unfold validB relX relW
  simp only [Bool.and_eq_true]
  refine ⟨?_, ?_, ?_, ?_⟩
  · unfold valid1 inB
    simp only [Bool.and_eq_true, decide_eq_true_eq]
    refine ⟨⟨by omega, by omega⟩, ⟨by omega, by omega⟩, ⟨by omega, by omega⟩, ⟨by omega, by omega⟩, by omega, by omega⟩
  · unfold valid2
    simp only [Bool.and_eq_true, decide_eq_true_eq]
    exact ⟨by simp, decide_eq_true fun i hi => absurd hi (Nat.not_lt_zero _), by simp⟩
  · exact decide_eq_true fun i hi => absurd hi (Nat.not_lt_zero _)
  · exact decide_eq_true fun i hi => absurd hi (Nat.not_lt_zero _)
theorem enB_one (bz : List UInt8) (m1 : Bool) : enB (rootM 1 1 0) nmRel bz (sgd bz (if m1 = true then 6 else 1) 0 3) = !m1 := by
  rw [enB_sgd]
  cases m1 <;> decide
attribute [local irreducible] V.Sat V.DSat
theorem errors_law (raw : List UInt8) (a b c d : UInt8) (m0 m1 m2 m3 : Bool) : Fun Tryz.prog Γh 8 [.ro (.u8 raw), w4 a b c d, .agg [.bool m0, .bool m1, .bool m2, .bool m3]] (.bool true) := by
  have c0 := sanity_law
  have c1 := rroot_spec 1 1 0
  have c2 := rrel_spec (Γ := Γh) a b c d
  have hv := relX_valid a b c d
  have hw : RelW (relX (relW a b c d)) := ⟨rfl, rfl, fun p hp => by cases hp⟩
  obtain ⟨b1, b2⟩ := okP_of _ hv hw
  have b3 : (bytesR (relX (relW a b c d))).length ≤ 1000000 := by have := (bytesR_le _ hv hw).2; omega
  have c3 := (bytesR_spec (relX (relW a b c d)) hv).weak (Γ := Γh)
  have f1 := (relW_facts a b c d).1
  clear hv hw
  generalize relW a b c d = r at c2 c3 b1 b2 b3 f1
  generalize bytesR (relX r) = bz at c3 b1 b2 b3
  obtain ⟨gn, hgn⟩ : ∃ gn : List Int, gn = if m3 = true then [r.version] else [] := ⟨_, rfl⟩
  obtain ⟨fl, hfl⟩ : ∃ fl : Int, fl = if m2 = true then r.version + 1 else 0 := ⟨_, rfl⟩
  obtain ⟨mk, hmk⟩ : ∃ mk : UInt8, mk = if m1 = true then 6 else 1 := ⟨_, rfl⟩
  obtain ⟨nw, hnw⟩ : ∃ nw : Int, nw = if m0 = true then 101 else 100 := ⟨_, rfl⟩
  obtain ⟨wn, hwn⟩ : ∃ wn : Int, wn = if m0 = true then 271 else if m1 = true then 270 else if m2 = true then 272 else if m3 = true then 273 else 0 := ⟨_, rfl⟩
  have hen : enB (rootM 1 1 0) nmRel bz (sgd bz mk 0 3) = !m1 := by rw [hmk]; exact enB_one bz m1
  have hE : accE ⟨rootM 1 1 0, fl, gn, nw⟩ bz (sgd bz mk 0 3) = wn := by
    unfold accE
    rw [b1, b2, hgn, hfl, hnw, hwn]
    dsimp only
    rw [hen]
    obtain ⟨v1, _⟩ := f1
    cases m0 <;> cases m1 <;> cases m2 <;> cases m3 <;> simp [rootM, minV] <;> omega
  have c4 := signed_spec bz b3 mk 0 (by omega) (by omega)
  have hgl : gn.length ≤ 1 := by rw [hgn]; split <;> simp
  have c5 := laccept_spec ⟨rootM 1 1 0, fl, gn, nw⟩ bz (sgd bz mk 0 3) (fun _ => roleOk_sgd 1 1 0 bz mk b3) (by dsimp only; omega) (by rw [b2]; exact Nat.zero_le _)
  obtain ⟨q, hq⟩ : ∃ q, q = (raw.drop 0).take ((minV ((EV.u8 raw).len : Int) 30).toNat - 0) := ⟨_, rfl⟩
  have hqn : 0 ≤ minV ((EV.u8 raw).len : Int) 30 := by unfold minV; split <;> omega
  have hqm : 0 ≤ (minV ((EV.u8 raw).len : Int) 30).toNat ∧ (minV ((EV.u8 raw).len : Int) 30).toNat ≤ (EV.u8 raw).len := by unfold minV; split <;> omega
  have hql : q.length ≤ 30 := by
    rw [hq, List.length_take]
    have : minV ((EV.u8 raw).len : Int) 30 ≤ 30 := by unfold minV; split <;> omega
    omega
  have hqk := okP_short q hql
  have hE2 : accE ⟨rootM 1 1 0, fl, gn, nw⟩ q [] = 260 := by unfold accE; rw [if_pos hqk]
  have c6 := laccept_spec ⟨rootM 1 1 0, fl, gn, nw⟩ q [] (fun h => by rw [hqk] at h; cases h) (by dsimp only; omega) (gone_le q)
  unfold accT accR at c5 c6
  rw [hE, b2] at c5
  rw [hE2, if_neg (by decide), if_neg (by decide)] at c6
  have c7 := same27 ⟨rootM 1 1 0, fl, gn, nw⟩ ⟨rootM 1 1 0, fl, gn, nw⟩
  rw [(trustEq_iff _ _).2 rfl] at c7
  have c8 := same27 ⟨rootM 1 1 0, maxV fl (relX r).floor, goneU gn (relX r).gone, nw⟩ ⟨rootM 1 1 0, fl, gn, nw⟩
  generalize trustEq _ _ = tq at c8
  dsimp only at c5 c8
  subst hq
  clear hE hE2 hen hqk hql b1 b2 hgl
  cases m0 <;> cases m1 <;> cases m2 <;> cases m3 <;> simp only [if_true, if_false, Bool.false_eq_true] at hgn hfl hmk hnw hwn <;> subst hgn hfl hmk hnw hwn <;> simp only [if_true, show ¬ ((271 : Int) = 0) by decide, show ¬ ((270 : Int) = 0) by decide, show ¬ ((272 : Int) = 0) by decide, show ¬ ((273 : Int) = 0) by decide, if_false] at c5
  all_goals refine Fun.mk 7 Tryz.func8 rfl Tryz.ntmps8 rfl rfl fun T w0 => ?_
  repeat' (first
    | ((with_reducible apply Sat.freezeC2 4); exact rfl; exact rfl; ((repeat' (first | exact AllP.nil | with_reducible refine AllP.cons ?_ ?_)) <;> first | exact rfl | exact trivial | exact .inl ⟨rfl, rfl, rfl⟩ | exact ⟨rfl, rfl, rfl, rfl⟩ | (intro _ _; simp [pureL, pureS, pureE]; done)))
    | ((with_reducible apply Sat.run (X := X64)); exact rfl; (first | exact True.intro | (exact phi) | skip))
    | ((with_reducible apply Sat.drawn); kernel_rfl)
    | ((with_reducible apply DSat.run (X := X64)); exact rfl; (first | exact True.intro | (exact phi) | skip))
    | ((with_reducible apply DSat.fin); kernel_rfl)
    | ((with_reducible apply Sat.cond_t); exact rfl)
    | ((with_reducible apply Sat.cond_f); exact rfl)
    | ((with_reducible apply Sat.call0 (c0)); exact rfl; exact rfl; kernel_rfl; exact rfl)
    | ((with_reducible apply Sat.call (c1)); exact rfl; exact rfl; kernel_rfl; (exact cnvX); exact rfl)
    | ((with_reducible apply Sat.call (c2)); exact rfl; exact rfl; kernel_rfl; (exact cnvX); exact rfl)
    | ((with_reducible apply Sat.call (c3)); exact rfl; exact rfl; kernel_rfl; (exact cnvX); exact rfl)
    | ((with_reducible apply DSat.call (c4)); exact rfl; exact rfl; kernel_rfl; (exact cnvX); exact rfl)
    | ((with_reducible apply DSat.call (c5)); exact rfl; exact rfl; kernel_rfl; (exact cnvX); exact rfl)
    | ((with_reducible apply DSat.call (c6)); exact rfl; exact rfl; kernel_rfl; (exact cnvX); exact rfl)
    | ((with_reducible apply Sat.callG1 (c7)); exact rfl; exact rfl; exact rfl; exact rfl; kernel_rfl; (intro hG; (exact cnvX)); exact rfl)
    | ((with_reducible apply Sat.callG1 (c8)); exact rfl; exact rfl; exact rfl; exact rfl; kernel_rfl; (intro hG; (exact cnvX)); exact rfl) | fail)
  all_goals first | exact AllP.cons hqn (AllP.cons hqm AllP.nil) | skip
  all_goals (refine Sat.fin (Sat.end1 rfl rfl rfl True.intro (.refl _ purX) (by first | exact .inl rfl | exact .inr rfl) (fun _ h => h)) ?_; (first | rfl | (simp; done)))
end Go.Proofs.YtokaegeediokoaaGreatDoor
end
section
namespace Go.Proofs.YtokaegeediokoaaGreatDoor
open Go.RowKit Go.ChangeShapes Go.WideShapes V
set_option maxRecDepth 100000
set_option maxHeartbeats 8000000
theorem trustErrors_step (os : Os) (started : os.Started) (H : Type) (enc : TypeId × Value → H) (F : Stop.Interp) :
    ReturnsInHanded {} Tryz.checked os 8 .any ((OpenSpec.ofChange Rows.trustErrorsSpec).preRow enc Tryz.prog Tryz.f8 Rows.trustErrorsRow.domain false Rows.trustErrorsRow.laid) (((OpenSpec.ofChange Rows.trustErrorsSpec).at F).post enc Tryz.prog Tryz.f8 false true false false) := by
  refine law_step (C := Tryz.checked) (fn := Tryz.f8) (s := OpenSpec.ofChange Rows.trustErrorsSpec) (F := F) (tb := 4) Γh own started (by kernel_rfl) Tryz.func8 laidOut (by kernel_rfl) (by kernel_rfl) (by kernel_rfl) Tryz.underlying4 rfl ?_
    (row_witness (World.laidAll Tryz.prog os tabs_laid) #[.slice none 0 0, .agg #[.int .u8 0, .int .u8 0, .int .u8 0, .int .u8 0], .agg #[.bool false, .bool false, .bool false, .bool false]] (World.laidAll_os _ _ _) (by kernel_rfl) (by kernel_rfl) (by kernel_rfl) (by kernel_rfl) (by kernel_rfl) (door_met os _)) tabs_glob ?_
  · intro ds hl
    obtain ⟨d1, d2, d3, rfl⟩ := list_len3 hl
    rfl
  · intro W vs ds hl ht hk
    obtain ⟨d1, d2, d3, rfl⟩ := list_len3 hl
    refine Fun.facts fun hf => ?_
    show Fun _ _ _ [.ro (.u8 ((eOf d1).map u8Of)), .agg [.int .u8 (iOf (nthD (ptsD d2) 0)), .int .u8 (iOf (nthD (ptsD d2) 1)), .int .u8 (iOf (nthD (ptsD d2) 2)), .int .u8 (iOf (nthD (ptsD d2) 3))], .agg [.bool (bOf (nthD (ptsD d3) 0)), .bool (bOf (nthD (ptsD d3) 1)), .bool (bOf (nthD (ptsD d3) 2)), .bool (bOf (nthD (ptsD d3) 3))]] _
    obtain ⟨_, ⟨h1, h2, h3, h4, _⟩, _⟩ := hf
    rw [u8Of_i _ h1, u8Of_i _ h2, u8Of_i _ h3, u8Of_i _ h4]
    exact errors_law _ _ _ _ _ _ _ _ _
theorem trustErrors_said : Rows.TrustErrorsSaid :=
  OpenClaim.holds_of_cond 8 Tryz.f8 rfl rfl rfl rfl rfl rfl rfl ⟨rfl, rfl, rfl, rfl, rfl⟩ rfl rfl rfl rfl rfl (by kernel_rfl) Tryz.func8 (by kernel_rfl)
    (of_decide_eq_true (by kernel_rfl)) (by unfold Func.isWrapper; first | (rw [if_pos (by decide +kernel)]; kernel_rfl) | (rw [if_neg (by decide +kernel)]; exact ⟨rfl, rfl⟩))
    (fun os started H enc _ F => by rw [OpenClaim.pre_eq_preRow]; exact trustErrors_step os started H enc F)
theorem trustErrors_plain (f : FuncId) (fn : Func) (hf : Tryz.pinned.checked.prog.funcNamed "inlay/inlaylaw27.TrustErrors" = some f) (hfn : Tryz.pinned.checked.prog.funcs[f]? = some fn) :
    false = Tryz.pinned.checked.prog.looks [] ∧ ∀ (j : Nat) t, fn.params[j]? = some t → Tryz.pinned.checked.prog.wantsStandIn t = false := by
  obtain rfl : f = 8 := Option.some.inj ((show Tryz.prog.funcNamed "inlay/inlaylaw27.TrustErrors" = some 8 by kernel_rfl).symm.trans hf) |>.symm
  obtain rfl : fn = Tryz.f8 := (Option.some.inj (Tryz.func8.symm.trans hfn)).symm
  refine ⟨by kernel_rfl, fun j t ht => ?_⟩
  have hall : Tryz.f8.params.all (fun t => !(Tryz.prog.wantsStandIn t)) = true := by kernel_rfl
  have := (Array.all_eq_true_iff_forall_mem.1 hall) t (Array.mem_of_getElem? ht)
  have h2 : Tryz.prog.wantsStandIn t = false := by simpa using this
  exact h2
theorem trustErrors_card : Rows.TrustErrorsCardSaid :=
  Claim7.holds_tied_plain_at .later [] _ _ _ _ trustErrors_said (fun _ h => by cases h) (by kernel_rfl) (fun _ h => by cases h) trustErrors_row_tie rfl ⟨rfl, rfl⟩ (by kernel_rfl) rfl trustErrors_plain (by kernel_rfl)
end Go.Proofs.YtokaegeediokoaaGreatDoor
end
