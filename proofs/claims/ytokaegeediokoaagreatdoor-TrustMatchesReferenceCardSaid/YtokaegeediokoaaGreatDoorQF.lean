/-
  Joined texts: TK: Trust: MatchesReference.
  Z1: The law inlaylaw27.TrustMatchesReference returns true for every input, and each argument reads behind the call as it read before: Count, Accept and Allows return the results of the reference.
  Conditions: the package variables that the row lists hold, when the call begins, what the program's text lays there (the card ties them); no other narrowing.
-/
import Derived.Test.YtokaegeediokoaaGreatDoorQE
import Derived.Test.YtokaegeediokoaaGreatDoorQC
import Derived.SevenTiedAt
section
namespace Go.Proofs.YtokaegeediokoaaGreatDoor
open Go.RowKit V
set_option maxRecDepth 100000
set_option maxHeartbeats 8000000
set_option linter.unusedSimpArgs false
section
variable {C : V.Ctx} {Q0 : Exit → Act → World → Prop} {F F' : V.Tr} {M M' : V.Mem} {ids : List Nat} {k : List V.Kont} {c : Code}
theorem V.Sat.freezeC1 {φ : List Prop} (id : Nat) (_hs : (find M id).isSome = true) (hz : frz C.wide C.pins ids true id F M = some ⟨F', M', φ⟩) (hφ : AllP φ) (hn : Sat C Q0 (.code c F' M' ids k)) : Sat C Q0 (.code c F M ids k) := Sat.freezeC true id hz hφ hn
end
attribute [local irreducible] V.Sat V.DSat
theorem matches_core (a b c d v0 v1 v2 v3 m0 m1 m2 : UInt8) (gn : List Int) (hg : ((m1.toNat : Int) % 4 = 0 ∧ gn = [(m2.toNat : Int) % 24]) ∨ (¬ (m1.toNat : Int) % 4 = 0 ∧ gn = [])) : Fun Tryz.prog Γh 3 [w4 a b c d, w4 v0 v1 v2 v3, .agg [.int .u8 (m0.toNat : Int), .int .u8 (m1.toNat : Int), .int .u8 (m2.toNat : Int)]] (.bool true) := by
  have c0 := sanity_law
  have c1 := rroot_spec 1 v0 v1
  have c2 := rrel_spec (Γ := Γh) a b c d
  obtain ⟨b1, b2, b3⟩ := relW_body a b c d
  have f4 := (relW_facts a b c d).2.2.2.1
  have c3 := (bytesR_spec (relW a b c d) (relW_valid a b c d)).weak (Γ := Γh)
  generalize relW a b c d = r at c2 c3 b1 b2 b3 f4
  generalize bytesR r = bz at c3 b1 b2 b3
  have c4 := signed_spec bz b3 m0 0 (by omega) (by omega)
  have hlen := rolK_len v0 3
  have hrl : (0 : Int) < ((rootM 1 v0 v1).roles.length : Int) := Int.natCast_pos.2 (Nat.zero_lt_succ 1)
  have c5 := count_some (rootM 1 v0 v1) nmRel bz (sgd bz m0 0 3) 0 (Nat.zero_lt_succ 1) (by omega) (fnd_rel 1 v0 v1) (cntOk_sgd bz v0 m0 b3)
  have c6 := rcount_some (rootM 1 v0 v1) nmRel bz (sgd bz m0 0 3) 0 (Nat.zero_lt_succ 1) (by omega) (fnd_rel 1 v0 v1) (rol_len 1 v0 v1 0) (cntOk_sgd bz v0 m0 b3)
  rw [show (cntS (rootM 1 v0 v1).keys ((rootM 1 v0 v1).roles.getD 0 role0).keys bz (sgd bz m0 0 3) (sgd bz m0 0 3).length).length = memN (rolK v0 3) m0 (rolK v0 3).length from cntS_sgd bz v0 m0] at c5
  rw [show cntR (rootM 1 v0 v1).keys bz (sgd bz m0 0 3) ((rootM 1 v0 v1).roles.getD 0 role0).keys ((rootM 1 v0 v1).roles.getD 0 role0).keys.length = memN (rolK v0 3) m0 (rolK v0 3).length from cntR_sgd bz v0 m0] at c6
  generalize memN (rolK v0 3) m0 (rolK v0 3).length = nm at c5 c6
  have hgl : gn.length ≤ 1 := by rcases hg with ⟨_, rfl⟩ | ⟨_, rfl⟩ <;> simp
  have hT : ∃ t : TrustL, t = ⟨rootM 1 v0 v1, (v2.toNat : Int) % 24, gn, 90 + (v3.toNat : Int) % 16⟩ := ⟨_, rfl⟩
  obtain ⟨t, hT⟩ := hT
  have c7 := laccept_spec t bz (sgd bz m0 0 3) (fun _ => by rw [hT]; exact roleOk_sgd 1 v0 v1 bz m0 b3) (by rw [hT]; dsimp only; omega) (by rw [b2]; omega)
  have c8 := raccept_spec t bz (sgd bz m0 0 3) (fun _ => by rw [hT]; exact roleOk_sgd 1 v0 v1 bz m0 b3) (by rw [hT]; exact rol_len 1 v0 v1) (by rw [hT]; exact renB_sgd 1 v0 v1 bz m0) (union_spec _ _ (by rw [hT]; exact hgl) (by rw [b2]; exact f4))
  generalize accT t bz (sgd bz m0 0 3) = t2 at c7 c8
  generalize accR t bz (sgd bz m0 0 3) = r2 at c7 c8
  generalize accE t bz (sgd bz m0 0 3) = e2 at c7 c8
  have c9 := sameacc t2 t2 r2 r2 e2 e2
  rw [accEq_refl] at c9
  have c10 := allows_spec t ((m2.toNat : Int) - 1)
  have c11 := rallows_ref (Γ := Γh) t ((m2.toNat : Int) - 1)
  have c12 := allows_spec t2 ((a.toNat : Int) % 24)
  have c13 := rallows_ref (Γ := Γh) t2 ((a.toNat : Int) % 24)
  generalize allowB t ((m2.toNat : Int) - 1) = q1 at c10 c11
  generalize allowB t2 ((a.toNat : Int) % 24) = q2 at c12 c13
  have ha := a.toNat_lt
  have hv2 := v2.toNat_lt
  have hv3 := v3.toNat_lt
  have hm1 := m1.toNat_lt
  have hm2 := m2.toNat_lt
  clear b1 b2
  subst hT
  generalize hro : rootM 1 v0 v1 = ro at c1 c5 c6 c7 c8 c10 c11
  clear hro hrl
  rcases hg with ⟨h1, rfl⟩ | ⟨h1, rfl⟩
  · refine Fun.mk 7 Tryz.func3 rfl Tryz.ntmps3 rfl rfl fun T w0 => ?_
    repeat' (first
      | ((with_reducible apply Sat.freezeC1 4); exact rfl; exact rfl; ((repeat' (first | exact AllP.nil | with_reducible refine AllP.cons ?_ ?_)) <;> first | exact rfl | exact trivial | exact .inl ⟨rfl, rfl, rfl⟩ | exact ⟨rfl, rfl, rfl, rfl⟩ | (intro _ _; simp [pureL, pureS, pureE]; done)))
      | ((with_reducible apply Sat.run (X := X64)); exact rfl; (first | exact True.intro | (exact phi) | skip))
      | ((with_reducible apply Sat.drawn); kernel_rfl)
      | ((with_reducible apply DSat.run (X := X64)); exact rfl; (first | exact True.intro | (exact phi) | skip))
      | ((with_reducible apply DSat.fin); kernel_rfl)
      | ((with_reducible apply Sat.cond_pt); exact rfl; (try dsimp only [V.EV.sub, V.EV.len]); first | assumption | omega)
      | ((with_reducible apply Sat.call0 (c0)); exact rfl; exact rfl; kernel_rfl; exact rfl)
      | ((with_reducible apply DSat.call (c1)); exact rfl; exact rfl; kernel_rfl; (exact cnvX); exact rfl)
      | ((with_reducible apply DSat.call (c2)); exact rfl; exact rfl; kernel_rfl; (exact cnvX); exact rfl)
      | ((with_reducible apply DSat.call (c3)); exact rfl; exact rfl; kernel_rfl; (exact cnvX); exact rfl)
      | ((with_reducible apply DSat.call (c4)); exact rfl; exact rfl; kernel_rfl; (exact cnvX); exact rfl)
      | ((with_reducible apply Sat.callR (c5)); exact rfl; exact rfl; exact rfl; kernel_rfl; (exact cnvX); exact rfl)
      | ((with_reducible apply Sat.callR (c6)); exact rfl; exact rfl; exact rfl; kernel_rfl; (exact cnvX); exact rfl)
      | ((with_reducible apply DSat.call (c7)); exact rfl; exact rfl; kernel_rfl; (exact cnvX); exact rfl)
      | ((with_reducible apply DSat.call (c8)); exact rfl; exact rfl; kernel_rfl; (exact cnvX); exact rfl)
      | ((with_reducible apply DSat.callG1 (c9)); exact rfl; exact rfl; exact rfl; exact rfl; kernel_rfl; (intro hG; (exact cnvX)); exact rfl)
      | ((with_reducible apply DSat.callG1 (c10)); exact rfl; exact rfl; exact rfl; exact rfl; kernel_rfl; (intro hG; (exact cnvX)); exact rfl)
      | ((with_reducible apply DSat.callG1 (c11)); exact rfl; exact rfl; exact rfl; exact rfl; kernel_rfl; (intro hG; (exact cnvX)); exact rfl)
      | ((with_reducible apply DSat.callG1 (c12)); exact rfl; exact rfl; exact rfl; exact rfl; kernel_rfl; (intro hG; (exact cnvX)); exact rfl)
      | ((with_reducible apply DSat.callG1 (c13)); exact rfl; exact rfl; exact rfl; exact rfl; kernel_rfl; (intro hG; (exact cnvX)); exact rfl) | fail)
    (refine Sat.fin (Sat.end1 rfl rfl rfl True.intro (.refl _ purX) (by first | exact .inl rfl | exact .inr rfl) (fun _ h => h)) ?_; (simp; done))
  · refine Fun.mk 7 Tryz.func3 rfl Tryz.ntmps3 rfl rfl fun T w0 => ?_
    repeat' (first
      | ((with_reducible apply Sat.run (X := X64)); exact rfl; (first | exact True.intro | (exact phi) | skip))
      | ((with_reducible apply Sat.drawn); kernel_rfl)
      | ((with_reducible apply DSat.run (X := X64)); exact rfl; (first | exact True.intro | (exact phi) | skip))
      | ((with_reducible apply DSat.fin); kernel_rfl)
      | ((with_reducible apply Sat.cond_pf); exact rfl; (try dsimp only [V.EV.sub, V.EV.len]); first | assumption | omega)
      | ((with_reducible apply Sat.call0 (c0)); exact rfl; exact rfl; kernel_rfl; exact rfl)
      | ((with_reducible apply DSat.call (c1)); exact rfl; exact rfl; kernel_rfl; (exact cnvX); exact rfl)
      | ((with_reducible apply DSat.call (c2)); exact rfl; exact rfl; kernel_rfl; (exact cnvX); exact rfl)
      | ((with_reducible apply DSat.call (c3)); exact rfl; exact rfl; kernel_rfl; (exact cnvX); exact rfl)
      | ((with_reducible apply DSat.call (c4)); exact rfl; exact rfl; kernel_rfl; (exact cnvX); exact rfl)
      | ((with_reducible apply Sat.callR (c5)); exact rfl; exact rfl; exact rfl; kernel_rfl; (exact cnvX); exact rfl)
      | ((with_reducible apply Sat.callR (c6)); exact rfl; exact rfl; exact rfl; kernel_rfl; (exact cnvX); exact rfl)
      | ((with_reducible apply DSat.call (c7)); exact rfl; exact rfl; kernel_rfl; (exact cnvX); exact rfl)
      | ((with_reducible apply DSat.call (c8)); exact rfl; exact rfl; kernel_rfl; (exact cnvX); exact rfl)
      | ((with_reducible apply DSat.callG1 (c9)); exact rfl; exact rfl; exact rfl; exact rfl; kernel_rfl; (intro hG; (exact cnvX)); exact rfl)
      | ((with_reducible apply DSat.callG1 (c10)); exact rfl; exact rfl; exact rfl; exact rfl; kernel_rfl; (intro hG; (exact cnvX)); exact rfl)
      | ((with_reducible apply DSat.callG1 (c11)); exact rfl; exact rfl; exact rfl; exact rfl; kernel_rfl; (intro hG; (exact cnvX)); exact rfl)
      | ((with_reducible apply DSat.callG1 (c12)); exact rfl; exact rfl; exact rfl; exact rfl; kernel_rfl; (intro hG; (exact cnvX)); exact rfl)
      | ((with_reducible apply DSat.callG1 (c13)); exact rfl; exact rfl; exact rfl; exact rfl; kernel_rfl; (intro hG; (exact cnvX)); exact rfl) | fail)
    (refine Sat.fin (Sat.end1 rfl rfl rfl True.intro (.refl _ purX) (by first | exact .inl rfl | exact .inr rfl) (fun _ h => h)) ?_; (simp; done))
theorem matches_law (a b c d v0 v1 v2 v3 m0 m1 m2 : UInt8) : Fun Tryz.prog Γh 3 [w4 a b c d, w4 v0 v1 v2 v3, .agg [.int .u8 (m0.toNat : Int), .int .u8 (m1.toNat : Int), .int .u8 (m2.toNat : Int)]] (.bool true) := by
  by_cases h : (m1.toNat : Int) % 4 = 0
  · exact matches_core a b c d v0 v1 v2 v3 m0 m1 m2 _ (.inl ⟨h, rfl⟩)
  · exact matches_core a b c d v0 v1 v2 v3 m0 m1 m2 _ (.inr ⟨h, rfl⟩)
end Go.Proofs.YtokaegeediokoaaGreatDoor
end
section
namespace Go.Proofs.YtokaegeediokoaaGreatDoor
open Go.RowKit Go.ChangeShapes Go.WideShapes V
set_option maxRecDepth 100000
set_option maxHeartbeats 8000000
theorem trustMatchesReference_step (os : Os) (started : os.Started) (H : Type) (enc : TypeId × Value → H) (F : Stop.Interp) :
    ReturnsInHanded {} Tryz.checked os 3 .any ((OpenSpec.ofChange Rows.trustMatchesReferenceSpec).preRow enc Tryz.prog Tryz.f3 Rows.trustMatchesReferenceRow.domain false Rows.trustMatchesReferenceRow.laid) (((OpenSpec.ofChange Rows.trustMatchesReferenceSpec).at F).post enc Tryz.prog Tryz.f3 false true false false) := by
  refine law_step (C := Tryz.checked) (fn := Tryz.f3) (s := OpenSpec.ofChange Rows.trustMatchesReferenceSpec) (F := F) (tb := 4) Γh own started (by kernel_rfl) Tryz.func3 laidOut (by kernel_rfl) (by kernel_rfl) (by kernel_rfl) Tryz.underlying4 rfl ?_
    (row_witness (World.laidAll Tryz.prog os tabs_laid) #[.agg #[.int .u8 0, .int .u8 0, .int .u8 0, .int .u8 0], .agg #[.int .u8 0, .int .u8 0, .int .u8 0, .int .u8 0], .agg #[.int .u8 0, .int .u8 0, .int .u8 0]] (World.laidAll_os _ _ _) (by kernel_rfl) (by kernel_rfl) (by kernel_rfl) (by kernel_rfl) (by kernel_rfl) (door_met os _)) tabs_glob ?_
  · intro ds hl
    obtain ⟨d1, d2, d3, rfl⟩ := list_len3 hl
    rfl
  · intro W vs ds hl ht hk
    obtain ⟨d1, d2, d3, rfl⟩ := list_len3 hl
    refine Fun.facts fun hf => ?_
    show Fun _ _ _ [.agg [.int .u8 (iOf (nthD (ptsD d1) 0)), .int .u8 (iOf (nthD (ptsD d1) 1)), .int .u8 (iOf (nthD (ptsD d1) 2)), .int .u8 (iOf (nthD (ptsD d1) 3))], .agg [.int .u8 (iOf (nthD (ptsD d2) 0)), .int .u8 (iOf (nthD (ptsD d2) 1)), .int .u8 (iOf (nthD (ptsD d2) 2)), .int .u8 (iOf (nthD (ptsD d2) 3))], .agg [.int .u8 (iOf (nthD (ptsD d3) 0)), .int .u8 (iOf (nthD (ptsD d3) 1)), .int .u8 (iOf (nthD (ptsD d3) 2))]] _
    obtain ⟨⟨h1, h2, h3, h4, _⟩, ⟨k1, k2, k3, k4, _⟩, ⟨l1, l2, l3, _⟩, _⟩ := hf
    rw [u8Of_i _ h1, u8Of_i _ h2, u8Of_i _ h3, u8Of_i _ h4, u8Of_i _ k1, u8Of_i _ k2, u8Of_i _ k3, u8Of_i _ k4, u8Of_i _ l1, u8Of_i _ l2, u8Of_i _ l3]
    exact matches_law _ _ _ _ _ _ _ _ _ _ _
theorem trustMatchesReference_said : Rows.TrustMatchesReferenceSaid :=
  OpenClaim.holds_of_cond 3 Tryz.f3 rfl rfl rfl rfl rfl rfl rfl ⟨rfl, rfl, rfl, rfl, rfl⟩ rfl rfl rfl rfl rfl (by kernel_rfl) Tryz.func3 (by kernel_rfl)
    (of_decide_eq_true (by kernel_rfl)) (by unfold Func.isWrapper; first | (rw [if_pos (by decide +kernel)]; kernel_rfl) | (rw [if_neg (by decide +kernel)]; exact ⟨rfl, rfl⟩))
    (fun os started H enc _ F => by rw [OpenClaim.pre_eq_preRow]; exact trustMatchesReference_step os started H enc F)
theorem trustMatchesReference_plain (f : FuncId) (fn : Func) (hf : Tryz.pinned.checked.prog.funcNamed "inlay/inlaylaw27.TrustMatchesReference" = some f) (hfn : Tryz.pinned.checked.prog.funcs[f]? = some fn) :
    false = Tryz.pinned.checked.prog.looks [] ∧ ∀ (j : Nat) t, fn.params[j]? = some t → Tryz.pinned.checked.prog.wantsStandIn t = false := by
  obtain rfl : f = 3 := Option.some.inj ((show Tryz.prog.funcNamed "inlay/inlaylaw27.TrustMatchesReference" = some 3 by kernel_rfl).symm.trans hf) |>.symm
  obtain rfl : fn = Tryz.f3 := (Option.some.inj (Tryz.func3.symm.trans hfn)).symm
  refine ⟨by kernel_rfl, fun j t ht => ?_⟩
  have hall : Tryz.f3.params.all (fun t => !(Tryz.prog.wantsStandIn t)) = true := by kernel_rfl
  have := (Array.all_eq_true_iff_forall_mem.1 hall) t (Array.mem_of_getElem? ht)
  have h2 : Tryz.prog.wantsStandIn t = false := by simpa using this
  exact h2
theorem trustMatchesReference_card : Rows.TrustMatchesReferenceCardSaid :=
  Claim7.holds_tied_plain_at .later [] _ _ _ _ trustMatchesReference_said (fun _ h => by cases h) (by kernel_rfl) (fun _ h => by cases h) trustMatchesReference_row_tie rfl ⟨rfl, rfl⟩ (by kernel_rfl) rfl trustMatchesReference_plain (by kernel_rfl)
end Go.Proofs.YtokaegeediokoaaGreatDoor
end
