/-
  Joined texts: TO: Trust, plain: signatures that are repeated, turned, or name other keys.
  TQ: Trust: Repeats.
  TR: Trust: Repeats.
  Z3: The law inlaylaw27.TrustRepeats returns true for every input, and each argument reads behind the call as it read before: signatures that are repeated, that name other keys, or that stand in another order do not change how many keys sign.
  Conditions: the package variables that the row lists hold, when the call begins, what the program's text lays there (the card ties them); no other narrowing.
-/
import Derived.Test.YtokaegeediokoaaGreatDoorQE
import Derived.Test.YtokaegeediokoaaGreatDoorQC
import Derived.SevenTiedAt
section
namespace Go.Proofs.YtokaegeediokoaaGreatDoor
open Go.RowKit V
def four (s : SigL) (a b : Int) : List SigL := [s, ⟨a, s.ch⟩, s, ⟨b, s.ch⟩]
def trn (l : List SigL) (a b : Int) : Nat → List SigL
  | 0 => []
  | k + 1 => trn l a b k ++ four (l.getD (l.length - 1 - k) sig0) a b
theorem trn_len (l : List SigL) (a b : Int) : ∀ k, (trn l a b k).length = 4 * k
  | 0 => rfl
  | k + 1 => by rw [trn, List.length_append, trn_len l a b k]; rfl
theorem four_any (p : SigL → Bool) (s : SigL) (a b : Int) (ha : ∀ ch, p ⟨a, ch⟩ = false) (hb : ∀ ch, p ⟨b, ch⟩ = false) : (four s a b).any p = p s := by
  unfold four
  simp only [List.any_cons, List.any_nil, ha, hb]
  cases p s <;> rfl
theorem trn_any (p : SigL → Bool) (l : List SigL) (a b : Int) (ha : ∀ ch, p ⟨a, ch⟩ = false) (hb : ∀ ch, p ⟨b, ch⟩ = false) : ∀ k, k ≤ l.length → (trn l a b k).any p = (l.drop (l.length - k)).any p
  | 0, _ => by simp [trn]
  | k + 1, h => by
    rw [trn, List.any_append, trn_any p l a b ha hb k (by omega), four_any p _ a b ha hb]
    have hi : l.length - (k + 1) < l.length := by omega
    rw [List.drop_eq_getElem_cons hi, List.any_cons, show l.length - (k + 1) + 1 = l.length - k by omega, show l.length - 1 - k = l.length - (k + 1) by omega]
    rw [List.getD_eq_getElem?_getD, List.getElem?_eq_getElem hi, Option.getD_some, Bool.or_comm]
theorem sgnB_trn (ks : List (List UInt8)) (body : List UInt8) (l : List SigL) (a b k : Int) (ha : a ≠ k) (hb : b ≠ k) : sgnB ks body (trn l a b l.length) k = sgnB ks body l k := by
  unfold sgnB
  rw [trn_any _ l a b (fun ch => by unfold sgnP; dsimp only; rw [decide_eq_false ha]; rfl) (fun ch => by unfold sgnP; dsimp only; rw [decide_eq_false hb]; rfl) l.length (Nat.le_refl _), Nat.sub_self, List.drop_zero]
end Go.Proofs.YtokaegeediokoaaGreatDoor
end
section
namespace Go.Proofs.YtokaegeediokoaaGreatDoor
open Go.RowKit V
set_option maxRecDepth 100000
set_option maxHeartbeats 8000000
set_option linter.unusedSimpArgs false
theorem cntOk_trn (b : List UInt8) (m m2 : UInt8) (x y : Int) (hb : b.length ≤ 1000000) : CntOk keys3 (rolK m 3) b (trn (sgd b m2 0 3) x y (sgd b m2 0 3).length) where
  body := hb
  keys := (cntOk_sgd b m m2 hb).keys
  sigs := by
    have key : ∀ k, k ≤ (sgd b m2 0 3).length → ∀ s ∈ trn (sgd b m2 0 3) x y k, ChOk s.ch := by
      intro k
      induction k with
      | zero => exact fun _ s hs => by cases hs
      | succ k ih =>
        intro hk s hs
        rw [trn, List.mem_append] at hs
        rcases hs with hs | hs
        · exact ih (by omega) s hs
        · have h := sgd_ok b m2 0 3 ((sgd b m2 0 3).length - 1 - k) (by omega)
          simp only [four, List.mem_cons, List.not_mem_nil, or_false] at hs
          rcases hs with rfl | rfl | rfl | rfl <;> exact h
    intro i hi
    refine key _ (Nat.le_refl _) _ ?_
    rw [List.getD_eq_getElem?_getD, List.getElem?_eq_getElem hi]
    exact List.getElem_mem _
  many := by rw [trn_len]; have := sgd_len b m2 0 3; omega
theorem cntS_trn (b : List UInt8) (m m2 : UInt8) (x y : Int) (hx : 3 ≤ x) (hy : y < 0) : (cntS keys3 (rolK m 3) b (trn (sgd b m2 0 3) x y (sgd b m2 0 3).length) (trn (sgd b m2 0 3) x y (sgd b m2 0 3).length).length).length = memN (rolK m 3) m2 (rolK m 3).length := by
  rw [cntS_eq _ _ _ _ (str_nodup (rolK_str m 3)), ← filter_sgd b m m2]
  refine congrArg List.length (List.filter_congr fun k hk => ?_)
  obtain ⟨h0, h1⟩ := rolK_rng m 3 k hk
  exact sgnB_trn _ _ _ _ _ _ (by omega) (by omega)
end Go.Proofs.YtokaegeediokoaaGreatDoor
end
section
namespace Go.Proofs.YtokaegeediokoaaGreatDoor
open Go.RowKit V
set_option maxRecDepth 100000
set_option maxHeartbeats 8000000
set_option linter.unusedSimpArgs false
theorem trn_E (L : List SigL) (x y : Int) (k : Nat) (s : SigL) (hs : L.getD (L.length - 1 - k) sig0 = s) : ∀ i, i < (trn L x y k).length + 4 → (if i < (trn L x y k).length then (fun i => ((trn L x y k).getD i sig0).v) i else (fun i => nthL [s.v, SigL.v ⟨x, s.ch⟩, s.v, SigL.v ⟨y, s.ch⟩] (0 + i)) (i - (trn L x y k).length)) = ((trn L x y (k + 1)).getD i sig0).v := by
  intro i hi
  rw [trn, hs]
  generalize trn L x y k = l at hi ⊢
  by_cases h : i < l.length
  · rw [if_pos h, List.getD_eq_getElem?_getD (l := l ++ _), List.getElem?_append_left h, ← List.getD_eq_getElem?_getD]
  · rw [if_neg h, List.getD_eq_getElem?_getD, List.getElem?_append_right (by omega), ← List.getD_eq_getElem?_getD]
    have h4 : i - l.length < 4 := by omega
    generalize i - l.length = j at h4
    dsimp only
    rw [Nat.zero_add]
    rcases j with _ | _ | _ | _ | j <;> first | rfl | omega
attribute [local irreducible] V.Sat V.DSat
theorem repeats_core (a b c d mask m0 m1 : UInt8) : Fun Tryz.prog Γh 5 [w4 a b c d, .int .u8 (mask.toNat : Int), .agg [.int .u8 (m0.toNat : Int), .int .u8 (m1.toNat : Int)]] (.bool true) := by
  have c0 := sanity_law
  have c1 := rroot_spec 1 mask 0
  have c2 := rrel_spec (Γ := Γh) a b c d
  obtain ⟨b1, b2, b3⟩ := relW_body a b c d
  have c3 := (bytesR_spec (relW a b c d) (relW_valid a b c d)).weak (Γ := Γh)
  generalize relW a b c d = r at c2 c3 b1 b2 b3
  generalize bytesR r = bz at c3 b1 b2 b3
  have c4 := signed_spec bz b3 m0 0 (by omega) (by omega)
  have c5 := count_some (rootM 1 mask 0) nmRel bz (sgd bz m0 0 3) 0 (Nat.zero_lt_succ 1) (by omega) (fnd_rel 1 mask 0) (cntOk_sgd bz mask m0 b3)
  rw [show (cntS (rootM 1 mask 0).keys ((rootM 1 mask 0).roles.getD 0 role0).keys bz (sgd bz m0 0 3) (sgd bz m0 0 3).length).length = memN (rolK mask 3) m0 (rolK mask 3).length from cntS_sgd bz mask m0] at c5
  have hm1 := m1.toNat_lt
  have hok := cntOk_trn bz mask m0 (3 + (m1.toNat : Int)) (-1 - (m1.toNat : Int)) b3
  have e6 := cntS_trn bz mask m0 (3 + (m1.toNat : Int)) (-1 - (m1.toNat : Int)) (by omega) (by omega)
  have hl3 := sgd_len bz m0 0 3
  generalize sgd bz m0 0 3 = L at c4 c5 hok e6 hl3
  have c6 := count_some (rootM 1 mask 0) nmRel bz (trn L (3 + (m1.toNat : Int)) (-1 - (m1.toNat : Int)) L.length) 0 (Nat.zero_lt_succ 1) (by omega) (fnd_rel 1 mask 0) hok
  rw [show (cntS (rootM 1 mask 0).keys ((rootM 1 mask 0).roles.getD 0 role0).keys bz (trn L (3 + (m1.toNat : Int)) (-1 - (m1.toNat : Int)) L.length) (trn L (3 + (m1.toNat : Int)) (-1 - (m1.toNat : Int)) L.length).length).length = memN (rolK mask 3) m0 (rolK mask 3).length from e6] at c6
  have hlen := rolK_len mask 3
  have c7 := members_ref (Γ := Γh) ⟨nmRel, rolK mask 3, 1 + ((0 : UInt8).toNat : Int) % ((rolK mask 3).length : Int)⟩ (UInt8.ofNat (m0.toNat % 8)) (by dsimp only; omega) (fun i hi => by
    have hm : (rolK mask 3).getD i 0 ∈ rolK mask 3 := by
      rw [List.getD_eq_getElem?_getD, List.getElem?_eq_getElem hi]
      exact List.getElem_mem _
    have := rolK_rng mask 3 _ hm
    dsimp only
    omega)
  dsimp only at c7
  rw [memN_mod] at c7
  generalize memN (rolK mask 3) m0 (rolK mask 3).length = nm at c5 c6 c7
  have hmod := mod8 m0
  have hrl : (0 : Int) < ((rootM 1 mask 0).roles.length : Int) := Int.natCast_pos.2 (Nat.zero_lt_succ 1)
  clear e6 hok
  refine Fun.mk 7 Tryz.func5 rfl Tryz.ntmps5 rfl rfl fun T w0 => ?_
  repeat' (first
    | ((with_reducible apply Sat.run (X := X64)); exact rfl; (first | exact True.intro | (exact phi) | skip))
    | ((with_reducible apply Sat.drawn); kernel_rfl)
    | ((with_reducible apply DSat.run (X := X64)); exact rfl; (first | exact True.intro | (exact phi) | skip))
    | ((with_reducible apply DSat.fin); kernel_rfl)
    | ((with_reducible apply Sat.call0 (c0)); exact rfl; exact rfl; kernel_rfl; exact rfl)
    | ((with_reducible apply Sat.call (c1)); exact rfl; exact rfl; kernel_rfl; (exact cnvX); exact rfl)
    | ((with_reducible apply DSat.call (c2)); exact rfl; exact rfl; kernel_rfl; (exact cnvX); exact rfl)
    | ((with_reducible apply DSat.call (c3)); exact rfl; exact rfl; kernel_rfl; (exact cnvX); exact rfl)
    | ((with_reducible apply DSat.call (c4)); exact rfl; exact rfl; kernel_rfl; (exact cnvX); exact rfl)
    | ((with_reducible apply Sat.callR (c5)); exact rfl; exact rfl; exact rfl; kernel_rfl; (exact cnvX); exact rfl) | fail)
  refine Sat.kill [34] rfl ?_
  apply Sat.loop (α := Nat) (fun k => k ≤ L.length) (fun k => L.length - k) 0 (fun k => [(13, .int .i64 ((L.length : Int) - 1 - (k : Int))), (12, .row 4 0 4 0 (4 * k))]) (fun k => [(4, .row 66 (sigsE (trn L (3 + (m1.toNat : Int)) (-1 - (m1.toNat : Int)) k)))]) [] [(4, some 4)] 0
  · intro x; exact rfl
  · intro x; exact rfl
  · exact rfl
  · exact rfl
  · ((repeat' (first | exact AllP.nil | with_reducible refine AllP.cons ?_ ?_)) <;> first | exact rfl | exact trivial | exact Int.natCast_add_one _ | (intro j _; simp [pureL, pureS, pureE]; done) | exact ⟨rfl, rfl, rfl, rfl⟩ | exact (fun i hi => absurd hi (Nat.not_lt_zero _)) | exact (show (L.length : Int) - 1 = (L.length : Int) - 1 - ((0 : Nat) : Int) from by omega))
  · omega
  intro k hk
  by_cases hk2 : k < L.length
  · have hc : (0 : Int) ≤ (L.length : Int) - 1 - (k : Int) := by omega
    have htl : 4 * k = (trn L (3 + (m1.toNat : Int)) (-1 - (m1.toNat : Int)) k).length := (trn_len _ _ _ k).symm
    repeat' (first
      | ((with_reducible apply Sat.run (X := X64)); exact rfl; (first | exact True.intro | (exact phi) | skip))
      | ((with_reducible apply Sat.drawn); kernel_rfl)
      | ((with_reducible apply DSat.run (X := X64)); exact rfl; (first | exact True.intro | (exact phi) | skip))
      | ((with_reducible apply DSat.fin); kernel_rfl)
      | ((with_reducible apply Sat.cond_pt); exact rfl; (try dsimp only [V.EV.sub, V.EV.len]); first | assumption | omega) | fail)
    have hE := trn_E L (3 + (m1.toNat : Int)) (-1 - (m1.toNat : Int)) k (L.getD ((L.length : Int) - 1 - (k : Int)).toNat sig0) (congrArg (fun z => L.getD z sig0) (by omega))
    have hP : pureE (.g ((trn L (3 + (m1.toNat : Int)) (-1 - (m1.toNat : Int)) k).length + 4) 4 fun i => if i < (trn L (3 + (m1.toNat : Int)) (-1 - (m1.toNat : Int)) k).length then (fun i => ((trn L (3 + (m1.toNat : Int)) (-1 - (m1.toNat : Int)) k).getD i sig0).v) i else (fun i => nthL [(L.getD ((L.length : Int) - 1 - (k : Int)).toNat sig0).v, SigL.v ⟨3 + (m1.toNat : Int), (L.getD ((L.length : Int) - 1 - (k : Int)).toNat sig0).ch⟩, (L.getD ((L.length : Int) - 1 - (k : Int)).toNat sig0).v, SigL.v ⟨-1 - (m1.toNat : Int), (L.getD ((L.length : Int) - 1 - (k : Int)).toNat sig0).ch⟩] (0 + i)) (i - (trn L (3 + (m1.toNat : Int)) (-1 - (m1.toNat : Int)) k).length)) := fun i hi => by
      exact Eq.mpr (congrArg pureL (hE i hi)) (sig_pure _)
    have hn4 : (trn L (3 + (m1.toNat : Int)) (-1 - (m1.toNat : Int)) k).length + 4 = (trn L (3 + (m1.toNat : Int)) (-1 - (m1.toNat : Int)) (k + 1)).length := by rw [trn_len, trn_len]; omega
    refine Sat.back (k + 1) [(4, some 6)] rfl ?_ (by omega) (by omega)
    ((repeat' (first | exact AllP.nil | with_reducible refine AllP.cons ?_ ?_)) <;> first | exact rfl | exact trivial | exact Int.natCast_add_one _ | (intro j _; simp [pureL, pureS, pureE]; done) | exact ⟨rfl, rfl, rfl, rfl⟩ | exact hE | exact hP | exact hn4 | (intro _ _; exact sig_pure _) | omega)
  · obtain rfl : k = L.length := by omega
    have hlt := trn_len L (3 + (m1.toNat : Int)) (-1 - (m1.toNat : Int)) L.length
    ((with_reducible apply Sat.run (X := X64)); exact rfl; (first | exact True.intro | (exact phi)))
    ((with_reducible apply Sat.cond_pf); exact rfl; omega)
    refine Sat.freezeC true 4 rfl ?_ ?_
    · (repeat' (first | exact AllP.nil | with_reducible refine AllP.cons ?_ ?_)) <;> first | exact rfl | exact trivial | exact .inl ⟨rfl, hlt.symm, rfl⟩ | exact .inl ⟨rfl, rfl, rfl⟩ | (intro _ _; exact sig_pure _) | (intro _ _; simp [pureL, pureS, pureE]; done) | exact ⟨rfl, rfl, rfl, rfl⟩
    repeat' (first
      | (rw [hmod])
      | ((with_reducible apply Sat.run (X := X64)); exact rfl; (first | exact True.intro | (exact phi) | skip))
      | ((with_reducible apply Sat.drawn); kernel_rfl)
      | ((with_reducible apply DSat.run (X := X64)); exact rfl; (first | exact True.intro | (exact phi) | skip))
      | ((with_reducible apply DSat.fin); kernel_rfl)
      | ((with_reducible apply Sat.call (c6)); exact rfl; exact rfl; kernel_rfl; (exact cnvX); exact rfl)
      | ((with_reducible apply DSat.callG1 (c7)); exact rfl; exact rfl; exact rfl; exact rfl; kernel_rfl; (intro hG; (exact cnvX)); exact rfl) | fail)
    (refine Sat.fin (Sat.end1 rfl rfl rfl True.intro (.refl _ purX) (by first | exact .inl rfl | exact .inr rfl) (fun _ h => h)) ?_; (simp; done))
end Go.Proofs.YtokaegeediokoaaGreatDoor
end
section
namespace Go.Proofs.YtokaegeediokoaaGreatDoor
open Go.RowKit Go.ChangeShapes Go.WideShapes V
set_option maxRecDepth 100000
set_option maxHeartbeats 8000000
theorem trustRepeats_step (os : Os) (started : os.Started) (H : Type) (enc : TypeId × Value → H) (F : Stop.Interp) :
    ReturnsInHanded {} Tryz.checked os 5 .any ((OpenSpec.ofChange Rows.trustRepeatsSpec).preRow enc Tryz.prog Tryz.f5 Rows.trustRepeatsRow.domain false Rows.trustRepeatsRow.laid) (((OpenSpec.ofChange Rows.trustRepeatsSpec).at F).post enc Tryz.prog Tryz.f5 false true false false) := by
  refine law_step (C := Tryz.checked) (fn := Tryz.f5) (s := OpenSpec.ofChange Rows.trustRepeatsSpec) (F := F) (tb := 4) Γh own started (by kernel_rfl) Tryz.func5 laidOut (by kernel_rfl) (by kernel_rfl) (by kernel_rfl) Tryz.underlying4 rfl ?_
    (row_witness (World.laidAll Tryz.prog os tabs_laid) #[.agg #[.int .u8 0, .int .u8 0, .int .u8 0, .int .u8 0], .int .u8 0, .agg #[.int .u8 0, .int .u8 0]] (World.laidAll_os _ _ _) (by kernel_rfl) (by kernel_rfl) (by kernel_rfl) (by kernel_rfl) (by kernel_rfl) (door_met os _)) tabs_glob ?_
  · intro ds hl
    obtain ⟨d1, d2, d3, rfl⟩ := list_len3 hl
    rfl
  · intro W vs ds hl ht hk
    obtain ⟨d1, d2, d3, rfl⟩ := list_len3 hl
    refine Fun.facts fun hf => ?_
    show Fun _ _ _ [.agg [.int .u8 (iOf (nthD (ptsD d1) 0)), .int .u8 (iOf (nthD (ptsD d1) 1)), .int .u8 (iOf (nthD (ptsD d1) 2)), .int .u8 (iOf (nthD (ptsD d1) 3))], .int .u8 (iOf d2), .agg [.int .u8 (iOf (nthD (ptsD d3) 0)), .int .u8 (iOf (nthD (ptsD d3) 1))]] _
    obtain ⟨⟨h1, h2, h3, h4, _⟩, h5, ⟨h6, h7, _⟩, _⟩ := hf
    rw [u8Of_i _ h1, u8Of_i _ h2, u8Of_i _ h3, u8Of_i _ h4, u8Of_i _ h5, u8Of_i _ h6, u8Of_i _ h7]
    exact repeats_core _ _ _ _ _ _ _
theorem trustRepeats_said : Rows.TrustRepeatsSaid :=
  OpenClaim.holds_of_cond 5 Tryz.f5 rfl rfl rfl rfl rfl rfl rfl ⟨rfl, rfl, rfl, rfl, rfl⟩ rfl rfl rfl rfl rfl (by kernel_rfl) Tryz.func5 (by kernel_rfl)
    (of_decide_eq_true (by kernel_rfl)) (by unfold Func.isWrapper; first | (rw [if_pos (by decide +kernel)]; kernel_rfl) | (rw [if_neg (by decide +kernel)]; exact ⟨rfl, rfl⟩))
    (fun os started H enc _ F => by rw [OpenClaim.pre_eq_preRow]; exact trustRepeats_step os started H enc F)
theorem trustRepeats_plain (f : FuncId) (fn : Func) (hf : Tryz.pinned.checked.prog.funcNamed "inlay/inlaylaw27.TrustRepeats" = some f) (hfn : Tryz.pinned.checked.prog.funcs[f]? = some fn) :
    false = Tryz.pinned.checked.prog.looks [] ∧ ∀ (j : Nat) t, fn.params[j]? = some t → Tryz.pinned.checked.prog.wantsStandIn t = false := by
  obtain rfl : f = 5 := Option.some.inj ((show Tryz.prog.funcNamed "inlay/inlaylaw27.TrustRepeats" = some 5 by kernel_rfl).symm.trans hf) |>.symm
  obtain rfl : fn = Tryz.f5 := (Option.some.inj (Tryz.func5.symm.trans hfn)).symm
  refine ⟨by kernel_rfl, fun j t ht => ?_⟩
  have hall : Tryz.f5.params.all (fun t => !(Tryz.prog.wantsStandIn t)) = true := by kernel_rfl
  have := (Array.all_eq_true_iff_forall_mem.1 hall) t (Array.mem_of_getElem? ht)
  have h2 : Tryz.prog.wantsStandIn t = false := by simpa using this
  exact h2
theorem trustRepeats_card : Rows.TrustRepeatsCardSaid :=
  Claim7.holds_tied_plain_at .later [] _ _ _ _ trustRepeats_said (fun _ h => by cases h) (by kernel_rfl) (fun _ h => by cases h) trustRepeats_row_tie rfl ⟨rfl, rfl⟩ (by kernel_rfl) rfl trustRepeats_plain (by kernel_rfl)
end Go.Proofs.YtokaegeediokoaaGreatDoor
end
