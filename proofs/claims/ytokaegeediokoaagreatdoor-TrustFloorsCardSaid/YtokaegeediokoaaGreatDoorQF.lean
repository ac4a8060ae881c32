/-
  Joined texts: XA: Trust: Floors.
  XB: Trust: Floors, the walk.
  XC: Trust: what the argument of Floors reads as.
  Z6: The law inlaylaw27.TrustFloors returns true for every input, and each argument reads behind the call as it read before: the floor never sinks, what was withdrawn stays so, and each release that is accepted is allowed just then.
  Conditions: the package variables that the row lists hold, when the call begins, what the program's text lays there (the card ties them); no other narrowing.
-/
import Derived.Test.YtokaegeediokoaaGreatDoorQE
import Derived.Test.YtokaegeediokoaaGreatDoorQC
import Derived.SevenTiedAt
section
namespace Go.Proofs.YtokaegeediokoaaGreatDoor
open Go.RowKit V
set_option maxRecDepth 100000
set_option maxHeartbeats 8000000
set_option linter.unusedSimpArgs false
structure W4 where
  a : UInt8
  b : UInt8
  c : UInt8
  d : UInt8
def w40 : W4 := ⟨0, 0, 0, 0⟩
@[reducible] def wsE (l : List W4) : EV := .g l.length 4 fun i => [.int .u8 ((l.getD i w40).a.toNat : Int), .int .u8 ((l.getD i w40).b.toNat : Int), .int .u8 ((l.getD i w40).c.toNat : Int), .int .u8 ((l.getD i w40).d.toNat : Int)]
structure Inv (i : Nat) (t : TrustL) : Prop where
  root : t.root = rootM 1 1 0
  now : t.now = 90
  few : t.gone.length ≤ i
  low : 0 ≤ t.floor
  top : t.floor ≤ 20
theorem enB_own (bz : List UInt8) : enB (rootM 1 1 0) nmRel bz (sgd bz 1 0 3) = true := by
  rw [enB_sgd]
  decide
theorem hasB_mem (l : List Int) (n : Int) (h : n ∈ l) : hasB l n = true := by
  unfold hasB
  rw [List.any_eq_true]
  exact ⟨n, h, by simp⟩
theorem fl_next (i : Nat) (t : TrustL) (h : Inv i t) (a b c d : UInt8) : ∃ T' e, accT t (bytesR (relW a b c d)) (sgd (bytesR (relW a b c d)) 1 0 3) = T' ∧ accE t (bytesR (relW a b c d)) (sgd (bytesR (relW a b c d)) 1 0 3) = e ∧ Inv (i + 1) T' ∧ t.floor ≤ T'.floor ∧ (∀ y ∈ t.gone, y ∈ T'.gone) ∧
    (((relW a b c d).version < t.floor ∧ e = 272) ∨ (¬ (relW a b c d).version < t.floor ∧ hasB t.gone (relW a b c d).version = true ∧ e = 273) ∨
      (¬ (relW a b c d).version < t.floor ∧ hasB t.gone (relW a b c d).version = false ∧ e = 0 ∧ allowB T' (relW a b c d).version = true ∧ allowB T' ((relW a b c d).floor - 1) = false)) := by
  obtain ⟨b1, b2, b3⟩ := relW_body a b c d
  obtain ⟨f1, f2, f3, f4, f5, f6⟩ := relW_facts a b c d
  generalize relW a b c d = r at *
  generalize bytesR r = bz at *
  obtain ⟨hr, hn, hf, h0, h1⟩ := h
  have hE : accE t bz (sgd bz 1 0 3) = if ¬ t.floor ≤ r.version then 272 else if hasB t.gone r.version = true then 273 else 0 := by
    have hmin : t.now ≤ minV t.root.expiry r.expiry := by
      rw [hn, hr, rootM_few]
      unfold minV
      split <;> omega
    unfold accE hasB
    rw [b1, b2, hr, enB_own, ← hr]
    rw [if_neg (by decide), if_neg (not_not_intro hmin), if_neg (by decide)]
  have hi : Inv (i + 1) t := ⟨hr, hn, by omega, h0, h1⟩
  by_cases q1 : r.version < t.floor
  · rw [if_pos (by omega)] at hE
    have hT : accT t bz (sgd bz 1 0 3) = t := by unfold accT; rw [hE, if_neg (by decide)]
    exact ⟨t, 272, hT, hE, hi, Int.le_refl _, fun y hy => hy, .inl ⟨q1, rfl⟩⟩
  · rw [if_neg (by omega)] at hE
    cases q2 : hasB t.gone r.version with
    | true =>
      rw [q2, if_pos rfl] at hE
      have hT : accT t bz (sgd bz 1 0 3) = t := by unfold accT; rw [hE, if_neg (by decide)]
      exact ⟨t, 273, hT, hE, hi, Int.le_refl _, fun y hy => hy, .inr (.inl ⟨q1, rfl, rfl⟩)⟩
    | false =>
      rw [q2, if_neg (by decide)] at hE
      have hT : accT t bz (sgd bz 1 0 3) = ⟨t.root, maxV t.floor r.floor, goneU t.gone r.gone, t.now⟩ := by unfold accT; rw [hE, if_pos rfl, b2]
      have hlen := goneU_len t.gone r.gone
      have hm1 : t.floor ≤ maxV t.floor r.floor := by unfold maxV; split <;> omega
      have hm2 : r.floor ≤ maxV t.floor r.floor := by unfold maxV; split <;> omega
      have hm3 : maxV t.floor r.floor ≤ r.version := by unfold maxV; split <;> omega
      refine ⟨_, 0, hT, hE, ⟨hr, hn, by dsimp only; omega, by dsimp only; omega, by dsimp only; omega⟩, hm1, fun y hy => (goneU_mem _ _ _).2 (.inl hy), .inr (.inr ⟨q1, rfl, rfl, ?_, ?_⟩)⟩
      · unfold allowB
        dsimp only
        rw [decide_eq_true hm3, decide_eq_true (show r.version ≤ 60000 by omega), show ((goneU t.gone r.gone).any fun y => decide (r.version = y)) = false by
          rw [Bool.eq_false_iff]
          intro hh
          have hh2 := (any_key _ _).1 hh
          rcases (goneU_mem _ _ _).1 hh2 with hh3 | hh3
          · rw [hasB_mem _ _ hh3] at q2; cases q2
          · exact f5 hh3]
        rfl
      · unfold allowB
        dsimp only
        rw [decide_eq_false (by omega)]
        rfl
theorem gone_not (t : TrustL) (y : Int) (h : y ∈ t.gone) : allowB t y = false := by
  unfold allowB
  rw [show (t.gone.any fun z => decide (y = z)) = true from (any_key _ _).2 h]
  simp
end Go.Proofs.YtokaegeediokoaaGreatDoor
end
section
namespace Go.Proofs.YtokaegeediokoaaGreatDoor
open Go.RowKit V
set_option maxRecDepth 100000
set_option maxHeartbeats 8000000
set_option linter.unusedSimpArgs false
attribute [local irreducible] V.Sat V.DSat
theorem floors_law (l : List W4) : Fun Tryz.prog Γh 7 [.ro (wsE l)] (.bool true) := by
  have c0 := sanity_law
  have c1 := rroot_spec 1 1 0
  refine Fun.mkF 7 Tryz.func7 rfl Tryz.ntmps7 rfl rfl fun hf T w0 => ?_
  obtain ⟨⟨hl, _⟩, _⟩ := hf
  repeat' (first
    | ((with_reducible apply Sat.run (X := X64)); exact rfl; (first | exact True.intro | (exact phi) | skip))
    | ((with_reducible apply Sat.call0 (c0)); exact rfl; exact rfl; kernel_rfl; exact rfl)
    | ((with_reducible apply Sat.call (c1)); exact rfl; exact rfl; kernel_rfl; (exact cnvX); exact rfl) | fail)
  apply Sat.loop (α := Nat × TrustL) (fun x => x.1 ≤ l.length ∧ x.1 ≤ 4 ∧ Inv x.1 x.2) (fun x => l.length - x.1) (0, ⟨rootM 1 1 0, 0, [], 90⟩) (fun x => [(5, .int .i64 (x.1 : Int))]) (fun x => [(0, .cells 32 x.2.c)]) [] [] 0
  · intro x; exact rfl
  · intro x; exact rfl
  · exact rfl
  · exact rfl
  · ((repeat' (first | exact AllP.nil | with_reducible refine AllP.cons ?_ ?_)) <;> first | exact rfl | exact trivial | exact Int.natCast_add_one _ | (intro j _; simp [pureL, pureS, pureE]; done) | exact ⟨rfl, rfl, rfl, rfl⟩)
  · exact ⟨Nat.zero_le _, Nat.zero_le _, rfl, rfl, Nat.le_refl _, Int.le_refl _, by decide⟩
  rintro ⟨i, t⟩ ⟨hi, hi4, hinv⟩
  dsimp only at hi hi4 hinv ⊢
  by_cases hA : i < l.length ∧ i < 4
  · have q0 : (bif decide ((i : Int) < (l.length : Int)) then decide ((i : Int) < 4) else false) = true := by
      rw [decide_eq_true (show (i : Int) < (l.length : Int) by omega), decide_eq_true (show (i : Int) < 4 by omega)]
      rfl
    have hA1 : i < l.length := hA.1
    have hA2 : i < 4 := hA.2
    have c2 := rrel_spec (Γ := Γh) (l.getD i w40).a (l.getD i w40).b (l.getD i w40).c (l.getD i w40).d
    obtain ⟨b1, b2, b3⟩ := relW_body (l.getD i w40).a (l.getD i w40).b (l.getD i w40).c (l.getD i w40).d
    obtain ⟨f1, f2, f3, f4, f5, f6⟩ := relW_facts (l.getD i w40).a (l.getD i w40).b (l.getD i w40).c (l.getD i w40).d
    have c3 := (bytesR_spec (relW (l.getD i w40).a (l.getD i w40).b (l.getD i w40).c (l.getD i w40).d) (relW_valid _ _ _ _)).weak (Γ := Γh)
    obtain ⟨T', e, hT, he, hinv2, hfl, hgo, hcase⟩ := fl_next i t hinv (l.getD i w40).a (l.getD i w40).b (l.getD i w40).c (l.getD i w40).d
    generalize relW (l.getD i w40).a (l.getD i w40).b (l.getD i w40).c (l.getD i w40).d = r at *
    generalize bytesR r = bz at *
    have c4 := signed_spec bz b3 1 0 (by omega) (by omega)
    have c5 := laccept_spec t bz (sgd bz 1 0 3) (fun _ => by rw [hinv.root]; exact roleOk_sgd 1 1 0 bz 1 b3) (by have := hinv.few; omega) (by rw [b2]; omega)
    rw [hT, he] at c5
    have c6 := has_ref (Γ := Γh) t.gone r.version
    have c9 := allows_spec T' r.version
    have c10 := allows_spec T' (r.floor - 1)
    have hgl := hinv2.few
    have hgt := hinv.few
    have q5 : ¬ T'.floor < t.floor := Int.not_lt.2 hfl
    have q6 : ¬ ((T'.gone.length : Int) > 40) := by omega
    clear hT he
    rcases hcase with ⟨g1, rfl⟩ | ⟨g1, g2, rfl⟩ | ⟨g1, g2, rfl, g3, g4⟩
    · generalize allowB T' r.version = B9 at c9
      generalize allowB T' (r.floor - 1) = B10 at c10
      have q3 : (bif (bif decide ((272 : Int) ≠ 272) then true else decide (T'.floor < t.floor)) then true else decide ((T'.gone.length : Int) > 40)) = false := by
        rw [decide_eq_false q5, decide_eq_false q6]
        rfl
      have q4 : (bif decide ((272 : Int) = 0) then bif !B9 then true else B10 else false) = false := rfl
      repeat' (first
        | ((with_reducible apply Sat.cond); exact rfl; (intro h; exact absurd (h.symm.trans q3) (by decide)); (intro h; clear h))
        | ((with_reducible apply Sat.cond); exact rfl; (intro h; clear h; rotate_left); (intro h; exact absurd (h.symm.trans q0) (by decide)))
        | ((with_reducible apply Sat.run (X := X64)); exact rfl; (first | exact True.intro | (exact phi) | skip))
        | ((with_reducible apply Sat.drawn); kernel_rfl)
        | ((with_reducible apply DSat.run (X := X64)); exact rfl; (first | exact True.intro | (exact phi) | skip))
        | ((with_reducible apply DSat.fin); kernel_rfl)
        | ((with_reducible apply Sat.cond_pt); exact rfl; (try dsimp only [V.EV.sub, V.EV.len]); first | assumption | omega)
        | ((with_reducible apply Sat.call (c2)); exact rfl; exact rfl; kernel_rfl; (exact cnvX); exact rfl)
        | ((with_reducible apply DSat.call (c3)); exact rfl; exact rfl; kernel_rfl; (exact cnvX); exact rfl)
        | ((with_reducible apply DSat.call (c4)); exact rfl; exact rfl; kernel_rfl; (exact cnvX); exact rfl)
        | ((with_reducible apply DSat.call (c5)); exact rfl; exact rfl; kernel_rfl; (exact cnvX); exact rfl) | fail)
      apply Sat.loop (α := Nat) (fun k => k ≤ t.gone.length) (fun k => t.gone.length - k) 0 (fun k => [(9, .int .i64 (k : Int))]) (fun _ => []) [] [] 0
      · intro x; exact rfl
      · intro x; exact rfl
      · exact rfl
      · exact rfl
      · ((repeat' (first | exact AllP.nil | with_reducible refine AllP.cons ?_ ?_)) <;> first | exact rfl | exact trivial | exact Int.natCast_add_one _ | (intro j _; simp [pureL, pureS, pureE]; done) | exact ⟨rfl, rfl, rfl, rfl⟩)
      · exact Nat.zero_le _
      intro k hk
      by_cases hk2 : k < t.gone.length
      · have hc : (k : Int) < (t.gone.length : Int) := by omega
        have hm : t.gone.getD k 0 ∈ t.gone := by
          rw [List.getD_eq_getElem?_getD, List.getElem?_eq_getElem hk2]
          exact List.getElem_mem _
        have c7 := has_ref (Γ := Γh) T'.gone (t.gone.getD k 0)
        rw [hasB_mem _ _ (hgo _ hm)] at c7
        have c8 := allows_spec T' (t.gone.getD k 0)
        rw [gone_not _ _ (hgo _ hm)] at c8
        repeat' (first
          | ((with_reducible apply Sat.run (X := X64)); exact rfl; (first | exact True.intro | (exact phi) | skip))
          | ((with_reducible apply Sat.drawn); kernel_rfl)
          | ((with_reducible apply DSat.run (X := X64)); exact rfl; (first | exact True.intro | (exact phi) | skip))
          | ((with_reducible apply DSat.fin); kernel_rfl)
          | ((with_reducible apply Sat.cond_f); exact rfl)
          | ((with_reducible apply Sat.cond_pt); exact rfl; (try dsimp only [V.EV.sub, V.EV.len]); first | assumption | omega)
          | ((with_reducible apply DSat.callR (c7)); exact rfl; exact rfl; exact rfl; kernel_rfl; (exact cnvX); exact rfl)
          | ((with_reducible apply DSat.callG1 (c8)); exact rfl; exact rfl; exact rfl; exact rfl; kernel_rfl; (intro hG; (exact cnvX)); exact rfl) | fail)
        refine Sat.back (k + 1) [] rfl ?_ (show k + 1 ≤ t.gone.length by omega) (show t.gone.length - (k + 1) < t.gone.length - k by omega)
        ((repeat' (first | exact AllP.nil | with_reducible refine AllP.cons ?_ ?_)) <;> first | exact rfl | exact trivial | exact Int.natCast_add_one _ | (intro j _; simp [pureL, pureS, pureE]; done) | exact ⟨rfl, rfl, rfl, rfl⟩)
      · obtain rfl : k = t.gone.length := by omega
        repeat' (first
          | ((with_reducible apply Sat.cond); exact rfl; (intro h; exact absurd (h.symm.trans q4) (by decide)); (intro h; clear h))
          | ((with_reducible apply Sat.run (X := X64)); exact rfl; (first | exact True.intro | (exact phi) | skip))
          | ((with_reducible apply Sat.cond_pf); exact rfl; (try dsimp only [V.EV.sub, V.EV.len]); first | assumption | omega)
          | ((with_reducible apply Sat.callG1 (c9)); exact rfl; exact rfl; exact rfl; exact rfl; kernel_rfl; (intro hG; (exact cnvX)); exact rfl)
          | ((with_reducible apply Sat.callG1 (c10)); exact rfl; exact rfl; exact rfl; exact rfl; kernel_rfl; (intro hG; (exact cnvX)); exact rfl) | fail)
        refine Sat.back (i + 1, T') [] rfl ?_ ⟨(show i + 1 ≤ l.length by omega), (show i + 1 ≤ 4 by omega), hinv2⟩ (show l.length - (i + 1) < l.length - i by omega)
        ((repeat' (first | exact AllP.nil | with_reducible refine AllP.cons ?_ ?_)) <;> first | exact rfl | exact trivial | exact Int.natCast_add_one _ | (intro j _; simp [pureL, pureS, pureE]; done) | exact ⟨rfl, rfl, rfl, rfl⟩)
    · generalize allowB T' r.version = B9 at c9
      generalize allowB T' (r.floor - 1) = B10 at c10
      rw [g2] at c6
      have q3 : (bif (bif decide ((273 : Int) ≠ 273) then true else decide (T'.floor < t.floor)) then true else decide ((T'.gone.length : Int) > 40)) = false := by
        rw [decide_eq_false q5, decide_eq_false q6]
        rfl
      have q4 : (bif decide ((273 : Int) = 0) then bif !B9 then true else B10 else false) = false := rfl
      repeat' (first
        | ((with_reducible apply Sat.cond); exact rfl; (intro h; exact absurd (h.symm.trans q3) (by decide)); (intro h; clear h))
        | ((with_reducible apply Sat.cond); exact rfl; (intro h; clear h; rotate_left); (intro h; exact absurd (h.symm.trans q0) (by decide)))
        | ((with_reducible apply Sat.run (X := X64)); exact rfl; (first | exact True.intro | (exact phi) | skip))
        | ((with_reducible apply Sat.drawn); kernel_rfl)
        | ((with_reducible apply DSat.run (X := X64)); exact rfl; (first | exact True.intro | (exact phi) | skip))
        | ((with_reducible apply DSat.fin); kernel_rfl)
        | ((with_reducible apply Sat.cond_t); exact rfl)
        | ((with_reducible apply Sat.cond_pf); exact rfl; (try dsimp only [V.EV.sub, V.EV.len]); first | assumption | omega)
        | ((with_reducible apply Sat.call (c2)); exact rfl; exact rfl; kernel_rfl; (exact cnvX); exact rfl)
        | ((with_reducible apply DSat.call (c3)); exact rfl; exact rfl; kernel_rfl; (exact cnvX); exact rfl)
        | ((with_reducible apply DSat.call (c4)); exact rfl; exact rfl; kernel_rfl; (exact cnvX); exact rfl)
        | ((with_reducible apply DSat.call (c5)); exact rfl; exact rfl; kernel_rfl; (exact cnvX); exact rfl)
        | ((with_reducible apply Sat.callR (c6)); exact rfl; exact rfl; exact rfl; kernel_rfl; (exact cnvX); exact rfl) | fail)
      apply Sat.loop (α := Nat) (fun k => k ≤ t.gone.length) (fun k => t.gone.length - k) 0 (fun k => [(9, .int .i64 (k : Int))]) (fun _ => []) [] [] 0
      · intro x; exact rfl
      · intro x; exact rfl
      · exact rfl
      · exact rfl
      · ((repeat' (first | exact AllP.nil | with_reducible refine AllP.cons ?_ ?_)) <;> first | exact rfl | exact trivial | exact Int.natCast_add_one _ | (intro j _; simp [pureL, pureS, pureE]; done) | exact ⟨rfl, rfl, rfl, rfl⟩)
      · exact Nat.zero_le _
      intro k hk
      by_cases hk2 : k < t.gone.length
      · have hc : (k : Int) < (t.gone.length : Int) := by omega
        have hm : t.gone.getD k 0 ∈ t.gone := by
          rw [List.getD_eq_getElem?_getD, List.getElem?_eq_getElem hk2]
          exact List.getElem_mem _
        have c7 := has_ref (Γ := Γh) T'.gone (t.gone.getD k 0)
        rw [hasB_mem _ _ (hgo _ hm)] at c7
        have c8 := allows_spec T' (t.gone.getD k 0)
        rw [gone_not _ _ (hgo _ hm)] at c8
        repeat' (first
          | ((with_reducible apply Sat.run (X := X64)); exact rfl; (first | exact True.intro | (exact phi) | skip))
          | ((with_reducible apply Sat.drawn); kernel_rfl)
          | ((with_reducible apply DSat.run (X := X64)); exact rfl; (first | exact True.intro | (exact phi) | skip))
          | ((with_reducible apply DSat.fin); kernel_rfl)
          | ((with_reducible apply Sat.cond_f); exact rfl)
          | ((with_reducible apply Sat.cond_pt); exact rfl; (try dsimp only [V.EV.sub, V.EV.len]); first | assumption | omega)
          | ((with_reducible apply DSat.callR (c7)); exact rfl; exact rfl; exact rfl; kernel_rfl; (exact cnvX); exact rfl)
          | ((with_reducible apply DSat.callG1 (c8)); exact rfl; exact rfl; exact rfl; exact rfl; kernel_rfl; (intro hG; (exact cnvX)); exact rfl) | fail)
        refine Sat.back (k + 1) [] rfl ?_ (show k + 1 ≤ t.gone.length by omega) (show t.gone.length - (k + 1) < t.gone.length - k by omega)
        ((repeat' (first | exact AllP.nil | with_reducible refine AllP.cons ?_ ?_)) <;> first | exact rfl | exact trivial | exact Int.natCast_add_one _ | (intro j _; simp [pureL, pureS, pureE]; done) | exact ⟨rfl, rfl, rfl, rfl⟩)
      · obtain rfl : k = t.gone.length := by omega
        repeat' (first
          | ((with_reducible apply Sat.cond); exact rfl; (intro h; exact absurd (h.symm.trans q4) (by decide)); (intro h; clear h))
          | ((with_reducible apply Sat.run (X := X64)); exact rfl; (first | exact True.intro | (exact phi) | skip))
          | ((with_reducible apply Sat.cond_pf); exact rfl; (try dsimp only [V.EV.sub, V.EV.len]); first | assumption | omega)
          | ((with_reducible apply Sat.callG1 (c9)); exact rfl; exact rfl; exact rfl; exact rfl; kernel_rfl; (intro hG; (exact cnvX)); exact rfl)
          | ((with_reducible apply Sat.callG1 (c10)); exact rfl; exact rfl; exact rfl; exact rfl; kernel_rfl; (intro hG; (exact cnvX)); exact rfl) | fail)
        refine Sat.back (i + 1, T') [] rfl ?_ ⟨(show i + 1 ≤ l.length by omega), (show i + 1 ≤ 4 by omega), hinv2⟩ (show l.length - (i + 1) < l.length - i by omega)
        ((repeat' (first | exact AllP.nil | with_reducible refine AllP.cons ?_ ?_)) <;> first | exact rfl | exact trivial | exact Int.natCast_add_one _ | (intro j _; simp [pureL, pureS, pureE]; done) | exact ⟨rfl, rfl, rfl, rfl⟩)
    · rw [g3] at c9
      rw [g4] at c10
      rw [g2] at c6
      have q3 : (bif (bif decide ((0 : Int) ≠ 0) then true else decide (T'.floor < t.floor)) then true else decide ((T'.gone.length : Int) > 40)) = false := by
        rw [decide_eq_false q5, decide_eq_false q6]
        rfl
      have q4 : (bif decide ((0 : Int) = 0) then bif !true then true else false else false) = false := rfl
      repeat' (first
        | ((with_reducible apply Sat.cond); exact rfl; (intro h; exact absurd (h.symm.trans q3) (by decide)); (intro h; clear h))
        | ((with_reducible apply Sat.cond); exact rfl; (intro h; clear h; rotate_left); (intro h; exact absurd (h.symm.trans q0) (by decide)))
        | ((with_reducible apply Sat.run (X := X64)); exact rfl; (first | exact True.intro | (exact phi) | skip))
        | ((with_reducible apply Sat.drawn); kernel_rfl)
        | ((with_reducible apply DSat.run (X := X64)); exact rfl; (first | exact True.intro | (exact phi) | skip))
        | ((with_reducible apply DSat.fin); kernel_rfl)
        | ((with_reducible apply Sat.cond_f); exact rfl)
        | ((with_reducible apply Sat.cond_pf); exact rfl; (try dsimp only [V.EV.sub, V.EV.len]); first | assumption | omega)
        | ((with_reducible apply Sat.call (c2)); exact rfl; exact rfl; kernel_rfl; (exact cnvX); exact rfl)
        | ((with_reducible apply DSat.call (c3)); exact rfl; exact rfl; kernel_rfl; (exact cnvX); exact rfl)
        | ((with_reducible apply DSat.call (c4)); exact rfl; exact rfl; kernel_rfl; (exact cnvX); exact rfl)
        | ((with_reducible apply DSat.call (c5)); exact rfl; exact rfl; kernel_rfl; (exact cnvX); exact rfl)
        | ((with_reducible apply Sat.callR (c6)); exact rfl; exact rfl; exact rfl; kernel_rfl; (exact cnvX); exact rfl) | fail)
      apply Sat.loop (α := Nat) (fun k => k ≤ t.gone.length) (fun k => t.gone.length - k) 0 (fun k => [(9, .int .i64 (k : Int))]) (fun _ => []) [] [] 0
      · intro x; exact rfl
      · intro x; exact rfl
      · exact rfl
      · exact rfl
      · ((repeat' (first | exact AllP.nil | with_reducible refine AllP.cons ?_ ?_)) <;> first | exact rfl | exact trivial | exact Int.natCast_add_one _ | (intro j _; simp [pureL, pureS, pureE]; done) | exact ⟨rfl, rfl, rfl, rfl⟩)
      · exact Nat.zero_le _
      intro k hk
      by_cases hk2 : k < t.gone.length
      · have hc : (k : Int) < (t.gone.length : Int) := by omega
        have hm : t.gone.getD k 0 ∈ t.gone := by
          rw [List.getD_eq_getElem?_getD, List.getElem?_eq_getElem hk2]
          exact List.getElem_mem _
        have c7 := has_ref (Γ := Γh) T'.gone (t.gone.getD k 0)
        rw [hasB_mem _ _ (hgo _ hm)] at c7
        have c8 := allows_spec T' (t.gone.getD k 0)
        rw [gone_not _ _ (hgo _ hm)] at c8
        repeat' (first
          | ((with_reducible apply Sat.run (X := X64)); exact rfl; (first | exact True.intro | (exact phi) | skip))
          | ((with_reducible apply Sat.drawn); kernel_rfl)
          | ((with_reducible apply DSat.run (X := X64)); exact rfl; (first | exact True.intro | (exact phi) | skip))
          | ((with_reducible apply DSat.fin); kernel_rfl)
          | ((with_reducible apply Sat.cond_f); exact rfl)
          | ((with_reducible apply Sat.cond_pt); exact rfl; (try dsimp only [V.EV.sub, V.EV.len]); first | assumption | omega)
          | ((with_reducible apply DSat.callR (c7)); exact rfl; exact rfl; exact rfl; kernel_rfl; (exact cnvX); exact rfl)
          | ((with_reducible apply DSat.callG1 (c8)); exact rfl; exact rfl; exact rfl; exact rfl; kernel_rfl; (intro hG; (exact cnvX)); exact rfl) | fail)
        refine Sat.back (k + 1) [] rfl ?_ (show k + 1 ≤ t.gone.length by omega) (show t.gone.length - (k + 1) < t.gone.length - k by omega)
        ((repeat' (first | exact AllP.nil | with_reducible refine AllP.cons ?_ ?_)) <;> first | exact rfl | exact trivial | exact Int.natCast_add_one _ | (intro j _; simp [pureL, pureS, pureE]; done) | exact ⟨rfl, rfl, rfl, rfl⟩)
      · obtain rfl : k = t.gone.length := by omega
        repeat' (first
          | ((with_reducible apply Sat.cond); exact rfl; (intro h; exact absurd (h.symm.trans q4) (by decide)); (intro h; clear h))
          | ((with_reducible apply Sat.run (X := X64)); exact rfl; (first | exact True.intro | (exact phi) | skip))
          | ((with_reducible apply Sat.cond_pf); exact rfl; (try dsimp only [V.EV.sub, V.EV.len]); first | assumption | omega)
          | ((with_reducible apply Sat.callG1 (c9)); exact rfl; exact rfl; exact rfl; exact rfl; kernel_rfl; (intro hG; (exact cnvX)); exact rfl)
          | ((with_reducible apply Sat.callG1 (c10)); exact rfl; exact rfl; exact rfl; exact rfl; kernel_rfl; (intro hG; (exact cnvX)); exact rfl) | fail)
        refine Sat.back (i + 1, T') [] rfl ?_ ⟨(show i + 1 ≤ l.length by omega), (show i + 1 ≤ 4 by omega), hinv2⟩ (show l.length - (i + 1) < l.length - i by omega)
        ((repeat' (first | exact AllP.nil | with_reducible refine AllP.cons ?_ ?_)) <;> first | exact rfl | exact trivial | exact Int.natCast_add_one _ | (intro j _; simp [pureL, pureS, pureE]; done) | exact ⟨rfl, rfl, rfl, rfl⟩)
  · have q0 : (bif decide ((i : Int) < (l.length : Int)) then decide ((i : Int) < 4) else false) = false := by
      by_cases h1 : i < l.length
      · rw [decide_eq_true (show (i : Int) < (l.length : Int) by omega), decide_eq_false (show ¬ (i : Int) < 4 by omega)]
        rfl
      · rw [decide_eq_false (show ¬ (i : Int) < (l.length : Int) by omega)]
        rfl
    repeat' (first
      | ((with_reducible apply Sat.cond); exact rfl; (intro h; exact absurd (h.symm.trans q0) (by decide)); (intro h; clear h))
      | ((with_reducible apply Sat.run (X := X64)); exact rfl; (first | exact True.intro | (exact phi) | skip)) | fail)
    (refine Sat.fin (Sat.end1 rfl rfl rfl True.intro (.refl _ purX) (by first | exact .inl rfl | exact .inr rfl) (fun _ h => h)) ?_; rfl)
end Go.Proofs.YtokaegeediokoaaGreatDoor
end
section
namespace Go.Proofs.YtokaegeediokoaaGreatDoor
open Go.RowKit V
section
variable {H : Type}
theorem map_nthD {α : Type} (f : DataW H → α) : ∀ (l : List (DataW H)) (i : Nat), (l.map f).getD i (f .nil) = f (nthD l i)
  | [], _ => rfl
  | _ :: _, 0 => rfl
  | _ :: l, i + 1 => map_nthD f l i
@[reducible] def wsSV (l : List (DataW H)) : EV := .g l.length 4 fun i => [.int .u8 (iOf (nthD (ptsD (nthD l i)) 0)), .int .u8 (iOf (nthD (ptsD (nthD l i)) 1)), .int .u8 (iOf (nthD (ptsD (nthD l i)) 2)), .int .u8 (iOf (nthD (ptsD (nthD l i)) 3))]
def wD (d : DataW H) : W4 := ⟨u8Of (nthD (ptsD d) 0), u8Of (nthD (ptsD d) 1), u8Of (nthD (ptsD d) 2), u8Of (nthD (ptsD d) 3)⟩
theorem wsSV_eq (l : List (DataW H)) (h : factsE (wsSV l)) : wsSV l = wsE (l.map wD) := by
  show EV.g _ _ _ = EV.g _ _ _
  rw [List.length_map]
  congr 1
  funext i
  have e : (l.map wD).getD i w40 = wD (nthD l i) := map_nthD wD l i
  rw [e]
  by_cases hi : i < l.length
  · obtain ⟨h1, h2, h3, h4, _⟩ := h i hi
    show [SV.int .u8 _, SV.int .u8 _, SV.int .u8 _, SV.int .u8 _] = [SV.int .u8 ((u8Of (nthD (ptsD (nthD l i)) 0)).toNat : Int), SV.int .u8 ((u8Of (nthD (ptsD (nthD l i)) 1)).toNat : Int), SV.int .u8 ((u8Of (nthD (ptsD (nthD l i)) 2)).toNat : Int), SV.int .u8 ((u8Of (nthD (ptsD (nthD l i)) 3)).toNat : Int)]
    rw [← u8Of_i _ h1, ← u8Of_i _ h2, ← u8Of_i _ h3, ← u8Of_i _ h4]
  · rw [nthD_out l i (by omega)]
    rfl
end
end Go.Proofs.YtokaegeediokoaaGreatDoor
end
section
namespace Go.Proofs.YtokaegeediokoaaGreatDoor
open Go.RowKit Go.ChangeShapes Go.WideShapes V
set_option maxRecDepth 100000
set_option maxHeartbeats 8000000
theorem trustFloors_step (os : Os) (started : os.Started) (H : Type) (enc : TypeId × Value → H) (F : Stop.Interp) :
    ReturnsInHanded {} Tryz.checked os 7 .any ((OpenSpec.ofChange Rows.trustFloorsSpec).preRow enc Tryz.prog Tryz.f7 Rows.trustFloorsRow.domain false Rows.trustFloorsRow.laid) (((OpenSpec.ofChange Rows.trustFloorsSpec).at F).post enc Tryz.prog Tryz.f7 false true false false) := by
  refine law_step (C := Tryz.checked) (fn := Tryz.f7) (s := OpenSpec.ofChange Rows.trustFloorsSpec) (F := F) (tb := 4) Γh own started (by kernel_rfl) Tryz.func7 laidOut (by kernel_rfl) (by kernel_rfl) (by kernel_rfl) Tryz.underlying4 rfl ?_
    (row_witness (World.laidAll Tryz.prog os tabs_laid) #[.slice none 0 0] (World.laidAll_os _ _ _) (by kernel_rfl) (by kernel_rfl) (by kernel_rfl) (by kernel_rfl) (by kernel_rfl) (door_met os _)) tabs_glob ?_
  · intro ds hl
    obtain ⟨d1, rfl⟩ := list_len1 hl
    rfl
  · intro W vs ds hl ht hk
    obtain ⟨d1, rfl⟩ := list_len1 hl
    refine Fun.facts fun hf => ?_
    show Fun _ _ _ [.ro (wsSV (eOf d1))] _
    rw [wsSV_eq (eOf d1) hf.1.2]
    exact floors_law _
theorem trustFloors_said : Rows.TrustFloorsSaid :=
  OpenClaim.holds_of_cond 7 Tryz.f7 rfl rfl rfl rfl rfl rfl rfl ⟨rfl, rfl, rfl, rfl, rfl⟩ rfl rfl rfl rfl rfl (by kernel_rfl) Tryz.func7 (by kernel_rfl)
    (of_decide_eq_true (by kernel_rfl)) (by unfold Func.isWrapper; first | (rw [if_pos (by decide +kernel)]; kernel_rfl) | (rw [if_neg (by decide +kernel)]; exact ⟨rfl, rfl⟩))
    (fun os started H enc _ F => by rw [OpenClaim.pre_eq_preRow]; exact trustFloors_step os started H enc F)
theorem trustFloors_plain (f : FuncId) (fn : Func) (hf : Tryz.pinned.checked.prog.funcNamed "inlay/inlaylaw27.TrustFloors" = some f) (hfn : Tryz.pinned.checked.prog.funcs[f]? = some fn) :
    false = Tryz.pinned.checked.prog.looks [] ∧ ∀ (j : Nat) t, fn.params[j]? = some t → Tryz.pinned.checked.prog.wantsStandIn t = false := by
  obtain rfl : f = 7 := Option.some.inj ((show Tryz.prog.funcNamed "inlay/inlaylaw27.TrustFloors" = some 7 by kernel_rfl).symm.trans hf) |>.symm
  obtain rfl : fn = Tryz.f7 := (Option.some.inj (Tryz.func7.symm.trans hfn)).symm
  refine ⟨by kernel_rfl, fun j t ht => ?_⟩
  have hall : Tryz.f7.params.all (fun t => !(Tryz.prog.wantsStandIn t)) = true := by kernel_rfl
  have := (Array.all_eq_true_iff_forall_mem.1 hall) t (Array.mem_of_getElem? ht)
  have h2 : Tryz.prog.wantsStandIn t = false := by simpa using this
  exact h2
theorem trustFloors_card : Rows.TrustFloorsCardSaid :=
  Claim7.holds_tied_plain_at .later [] _ _ _ _ trustFloors_said (fun _ h => by cases h) (by kernel_rfl) (fun _ h => by cases h) trustFloors_row_tie rfl ⟨rfl, rfl⟩ (by kernel_rfl) rfl trustFloors_plain (by kernel_rfl)
end Go.Proofs.YtokaegeediokoaaGreatDoor
end
