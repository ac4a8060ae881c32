/-
  Joined texts: IDx: Image: the law Spreads.
  Z7: The law inlaylaw01.ImageSpreads returns true for every input, and each argument reads behind the call as it read before: Spread changes the bytes of the ranges, and no others; with one byte more, with a range outside, or with ranges in another order, it refuses.
  Conditions: the package variables that the row lists hold, when the call begins, what the program's text lays there (the card ties them); no other narrowing.
-/
import Derived.Test.YtmmpflifajjbjaaDoorQE
import Derived.Test.YtmmpflifajjbjaaDoorQC
import Derived.SevenTiedAt
section
namespace Go.Proofs.YtmmpflifajjbjaaDoor
open Go.RowKit V
--PURE: (intro _ _; simp [pureL, pureS, pureE]; done)
set_option maxRecDepth 100000
set_option maxHeartbeats 800000
set_option linter.unusedSimpArgs false
attribute [local irreducible] V.Sat V.DSat
theorem spreads_law {Γ : Glob} (hs : Fun Tryd.prog Γ 9 [] (.bool true)) (a0 : List UInt8) (l : List EdL) (c : UInt8) : Fun Tryd.prog Γ 7 [.ro (.u8 a0), .ro (edE l), .int .u8 (c.toNat : Int)] (.bool true) := by
  have h17 : Fun Tryd.prog Γ 17 [.ro (.u8 a0), .int .i64 200] (.ro (.u8 (a0.take 200))) := (limited_spec a0 200 (by decide)).weak
  have hx : (a0.take 200).length ≤ 200 := by rw [List.length_take]; omega
  generalize a0.take 200 = x at h17 hx
  have h23 : Fun Tryd.prog Γ 23 [.ro (edE l), .int .i64 (x.length : Int)] (.ro (rngE (ranS x.length 0 (l.take 10)))) := (ranges_spec l x.length (by omega)).weak
  have ho : Ord x.length (-1) (ranS x.length 0 (l.take 10)) := ran_ord x.length (l.take 10) 0 (Int.le_refl 0)
  generalize ranS x.length 0 (l.take 10) = R at h23 ho
  have h24 : Fun Tryd.prog Γ 24 [.ro (rngE R)] (.int .i64 (sumR R : Int)) := (total_ord R x.length (by omega) ho).weak
  have hsum := sumR_le R (-1) (by omega) (by omega) ho
  have hb := fun i hi => ord_lo ho i hi
  have hRl := len_sum ho
  obtain ⟨b, b1, b2, b3, b4⟩ := spr_gen x.length R (-1) x (datS c (sumR R)) rfl (by omega) ho (datS_len c _)
  have h21 : FunN Tryd.prog Γ 21 [.ro (.u8 x), .ro (rngE R), .ro (.u8 (datS c (sumR R)))] (.tup [.ro (.u8 b), .int .i64 0]) := by
    have h := spread_new x (by omega) R (datS c (sumR R)) (fun i hi => by have := hb i hi; omega)
    rw [b1] at h
    exact h.weak
  have h22 : Fun Tryd.prog Γ 22 [.ro (.u8 b), .ro (rngE R)] (.ro (.u8 (datS c (sumR R)))) := by
    have h := pick_ord b (by omega) R (by rw [b2]; exact ho)
    rw [b3] at h
    exact h.weak
  have h21f : ∀ m : List UInt8, m.length = 1 → Fun Tryd.prog Γ 21 [.ro (.u8 x), .ro (rngE R), .ro (.u8 (datS c (sumR R) ++ m))] (.tup [.ro (.u8 []), .int .i64 1]) := fun m hm => by
    have h := spread_spec x (by omega) R (datS c (sumR R) ++ m) (fun i hi => by have := hb i hi; omega)
    rw [spr_len x.length R (-1) x _ (by rw [List.length_append, datS_len, hm]; omega)] at h
    exact h.weak
  have h21o : ∀ m : List UInt8, Fun Tryd.prog Γ 21 [.ro (.u8 x), .ro (.g (0 + R.length + 1) 2 (rngG (R ++ [⟨(x.length : Int), (x.length : Int) + 1⟩]))), .ro (.u8 (datS c (sumR R) ++ m))] (.tup [.ro (.u8 []), .int .i64 1]) := fun m => by
    have h := spread_spec x (by omega) (R ++ [⟨(x.length : Int), (x.length : Int) + 1⟩]) (datS c (sumR R) ++ m) (fun i hi => by
      rw [List.length_append] at hi
      have hi : i < R.length + 1 := hi
      by_cases h : i < R.length
      · rw [getD_app_l _ _ _ _ h]
        have := hb i h
        omega
      · obtain rfl : i = R.length := by omega
        rw [getD_app_r]
        dsimp only
        omega)
    have e := spr_out x.length (R ++ [(⟨(x.length : Int), (x.length : Int) + 1⟩ : RngL)]) (-1) x (datS c (sumR R) ++ m) ⟨(⟨(x.length : Int), (x.length : Int) + 1⟩ : RngL), by simp, by dsimp only; omega⟩
    rw [e, rngG_len _ (0 + R.length + 1) (by rw [List.length_append, Nat.zero_add]; rfl)] at h
    exact h.weak
  have h21t : 2 ≤ R.length → FunN Tryd.prog Γ 21 [.ro (.u8 x), .ro (.g (0 + R.length) 2 (rngG (swpL R))), .ro (.u8 (datS c (sumR R)))] (.tup [.ro (.u8 []), .int .i64 1]) := fun h2 => by
    have h := spread_new x (by omega) (swpL R) (datS c (sumR R)) (swpL_mem R h2 (fun r => -1000000 ≤ r.lo ∧ r.lo ≤ 1000000 ∧ -1000000 ≤ r.hi ∧ r.hi ≤ 1000000) fun i hi => by have := hb i hi; omega)
    have q1 := hb 0 (by omega)
    have q2 := hb 1 (by omega)
    have q3 := ord_lt ho 0 1 (by omega) (by omega)
    have e : sprS x.length (-1) x (swpL R) (datS c (sumR R)) = none := spr_turn x.length (-1) x (datS c (sumR R)) (R.getD 1 rng0) (R.getD 0 rng0) (R.drop 2) (by omega)
    rw [e, rngG_len _ (0 + R.length) (by rw [swpL_len R h2, Nat.zero_add])] at h
    exact h.weak
  have b4 : Hid (∀ i, inS R i = false → b.getD i 0 = x.getD i 0) := b4
  clear b1 b3
  have hb : Hid (∀ i, i < R.length → 0 ≤ (R.getD i rng0).lo ∧ (R.getD i rng0).lo < (R.getD i rng0).hi ∧ (R.getD i rng0).hi ≤ (x.length : Int)) := hb
  refine Fun.mkF 8 Tryd.func7 rfl Tryd.ntmps7 rfl rfl fun hf T w0 => ?_
  obtain ⟨_, ⟨hll, _⟩, _⟩ := hf
  repeat' (first
      | ((with_reducible apply Sat.run (X := X64)); exact rfl; (first | exact True.intro | (exact phi) | skip))
      | ((with_reducible apply Sat.drawn); kernel_rfl)
      | ((with_reducible apply DSat.run (X := X64)); exact rfl; (first | exact True.intro | (exact phi) | skip))
      | ((with_reducible apply DSat.fin); kernel_rfl)
      | ((with_reducible apply Sat.cond_t); exact rfl)
      | ((with_reducible apply Sat.cond_f); exact rfl)
      | ((with_reducible apply Sat.cond_pt); exact rfl; (try dsimp only [V.EV.sub, V.EV.len]); first | assumption | omega)
      | ((with_reducible apply Sat.cond_pf); exact rfl; (try dsimp only [V.EV.sub, V.EV.len]); first | assumption | omega)
      | ((with_reducible apply Sat.cond_p); exact rfl; all_goals intro h)
      | ((with_reducible apply Sat.cond); exact rfl; all_goals intro h)
      | ((with_reducible apply Sat.callR (hs)); exact rfl; exact rfl; exact rfl; kernel_rfl; (exact cnvX); exact rfl)
      | ((with_reducible apply DSat.callR (hs)); exact rfl; exact rfl; exact rfl; kernel_rfl; (exact cnvX); exact rfl)
      | ((with_reducible apply Sat.call (h17)); exact rfl; exact rfl; kernel_rfl; (exact cnvX); exact rfl)
      | ((with_reducible apply DSat.call (h17)); exact rfl; exact rfl; kernel_rfl; (exact cnvX); exact rfl)
      | ((with_reducible apply Sat.call (h23)); exact rfl; exact rfl; kernel_rfl; (exact cnvX); exact rfl)
      | ((with_reducible apply DSat.call (h23)); exact rfl; exact rfl; kernel_rfl; (exact cnvX); exact rfl) | fail)
  refine Sat.kill [32] rfl ?_
  apply Sat.loop (α := Nat) (fun k => k ≤ sumR R) (fun k => sumR R - k) 0 (fun k => [(10, .row 0 0 1 0 k), (11, .int .i64 (k : Int))]) (fun k => [(0, .row 5 (.u8 (datS c k)))]) [] [] 0
  · intro x; exact rfl
  · intro x; exact rfl
  · exact rfl
  · exact rfl
  · (repeat' (first | exact AllP.nil | with_reducible refine AllP.cons ?_ ?_)) <;> first | exact rfl | exact trivial | exact ⟨rfl, rfl, rfl, rfl⟩ | exact purX
  · exact Nat.zero_le _
  rintro k k1
  have hdl := datS_len c k
  by_cases hk : k < sumR R
  · have hcc : (k : Int) < (sumR R : Int) := by omega
    repeat' (first
        | ((with_reducible apply Sat.run (X := X64)); exact rfl; (first | exact True.intro | (exact phi) | skip))
        | ((with_reducible apply Sat.drawn); kernel_rfl)
        | ((with_reducible apply DSat.run (X := X64)); exact rfl; (first | exact True.intro | (exact phi) | skip))
        | ((with_reducible apply DSat.fin); kernel_rfl)
        | ((with_reducible apply Sat.cond_t); exact rfl)
        | ((with_reducible apply Sat.cond_f); exact rfl)
        | ((with_reducible apply Sat.cond_pt); exact rfl; (try dsimp only [V.EV.sub, V.EV.len]); first | assumption | omega)
        | ((with_reducible apply Sat.cond_pf); exact rfl; (try dsimp only [V.EV.sub, V.EV.len]); first | assumption | omega)
        | ((with_reducible apply Sat.cond_p); exact rfl; all_goals intro h)
        | ((with_reducible apply Sat.cond); exact rfl; all_goals intro h)
        | ((with_reducible apply Sat.callR (h24)); exact rfl; exact rfl; exact rfl; kernel_rfl; (exact cnvX); exact rfl)
        | ((with_reducible apply DSat.callR (h24)); exact rfl; exact rfl; exact rfl; kernel_rfl; (exact cnvX); exact rfl) | fail)
    refine Sat.back (k + 1) [(0, some 2)] rfl ?_ ?_ ?_
    · (repeat' (first | exact AllP.nil | with_reducible refine AllP.cons ?_ ?_)) <;> first | exact rfl | exact trivial | exact Int.natCast_add_one _ | exact ⟨rfl, rfl, rfl, rfl⟩ | (simp [EV.len, EV.sub]; done) | exact purX
    · exact hk
    · omega
  · obtain rfl : k = sumR R := by omega
    have hcc : ¬ ((sumR R : Nat) : Int) < (sumR R : Int) := by omega
    have hg1 : (bif decide ((0 : Int) ≠ 0) then true else decide (((EV.u8 b).len : Int) ≠ ((EV.u8 x).len : Int))) = false := by
      have h : ¬ (((EV.u8 b).len : Int) ≠ ((EV.u8 x).len : Int)) := by show ¬ ((b.length : Int) ≠ (x.length : Int)); omega
      rw [decide_eq_false h]
      rfl
    repeat' (first
        | ((with_reducible apply Sat.run (X := X64)); exact rfl; (first | exact True.intro | (exact phi) | skip))
        | ((with_reducible apply Sat.drawn); kernel_rfl)
        | ((with_reducible apply DSat.run (X := X64)); exact rfl; (first | exact True.intro | (exact phi) | skip))
        | ((with_reducible apply DSat.fin); kernel_rfl)
        | ((with_reducible apply Sat.cond_t); exact rfl)
        | ((with_reducible apply Sat.cond_f); exact rfl)
        | ((with_reducible apply Sat.cond_pt); exact rfl; (try dsimp only [V.EV.sub, V.EV.len]); first | assumption | omega)
        | ((with_reducible apply Sat.cond_pf); exact rfl; (try dsimp only [V.EV.sub, V.EV.len]); first | assumption | omega)
        | ((with_reducible apply Sat.cond_p); exact rfl; all_goals intro h)
        | ((with_reducible apply Sat.cond); exact rfl; all_goals intro h)
        | ((with_reducible apply Sat.callR (h24)); exact rfl; exact rfl; exact rfl; kernel_rfl; (exact cnvX); exact rfl)
        | ((with_reducible apply DSat.callR (h24)); exact rfl; exact rfl; exact rfl; kernel_rfl; (exact cnvX); exact rfl) | fail)
    refine Sat.callN h21 rfl rfl (by kernel_rfl) (Convs.cons _ _ _ _ (.refl _ trivial) (Convs.cons _ _ _ _ (.refl _ purX) (Convs.cons _ _ _ _ (.all _ _ _ _ _ rfl rfl hdl.symm purX) .nil))) rfl ?_
    generalize datS c (sumR R) = d at *
    repeat' (first
        | ((with_reducible apply Sat.run (X := X64)); exact rfl; (first | exact True.intro | (exact phi) | skip))
        | ((with_reducible apply Sat.drawn); kernel_rfl)
        | ((with_reducible apply DSat.run (X := X64)); exact rfl; (first | exact True.intro | (exact phi) | skip))
        | ((with_reducible apply DSat.fin); kernel_rfl)
        | ((with_reducible apply Sat.cond_t); exact rfl)
        | ((with_reducible apply Sat.cond_f); exact rfl)
        | ((with_reducible apply Sat.cond_pt); exact rfl; (try dsimp only [V.EV.sub, V.EV.len]); first | assumption | omega)
        | ((with_reducible apply Sat.cond_pf); exact rfl; (try dsimp only [V.EV.sub, V.EV.len]); first | assumption | omega)
        | ((with_reducible apply Sat.cond_p); exact rfl; all_goals intro h)
        | ((with_reducible apply Sat.cond); exact rfl; all_goals intro h)
        | ((with_reducible apply DSat.callM (h22)); exact rfl; exact rfl; (first | exact rfl | assumption | (decide +kernel)); exact rfl; kernel_rfl; (exact cnvX); exact rfl) | fail)
    · (repeat' (first | exact AllP.nil | with_reducible refine AllP.cons ?_ ?_)) <;> first | exact rfl | exact fun h => h | (exact fun _ => rfl) | (intro _; show 0 + sumR R ≤ d.length; omega) | (intro _; show okLen (sumR R); unfold okLen; omega)
    · exfalso
      rw [hg1, show List.take (sumR R) (List.drop 0 d) = d by rw [List.drop_zero, ← hdl, List.take_length]] at h
      rw [decide_eq_false (not_not_intro (rfl : d = d))] at h
      cases h
    rename_i h
    clear h hg1
    apply Sat.loop (α := Nat × Int) (fun k => k.1 ≤ R.length + 1 ∧ (k.1 ≤ R.length → k.2 = gapA R k.1)) (fun k => R.length + 1 - k.1) (0, 0) (fun k => [(14, .int .i64 k.2), (15, .int .i64 (k.1 : Int))]) (fun _ => [(0, .row 5 (.u8 d))]) [] [] 0
    · intro x; exact rfl
    · intro x; exact rfl
    · exact rfl
    · exact rfl
    · (repeat' (first | exact AllP.nil | with_reducible refine AllP.cons ?_ ?_)) <;> first | exact rfl | exact trivial | exact ⟨rfl, rfl, rfl, rfl⟩ | exact purX
    · exact ⟨Nat.zero_le _, fun _ => rfl⟩
    rintro ⟨k, p⟩ ⟨k1, k2⟩
    dsimp only at k1 k2 ⊢
    by_cases hk : k ≤ R.length
    · have hp : Hid (p = gapA R k) := k2 hk
      clear k2
      have hg : Hid (0 ≤ gapA R k ∧ gapA R k ≤ (x.length : Int) ∧ (k < R.length → gapA R k ≤ (R.getD k rng0).lo)) := gap_le (by omega) (by omega) ho k hk (by omega)
      have hck : (k : Int) ≤ ((rngE R).len : Int) := by show (k : Int) ≤ (R.length : Int); omega
      by_cases hk2 : k < R.length
      · have hck2 : (k : Int) < ((rngE R).len : Int) := by show (k : Int) < (R.length : Int); omega
        have hh : Hid (0 ≤ p ∧ p ≤ (R.getD k rng0).lo ∧ (R.getD k rng0).lo ≤ (x.length : Int)) := by
          have hg : 0 ≤ gapA R k ∧ gapA R k ≤ (x.length : Int) ∧ (k < R.length → gapA R k ≤ (R.getD k rng0).lo) := hg
          have hb : 0 ≤ (R.getD k rng0).lo ∧ (R.getD k rng0).lo < (R.getD k rng0).hi ∧ (R.getD k rng0).hi ≤ (x.length : Int) := hb k hk2
          have hp : p = gapA R k := hp
          have := hg.2.2 hk2
          show 0 ≤ p ∧ p ≤ (R.getD k rng0).lo ∧ (R.getD k rng0).lo ≤ (x.length : Int)
          omega
        repeat' (first
            | ((with_reducible apply Sat.run (X := X64)); exact rfl; (first | exact True.intro | (exact phi) | skip))
            | ((with_reducible apply Sat.drawn); kernel_rfl)
            | ((with_reducible apply DSat.run (X := X64)); exact rfl; (first | exact True.intro | (exact phi) | skip))
            | ((with_reducible apply DSat.fin); kernel_rfl)
            | ((with_reducible apply Sat.cond_t); exact rfl)
            | ((with_reducible apply Sat.cond_f); exact rfl)
            | ((with_reducible apply Sat.cond_pt); exact rfl; (try dsimp only [V.EV.sub, V.EV.len]); first | assumption | omega)
            | ((with_reducible apply Sat.cond_pf); exact rfl; (try dsimp only [V.EV.sub, V.EV.len]); first | assumption | omega)
            | ((with_reducible apply Sat.cond_p); exact rfl; all_goals intro h)
            | ((with_reducible apply Sat.cond); exact rfl; all_goals intro h) | fail)
        · obtain ⟨g1, g2, g3⟩ : 0 ≤ p ∧ p ≤ (R.getD k rng0).lo ∧ (R.getD k rng0).lo ≤ (x.length : Int) := hh
          have a1 : p.toNat ≤ (R.getD k rng0).lo.toNat ∧ (R.getD k rng0).lo.toNat ≤ x.length := by omega
          have a2 : p.toNat ≤ (R.getD k rng0).lo.toNat ∧ (R.getD k rng0).lo.toNat ≤ b.length := by omega
          have a3 : 0 ≤ (R.getD k rng0).lo := by omega
          exact .cons g1 (.cons a3 (.cons a1 (.cons g1 (.cons a3 (.cons a2 .nil)))))
        · exfalso
          obtain ⟨g1, g2, g3⟩ : 0 ≤ p ∧ p ≤ (R.getD k rng0).lo ∧ (R.getD k rng0).lo ≤ (x.length : Int) := hh
          have hp : p = gapA R k := hp
          have b4 : ∀ i, inS R i = false → b.getD i 0 = x.getD i 0 := b4
          have e : List.take ((R.getD k rng0).lo.toNat - p.toNat) (List.drop p.toNat b) = List.take ((R.getD k rng0).lo.toNat - p.toNat) (List.drop p.toNat x) := piece_eq b2 fun j q1 q2 => b4 j (gap_out ho k hk j (by omega) fun _ => by omega)
          exact h e
        · refine Sat.back (k + 1, (R.getD k rng0).hi) [] rfl ?_ ?_ ?_
          · (repeat' (first | exact AllP.nil | with_reducible refine AllP.cons ?_ ?_)) <;> first | exact rfl | exact trivial | exact Int.natCast_add_one _ | exact ⟨rfl, rfl, rfl, rfl⟩ | exact purX
          · exact ⟨by dsimp only; omega, fun _ => rfl⟩
          · dsimp only; omega
      · have hck2 : ¬ (k : Int) < ((rngE R).len : Int) := by show ¬ (k : Int) < (R.length : Int); omega
        have hh : Hid (0 ≤ p ∧ p ≤ (x.length : Int)) := by
          have hg : 0 ≤ gapA R k ∧ gapA R k ≤ (x.length : Int) ∧ (k < R.length → gapA R k ≤ (R.getD k rng0).lo) := hg
          have hp : p = gapA R k := hp
          show 0 ≤ p ∧ p ≤ (x.length : Int)
          omega
        repeat' (first
            | ((with_reducible apply Sat.run (X := X64)); exact rfl; (first | exact True.intro | (exact phi) | skip))
            | ((with_reducible apply Sat.drawn); kernel_rfl)
            | ((with_reducible apply DSat.run (X := X64)); exact rfl; (first | exact True.intro | (exact phi) | skip))
            | ((with_reducible apply DSat.fin); kernel_rfl)
            | ((with_reducible apply Sat.cond_t); exact rfl)
            | ((with_reducible apply Sat.cond_f); exact rfl)
            | ((with_reducible apply Sat.cond_pt); exact rfl; (try dsimp only [V.EV.sub, V.EV.len]); first | assumption | omega)
            | ((with_reducible apply Sat.cond_pf); exact rfl; (try dsimp only [V.EV.sub, V.EV.len]); first | assumption | omega)
            | ((with_reducible apply Sat.cond_p); exact rfl; all_goals intro h)
            | ((with_reducible apply Sat.cond); exact rfl; all_goals intro h) | fail)
        · obtain ⟨g1, g2⟩ : 0 ≤ p ∧ p ≤ (x.length : Int) := hh
          have a1 : p.toNat ≤ (x.length : Int).toNat ∧ (x.length : Int).toNat ≤ x.length := by omega
          have a2 : p.toNat ≤ (x.length : Int).toNat ∧ (x.length : Int).toNat ≤ b.length := by omega
          have a3 : 0 ≤ (x.length : Int) := by omega
          exact .cons g1 (.cons a3 (.cons a1 (.cons g1 (.cons a3 (.cons a2 .nil)))))
        · exfalso
          obtain ⟨g1, g2⟩ : 0 ≤ p ∧ p ≤ (x.length : Int) := hh
          have hp : p = gapA R k := hp
          have b4 : ∀ i, inS R i = false → b.getD i 0 = x.getD i 0 := b4
          have e : List.take ((x.length : Int).toNat - p.toNat) (List.drop p.toNat b) = List.take ((x.length : Int).toNat - p.toNat) (List.drop p.toNat x) := piece_eq b2 fun j q1 q2 => b4 j (gap_out ho k hk j (by omega) fun _ => by omega)
          exact h e
        · refine Sat.back (k + 1, p) [] rfl ?_ ?_ ?_
          · (repeat' (first | exact AllP.nil | with_reducible refine AllP.cons ?_ ?_)) <;> first | exact rfl | exact trivial | exact Int.natCast_add_one _ | exact ⟨rfl, rfl, rfl, rfl⟩ | exact purX
          · exact ⟨by dsimp only; omega, fun h => by dsimp only at h; omega⟩
          · dsimp only; omega
    · obtain rfl : k = R.length + 1 := by omega
      have hck : ¬ ((R.length + 1 : Nat) : Int) ≤ ((rngE R).len : Int) := by show ¬ ((R.length + 1 : Nat) : Int) ≤ (R.length : Int); omega
      clear k2
      refine Sat.run (X := X64) rfl True.intro ?_
      with_reducible apply Sat.cond_pf
      · exact rfl
      · exact hck
      refine Sat.runN (X := X64) 6 rfl True.intro ?_
      refine Sat.enter ?_
      refine Sat.one (X := X64) rfl True.intro ?_
      refine Sat.one (X := X64) rfl True.intro ?_
      refine Sat.one (X := X64) rfl True.intro ?_
      refine Sat.one (X := X64) rfl True.intro ?_
      refine Sat.one (X := X64) rfl True.intro ?_
      refine Sat.appCall (e0 := .u8 []) (h21f _ rfl) rfl rfl rfl rfl hdl.symm Tryd.underlying43 ⟨_, Tryd.underlying43⟩ rfl rfl rfl rfl rfl rfl rfl ?_ (fun _ _ h => by cases h) (fun _ h => by cases h) Nat.one_pos (by show d.length + 1 ≤ _; omega) (fun _ => rfl) (fun _ => rfl) (by kernel_rfl) (Convs.cons _ _ _ _ (.refl _ trivial) (Convs.cons _ _ _ _ (.refl _ purX) .nil)) (fun _ _ => rfl) ?_
      · exact .cons (Nat.le_refl _) .nil
      intro v1 u1
      refine Sat.runN (X := X64) 11 rfl ?_ ?_
      · simp only [List.nil_append, List.cons_append, List.append_nil, EV.len, EV.sub]
        (repeat' (first | exact AllP.nil | with_reducible refine AllP.cons ?_ ?_)) <;> first | omega | exact rfl | exact inR_i64 (by omega) (by omega)
      refine Sat.enter ?_
      refine Sat.one (X := X64) rfl True.intro ?_
      refine Sat.one (X := X64) rfl True.intro ?_
      refine Sat.one (X := X64) rfl True.intro ?_
      refine Sat.one (X := X64) rfl True.intro ?_
      refine Sat.one (X := X64) rfl True.intro ?_
      refine Sat.appCall (e0 := .u8 []) (h21o _) rfl rfl rfl rfl hdl.symm Tryd.underlying43 ⟨_, Tryd.underlying43⟩ rfl rfl rfl rfl rfl rfl rfl ?_ (fun _ _ h => by cases h) (fun _ h => by cases h) Nat.one_pos (by show d.length + 1 ≤ _; omega) (fun _ => rfl) (fun _ => rfl) (by kernel_rfl) (Convs.cons _ _ _ _ (.refl _ trivial) (Convs.cons _ _ _ _ (.gx _ _ _ (outF R (x.length : Int)) _ (.all _ _ _ _ _ rfl rfl rfl (fun i hi => by rw [outF_eq R _ i hi]; exact rngG_pure _ _)) (outF_eq R _)) .nil)) (fun _ _ => rfl) ?_
      · exact .cons (Nat.le_refl _) .nil
      intro v2 u2
      by_cases hl2 : R.length < 2
      · have hz : ((rngE R).len : Int) < 2 := by show (R.length : Int) < 2; omega
        repeat' (first
            | ((with_reducible apply Sat.run (X := X64)); exact rfl; (first | exact True.intro | (exact phi) | skip))
            | ((with_reducible apply Sat.drawn); kernel_rfl)
            | ((with_reducible apply DSat.run (X := X64)); exact rfl; (first | exact True.intro | (exact phi) | skip))
            | ((with_reducible apply DSat.fin); kernel_rfl)
            | ((with_reducible apply Sat.cond_t); exact rfl)
            | ((with_reducible apply Sat.cond_f); exact rfl)
            | ((with_reducible apply Sat.cond_pt); exact rfl; (try dsimp only [V.EV.sub, V.EV.len]); first | assumption | omega)
            | ((with_reducible apply Sat.cond_pf); exact rfl; (try dsimp only [V.EV.sub, V.EV.len]); first | assumption | omega)
            | ((with_reducible apply Sat.cond_p); exact rfl; all_goals intro h)
            | ((with_reducible apply Sat.cond); exact rfl; all_goals intro h) | fail)
        (refine Sat.fin (Sat.end1 rfl rfl rfl True.intro (.refl _ purX) (by first | exact .inl rfl | exact .inr rfl) (fun _ h => h)) ?_; rfl)
      · have hz : ¬ ((rngE R).len : Int) < 2 := by show ¬ (R.length : Int) < 2; omega
        have h21t := h21t (by omega)
        repeat' (first
            | ((with_reducible apply Sat.run (X := X64)); exact rfl; (first | exact True.intro | (exact phi) | skip))
            | ((with_reducible apply Sat.drawn); kernel_rfl)
            | ((with_reducible apply DSat.run (X := X64)); exact rfl; (first | exact True.intro | (exact phi) | skip))
            | ((with_reducible apply DSat.fin); kernel_rfl)
            | ((with_reducible apply Sat.cond_t); exact rfl)
            | ((with_reducible apply Sat.cond_f); exact rfl)
            | ((with_reducible apply Sat.cond_pt); exact rfl; (try dsimp only [V.EV.sub, V.EV.len]); first | assumption | omega)
            | ((with_reducible apply Sat.cond_pf); exact rfl; (try dsimp only [V.EV.sub, V.EV.len]); first | assumption | omega)
            | ((with_reducible apply Sat.cond_p); exact rfl; all_goals intro h)
            | ((with_reducible apply Sat.cond); exact rfl; all_goals intro h) | fail)
        refine Sat.callN h21t rfl rfl (by kernel_rfl) (Convs.cons _ _ _ _ (.refl _ trivial) (Convs.cons _ _ _ _ (.gx _ _ _ (swpF R) _ (.all _ _ _ _ _ rfl rfl rfl (fun i hi => by rw [swpF_eq R i]; exact rngG_pure _ _)) (fun i _ => swpF_eq R i)) (Convs.cons _ _ _ _ (.all _ _ _ _ _ rfl rfl hdl.symm purX) .nil))) rfl ?_
        repeat' (first
            | ((with_reducible apply Sat.run (X := X64)); exact rfl; (first | exact True.intro | (exact phi) | skip))
            | ((with_reducible apply Sat.drawn); kernel_rfl)
            | ((with_reducible apply DSat.run (X := X64)); exact rfl; (first | exact True.intro | (exact phi) | skip))
            | ((with_reducible apply DSat.fin); kernel_rfl)
            | ((with_reducible apply Sat.cond_t); exact rfl)
            | ((with_reducible apply Sat.cond_f); exact rfl)
            | ((with_reducible apply Sat.cond_pt); exact rfl; (try dsimp only [V.EV.sub, V.EV.len]); first | assumption | omega)
            | ((with_reducible apply Sat.cond_pf); exact rfl; (try dsimp only [V.EV.sub, V.EV.len]); first | assumption | omega)
            | ((with_reducible apply Sat.cond_p); exact rfl; all_goals intro h)
            | ((with_reducible apply Sat.cond); exact rfl; all_goals intro h) | fail)
        (refine Sat.fin (Sat.end1 rfl rfl rfl True.intro (.refl _ purX) (by first | exact .inl rfl | exact .inr rfl) (fun _ h => h)) ?_; rfl)
end Go.Proofs.YtmmpflifajjbjaaDoor
end
section
namespace Go.Proofs.YtmmpflifajjbjaaDoor
open Go.RowKit Go.ChangeShapes Go.WideShapes V
set_option maxRecDepth 100000
set_option maxHeartbeats 8000000
theorem imageSpreads_step (os : Os) (started : os.Started) (H : Type) (enc : TypeId × Value → H) (F : Stop.Interp) :
    ReturnsInHanded {} Tryd.checked os 7 .any ((OpenSpec.ofChange Rows.imageSpreadsSpec).preRow enc Tryd.prog Tryd.f7 Rows.imageSpreadsRow.domain false Rows.imageSpreadsRow.laid) (((OpenSpec.ofChange Rows.imageSpreadsSpec).at F).post enc Tryd.prog Tryd.f7 false true false false) := by
  refine law_step2 (C := Tryd.checked) (fn := Tryd.f7) (s := OpenSpec.ofChange Rows.imageSpreadsSpec) (F := F) (tb := 4) Γw own started (by kernel_rfl) Tryd.func7 laidOut (by kernel_rfl) (by kernel_rfl) (by kernel_rfl) Tryd.underlying4 rfl ?_
    (row_witness (World.laidAll Tryd.prog os tabs_laid) #[.slice none 0 0, .slice none 0 0, .int .u8 0] (World.laidAll_os _ _ _) (by kernel_rfl) (by kernel_rfl) (by kernel_rfl) (by kernel_rfl) (by kernel_rfl) (door_met os _)) tabs_glob ?_
  · intro ds hl
    obtain ⟨d1, d2, d3, rfl⟩ := list_len3 hl
    rfl
  · intro W vs ds hl ht hk
    obtain ⟨d1, d2, d3, rfl⟩ := list_len3 hl
    refine Fun.facts fun hf => ?_
    show Fun _ _ _ [.ro (.u8 ((eOf d1).map u8Of)), .ro (edsSV (eOf d2)), .int .u8 (iOf d3)] _
    have ht' : Tup E0 (fun _ => False) W [.ro (.u8 ((eOf d1).map u8Of)), .ro (edsSV (eOf d2)), .int .u8 (iOf d3)] vs := ht
    obtain ⟨_, ⟨_, r1⟩, h3, _⟩ := ht'.facts
    rw [edsSV_eq _ r1, u8Of_i d3 h3]
    exact spreads_law (sanity_law (errT W 2) (errT W 3) (errP W 2) (errP W 3)) _ _ _
theorem imageSpreads_said : Rows.ImageSpreadsSaid :=
  OpenClaim.holds_of_cond 7 Tryd.f7 rfl rfl rfl rfl rfl rfl rfl ⟨rfl, rfl, rfl, rfl, rfl⟩ rfl rfl rfl rfl rfl (by kernel_rfl) Tryd.func7 (by kernel_rfl)
    (of_decide_eq_true (by kernel_rfl)) (by unfold Func.isWrapper; first | (rw [if_pos (by decide +kernel)]; kernel_rfl) | (rw [if_neg (by decide +kernel)]; exact ⟨rfl, rfl⟩))
    (fun os started H enc _ F => by rw [OpenClaim.pre_eq_preRow]; exact imageSpreads_step os started H enc F)
theorem imageSpreads_plain (f : FuncId) (fn : Func) (hf : Tryd.pinned.checked.prog.funcNamed "inlay/inlaylaw01.ImageSpreads" = some f) (hfn : Tryd.pinned.checked.prog.funcs[f]? = some fn) :
    true = Tryd.pinned.checked.prog.looks [] ∧ ∀ (j : Nat) t, fn.params[j]? = some t → Tryd.pinned.checked.prog.wantsStandIn t = false := by
  obtain rfl : f = 7 := Option.some.inj ((show Tryd.prog.funcNamed "inlay/inlaylaw01.ImageSpreads" = some 7 by kernel_rfl).symm.trans hf) |>.symm
  obtain rfl : fn = Tryd.f7 := (Option.some.inj (Tryd.func7.symm.trans hfn)).symm
  refine ⟨by kernel_rfl, fun j t ht => ?_⟩
  have hall : Tryd.f7.params.all (fun t => !(Tryd.prog.wantsStandIn t)) = true := by kernel_rfl
  have := (Array.all_eq_true_iff_forall_mem.1 hall) t (Array.mem_of_getElem? ht)
  have h2 : Tryd.prog.wantsStandIn t = false := by simpa using this
  exact h2
/-- The card. -/
theorem imageSpreads_card : Rows.ImageSpreadsCardSaid :=
  Claim7.holds_tied_plain_at .later [] _ _ _ _ imageSpreads_said (fun _ h => by cases h) (by kernel_rfl) (fun _ h => by cases h) imageSpreads_row_tie rfl ⟨rfl, rfl⟩ (by kernel_rfl) rfl imageSpreads_plain (by kernel_rfl)
end Go.Proofs.YtmmpflifajjbjaaDoor
end
