/-
  Joined texts: NI: Meta: MadeRoot.
  OA: Meta: what is written is read again (MetaRoundTrips); different releases and roots have different bytes (MetaDiffers).
  OB: Meta: different releases and roots have different bytes (MetaDiffers).
  OC: Meta: numbers are accepted exactly in their ranges (MetaLimits).
  OD: Meta: the need of a role (MetaLimits, last case).
  Z7: The law inlaylaw26.MetaLimits returns true for every input, and each argument reads behind the call as it read before: numbers of a release and a root are accepted exactly in their ranges.
  Conditions: the package variable bytes.ErrTooLarge holds, when the call begins, what the program's text lays there (the card ties it); no other narrowing.
-/
import Derived.Test.YtegbdcadlmefgaaDoorQE
import Derived.Test.YtegbdcadlmefgaaDoorQC
import Derived.SevenTiedAt
section
namespace Go.Proofs.YtegbdcadlmefgaaDoor
open Go.RowKit V
--PURE: (intro _ _; simp [pureL, pureS, pureE]; done)
set_option maxRecDepth 100000
set_option maxHeartbeats 4000000
set_option linter.unusedSimpArgs false
attribute [local irreducible] V.Sat V.DSat
theorem any_take (l : List (List UInt8)) (f : List UInt8 → Bool) (k : Nat) (hk : k < l.length) : (l.take (k + 1)).any f = bif (l.take k).any f then true else f (l.getD k []) := by
  rw [List.take_succ, List.any_append, List.getD_eq_getElem?_getD, List.getElem?_eq_getElem hk]
  cases (l.take k).any f <;> simp
theorem bit_val (m : UInt8) (k : Nat) : decide (IntKind.u8.wrap ((BitVec.ofInt IntKind.u8.bits ((m.toNat : Int).fdiv (2 ^ min ((k : Int).toNat) IntKind.u8.bits)) &&& BitVec.ofInt IntKind.u8.bits 1).toNat : Int) = 1) = bitM m k := by
  have h1 := band_mask .u8 ((m.toNat : Int).fdiv (2 ^ min ((k : Int).toNat) IntKind.u8.bits)) 1 (by decide)
  have h2 : (2 : Int) ^ 1 - 1 = 1 := by decide
  rw [h2] at h1
  rw [h1, Int.toNat_natCast]
  unfold bitM
  have hm := m.toNat_lt
  have h3 : (m.toNat : Int).fdiv (2 ^ min k IntKind.u8.bits) = ((m.toNat / 2 ^ k : Nat) : Int) := by
    rw [Int.fdiv_eq_ediv_of_nonneg _ (Int.pow_nonneg (by decide))]
    rcases Nat.le_total k 8 with hk | hk
    · rw [Nat.min_eq_left (show k ≤ IntKind.u8.bits from hk)]
      simp
    · rw [Nat.min_eq_right (show IntKind.u8.bits ≤ k from hk)]
      have e1 : m.toNat / 2 ^ k = 0 := Nat.div_eq_of_lt (Nat.lt_of_lt_of_le hm (Nat.pow_le_pow_right (by decide) hk))
      rw [e1]
      show (m.toNat : Int) / 2 ^ 8 = ((0 : Nat) : Int)
      omega
  rw [h3]
  apply decide_eq_decide.2
  omega
theorem cond_val (m : UInt8) (k n L : Nat) : (bif decide (IntKind.u8.wrap ((BitVec.ofInt IntKind.u8.bits ((m.toNat : Int).fdiv (2 ^ min ((k : Int).toNat) IntKind.u8.bits)) &&& BitVec.ofInt IntKind.u8.bits 1).toNat : Int) = 1) then true else bif decide ((k : Int) = (n : Int) - 1) then decide ((L : Int) = 0) else false) = (bitM m k || (decide (k + 1 = n) && decide (L = 0))) := by
  rw [bit_val, show decide ((k : Int) = (n : Int) - 1) = decide (k + 1 = n) from decide_eq_decide.2 (by omega), show decide ((L : Int) = 0) = decide (L = 0) from decide_eq_decide.2 (by omega)]
  cases bitM m k <;> cases decide (k + 1 = n) <;> rfl
theorem madeRoot_walk (x : RawQ) : Fun Tryd.prog [] 22 [x.v] (madeQ x).v := by
  obtain ⟨g, ex, kl, rl⟩ := x
  show Fun Tryd.prog [] 22 [.agg [.int .u16 (g : Int), .int .u32 (ex : Int), .ro (.u8 kl), .ro (rawRoles rl)]] _
  have hM : madeQ ⟨g, ex, kl, rl⟩ = ⟨1 + (g : Int), (ex : Int) % 1000000001, keysF (kl.take 5), rolesF (keysF (kl.take 5)).length (rl.take 4)⟩ := rfl
  rw [hM]
  refine Fun.mkF 8 Tryd.func22 rfl Tryd.ntmps22 rfl rfl fun hf T w0 => ?_
  have hgb := u16_iff hf.1.1
  repeat' (first
      | ((with_reducible apply Sat.run (X := X64)); exact rfl; (first | exact True.intro | (exact phi) | skip))
      | ((with_reducible apply Sat.drawn); kernel_rfl)
      | ((with_reducible apply DSat.run (X := X64)); exact rfl; (first | exact True.intro | (exact phi) | skip))
      | ((with_reducible apply DSat.fin); kernel_rfl)
      | ((with_reducible apply Sat.cond_t); exact rfl)
      | ((with_reducible apply Sat.cond_f); exact rfl)
      | ((with_reducible apply Sat.cond_pt); exact rfl; (try dsimp only [V.EV.sub, V.EV.len]); first | assumption | omega)
      | ((with_reducible apply Sat.cond_pf); exact rfl; (try dsimp only [V.EV.sub, V.EV.len]); first | assumption | omega)
      | ((with_reducible apply Sat.cond_p); exact rfl; all_goals intro h)
      | ((with_reducible apply Sat.cond); exact rfl; all_goals intro h) | fail)
  generalize 1 + (g : Int) = gen
  generalize (ex : Int) % 1000000001 = exp
  apply Sat.loop (α := Nat × List (List UInt8)) (fun x => x.1 ≤ 5 ∧ x.1 ≤ kl.length ∧ x.2.length ≤ x.1 ∧ keysM [] (kl.take 5) = keysM x.2 ((kl.take 5).drop x.1)) (fun x => 5 - x.1) (0, []) (fun x => [(4, .int .i64 (x.1 : Int))]) (fun x => [(2, .cells 31 [.int .i64 gen, .int .i64 exp, .row 3 0 32 0 x.2.length, .nils]), (3, .row 23 (keysE x.2))]) [] [(3, none)] 1
  · intro x; exact rfl
  · intro x; exact rfl
  · exact rfl
  · exact rfl
  · (repeat' (first | exact AllP.nil | with_reducible refine AllP.cons ?_ ?_)) <;> first | with_reducible exact rfl | exact rfl | exact trivial | (intro _ _; simp [pureL, pureS, pureE]; done) | exact ⟨rfl, rfl, rfl, rfl⟩
  · exact ⟨Nat.zero_le _, Nat.zero_le _, Nat.le_refl _, rfl⟩
  · rintro ⟨i, acc⟩ ⟨x0, x1, x2, x3⟩
    dsimp only at x0 x1 x2 x3 ⊢
    repeat' (first
        | ((with_reducible apply Sat.run (X := X64)); exact rfl; (first | exact True.intro | (exact phi) | skip))
        | ((with_reducible apply Sat.drawn); kernel_rfl)
        | ((with_reducible apply DSat.run (X := X64)); exact rfl; (first | exact True.intro | (exact phi) | skip))
        | ((with_reducible apply DSat.fin); kernel_rfl)
        | ((with_reducible apply Sat.cond_t); exact rfl)
        | ((with_reducible apply Sat.cond_f); exact rfl)
        | ((with_reducible apply Sat.cond_pt); exact rfl; (try dsimp only [V.EV.sub, V.EV.len]); first | assumption | omega)
        | ((with_reducible apply Sat.cond_pf); exact rfl; (try dsimp only [V.EV.sub, V.EV.len]); first | assumption | omega)
        | ((with_reducible apply Sat.cond_p); exact rfl; all_goals (intro h; (try simp only [V.EV.sub, V.EV.len] at h)))
        | ((with_reducible apply Sat.cond); exact rfl; all_goals (intro h; (try simp only [V.EV.sub, V.EV.len, Bool.cond_true_left, Bool.cond_false_right, Bool.or_eq_true, Bool.and_eq_true, Bool.or_eq_false_iff, Bool.and_eq_false_iff, Bool.not_eq_true', Bool.not_eq_false', decide_eq_true_eq, decide_eq_false_iff_not, ne_eq] at h))) | fail)
    · obtain ⟨h5, h6⟩ := h
      have h5 := of_decide_eq_true h5
      apply Sat.loop (α := Nat) (fun x => x ≤ acc.length) (fun x => acc.length - x) 0 (fun x => [(5, .bool ((acc.take x).any fun y => decide (y = (sumB (kl.getD ((i : Int).toNat) 0))))), (6, .int .i64 (x : Int))]) (fun x => []) [] [] 0
      · intro x; exact rfl
      · intro x; exact rfl
      · exact rfl
      · exact rfl
      · (repeat' (first | exact AllP.nil | with_reducible refine AllP.cons ?_ ?_)) <;> first | with_reducible exact rfl | exact rfl | exact trivial | (intro _ _; simp [pureL, pureS, pureE]; done) | exact ⟨rfl, rfl, rfl, rfl⟩
      · exact Nat.zero_le _
      · intro k hk
        repeat' (first
            | ((with_reducible apply Sat.run (X := X64)); exact rfl; (first | exact True.intro | (exact phi) | skip))
            | ((with_reducible apply Sat.drawn); kernel_rfl)
            | ((with_reducible apply DSat.run (X := X64)); exact rfl; (first | exact True.intro | (exact phi) | skip))
            | ((with_reducible apply DSat.fin); kernel_rfl)
            | ((with_reducible apply Sat.cond_t); exact rfl)
            | ((with_reducible apply Sat.cond_f); exact rfl)
            | ((with_reducible apply Sat.cond_pt); exact rfl; (try dsimp only [V.EV.sub, V.EV.len]); first | assumption | omega)
            | ((with_reducible apply Sat.cond_pf); exact rfl; (try dsimp only [V.EV.sub, V.EV.len]); first | assumption | omega)
            | ((with_reducible apply Sat.cond_p); exact rfl; all_goals (intro h; (try simp only [V.EV.sub, V.EV.len] at h)))
            | ((with_reducible apply Sat.cond); exact rfl; all_goals (intro h; (try simp only [V.EV.sub, V.EV.len, Bool.cond_true_left, Bool.cond_false_right, Bool.or_eq_true, Bool.and_eq_true, Bool.or_eq_false_iff, Bool.and_eq_false_iff, Bool.not_eq_true', Bool.not_eq_false', decide_eq_true_eq, decide_eq_false_iff_not, ne_eq] at h)))
            | ((with_reducible apply Sat.callG1 (sumB_spec _)); exact rfl; exact rfl; exact rfl; exact rfl; kernel_rfl; (intro hG; (exact cnvX)); exact rfl)
            | ((with_reducible apply DSat.callG1 (sumB_spec _)); exact rfl; exact rfl; exact rfl; exact rfl; kernel_rfl; (intro hG; (exact cnvX)); exact rfl)
            | ((with_reducible apply Sat.callR (sumB_spec _)); exact rfl; exact rfl; exact rfl; kernel_rfl; (exact cnvX); exact rfl)
            | ((with_reducible apply DSat.callR (sumB_spec _)); exact rfl; exact rfl; exact rfl; kernel_rfl; (exact cnvX); exact rfl) | fail)
        · refine Sat.back (k + 1) [] rfl ?_ (by omega) (by omega)
          (repeat' (first | exact AllP.nil | with_reducible refine AllP.cons ?_ ?_)) <;> first | with_reducible exact rfl | exact Int.natCast_add_one _ | (rw [Nat.zero_add]; exact (any_take acc (fun y => decide (y = (sumB (kl.getD ((i : Int).toNat) 0)))) k (by omega)).symm) | exact rfl | exact trivial | (intro _ _; simp [pureL, pureS, pureE]; done) | exact ⟨rfl, rfl, rfl, rfl⟩
        · rename_i h'
          have hk2 : k = acc.length := by omega
          subst hk2
          rw [List.take_length] at h
          refine Sat.back (i + 1, acc ++ [(sumB (kl.getD ((i : Int).toNat) 0))]) [(3, some 5)] rfl ?_ ?_ ?_
          · (repeat' (first | exact AllP.nil | with_reducible refine AllP.cons ?_ ?_)) <;> first | with_reducible exact rfl | exact Int.natCast_add_one _ | (show acc.length + 1 = (acc ++ [(sumB (kl.getD ((i : Int).toNat) 0))]).length; simp; done) | exact sums_pure acc (sumB (kl.getD ((i : Int).toNat) 0)) | (intro z hz; exact sums_snoc acc (sumB (kl.getD ((i : Int).toNat) 0)) z hz) | (show _ = (acc ++ [(sumB (kl.getD ((i : Int).toNat) 0))]).length; simp [EV.len, EV.sub]; done) | (refine ⟨rfl, rfl, rfl, ?_⟩; show _ = (acc ++ [(sumB (kl.getD ((i : Int).toNat) 0))]).length; simp [EV.len, EV.sub]; done) | exact rfl | exact trivial | (intro _ _; simp [pureL, pureS, pureE]; done) | exact ⟨rfl, rfl, rfl, rfl⟩
          · refine ⟨by dsimp only; omega, by dsimp only; omega, by simp only [List.length_append, List.length_cons, List.length_nil]; omega, ?_⟩
            dsimp only
            rw [x3, drop_step kl 0 5 i (by omega) (by omega)]
            conv => lhs; rw [keysM]
            rw [Int.toNat_natCast] at h ⊢
            rw [h]
            rfl
          · dsimp only; omega
        · rename_i h'
          have hk2 : k = acc.length := by omega
          subst hk2
          rw [List.take_length] at h
          refine Sat.back (i + 1, acc) [(3, some 3)] rfl ?_ ?_ ?_
          · (repeat' (first | exact AllP.nil | with_reducible refine AllP.cons ?_ ?_)) <;> first | with_reducible exact rfl | exact Int.natCast_add_one _ | exact rfl | exact trivial | (intro _ _; simp [pureL, pureS, pureE]; done) | exact ⟨rfl, rfl, rfl, rfl⟩
          · refine ⟨by dsimp only; omega, by dsimp only; omega, by dsimp only; omega, ?_⟩
            dsimp only
            rw [x3, drop_step kl 0 5 i (by omega) (by omega)]
            conv => lhs; rw [keysM]
            rw [Int.toNat_natCast] at h
            rw [h]
            rfl
          · dsimp only; omega
    · have he : 5 ≤ i ∨ kl.length ≤ i := by
        rename_i h'
        rcases h' with h' | h'
        · have := of_decide_eq_false h'; omega
        · omega
      rw [drop_end kl 5 i he] at x3
      have x4 : keysM [] (kl.take 5) = acc := x3
      have hK : keysF (kl.take 5) = [List.replicate 32 0] := by
        unfold keysF
        rw [x4, decide_eq_true (by omega : acc.length = 0)]
        rfl
      rw [hK]
      clear x3 x4 hK he
      apply Sat.loop (α := Nat × List RoleL) (fun x => x.1 ≤ 4 ∧ x.1 ≤ rl.length ∧ x.2.length = x.1 ∧ rolesM 1 0 (rl.take 4) = x.2 ++ rolesM 1 x.1 ((rl.take 4).drop x.1)) (fun x => 4 - x.1) (0, []) (fun x => [(8, .int .i64 (x.1 : Int))]) (fun x => [(2, .cells 31 [.int .i64 gen, .int .i64 exp, .row 4 0 32 0 1, .row 6 0 3 0 x.2.length]), (4, .row 23 (keysE [List.replicate 32 0])), (5, .row 9 (.g 4 1 fun i => [.str (nameR i)])), (6, .row 68 (rolesE x.2))]) [] [(6, none)] 1
      · intro x; exact rfl
      · intro x; exact rfl
      · exact rfl
      · exact rfl
      · (repeat' (first | exact AllP.nil | with_reducible refine AllP.cons ?_ ?_)) <;> first | with_reducible exact rfl | (intro z hz; rcases z with _ | _ | _ | _ | z <;> first | rfl | (exfalso; omega)) | (intro z hz; rcases z with _ | _ | _ | _ | z <;> first | exact ⟨trivial, trivial⟩ | exact ⟨by simp [pureS, pureE], trivial⟩ | (exfalso; omega)) | (intro z hz; have hz : z < 1 := hz; obtain rfl : z = 0 := (by omega); first | rfl | (simp [nthL, pureL, pureS, pureE]; done) | exact ⟨trivial, by simp [pureS, pureE], trivial, trivial⟩) | exact rfl | exact trivial | (intro _ _; simp [pureL, pureS, pureE]; done) | exact ⟨rfl, rfl, rfl, rfl⟩
      · exact ⟨Nat.zero_le _, Nat.zero_le _, rfl, rfl⟩
      · rintro ⟨j, rs⟩ ⟨y0, y1, y2, y3⟩
        dsimp only at y0 y1 y2 y3 ⊢
        by_cases hj : j < 4 ∧ j < rl.length
        · obtain ⟨hj4, hjl⟩ := hj
          repeat' (first
              | ((with_reducible apply Sat.run (X := X64)); exact rfl; (first | exact True.intro | (exact phi) | skip))
              | ((with_reducible apply Sat.drawn); kernel_rfl)
              | ((with_reducible apply DSat.run (X := X64)); exact rfl; (first | exact True.intro | (exact phi) | skip))
              | ((with_reducible apply DSat.fin); kernel_rfl) | fail)
          with_reducible apply Sat.cond
          · exact rfl
          · intro h
            clear h
            repeat' (first
                | ((with_reducible apply Sat.run (X := X64)); exact rfl; (first | exact True.intro | (exact phi) | skip))
                | ((with_reducible apply Sat.drawn); kernel_rfl)
                | ((with_reducible apply DSat.run (X := X64)); exact rfl; (first | exact True.intro | (exact phi) | skip))
                | ((with_reducible apply DSat.fin); kernel_rfl) | fail)
            apply Sat.loop (α := Nat) (fun x => x ≤ 1) (fun x => 1 - x) 0 (fun x => [(10, .int .i64 (x : Int))]) (fun x => [(7, .cells 68 [.str (nameR (0 + (j : Int).toNat)), .row 8 0 1 0 (rkM (rl.getD ((j : Int).toNat) (0, 0)).1 1 x).length, .int .i64 0]), (8, .row 3 (.ints .i64 (rkM (rl.getD ((j : Int).toNat) (0, 0)).1 1 x)))]) [] [(8, none)] 1
            · intro x; exact rfl
            · intro x; exact rfl
            · exact rfl
            · exact rfl
            · (repeat' (first | exact AllP.nil | with_reducible refine AllP.cons ?_ ?_)) <;> first | with_reducible exact rfl | exact rfl | exact trivial | (intro _ _; simp [pureL, pureS, pureE]; done) | exact ⟨rfl, rfl, rfl, rfl⟩
            · exact Nat.zero_le _
            · intro k hk
              have hkl := rkM_len (rl.getD ((j : Int).toNat) (0, 0)).1 1 k
              by_cases hkn : k < 1
              · repeat' (first
                    | ((with_reducible apply Sat.run (X := X64)); exact rfl; (first | exact True.intro | (exact phi) | skip))
                    | ((with_reducible apply Sat.drawn); kernel_rfl)
                    | ((with_reducible apply DSat.run (X := X64)); exact rfl; (first | exact True.intro | (exact phi) | skip))
                    | ((with_reducible apply DSat.fin); kernel_rfl)
                    | ((with_reducible apply Sat.cond_t); exact rfl)
                    | ((with_reducible apply Sat.cond_f); exact rfl)
                    | ((with_reducible apply Sat.cond_pt); exact rfl; (try dsimp only [V.EV.sub, V.EV.len]); first | assumption | omega)
                    | ((with_reducible apply Sat.cond_pf); exact rfl; (try dsimp only [V.EV.sub, V.EV.len]); first | assumption | omega)
                    | ((with_reducible apply Sat.cond_p); exact rfl; all_goals intro h)
                    | ((with_reducible apply Sat.cond); exact rfl; all_goals intro h) | fail)
                · rw [cond_val] at h
                  have hst : rkM (rl.getD ((j : Int).toNat) (0, 0)).1 1 (k + 1) = rkM (rl.getD ((j : Int).toNat) (0, 0)).1 1 k ++ [(k : Int)] := by rw [rkM, h]; rfl
                  refine Sat.back (k + 1) [(8, some 10)] rfl ?_ (by omega) (by omega)
                  (repeat' (first | exact AllP.nil | with_reducible refine AllP.cons ?_ ?_)) <;> first | with_reducible exact rfl | exact Int.natCast_add_one _ | (rw [hst]; done) | (rw [hst]; exact rfl) | (rw [hst]; simp [EV.len, EV.sub]; done) | (refine ⟨rfl, rfl, rfl, ?_⟩; rw [hst]; simp [EV.len, EV.sub]; done) | exact rfl | exact trivial | (intro _ _; simp [pureL, pureS, pureE]; done) | exact ⟨rfl, rfl, rfl, rfl⟩
                · rw [cond_val] at h
                  have hst : rkM (rl.getD ((j : Int).toNat) (0, 0)).1 1 (k + 1) = rkM (rl.getD ((j : Int).toNat) (0, 0)).1 1 k := by rw [rkM, h]; rfl
                  refine Sat.back (k + 1) [(8, some 8)] rfl ?_ (by omega) (by omega)
                  (repeat' (first | exact AllP.nil | with_reducible refine AllP.cons ?_ ?_)) <;> first | with_reducible exact rfl | exact Int.natCast_add_one _ | (rw [hst]; done) | (rw [hst]; exact rfl) | (rw [hst]; exact ⟨rfl, rfl, rfl, rfl⟩) | exact rfl | exact trivial | (intro _ _; simp [pureL, pureS, pureE]; done) | exact ⟨rfl, rfl, rfl, rfl⟩
              · have hk2 : k = 1 := by omega
                subst hk2
                have hp := rkM_pos (rl.getD ((j : Int).toNat) (0, 0)).1 1 (by omega)
                repeat' (first
                    | ((with_reducible apply Sat.run (X := X64)); exact rfl; (first | exact True.intro | (exact phi) | skip))
                    | ((with_reducible apply Sat.drawn); kernel_rfl)
                    | ((with_reducible apply DSat.run (X := X64)); exact rfl; (first | exact True.intro | (exact phi) | skip))
                    | ((with_reducible apply DSat.fin); kernel_rfl) | fail)
                with_reducible apply Sat.cond_pf
                · exact rfl
                · omega
                refine Sat.runN (X := X64) 6 rfl True.intro ?_
                have hq1 := (rl.getD ((j : Int).toNat) (0, 0)).2.toNat_lt
                have hm1 := Int.emod_nonneg ((rl.getD ((j : Int).toNat) (0, 0)).2.toNat : Int) (show ((rkM (rl.getD ((j : Int).toNat) (0, 0)).1 1 1).length : Int) ≠ 0 by omega)
                have hm2 := Int.emod_lt_of_pos ((rl.getD ((j : Int).toNat) (0, 0)).2.toNat : Int) (show 0 < ((rkM (rl.getD ((j : Int).toNat) (0, 0)).1 1 1).length : Int) by omega)
                with_reducible apply Sat.drawn
                · kernel_rfl
                with_reducible apply DSat.run (X := X64)
                · exact rfl
                · exact phi
                with_reducible apply DSat.fin
                · kernel_rfl
                refine Sat.runN (X := X64) 2 rfl True.intro ?_
                refine Sat.tidy rfl ?_
                refine Sat.freezeR true 8 rfl ?_ ?_
                · (repeat' (first | exact AllP.nil | with_reducible refine AllP.cons ?_ ?_)) <;> first | exact rfl | exact trivial | exact .inl ⟨rfl, rfl, rfl⟩ | (intro _ _; simp [pureL, pureS, pureE]; done) | (intro _ _; exact rfl) | (intro _; exact rfl) | (intro _; exact trivial) | (intro _; exact .inl ⟨rfl, rfl, rfl⟩) | (intro _ _ _; simp [pureL, pureS, pureE]; done) | exact ⟨rfl, rfl, rfl, rfl⟩ | (intro _; exact ⟨rfl, rfl, rfl, rfl⟩)
                repeat' (first
                    | ((with_reducible apply Sat.run (X := X64)); exact rfl; (first | exact True.intro | (exact phi) | skip))
                    | ((with_reducible apply Sat.drawn); kernel_rfl)
                    | ((with_reducible apply DSat.run (X := X64)); exact rfl; (first | exact True.intro | (exact phi) | skip))
                    | ((with_reducible apply DSat.fin); kernel_rfl) | fail)
                have hj0 : 0 + (j : Int).toNat = j := by omega
                refine Sat.back (j + 1, rs ++ [(⟨nameR (0 + (j : Int).toNat), rkM (rl.getD ((j : Int).toNat) (0, 0)).1 1 1, 1 + ((rl.getD ((j : Int).toNat) (0, 0)).2.toNat : Int) % ((rkM (rl.getD ((j : Int).toNat) (0, 0)).1 1 1).length : Int)⟩ : RoleL)]) [(6, some 10)] rfl ?_ ?_ ?_
                · (repeat' (first | exact AllP.nil | with_reducible refine AllP.cons ?_ ?_)) <;> first | with_reducible exact rfl | exact Int.natCast_add_one _ | (show rs.length + 1 = (rs ++ [(⟨nameR (0 + (j : Int).toNat), rkM (rl.getD ((j : Int).toNat) (0, 0)).1 1 1, 1 + ((rl.getD ((j : Int).toNat) (0, 0)).2.toNat : Int) % ((rkM (rl.getD ((j : Int).toNat) (0, 0)).1 1 1).length : Int)⟩ : RoleL)]).length; simp; done) | exact roles_pure rs (⟨nameR (0 + (j : Int).toNat), rkM (rl.getD ((j : Int).toNat) (0, 0)).1 1 1, 1 + ((rl.getD ((j : Int).toNat) (0, 0)).2.toNat : Int) % ((rkM (rl.getD ((j : Int).toNat) (0, 0)).1 1 1).length : Int)⟩ : RoleL) | (intro z hz; exact roles_snoc rs (⟨nameR (0 + (j : Int).toNat), rkM (rl.getD ((j : Int).toNat) (0, 0)).1 1 1, 1 + ((rl.getD ((j : Int).toNat) (0, 0)).2.toNat : Int) % ((rkM (rl.getD ((j : Int).toNat) (0, 0)).1 1 1).length : Int)⟩ : RoleL) z hz) | (show _ = (rs ++ [(⟨nameR (0 + (j : Int).toNat), rkM (rl.getD ((j : Int).toNat) (0, 0)).1 1 1, 1 + ((rl.getD ((j : Int).toNat) (0, 0)).2.toNat : Int) % ((rkM (rl.getD ((j : Int).toNat) (0, 0)).1 1 1).length : Int)⟩ : RoleL)]).length; simp [EV.len, EV.sub]; done) | (refine ⟨rfl, rfl, rfl, ?_⟩; show _ = (rs ++ [(⟨nameR (0 + (j : Int).toNat), rkM (rl.getD ((j : Int).toNat) (0, 0)).1 1 1, 1 + ((rl.getD ((j : Int).toNat) (0, 0)).2.toNat : Int) % ((rkM (rl.getD ((j : Int).toNat) (0, 0)).1 1 1).length : Int)⟩ : RoleL)]).length; simp [EV.len, EV.sub]; done) | exact rfl | exact trivial | (intro _ _; simp [pureL, pureS, pureE]; done) | exact ⟨rfl, rfl, rfl, rfl⟩
                · refine ⟨by dsimp only; omega, by dsimp only; omega, by simp only [List.length_append, List.length_cons, List.length_nil]; omega, ?_⟩
                  dsimp only
                  rw [y3, drop_step rl (0, 0) 4 j (by omega) (by omega)]
                  conv => lhs; rw [rolesM]
                  simp only [List.append_assoc, List.cons_append, List.nil_append]
                  rw [hj0]
                  rfl
                · dsimp only; omega
          · intro h
            exfalso
            have hq : decide ((j : Int) < ((rawRoles rl).len : Int)) = true := decide_eq_true (by show (j : Int) < (rl.length : Int); omega)
            have hq2 : decide ((j : Int) < 4) = true := decide_eq_true (by omega)
            rw [hq, hq2] at h
            cases h
        · have he : 4 ≤ j ∨ rl.length ≤ j := by omega
          rw [drop_end rl 4 j he] at y3
          have y4 : rolesM 1 0 (rl.take 4) = rs := by rw [y3]; exact List.append_nil _
          repeat' (first
              | ((with_reducible apply Sat.run (X := X64)); exact rfl; (first | exact True.intro | (exact phi) | skip))
              | ((with_reducible apply Sat.drawn); kernel_rfl)
              | ((with_reducible apply DSat.run (X := X64)); exact rfl; (first | exact True.intro | (exact phi) | skip))
              | ((with_reducible apply DSat.fin); kernel_rfl) | fail)
          with_reducible apply Sat.cond
          · exact rfl
          · intro h
            exfalso
            rcases he with he | he
            · rw [decide_eq_false (show ¬ (j : Int) < 4 by omega)] at h
              revert h
              cases decide ((j : Int) < ((rawRoles rl).len : Int)) <;> exact fun h => (by cases h)
            · rw [decide_eq_false (show ¬ (j : Int) < ((rawRoles rl).len : Int) by show ¬ (j : Int) < (rl.length : Int); omega)] at h
              cases h
          intro h
          clear h
          repeat' (first
              | ((with_reducible apply Sat.run (X := X64)); exact rfl; (first | exact True.intro | (exact phi) | skip))
              | ((with_reducible apply Sat.drawn); kernel_rfl)
              | ((with_reducible apply DSat.run (X := X64)); exact rfl; (first | exact True.intro | (exact phi) | skip))
              | ((with_reducible apply DSat.fin); kernel_rfl) | fail)
          with_reducible apply Sat.cond
          · exact rfl
          · intro h
            have hR : rolesF 1 (rl.take 4) = [⟨nameR 1, [0], 1⟩] := by
              unfold rolesF
              have h := of_decide_eq_true h
              rw [y4, decide_eq_true (by omega : rs.length = 0)]
              rfl
            rw [show rolesF ([List.replicate 32 (0 : UInt8)] : List (List UInt8)).length (rl.take 4) = _ from hR]
            refine Sat.enter ?_
            refine Sat.one (X := X64) rfl True.intro ?_
            refine Sat.one (X := X64) rfl True.intro ?_
            refine Sat.tidy rfl ?_
            refine Sat.freezeR true 7 rfl ?_ ?_
            · (repeat' (first | exact AllP.nil | with_reducible refine AllP.cons ?_ ?_)) <;> first | exact rfl | exact trivial | exact .inl ⟨rfl, rfl, rfl⟩ | (intro _ _; simp [pureL, pureS, pureE]; done) | (intro _ _; exact rfl) | (intro _; exact rfl) | (intro _; exact trivial) | (intro _; exact .inl ⟨rfl, rfl, rfl⟩) | (intro _ _ _; simp [pureL, pureS, pureE]; done) | exact ⟨rfl, rfl, rfl, rfl⟩ | (intro _; exact ⟨rfl, rfl, rfl, rfl⟩)
            refine Sat.one (X := X64) rfl True.intro ?_
            refine Sat.one (X := X64) rfl True.intro ?_
            refine Sat.one (X := X64) rfl True.intro ?_
            refine Sat.runN (X := X64) 3 rfl True.intro ?_
            refine Sat.enter ?_
            refine Sat.tidy rfl ?_
            refine Sat.freezeR true 8 rfl ?_ ?_
            · (repeat' (first | exact AllP.nil | with_reducible refine AllP.cons ?_ ?_)) <;> first | exact rfl | exact trivial | exact .inl ⟨rfl, rfl, rfl⟩ | (intro _ _; simp [pureL, pureS, pureE]; done) | (intro _ _; exact rfl) | (intro _; exact rfl) | (intro _; exact trivial) | (intro _; exact .inl ⟨rfl, rfl, rfl⟩) | (intro _ _ _; simp [pureL, pureS, pureE]; done) | exact ⟨rfl, rfl, rfl, rfl⟩ | (intro _; exact ⟨rfl, rfl, rfl, rfl⟩) | (intro z hz; rcases z with _ | _ | _ | _ | z <;> first | rfl | (exfalso; omega)) | (intro z hz; rcases z with _ | _ | _ | _ | z <;> first | exact ⟨trivial, trivial⟩ | exact ⟨by simp [pureS, pureE], trivial⟩ | (exfalso; omega)) | (intro z hz; have hz : z < 1 := hz; obtain rfl : z = 0 := (by omega); first | rfl | (simp [nthL, pureL, pureS, pureE]; done) | exact ⟨trivial, by simp [pureS, pureE], trivial, trivial⟩)
            refine Sat.freezeR true 4 rfl ?_ ?_
            · (repeat' (first | exact AllP.nil | with_reducible refine AllP.cons ?_ ?_)) <;> first | exact rfl | exact trivial | exact .inl ⟨rfl, rfl, rfl⟩ | (intro _ _; simp [pureL, pureS, pureE]; done) | (intro _ _; exact rfl) | (intro _; exact rfl) | (intro _; exact trivial) | (intro _; exact .inl ⟨rfl, rfl, rfl⟩) | (intro _ _ _; simp [pureL, pureS, pureE]; done) | exact ⟨rfl, rfl, rfl, rfl⟩ | (intro _; exact ⟨rfl, rfl, rfl, rfl⟩) | (intro z hz; rcases z with _ | _ | _ | _ | z <;> first | rfl | (exfalso; omega)) | (intro z hz; rcases z with _ | _ | _ | _ | z <;> first | exact ⟨trivial, trivial⟩ | exact ⟨by simp [pureS, pureE], trivial⟩ | (exfalso; omega)) | (intro z hz; have hz : z < 1 := hz; obtain rfl : z = 0 := (by omega); first | rfl | (simp [nthL, pureL, pureS, pureE]; done) | exact ⟨trivial, by simp [pureS, pureE], trivial, trivial⟩)
            repeat' (first
                | ((with_reducible apply Sat.run (X := X64)); exact rfl; (first | exact True.intro | (exact phi) | skip))
                | ((with_reducible apply Sat.drawn); kernel_rfl)
                | ((with_reducible apply DSat.run (X := X64)); exact rfl; (first | exact True.intro | (exact phi) | skip))
                | ((with_reducible apply DSat.fin); kernel_rfl)
                | ((with_reducible apply Sat.cond_t); exact rfl)
                | ((with_reducible apply Sat.cond_f); exact rfl)
                | ((with_reducible apply Sat.cond_pt); exact rfl; (try dsimp only [V.EV.sub, V.EV.len]); first | assumption | omega)
                | ((with_reducible apply Sat.cond_pf); exact rfl; (try dsimp only [V.EV.sub, V.EV.len]); first | assumption | omega)
                | ((with_reducible apply Sat.cond_p); exact rfl; all_goals intro h)
                | ((with_reducible apply Sat.cond); exact rfl; all_goals intro h) | fail)
            refine Sat.end1 rfl rfl rfl True.intro (.agg _ _ (.cons _ _ _ _ (.refl _ trivial) (.cons _ _ _ _ (.refl _ trivial) (.cons _ _ _ _ (.refl _ purX) (.cons _ _ _ _ (.gx _ 1 3 _ _ (.refl _ ?_) ?_) .nil))))) (by first | exact .inl rfl | exact .inr rfl) (fun _ h => h)
            · intro i hi
              rcases i with _ | i
              · exact ⟨trivial, by simp [pureS, pureE], trivial, trivial⟩
              · omega
            · intro i hi
              rcases i with _ | i
              · rfl
              · omega
          · intro h
            have hR : rolesF 1 (rl.take 4) = rs := by
              unfold rolesF
              have h := of_decide_eq_false h
              rw [y4, decide_eq_false (by omega : ¬ rs.length = 0)]
              rfl
            rw [show rolesF ([List.replicate 32 (0 : UInt8)] : List (List UInt8)).length (rl.take 4) = _ from hR]
            refine Sat.runN (X := X64) 3 rfl True.intro ?_
            refine Sat.enter ?_
            refine Sat.tidy rfl ?_
            refine Sat.freezeR true 6 rfl ?_ ?_
            · (repeat' (first | exact AllP.nil | with_reducible refine AllP.cons ?_ ?_)) <;> first | exact rfl | exact trivial | exact .inl ⟨rfl, rfl, rfl⟩ | (intro _ _; simp [pureL, pureS, pureE]; done) | (intro _ _; exact rfl) | (intro _; exact rfl) | (intro _; exact trivial) | (intro _; exact .inl ⟨rfl, rfl, rfl⟩) | (intro _ _ _; simp [pureL, pureS, pureE]; done) | exact ⟨rfl, rfl, rfl, rfl⟩ | (intro _; exact ⟨rfl, rfl, rfl, rfl⟩)
            refine Sat.freezeR true 4 rfl ?_ ?_
            · (repeat' (first | exact AllP.nil | with_reducible refine AllP.cons ?_ ?_)) <;> first | exact rfl | exact trivial | exact .inl ⟨rfl, rfl, rfl⟩ | (intro _ _; simp [pureL, pureS, pureE]; done) | (intro _ _; exact rfl) | (intro _; exact rfl) | (intro _; exact trivial) | (intro _; exact .inl ⟨rfl, rfl, rfl⟩) | (intro _ _ _; simp [pureL, pureS, pureE]; done) | exact ⟨rfl, rfl, rfl, rfl⟩ | (intro _; exact ⟨rfl, rfl, rfl, rfl⟩)
            repeat' (first
                | ((with_reducible apply Sat.run (X := X64)); exact rfl; (first | exact True.intro | (exact phi) | skip))
                | ((with_reducible apply Sat.drawn); kernel_rfl)
                | ((with_reducible apply DSat.run (X := X64)); exact rfl; (first | exact True.intro | (exact phi) | skip))
                | ((with_reducible apply DSat.fin); kernel_rfl)
                | ((with_reducible apply Sat.cond_t); exact rfl)
                | ((with_reducible apply Sat.cond_f); exact rfl)
                | ((with_reducible apply Sat.cond_pt); exact rfl; (try dsimp only [V.EV.sub, V.EV.len]); first | assumption | omega)
                | ((with_reducible apply Sat.cond_pf); exact rfl; (try dsimp only [V.EV.sub, V.EV.len]); first | assumption | omega)
                | ((with_reducible apply Sat.cond_p); exact rfl; all_goals intro h)
                | ((with_reducible apply Sat.cond); exact rfl; all_goals intro h) | fail)
            (refine Sat.fin (Sat.end1 rfl rfl rfl True.intro (.refl _ purX) (by first | exact .inl rfl | exact .inr rfl) (fun _ h => h)) ?_; rfl)
    · have he : 5 ≤ i ∨ kl.length ≤ i := by
        rename_i h'
        rcases h' with h' | h'
        · have := of_decide_eq_false h'; omega
        · omega
      rw [drop_end kl 5 i he] at x3
      have x4 : keysM [] (kl.take 5) = acc := x3
      have hK : keysF (kl.take 5) = acc := by
        unfold keysF
        rw [x4, decide_eq_false (by omega : ¬ acc.length = 0)]
        rfl
      have hN0 : 0 < acc.length := by omega
      rw [hK]
      clear x3 x4 hK he
      apply Sat.loop (α := Nat × List RoleL) (fun x => x.1 ≤ 4 ∧ x.1 ≤ rl.length ∧ x.2.length = x.1 ∧ rolesM acc.length 0 (rl.take 4) = x.2 ++ rolesM acc.length x.1 ((rl.take 4).drop x.1)) (fun x => 4 - x.1) (0, []) (fun x => [(8, .int .i64 (x.1 : Int))]) (fun x => [(2, .cells 31 [.int .i64 gen, .int .i64 exp, .row 3 0 32 0 acc.length, .row 5 0 3 0 x.2.length]), (3, .row 23 (keysE acc)), (4, .row 9 (.g 4 1 fun i => [.str (nameR i)])), (5, .row 68 (rolesE x.2))]) [] [(5, none)] 1
      · intro x; exact rfl
      · intro x; exact rfl
      · exact rfl
      · exact rfl
      · (repeat' (first | exact AllP.nil | with_reducible refine AllP.cons ?_ ?_)) <;> first | with_reducible exact rfl | (intro z hz; rcases z with _ | _ | _ | _ | z <;> first | rfl | (exfalso; omega)) | (intro z hz; rcases z with _ | _ | _ | _ | z <;> first | exact ⟨trivial, trivial⟩ | exact ⟨by simp [pureS, pureE], trivial⟩ | (exfalso; omega)) | (intro z hz; have hz : z < 1 := hz; obtain rfl : z = 0 := (by omega); first | rfl | (simp [nthL, pureL, pureS, pureE]; done) | exact ⟨trivial, by simp [pureS, pureE], trivial, trivial⟩) | exact rfl | exact trivial | (intro _ _; simp [pureL, pureS, pureE]; done) | exact ⟨rfl, rfl, rfl, rfl⟩
      · exact ⟨Nat.zero_le _, Nat.zero_le _, rfl, rfl⟩
      · rintro ⟨j, rs⟩ ⟨y0, y1, y2, y3⟩
        dsimp only at y0 y1 y2 y3 ⊢
        by_cases hj : j < 4 ∧ j < rl.length
        · obtain ⟨hj4, hjl⟩ := hj
          repeat' (first
              | ((with_reducible apply Sat.run (X := X64)); exact rfl; (first | exact True.intro | (exact phi) | skip))
              | ((with_reducible apply Sat.drawn); kernel_rfl)
              | ((with_reducible apply DSat.run (X := X64)); exact rfl; (first | exact True.intro | (exact phi) | skip))
              | ((with_reducible apply DSat.fin); kernel_rfl) | fail)
          with_reducible apply Sat.cond
          · exact rfl
          · intro h
            clear h
            repeat' (first
                | ((with_reducible apply Sat.run (X := X64)); exact rfl; (first | exact True.intro | (exact phi) | skip))
                | ((with_reducible apply Sat.drawn); kernel_rfl)
                | ((with_reducible apply DSat.run (X := X64)); exact rfl; (first | exact True.intro | (exact phi) | skip))
                | ((with_reducible apply DSat.fin); kernel_rfl) | fail)
            apply Sat.loop (α := Nat) (fun x => x ≤ acc.length) (fun x => acc.length - x) 0 (fun x => [(10, .int .i64 (x : Int))]) (fun x => [(6, .cells 68 [.str (nameR (0 + (j : Int).toNat)), .row 7 0 1 0 (rkM (rl.getD ((j : Int).toNat) (0, 0)).1 acc.length x).length, .int .i64 0]), (7, .row 3 (.ints .i64 (rkM (rl.getD ((j : Int).toNat) (0, 0)).1 acc.length x)))]) [] [(7, none)] 1
            · intro x; exact rfl
            · intro x; exact rfl
            · exact rfl
            · exact rfl
            · (repeat' (first | exact AllP.nil | with_reducible refine AllP.cons ?_ ?_)) <;> first | with_reducible exact rfl | exact rfl | exact trivial | (intro _ _; simp [pureL, pureS, pureE]; done) | exact ⟨rfl, rfl, rfl, rfl⟩
            · exact Nat.zero_le _
            · intro k hk
              have hkl := rkM_len (rl.getD ((j : Int).toNat) (0, 0)).1 acc.length k
              by_cases hkn : k < acc.length
              · repeat' (first
                    | ((with_reducible apply Sat.run (X := X64)); exact rfl; (first | exact True.intro | (exact phi) | skip))
                    | ((with_reducible apply Sat.drawn); kernel_rfl)
                    | ((with_reducible apply DSat.run (X := X64)); exact rfl; (first | exact True.intro | (exact phi) | skip))
                    | ((with_reducible apply DSat.fin); kernel_rfl)
                    | ((with_reducible apply Sat.cond_t); exact rfl)
                    | ((with_reducible apply Sat.cond_f); exact rfl)
                    | ((with_reducible apply Sat.cond_pt); exact rfl; (try dsimp only [V.EV.sub, V.EV.len]); first | assumption | omega)
                    | ((with_reducible apply Sat.cond_pf); exact rfl; (try dsimp only [V.EV.sub, V.EV.len]); first | assumption | omega)
                    | ((with_reducible apply Sat.cond_p); exact rfl; all_goals intro h)
                    | ((with_reducible apply Sat.cond); exact rfl; all_goals intro h) | fail)
                · rw [cond_val] at h
                  have hst : rkM (rl.getD ((j : Int).toNat) (0, 0)).1 acc.length (k + 1) = rkM (rl.getD ((j : Int).toNat) (0, 0)).1 acc.length k ++ [(k : Int)] := by rw [rkM, h]; rfl
                  refine Sat.back (k + 1) [(7, some 9)] rfl ?_ (by omega) (by omega)
                  (repeat' (first | exact AllP.nil | with_reducible refine AllP.cons ?_ ?_)) <;> first | with_reducible exact rfl | exact Int.natCast_add_one _ | (rw [hst]; done) | (rw [hst]; exact rfl) | (rw [hst]; simp [EV.len, EV.sub]; done) | (refine ⟨rfl, rfl, rfl, ?_⟩; rw [hst]; simp [EV.len, EV.sub]; done) | exact rfl | exact trivial | (intro _ _; simp [pureL, pureS, pureE]; done) | exact ⟨rfl, rfl, rfl, rfl⟩
                · rw [cond_val] at h
                  have hst : rkM (rl.getD ((j : Int).toNat) (0, 0)).1 acc.length (k + 1) = rkM (rl.getD ((j : Int).toNat) (0, 0)).1 acc.length k := by rw [rkM, h]; rfl
                  refine Sat.back (k + 1) [(7, some 7)] rfl ?_ (by omega) (by omega)
                  (repeat' (first | exact AllP.nil | with_reducible refine AllP.cons ?_ ?_)) <;> first | with_reducible exact rfl | exact Int.natCast_add_one _ | (rw [hst]; done) | (rw [hst]; exact rfl) | (rw [hst]; exact ⟨rfl, rfl, rfl, rfl⟩) | exact rfl | exact trivial | (intro _ _; simp [pureL, pureS, pureE]; done) | exact ⟨rfl, rfl, rfl, rfl⟩
              · have hk2 : k = acc.length := by omega
                subst hk2
                have hp := rkM_pos (rl.getD ((j : Int).toNat) (0, 0)).1 acc.length (by omega)
                repeat' (first
                    | ((with_reducible apply Sat.run (X := X64)); exact rfl; (first | exact True.intro | (exact phi) | skip))
                    | ((with_reducible apply Sat.drawn); kernel_rfl)
                    | ((with_reducible apply DSat.run (X := X64)); exact rfl; (first | exact True.intro | (exact phi) | skip))
                    | ((with_reducible apply DSat.fin); kernel_rfl) | fail)
                with_reducible apply Sat.cond_pf
                · exact rfl
                · omega
                refine Sat.runN (X := X64) 6 rfl True.intro ?_
                have hq1 := (rl.getD ((j : Int).toNat) (0, 0)).2.toNat_lt
                have hm1 := Int.emod_nonneg ((rl.getD ((j : Int).toNat) (0, 0)).2.toNat : Int) (show ((rkM (rl.getD ((j : Int).toNat) (0, 0)).1 acc.length acc.length).length : Int) ≠ 0 by omega)
                have hm2 := Int.emod_lt_of_pos ((rl.getD ((j : Int).toNat) (0, 0)).2.toNat : Int) (show 0 < ((rkM (rl.getD ((j : Int).toNat) (0, 0)).1 acc.length acc.length).length : Int) by omega)
                with_reducible apply Sat.drawn
                · kernel_rfl
                with_reducible apply DSat.run (X := X64)
                · exact rfl
                · exact phi
                with_reducible apply DSat.fin
                · kernel_rfl
                refine Sat.runN (X := X64) 2 rfl True.intro ?_
                refine Sat.tidy rfl ?_
                refine Sat.freezeR true 7 rfl ?_ ?_
                · (repeat' (first | exact AllP.nil | with_reducible refine AllP.cons ?_ ?_)) <;> first | exact rfl | exact trivial | exact .inl ⟨rfl, rfl, rfl⟩ | (intro _ _; simp [pureL, pureS, pureE]; done) | (intro _ _; exact rfl) | (intro _; exact rfl) | (intro _; exact trivial) | (intro _; exact .inl ⟨rfl, rfl, rfl⟩) | (intro _ _ _; simp [pureL, pureS, pureE]; done) | exact ⟨rfl, rfl, rfl, rfl⟩ | (intro _; exact ⟨rfl, rfl, rfl, rfl⟩)
                repeat' (first
                    | ((with_reducible apply Sat.run (X := X64)); exact rfl; (first | exact True.intro | (exact phi) | skip))
                    | ((with_reducible apply Sat.drawn); kernel_rfl)
                    | ((with_reducible apply DSat.run (X := X64)); exact rfl; (first | exact True.intro | (exact phi) | skip))
                    | ((with_reducible apply DSat.fin); kernel_rfl) | fail)
                have hj0 : 0 + (j : Int).toNat = j := by omega
                refine Sat.back (j + 1, rs ++ [(⟨nameR (0 + (j : Int).toNat), rkM (rl.getD ((j : Int).toNat) (0, 0)).1 acc.length acc.length, 1 + ((rl.getD ((j : Int).toNat) (0, 0)).2.toNat : Int) % ((rkM (rl.getD ((j : Int).toNat) (0, 0)).1 acc.length acc.length).length : Int)⟩ : RoleL)]) [(5, some 9)] rfl ?_ ?_ ?_
                · (repeat' (first | exact AllP.nil | with_reducible refine AllP.cons ?_ ?_)) <;> first | with_reducible exact rfl | exact Int.natCast_add_one _ | (show rs.length + 1 = (rs ++ [(⟨nameR (0 + (j : Int).toNat), rkM (rl.getD ((j : Int).toNat) (0, 0)).1 acc.length acc.length, 1 + ((rl.getD ((j : Int).toNat) (0, 0)).2.toNat : Int) % ((rkM (rl.getD ((j : Int).toNat) (0, 0)).1 acc.length acc.length).length : Int)⟩ : RoleL)]).length; simp; done) | exact roles_pure rs (⟨nameR (0 + (j : Int).toNat), rkM (rl.getD ((j : Int).toNat) (0, 0)).1 acc.length acc.length, 1 + ((rl.getD ((j : Int).toNat) (0, 0)).2.toNat : Int) % ((rkM (rl.getD ((j : Int).toNat) (0, 0)).1 acc.length acc.length).length : Int)⟩ : RoleL) | (intro z hz; exact roles_snoc rs (⟨nameR (0 + (j : Int).toNat), rkM (rl.getD ((j : Int).toNat) (0, 0)).1 acc.length acc.length, 1 + ((rl.getD ((j : Int).toNat) (0, 0)).2.toNat : Int) % ((rkM (rl.getD ((j : Int).toNat) (0, 0)).1 acc.length acc.length).length : Int)⟩ : RoleL) z hz) | (show _ = (rs ++ [(⟨nameR (0 + (j : Int).toNat), rkM (rl.getD ((j : Int).toNat) (0, 0)).1 acc.length acc.length, 1 + ((rl.getD ((j : Int).toNat) (0, 0)).2.toNat : Int) % ((rkM (rl.getD ((j : Int).toNat) (0, 0)).1 acc.length acc.length).length : Int)⟩ : RoleL)]).length; simp [EV.len, EV.sub]; done) | (refine ⟨rfl, rfl, rfl, ?_⟩; show _ = (rs ++ [(⟨nameR (0 + (j : Int).toNat), rkM (rl.getD ((j : Int).toNat) (0, 0)).1 acc.length acc.length, 1 + ((rl.getD ((j : Int).toNat) (0, 0)).2.toNat : Int) % ((rkM (rl.getD ((j : Int).toNat) (0, 0)).1 acc.length acc.length).length : Int)⟩ : RoleL)]).length; simp [EV.len, EV.sub]; done) | exact rfl | exact trivial | (intro _ _; simp [pureL, pureS, pureE]; done) | exact ⟨rfl, rfl, rfl, rfl⟩
                · refine ⟨by dsimp only; omega, by dsimp only; omega, by simp only [List.length_append, List.length_cons, List.length_nil]; omega, ?_⟩
                  dsimp only
                  rw [y3, drop_step rl (0, 0) 4 j (by omega) (by omega)]
                  conv => lhs; rw [rolesM]
                  simp only [List.append_assoc, List.cons_append, List.nil_append]
                  rw [hj0]
                  rfl
                · dsimp only; omega
          · intro h
            exfalso
            have hq : decide ((j : Int) < ((rawRoles rl).len : Int)) = true := decide_eq_true (by show (j : Int) < (rl.length : Int); omega)
            have hq2 : decide ((j : Int) < 4) = true := decide_eq_true (by omega)
            rw [hq, hq2] at h
            cases h
        · have he : 4 ≤ j ∨ rl.length ≤ j := by omega
          rw [drop_end rl 4 j he] at y3
          have y4 : rolesM acc.length 0 (rl.take 4) = rs := by rw [y3]; exact List.append_nil _
          repeat' (first
              | ((with_reducible apply Sat.run (X := X64)); exact rfl; (first | exact True.intro | (exact phi) | skip))
              | ((with_reducible apply Sat.drawn); kernel_rfl)
              | ((with_reducible apply DSat.run (X := X64)); exact rfl; (first | exact True.intro | (exact phi) | skip))
              | ((with_reducible apply DSat.fin); kernel_rfl) | fail)
          with_reducible apply Sat.cond
          · exact rfl
          · intro h
            exfalso
            rcases he with he | he
            · rw [decide_eq_false (show ¬ (j : Int) < 4 by omega)] at h
              revert h
              cases decide ((j : Int) < ((rawRoles rl).len : Int)) <;> exact fun h => (by cases h)
            · rw [decide_eq_false (show ¬ (j : Int) < ((rawRoles rl).len : Int) by show ¬ (j : Int) < (rl.length : Int); omega)] at h
              cases h
          intro h
          clear h
          repeat' (first
              | ((with_reducible apply Sat.run (X := X64)); exact rfl; (first | exact True.intro | (exact phi) | skip))
              | ((with_reducible apply Sat.drawn); kernel_rfl)
              | ((with_reducible apply DSat.run (X := X64)); exact rfl; (first | exact True.intro | (exact phi) | skip))
              | ((with_reducible apply DSat.fin); kernel_rfl) | fail)
          with_reducible apply Sat.cond
          · exact rfl
          · intro h
            have hR : rolesF acc.length (rl.take 4) = [⟨nameR 1, [0], 1⟩] := by
              unfold rolesF
              have h := of_decide_eq_true h
              rw [y4, decide_eq_true (by omega : rs.length = 0)]
              rfl
            rw [show rolesF acc.length (rl.take 4) = _ from hR]
            refine Sat.enter ?_
            refine Sat.one (X := X64) rfl True.intro ?_
            refine Sat.one (X := X64) rfl True.intro ?_
            refine Sat.tidy rfl ?_
            refine Sat.freezeR true 6 rfl ?_ ?_
            · (repeat' (first | exact AllP.nil | with_reducible refine AllP.cons ?_ ?_)) <;> first | exact rfl | exact trivial | exact .inl ⟨rfl, rfl, rfl⟩ | (intro _ _; simp [pureL, pureS, pureE]; done) | (intro _ _; exact rfl) | (intro _; exact rfl) | (intro _; exact trivial) | (intro _; exact .inl ⟨rfl, rfl, rfl⟩) | (intro _ _ _; simp [pureL, pureS, pureE]; done) | exact ⟨rfl, rfl, rfl, rfl⟩ | (intro _; exact ⟨rfl, rfl, rfl, rfl⟩)
            refine Sat.one (X := X64) rfl True.intro ?_
            refine Sat.one (X := X64) rfl True.intro ?_
            refine Sat.one (X := X64) rfl True.intro ?_
            refine Sat.runN (X := X64) 3 rfl True.intro ?_
            refine Sat.enter ?_
            refine Sat.tidy rfl ?_
            refine Sat.freezeR true 7 rfl ?_ ?_
            · (repeat' (first | exact AllP.nil | with_reducible refine AllP.cons ?_ ?_)) <;> first | exact rfl | exact trivial | exact .inl ⟨rfl, rfl, rfl⟩ | (intro _ _; simp [pureL, pureS, pureE]; done) | (intro _ _; exact rfl) | (intro _; exact rfl) | (intro _; exact trivial) | (intro _; exact .inl ⟨rfl, rfl, rfl⟩) | (intro _ _ _; simp [pureL, pureS, pureE]; done) | exact ⟨rfl, rfl, rfl, rfl⟩ | (intro _; exact ⟨rfl, rfl, rfl, rfl⟩) | (intro z hz; rcases z with _ | _ | _ | _ | z <;> first | rfl | (exfalso; omega)) | (intro z hz; rcases z with _ | _ | _ | _ | z <;> first | exact ⟨trivial, trivial⟩ | exact ⟨by simp [pureS, pureE], trivial⟩ | (exfalso; omega)) | (intro z hz; have hz : z < 1 := hz; obtain rfl : z = 0 := (by omega); first | rfl | (simp [nthL, pureL, pureS, pureE]; done) | exact ⟨trivial, by simp [pureS, pureE], trivial, trivial⟩)
            refine Sat.freezeR true 3 rfl ?_ ?_
            · (repeat' (first | exact AllP.nil | with_reducible refine AllP.cons ?_ ?_)) <;> first | exact rfl | exact trivial | exact .inl ⟨rfl, rfl, rfl⟩ | (intro _ _; simp [pureL, pureS, pureE]; done) | (intro _ _; exact rfl) | (intro _; exact rfl) | (intro _; exact trivial) | (intro _; exact .inl ⟨rfl, rfl, rfl⟩) | (intro _ _ _; simp [pureL, pureS, pureE]; done) | exact ⟨rfl, rfl, rfl, rfl⟩ | (intro _; exact ⟨rfl, rfl, rfl, rfl⟩) | (intro z hz; rcases z with _ | _ | _ | _ | z <;> first | rfl | (exfalso; omega)) | (intro z hz; rcases z with _ | _ | _ | _ | z <;> first | exact ⟨trivial, trivial⟩ | exact ⟨by simp [pureS, pureE], trivial⟩ | (exfalso; omega)) | (intro z hz; have hz : z < 1 := hz; obtain rfl : z = 0 := (by omega); first | rfl | (simp [nthL, pureL, pureS, pureE]; done) | exact ⟨trivial, by simp [pureS, pureE], trivial, trivial⟩)
            repeat' (first
                | ((with_reducible apply Sat.run (X := X64)); exact rfl; (first | exact True.intro | (exact phi) | skip))
                | ((with_reducible apply Sat.drawn); kernel_rfl)
                | ((with_reducible apply DSat.run (X := X64)); exact rfl; (first | exact True.intro | (exact phi) | skip))
                | ((with_reducible apply DSat.fin); kernel_rfl)
                | ((with_reducible apply Sat.cond_t); exact rfl)
                | ((with_reducible apply Sat.cond_f); exact rfl)
                | ((with_reducible apply Sat.cond_pt); exact rfl; (try dsimp only [V.EV.sub, V.EV.len]); first | assumption | omega)
                | ((with_reducible apply Sat.cond_pf); exact rfl; (try dsimp only [V.EV.sub, V.EV.len]); first | assumption | omega)
                | ((with_reducible apply Sat.cond_p); exact rfl; all_goals intro h)
                | ((with_reducible apply Sat.cond); exact rfl; all_goals intro h) | fail)
            refine Sat.end1 rfl rfl rfl True.intro (.agg _ _ (.cons _ _ _ _ (.refl _ trivial) (.cons _ _ _ _ (.refl _ trivial) (.cons _ _ _ _ (.refl _ purX) (.cons _ _ _ _ (.gx _ 1 3 _ _ (.refl _ ?_) ?_) .nil))))) (by first | exact .inl rfl | exact .inr rfl) (fun _ h => h)
            · intro i hi
              rcases i with _ | i
              · exact ⟨trivial, by simp [pureS, pureE], trivial, trivial⟩
              · omega
            · intro i hi
              rcases i with _ | i
              · rfl
              · omega
          · intro h
            have hR : rolesF acc.length (rl.take 4) = rs := by
              unfold rolesF
              have h := of_decide_eq_false h
              rw [y4, decide_eq_false (by omega : ¬ rs.length = 0)]
              rfl
            rw [show rolesF acc.length (rl.take 4) = _ from hR]
            refine Sat.runN (X := X64) 3 rfl True.intro ?_
            refine Sat.enter ?_
            refine Sat.tidy rfl ?_
            refine Sat.freezeR true 5 rfl ?_ ?_
            · (repeat' (first | exact AllP.nil | with_reducible refine AllP.cons ?_ ?_)) <;> first | exact rfl | exact trivial | exact .inl ⟨rfl, rfl, rfl⟩ | (intro _ _; simp [pureL, pureS, pureE]; done) | (intro _ _; exact rfl) | (intro _; exact rfl) | (intro _; exact trivial) | (intro _; exact .inl ⟨rfl, rfl, rfl⟩) | (intro _ _ _; simp [pureL, pureS, pureE]; done) | exact ⟨rfl, rfl, rfl, rfl⟩ | (intro _; exact ⟨rfl, rfl, rfl, rfl⟩)
            refine Sat.freezeR true 3 rfl ?_ ?_
            · (repeat' (first | exact AllP.nil | with_reducible refine AllP.cons ?_ ?_)) <;> first | exact rfl | exact trivial | exact .inl ⟨rfl, rfl, rfl⟩ | (intro _ _; simp [pureL, pureS, pureE]; done) | (intro _ _; exact rfl) | (intro _; exact rfl) | (intro _; exact trivial) | (intro _; exact .inl ⟨rfl, rfl, rfl⟩) | (intro _ _ _; simp [pureL, pureS, pureE]; done) | exact ⟨rfl, rfl, rfl, rfl⟩ | (intro _; exact ⟨rfl, rfl, rfl, rfl⟩)
            repeat' (first
                | ((with_reducible apply Sat.run (X := X64)); exact rfl; (first | exact True.intro | (exact phi) | skip))
                | ((with_reducible apply Sat.drawn); kernel_rfl)
                | ((with_reducible apply DSat.run (X := X64)); exact rfl; (first | exact True.intro | (exact phi) | skip))
                | ((with_reducible apply DSat.fin); kernel_rfl)
                | ((with_reducible apply Sat.cond_t); exact rfl)
                | ((with_reducible apply Sat.cond_f); exact rfl)
                | ((with_reducible apply Sat.cond_pt); exact rfl; (try dsimp only [V.EV.sub, V.EV.len]); first | assumption | omega)
                | ((with_reducible apply Sat.cond_pf); exact rfl; (try dsimp only [V.EV.sub, V.EV.len]); first | assumption | omega)
                | ((with_reducible apply Sat.cond_p); exact rfl; all_goals intro h)
                | ((with_reducible apply Sat.cond); exact rfl; all_goals intro h) | fail)
            (refine Sat.fin (Sat.end1 rfl rfl rfl True.intro (.refl _ purX) (by first | exact .inl rfl | exact .inr rfl) (fun _ h => h)) ?_; rfl)
end Go.Proofs.YtegbdcadlmefgaaDoor
end
section
namespace Go.Proofs.YtegbdcadlmefgaaDoor
open Go.RowKit V
--PURE: (intro _ _; simp [pureL, pureS, pureE]; done)
set_option maxRecDepth 100000
set_option maxHeartbeats 4000000
set_option linter.unusedSimpArgs false
attribute [local irreducible] V.Sat V.DSat
theorem p23 (r : Rel) (hv : validB r = true) (hw : RelW r) : Fun Tryd.prog [] 23 [.ro (.u8 (bytesR r))] (.tup [r.v, .int .i64 0]) := by
  have h := parse_walk (bytesR r)
  rw [(okP_of r hv hw).1, (okP_of r hv hw).2] at h
  exact h
theorem p24 (q : RootL) (hv : rootB q = true) (hw : RootW q) : Fun Tryd.prog [] 24 [.ro (.u8 (bytesQ q))] (.tup [q.v, .int .i64 0]) := by
  have h := parseRoot_walk (bytesQ q)
  rw [(okQ_of q hv hw).1, (okQ_of q hv hw).2] at h
  exact h
theorem p23x (q : RootL) : Fun Tryd.prog [] 23 [.ro (.u8 (bytesQ q))] (.tup [zeroRel.v, .int .i64 260]) := by
  have h := parse_walk (bytesQ q)
  rw [okP_root] at h
  exact h
theorem p24x (r : Rel) : Fun Tryd.prog [] 24 [.ro (.u8 (bytesR r))] (.tup [zeroRoot.v, .int .i64 260]) := by
  have h := parseRoot_walk (bytesR r)
  rw [okQ_rel] at h
  exact h
theorem s25 (r : Rel) : Fun Tryd.prog [] 25 [r.v, r.v] (.bool true) := by
  have h := same_rel r r
  rw [(relEq_iff _ _).2 rfl] at h
  exact h
theorem s26 (q : RootL) : Fun Tryd.prog [] 26 [q.v, q.v] (.bool true) := by
  have h := same_root q q
  rw [(rootEq_iff _ _).2 rfl] at h
  exact h
theorem trips_law (x : RawL) (y : RawQ) : Fun Tryd.prog [] 4 [x.v, y.v] (.bool true) := by
  refine Fun.mkF 7 Tryd.func4 rfl Tryd.ntmps4 rfl rfl fun hf T w0 => ?_
  have g1 := u16_iff hf.1.1
  have g2 := u16_iff hf.2.1.1
  have m1 := made_walk x (by omega)
  have m2 := madeRoot_walk y
  have hv := madeR_valid x
  have hw := madeR_wf x
  have hv2 := madeQ_valid y (by omega)
  have hw2 := madeQ_wf y
  generalize madeR x = r at *
  generalize madeQ y = q at *
  have b1 := bytes_spec r hv
  have c1 := rootBytes_spec q hv2
  have a1 := p23 r hv hw
  have a2 := p24 q hv2 hw2
  have a3 := p23x q
  have a4 := p24x r
  have v1 := valid_spec r
  rw [hv] at v1
  have v2 := validRoot_spec q
  rw [hv2] at v2
  have s1 := s25 r
  have s2 := s26 q
  repeat' (first
      | ((with_reducible apply Sat.run (X := X64)); exact rfl; (first | exact True.intro | (exact phi) | skip))
      | ((with_reducible apply Sat.drawn); kernel_rfl)
      | ((with_reducible apply DSat.run (X := X64)); exact rfl; (first | exact True.intro | (exact phi) | skip))
      | ((with_reducible apply DSat.fin); kernel_rfl)
      | ((with_reducible apply Sat.cond_t); exact rfl)
      | ((with_reducible apply Sat.cond_f); exact rfl)
      | ((with_reducible apply Sat.cond_pt); exact rfl; (try dsimp only [V.EV.sub, V.EV.len]); first | assumption | omega)
      | ((with_reducible apply Sat.cond_pf); exact rfl; (try dsimp only [V.EV.sub, V.EV.len]); first | assumption | omega)
      | ((with_reducible apply Sat.cond_p); exact rfl; all_goals intro h)
      | ((with_reducible apply Sat.cond); exact rfl; all_goals intro h)
      | ((with_reducible apply Sat.gon); exact rfl; first | exact rfl | (decide +kernel))
      | ((with_reducible apply Sat.call0 (sanity_law)); exact rfl; exact rfl; kernel_rfl; exact rfl)
      | ((with_reducible apply DSat.call0 (sanity_law)); exact rfl; exact rfl; kernel_rfl; exact rfl)
      | ((with_reducible apply DSat.callM0 (sanity_law)); exact rfl; exact rfl; (first | exact rfl | assumption | (decide +kernel)); exact rfl; kernel_rfl; exact rfl)
      | ((with_reducible apply Sat.call (m1)); exact rfl; exact rfl; kernel_rfl; (exact cnvX); exact rfl)
      | ((with_reducible apply DSat.call (m1)); exact rfl; exact rfl; kernel_rfl; (exact cnvX); exact rfl)
      | ((with_reducible apply Sat.call (m2)); exact rfl; exact rfl; kernel_rfl; (exact cnvX); exact rfl)
      | ((with_reducible apply DSat.call (m2)); exact rfl; exact rfl; kernel_rfl; (exact cnvX); exact rfl)
      | ((with_reducible apply Sat.call (b1)); exact rfl; exact rfl; kernel_rfl; (exact cnvX); exact rfl)
      | ((with_reducible apply DSat.call (b1)); exact rfl; exact rfl; kernel_rfl; (exact cnvX); exact rfl)
      | ((with_reducible apply Sat.call (c1)); exact rfl; exact rfl; kernel_rfl; (exact cnvX); exact rfl)
      | ((with_reducible apply DSat.call (c1)); exact rfl; exact rfl; kernel_rfl; (exact cnvX); exact rfl)
      | ((with_reducible apply Sat.call (a1)); exact rfl; exact rfl; kernel_rfl; (exact cnvX); exact rfl)
      | ((with_reducible apply DSat.call (a1)); exact rfl; exact rfl; kernel_rfl; (exact cnvX); exact rfl)
      | ((with_reducible apply Sat.call (a2)); exact rfl; exact rfl; kernel_rfl; (exact cnvX); exact rfl)
      | ((with_reducible apply DSat.call (a2)); exact rfl; exact rfl; kernel_rfl; (exact cnvX); exact rfl)
      | ((with_reducible apply Sat.call (a3)); exact rfl; exact rfl; kernel_rfl; (exact cnvX); exact rfl)
      | ((with_reducible apply DSat.call (a3)); exact rfl; exact rfl; kernel_rfl; (exact cnvX); exact rfl)
      | ((with_reducible apply Sat.call (a4)); exact rfl; exact rfl; kernel_rfl; (exact cnvX); exact rfl)
      | ((with_reducible apply DSat.call (a4)); exact rfl; exact rfl; kernel_rfl; (exact cnvX); exact rfl)
      | ((with_reducible apply Sat.callR (v1)); exact rfl; exact rfl; exact rfl; kernel_rfl; (exact cnvX); exact rfl)
      | ((with_reducible apply DSat.callR (v1)); exact rfl; exact rfl; exact rfl; kernel_rfl; (exact cnvX); exact rfl)
      | ((with_reducible apply Sat.callR (v2)); exact rfl; exact rfl; exact rfl; kernel_rfl; (exact cnvX); exact rfl)
      | ((with_reducible apply DSat.callR (v2)); exact rfl; exact rfl; exact rfl; kernel_rfl; (exact cnvX); exact rfl)
      | ((with_reducible apply Sat.callG1 (v2)); exact rfl; exact rfl; exact rfl; exact rfl; kernel_rfl; (intro hG; (exact cnvX)); exact rfl)
      | ((with_reducible apply DSat.callG1 (v2)); exact rfl; exact rfl; exact rfl; exact rfl; kernel_rfl; (intro hG; (exact cnvX)); exact rfl)
      | ((with_reducible apply Sat.callG1 (s1)); exact rfl; exact rfl; exact rfl; exact rfl; kernel_rfl; (intro hG; (exact cnvX)); exact rfl)
      | ((with_reducible apply DSat.callG1 (s1)); exact rfl; exact rfl; exact rfl; exact rfl; kernel_rfl; (intro hG; (exact cnvX)); exact rfl)
      | ((with_reducible apply Sat.callG1 (s2)); exact rfl; exact rfl; exact rfl; exact rfl; kernel_rfl; (intro hG; (exact cnvX)); exact rfl)
      | ((with_reducible apply DSat.callG1 (s2)); exact rfl; exact rfl; exact rfl; exact rfl; kernel_rfl; (intro hG; (exact cnvX)); exact rfl)
      | ((with_reducible apply Sat.callR (s1)); exact rfl; exact rfl; exact rfl; kernel_rfl; (exact cnvX); exact rfl)
      | ((with_reducible apply DSat.callR (s1)); exact rfl; exact rfl; exact rfl; kernel_rfl; (exact cnvX); exact rfl)
      | ((with_reducible apply Sat.callR (s2)); exact rfl; exact rfl; exact rfl; kernel_rfl; (exact cnvX); exact rfl)
      | ((with_reducible apply DSat.callR (s2)); exact rfl; exact rfl; exact rfl; kernel_rfl; (exact cnvX); exact rfl) | fail)
  all_goals (refine Sat.fin (Sat.end1 rfl rfl rfl True.intro (.refl _ purX) (by first | exact .inl rfl | exact .inr rfl) (fun _ h => h)) ?_; (first | exact rfl | exact congrArg SV.bool (by decide +kernel)))
end Go.Proofs.YtegbdcadlmefgaaDoor
end
section
namespace Go.Proofs.YtegbdcadlmefgaaDoor
open Go.RowKit V
--PURE: (intro _ _; simp [pureL, pureS, pureE]; done)
set_option maxRecDepth 100000
set_option maxHeartbeats 4000000
set_option linter.unusedSimpArgs false
attribute [local irreducible] V.Sat V.DSat
def RawL.l (x : RawL) : List SV := [.int .u16 (x.version : Int), .int .u16 (x.floor : Int), .int .u32 (x.expiry : Int), .int .u32 (x.size : Int), .int .u8 (x.s0.toNat : Int), .int .u8 (x.s1.toNat : Int), .ro (.u8 x.gone), .ro (.u8 x.parts)]
def RawQ.l (x : RawQ) : List SV := [.int .u16 (x.gen : Int), .int .u32 (x.expiry : Int), .ro (.u8 x.keys), .ro (rawRoles x.roles)]
theorem same_bytes (r q : Rel) (hv : validB r = true) (hw : RelW r) (hv' : validB q = true) (hw' : RelW q) : Fun Tryd.prog [] 14 [.ro (.u8 (bytesR r)), .ro (.u8 (bytesR q))] (.bool (relEq r q)) := by
  have h := same_ref (bytesR r) (bytesR q)
  rw [show decide (bytesR r = bytesR q) = relEq r q from ?_] at h
  · exact h
  · cases he : relEq r q with
    | true => rw [(relEq_iff r q).1 he]; exact decide_eq_true rfl
    | false =>
      refine decide_eq_false fun hb => ?_
      rw [(relEq_iff r q).2 (bytesR_inj hv hw hv' hw' hb)] at he
      cases he
theorem same_bytesQ (r q : RootL) (hv : rootB r = true) (hw : RootW r) (hv' : rootB q = true) (hw' : RootW q) : Fun Tryd.prog [] 14 [.ro (.u8 (bytesQ r)), .ro (.u8 (bytesQ q))] (.bool (rootEq r q)) := by
  have h := same_ref (bytesQ r) (bytesQ q)
  rw [show decide (bytesQ r = bytesQ q) = rootEq r q from ?_] at h
  · exact h
  · cases he : rootEq r q with
    | true => rw [(rootEq_iff r q).1 he]; exact decide_eq_true rfl
    | false =>
      refine decide_eq_false fun hb => ?_
      rw [(rootEq_iff r q).2 (bytesQ_inj hv hw hv' hw' hb)] at he
      cases he
theorem differs_law (x1 x2 : RawL) (y1 y2 : RawQ) : Fun Tryd.prog [] 7 [.agg (x1.l ++ x2.l), .agg (y1.l ++ y2.l)] (.bool true) := by
  unfold RawL.l RawQ.l
  dsimp only [List.cons_append, List.nil_append]
  refine Fun.mkF 7 Tryd.func7 rfl Tryd.ntmps7 rfl rfl fun hf T w0 => ?_
  have f1 := u16_iff hf.1.1
  have f2 := u16_iff hf.1.2.2.2.2.2.2.2.2.1
  have f3 := u16_iff hf.2.1.1
  have f4 := u16_iff hf.2.1.2.2.2.2.1
  have m1 := made_walk x1 (by omega)
  have m2 := made_walk x2 (by omega)
  have m3 := madeRoot_walk y1
  have m4 := madeRoot_walk y2
  have v1 := madeR_valid x1
  have w1 := madeR_wf x1
  have v2 := madeR_valid x2
  have w2 := madeR_wf x2
  have v3 := madeQ_valid y1 (by omega)
  have w3 := madeQ_wf y1
  have v4 := madeQ_valid y2 (by omega)
  have w4 := madeQ_wf y2
  generalize madeR x1 = r1 at *
  generalize madeR x2 = r2 at *
  generalize madeQ y1 = q1 at *
  generalize madeQ y2 = q2 at *
  have b1 := bytes_spec r1 v1
  have b2 := bytes_spec r2 v2
  have b3 := rootBytes_spec q1 v3
  have b4 := rootBytes_spec q2 v4
  have e1 := same_bytes r1 r2 v1 w1 v2 w2
  have e2 := same_bytesQ q1 q2 v3 w3 v4 w4
  have s1 := same_rel r1 r2
  have s2 := same_root q1 q2
  generalize relEq r1 r2 = z1 at *
  generalize rootEq q1 q2 = z2 at *
  rcases z1 with _ | _ <;> rcases z2 with _ | _
  · repeat' (first
        | ((with_reducible apply Sat.run (X := X64)); exact rfl; (first | exact True.intro | (exact phi) | skip))
        | ((with_reducible apply Sat.drawn); kernel_rfl)
        | ((with_reducible apply DSat.run (X := X64)); exact rfl; (first | exact True.intro | (exact phi) | skip))
        | ((with_reducible apply DSat.fin); kernel_rfl)
        | ((with_reducible apply Sat.cond_t); exact rfl)
        | ((with_reducible apply Sat.cond_f); exact rfl)
        | ((with_reducible apply Sat.cond_pt); exact rfl; (try dsimp only [V.EV.sub, V.EV.len]); first | assumption | omega)
        | ((with_reducible apply Sat.cond_pf); exact rfl; (try dsimp only [V.EV.sub, V.EV.len]); first | assumption | omega)
        | ((with_reducible apply Sat.cond_p); exact rfl; all_goals intro h)
        | ((with_reducible apply Sat.cond); exact rfl; all_goals intro h)
        | ((with_reducible apply Sat.gon); exact rfl; first | exact rfl | (decide +kernel))
        | ((with_reducible apply Sat.call0 (sanity_law)); exact rfl; exact rfl; kernel_rfl; exact rfl)
        | ((with_reducible apply DSat.call0 (sanity_law)); exact rfl; exact rfl; kernel_rfl; exact rfl)
        | ((with_reducible apply DSat.callM0 (sanity_law)); exact rfl; exact rfl; (first | exact rfl | assumption | (decide +kernel)); exact rfl; kernel_rfl; exact rfl)
        | ((with_reducible apply Sat.call (m1)); exact rfl; exact rfl; kernel_rfl; (exact cnvX); exact rfl)
        | ((with_reducible apply DSat.call (m1)); exact rfl; exact rfl; kernel_rfl; (exact cnvX); exact rfl)
        | ((with_reducible apply Sat.call (m2)); exact rfl; exact rfl; kernel_rfl; (exact cnvX); exact rfl)
        | ((with_reducible apply DSat.call (m2)); exact rfl; exact rfl; kernel_rfl; (exact cnvX); exact rfl)
        | ((with_reducible apply Sat.call (m3)); exact rfl; exact rfl; kernel_rfl; (exact cnvX); exact rfl)
        | ((with_reducible apply DSat.call (m3)); exact rfl; exact rfl; kernel_rfl; (exact cnvX); exact rfl)
        | ((with_reducible apply Sat.call (m4)); exact rfl; exact rfl; kernel_rfl; (exact cnvX); exact rfl)
        | ((with_reducible apply DSat.call (m4)); exact rfl; exact rfl; kernel_rfl; (exact cnvX); exact rfl)
        | ((with_reducible apply Sat.call (b1)); exact rfl; exact rfl; kernel_rfl; (exact cnvX); exact rfl)
        | ((with_reducible apply DSat.call (b1)); exact rfl; exact rfl; kernel_rfl; (exact cnvX); exact rfl)
        | ((with_reducible apply Sat.call (b2)); exact rfl; exact rfl; kernel_rfl; (exact cnvX); exact rfl)
        | ((with_reducible apply DSat.call (b2)); exact rfl; exact rfl; kernel_rfl; (exact cnvX); exact rfl)
        | ((with_reducible apply Sat.call (b3)); exact rfl; exact rfl; kernel_rfl; (exact cnvX); exact rfl)
        | ((with_reducible apply DSat.call (b3)); exact rfl; exact rfl; kernel_rfl; (exact cnvX); exact rfl)
        | ((with_reducible apply Sat.call (b4)); exact rfl; exact rfl; kernel_rfl; (exact cnvX); exact rfl)
        | ((with_reducible apply DSat.call (b4)); exact rfl; exact rfl; kernel_rfl; (exact cnvX); exact rfl)
        | ((with_reducible apply Sat.callR (e1)); exact rfl; exact rfl; exact rfl; kernel_rfl; (exact cnvX); exact rfl)
        | ((with_reducible apply DSat.callR (e1)); exact rfl; exact rfl; exact rfl; kernel_rfl; (exact cnvX); exact rfl)
        | ((with_reducible apply Sat.callR (e2)); exact rfl; exact rfl; exact rfl; kernel_rfl; (exact cnvX); exact rfl)
        | ((with_reducible apply DSat.callR (e2)); exact rfl; exact rfl; exact rfl; kernel_rfl; (exact cnvX); exact rfl)
        | ((with_reducible apply Sat.callR (s1)); exact rfl; exact rfl; exact rfl; kernel_rfl; (exact cnvX); exact rfl)
        | ((with_reducible apply DSat.callR (s1)); exact rfl; exact rfl; exact rfl; kernel_rfl; (exact cnvX); exact rfl)
        | ((with_reducible apply Sat.callR (s2)); exact rfl; exact rfl; exact rfl; kernel_rfl; (exact cnvX); exact rfl)
        | ((with_reducible apply DSat.callR (s2)); exact rfl; exact rfl; exact rfl; kernel_rfl; (exact cnvX); exact rfl)
        | ((with_reducible apply DSat.callM (b3)); exact rfl; exact rfl; (first | exact rfl | assumption | (decide +kernel)); exact rfl; kernel_rfl; (exact cnvX); exact rfl)
        | ((with_reducible apply DSat.callM (b4)); exact rfl; exact rfl; (first | exact rfl | assumption | (decide +kernel)); exact rfl; kernel_rfl; (exact cnvX); exact rfl)
        | ((with_reducible apply Sat.callG1 (e2)); exact rfl; exact rfl; exact rfl; exact rfl; kernel_rfl; (intro hG; (exact cnvX)); exact rfl)
        | ((with_reducible apply DSat.callG1 (e2)); exact rfl; exact rfl; exact rfl; exact rfl; kernel_rfl; (intro hG; (exact cnvX)); exact rfl)
        | ((with_reducible apply Sat.callG1 (s2)); exact rfl; exact rfl; exact rfl; exact rfl; kernel_rfl; (intro hG; (exact cnvX)); exact rfl)
        | ((with_reducible apply DSat.callG1 (s2)); exact rfl; exact rfl; exact rfl; exact rfl; kernel_rfl; (intro hG; (exact cnvX)); exact rfl) | fail)
    all_goals (refine Sat.fin (Sat.end1 rfl rfl rfl True.intro (.refl _ purX) (by first | exact .inl rfl | exact .inr rfl) (fun _ h => h)) ?_; (first | exact rfl | exact congrArg SV.bool (by decide +kernel)))
  · repeat' (first
        | ((with_reducible apply Sat.run (X := X64)); exact rfl; (first | exact True.intro | (exact phi) | skip))
        | ((with_reducible apply Sat.drawn); kernel_rfl)
        | ((with_reducible apply DSat.run (X := X64)); exact rfl; (first | exact True.intro | (exact phi) | skip))
        | ((with_reducible apply DSat.fin); kernel_rfl)
        | ((with_reducible apply Sat.cond_t); exact rfl)
        | ((with_reducible apply Sat.cond_f); exact rfl)
        | ((with_reducible apply Sat.cond_pt); exact rfl; (try dsimp only [V.EV.sub, V.EV.len]); first | assumption | omega)
        | ((with_reducible apply Sat.cond_pf); exact rfl; (try dsimp only [V.EV.sub, V.EV.len]); first | assumption | omega)
        | ((with_reducible apply Sat.cond_p); exact rfl; all_goals intro h)
        | ((with_reducible apply Sat.cond); exact rfl; all_goals intro h)
        | ((with_reducible apply Sat.gon); exact rfl; first | exact rfl | (decide +kernel))
        | ((with_reducible apply Sat.call0 (sanity_law)); exact rfl; exact rfl; kernel_rfl; exact rfl)
        | ((with_reducible apply DSat.call0 (sanity_law)); exact rfl; exact rfl; kernel_rfl; exact rfl)
        | ((with_reducible apply DSat.callM0 (sanity_law)); exact rfl; exact rfl; (first | exact rfl | assumption | (decide +kernel)); exact rfl; kernel_rfl; exact rfl)
        | ((with_reducible apply Sat.call (m1)); exact rfl; exact rfl; kernel_rfl; (exact cnvX); exact rfl)
        | ((with_reducible apply DSat.call (m1)); exact rfl; exact rfl; kernel_rfl; (exact cnvX); exact rfl)
        | ((with_reducible apply Sat.call (m2)); exact rfl; exact rfl; kernel_rfl; (exact cnvX); exact rfl)
        | ((with_reducible apply DSat.call (m2)); exact rfl; exact rfl; kernel_rfl; (exact cnvX); exact rfl)
        | ((with_reducible apply Sat.call (m3)); exact rfl; exact rfl; kernel_rfl; (exact cnvX); exact rfl)
        | ((with_reducible apply DSat.call (m3)); exact rfl; exact rfl; kernel_rfl; (exact cnvX); exact rfl)
        | ((with_reducible apply Sat.call (m4)); exact rfl; exact rfl; kernel_rfl; (exact cnvX); exact rfl)
        | ((with_reducible apply DSat.call (m4)); exact rfl; exact rfl; kernel_rfl; (exact cnvX); exact rfl)
        | ((with_reducible apply Sat.call (b1)); exact rfl; exact rfl; kernel_rfl; (exact cnvX); exact rfl)
        | ((with_reducible apply DSat.call (b1)); exact rfl; exact rfl; kernel_rfl; (exact cnvX); exact rfl)
        | ((with_reducible apply Sat.call (b2)); exact rfl; exact rfl; kernel_rfl; (exact cnvX); exact rfl)
        | ((with_reducible apply DSat.call (b2)); exact rfl; exact rfl; kernel_rfl; (exact cnvX); exact rfl)
        | ((with_reducible apply Sat.call (b3)); exact rfl; exact rfl; kernel_rfl; (exact cnvX); exact rfl)
        | ((with_reducible apply DSat.call (b3)); exact rfl; exact rfl; kernel_rfl; (exact cnvX); exact rfl)
        | ((with_reducible apply Sat.call (b4)); exact rfl; exact rfl; kernel_rfl; (exact cnvX); exact rfl)
        | ((with_reducible apply DSat.call (b4)); exact rfl; exact rfl; kernel_rfl; (exact cnvX); exact rfl)
        | ((with_reducible apply Sat.callR (e1)); exact rfl; exact rfl; exact rfl; kernel_rfl; (exact cnvX); exact rfl)
        | ((with_reducible apply DSat.callR (e1)); exact rfl; exact rfl; exact rfl; kernel_rfl; (exact cnvX); exact rfl)
        | ((with_reducible apply Sat.callR (e2)); exact rfl; exact rfl; exact rfl; kernel_rfl; (exact cnvX); exact rfl)
        | ((with_reducible apply DSat.callR (e2)); exact rfl; exact rfl; exact rfl; kernel_rfl; (exact cnvX); exact rfl)
        | ((with_reducible apply Sat.callR (s1)); exact rfl; exact rfl; exact rfl; kernel_rfl; (exact cnvX); exact rfl)
        | ((with_reducible apply DSat.callR (s1)); exact rfl; exact rfl; exact rfl; kernel_rfl; (exact cnvX); exact rfl)
        | ((with_reducible apply Sat.callR (s2)); exact rfl; exact rfl; exact rfl; kernel_rfl; (exact cnvX); exact rfl)
        | ((with_reducible apply DSat.callR (s2)); exact rfl; exact rfl; exact rfl; kernel_rfl; (exact cnvX); exact rfl)
        | ((with_reducible apply DSat.callM (b3)); exact rfl; exact rfl; (first | exact rfl | assumption | (decide +kernel)); exact rfl; kernel_rfl; (exact cnvX); exact rfl)
        | ((with_reducible apply DSat.callM (b4)); exact rfl; exact rfl; (first | exact rfl | assumption | (decide +kernel)); exact rfl; kernel_rfl; (exact cnvX); exact rfl)
        | ((with_reducible apply Sat.callG1 (e2)); exact rfl; exact rfl; exact rfl; exact rfl; kernel_rfl; (intro hG; (exact cnvX)); exact rfl)
        | ((with_reducible apply DSat.callG1 (e2)); exact rfl; exact rfl; exact rfl; exact rfl; kernel_rfl; (intro hG; (exact cnvX)); exact rfl)
        | ((with_reducible apply Sat.callG1 (s2)); exact rfl; exact rfl; exact rfl; exact rfl; kernel_rfl; (intro hG; (exact cnvX)); exact rfl)
        | ((with_reducible apply DSat.callG1 (s2)); exact rfl; exact rfl; exact rfl; exact rfl; kernel_rfl; (intro hG; (exact cnvX)); exact rfl) | fail)
    all_goals (refine Sat.fin (Sat.end1 rfl rfl rfl True.intro (.refl _ purX) (by first | exact .inl rfl | exact .inr rfl) (fun _ h => h)) ?_; (first | exact rfl | exact congrArg SV.bool (by decide +kernel)))
  · repeat' (first
        | ((with_reducible apply Sat.run (X := X64)); exact rfl; (first | exact True.intro | (exact phi) | skip))
        | ((with_reducible apply Sat.drawn); kernel_rfl)
        | ((with_reducible apply DSat.run (X := X64)); exact rfl; (first | exact True.intro | (exact phi) | skip))
        | ((with_reducible apply DSat.fin); kernel_rfl)
        | ((with_reducible apply Sat.cond_t); exact rfl)
        | ((with_reducible apply Sat.cond_f); exact rfl)
        | ((with_reducible apply Sat.cond_pt); exact rfl; (try dsimp only [V.EV.sub, V.EV.len]); first | assumption | omega)
        | ((with_reducible apply Sat.cond_pf); exact rfl; (try dsimp only [V.EV.sub, V.EV.len]); first | assumption | omega)
        | ((with_reducible apply Sat.cond_p); exact rfl; all_goals intro h)
        | ((with_reducible apply Sat.cond); exact rfl; all_goals intro h)
        | ((with_reducible apply Sat.gon); exact rfl; first | exact rfl | (decide +kernel))
        | ((with_reducible apply Sat.call0 (sanity_law)); exact rfl; exact rfl; kernel_rfl; exact rfl)
        | ((with_reducible apply DSat.call0 (sanity_law)); exact rfl; exact rfl; kernel_rfl; exact rfl)
        | ((with_reducible apply DSat.callM0 (sanity_law)); exact rfl; exact rfl; (first | exact rfl | assumption | (decide +kernel)); exact rfl; kernel_rfl; exact rfl)
        | ((with_reducible apply Sat.call (m1)); exact rfl; exact rfl; kernel_rfl; (exact cnvX); exact rfl)
        | ((with_reducible apply DSat.call (m1)); exact rfl; exact rfl; kernel_rfl; (exact cnvX); exact rfl)
        | ((with_reducible apply Sat.call (m2)); exact rfl; exact rfl; kernel_rfl; (exact cnvX); exact rfl)
        | ((with_reducible apply DSat.call (m2)); exact rfl; exact rfl; kernel_rfl; (exact cnvX); exact rfl)
        | ((with_reducible apply Sat.call (m3)); exact rfl; exact rfl; kernel_rfl; (exact cnvX); exact rfl)
        | ((with_reducible apply DSat.call (m3)); exact rfl; exact rfl; kernel_rfl; (exact cnvX); exact rfl)
        | ((with_reducible apply Sat.call (m4)); exact rfl; exact rfl; kernel_rfl; (exact cnvX); exact rfl)
        | ((with_reducible apply DSat.call (m4)); exact rfl; exact rfl; kernel_rfl; (exact cnvX); exact rfl)
        | ((with_reducible apply Sat.call (b1)); exact rfl; exact rfl; kernel_rfl; (exact cnvX); exact rfl)
        | ((with_reducible apply DSat.call (b1)); exact rfl; exact rfl; kernel_rfl; (exact cnvX); exact rfl)
        | ((with_reducible apply Sat.call (b2)); exact rfl; exact rfl; kernel_rfl; (exact cnvX); exact rfl)
        | ((with_reducible apply DSat.call (b2)); exact rfl; exact rfl; kernel_rfl; (exact cnvX); exact rfl)
        | ((with_reducible apply Sat.call (b3)); exact rfl; exact rfl; kernel_rfl; (exact cnvX); exact rfl)
        | ((with_reducible apply DSat.call (b3)); exact rfl; exact rfl; kernel_rfl; (exact cnvX); exact rfl)
        | ((with_reducible apply Sat.call (b4)); exact rfl; exact rfl; kernel_rfl; (exact cnvX); exact rfl)
        | ((with_reducible apply DSat.call (b4)); exact rfl; exact rfl; kernel_rfl; (exact cnvX); exact rfl)
        | ((with_reducible apply Sat.callR (e1)); exact rfl; exact rfl; exact rfl; kernel_rfl; (exact cnvX); exact rfl)
        | ((with_reducible apply DSat.callR (e1)); exact rfl; exact rfl; exact rfl; kernel_rfl; (exact cnvX); exact rfl)
        | ((with_reducible apply Sat.callR (e2)); exact rfl; exact rfl; exact rfl; kernel_rfl; (exact cnvX); exact rfl)
        | ((with_reducible apply DSat.callR (e2)); exact rfl; exact rfl; exact rfl; kernel_rfl; (exact cnvX); exact rfl)
        | ((with_reducible apply Sat.callR (s1)); exact rfl; exact rfl; exact rfl; kernel_rfl; (exact cnvX); exact rfl)
        | ((with_reducible apply DSat.callR (s1)); exact rfl; exact rfl; exact rfl; kernel_rfl; (exact cnvX); exact rfl)
        | ((with_reducible apply Sat.callR (s2)); exact rfl; exact rfl; exact rfl; kernel_rfl; (exact cnvX); exact rfl)
        | ((with_reducible apply DSat.callR (s2)); exact rfl; exact rfl; exact rfl; kernel_rfl; (exact cnvX); exact rfl)
        | ((with_reducible apply DSat.callM (b3)); exact rfl; exact rfl; (first | exact rfl | assumption | (decide +kernel)); exact rfl; kernel_rfl; (exact cnvX); exact rfl)
        | ((with_reducible apply DSat.callM (b4)); exact rfl; exact rfl; (first | exact rfl | assumption | (decide +kernel)); exact rfl; kernel_rfl; (exact cnvX); exact rfl)
        | ((with_reducible apply Sat.callG1 (e2)); exact rfl; exact rfl; exact rfl; exact rfl; kernel_rfl; (intro hG; (exact cnvX)); exact rfl)
        | ((with_reducible apply DSat.callG1 (e2)); exact rfl; exact rfl; exact rfl; exact rfl; kernel_rfl; (intro hG; (exact cnvX)); exact rfl)
        | ((with_reducible apply Sat.callG1 (s2)); exact rfl; exact rfl; exact rfl; exact rfl; kernel_rfl; (intro hG; (exact cnvX)); exact rfl)
        | ((with_reducible apply DSat.callG1 (s2)); exact rfl; exact rfl; exact rfl; exact rfl; kernel_rfl; (intro hG; (exact cnvX)); exact rfl) | fail)
    all_goals (refine Sat.fin (Sat.end1 rfl rfl rfl True.intro (.refl _ purX) (by first | exact .inl rfl | exact .inr rfl) (fun _ h => h)) ?_; (first | exact rfl | exact congrArg SV.bool (by decide +kernel)))
  · repeat' (first
        | ((with_reducible apply Sat.run (X := X64)); exact rfl; (first | exact True.intro | (exact phi) | skip))
        | ((with_reducible apply Sat.drawn); kernel_rfl)
        | ((with_reducible apply DSat.run (X := X64)); exact rfl; (first | exact True.intro | (exact phi) | skip))
        | ((with_reducible apply DSat.fin); kernel_rfl)
        | ((with_reducible apply Sat.cond_t); exact rfl)
        | ((with_reducible apply Sat.cond_f); exact rfl)
        | ((with_reducible apply Sat.cond_pt); exact rfl; (try dsimp only [V.EV.sub, V.EV.len]); first | assumption | omega)
        | ((with_reducible apply Sat.cond_pf); exact rfl; (try dsimp only [V.EV.sub, V.EV.len]); first | assumption | omega)
        | ((with_reducible apply Sat.cond_p); exact rfl; all_goals intro h)
        | ((with_reducible apply Sat.cond); exact rfl; all_goals intro h)
        | ((with_reducible apply Sat.gon); exact rfl; first | exact rfl | (decide +kernel))
        | ((with_reducible apply Sat.call0 (sanity_law)); exact rfl; exact rfl; kernel_rfl; exact rfl)
        | ((with_reducible apply DSat.call0 (sanity_law)); exact rfl; exact rfl; kernel_rfl; exact rfl)
        | ((with_reducible apply DSat.callM0 (sanity_law)); exact rfl; exact rfl; (first | exact rfl | assumption | (decide +kernel)); exact rfl; kernel_rfl; exact rfl)
        | ((with_reducible apply Sat.call (m1)); exact rfl; exact rfl; kernel_rfl; (exact cnvX); exact rfl)
        | ((with_reducible apply DSat.call (m1)); exact rfl; exact rfl; kernel_rfl; (exact cnvX); exact rfl)
        | ((with_reducible apply Sat.call (m2)); exact rfl; exact rfl; kernel_rfl; (exact cnvX); exact rfl)
        | ((with_reducible apply DSat.call (m2)); exact rfl; exact rfl; kernel_rfl; (exact cnvX); exact rfl)
        | ((with_reducible apply Sat.call (m3)); exact rfl; exact rfl; kernel_rfl; (exact cnvX); exact rfl)
        | ((with_reducible apply DSat.call (m3)); exact rfl; exact rfl; kernel_rfl; (exact cnvX); exact rfl)
        | ((with_reducible apply Sat.call (m4)); exact rfl; exact rfl; kernel_rfl; (exact cnvX); exact rfl)
        | ((with_reducible apply DSat.call (m4)); exact rfl; exact rfl; kernel_rfl; (exact cnvX); exact rfl)
        | ((with_reducible apply Sat.call (b1)); exact rfl; exact rfl; kernel_rfl; (exact cnvX); exact rfl)
        | ((with_reducible apply DSat.call (b1)); exact rfl; exact rfl; kernel_rfl; (exact cnvX); exact rfl)
        | ((with_reducible apply Sat.call (b2)); exact rfl; exact rfl; kernel_rfl; (exact cnvX); exact rfl)
        | ((with_reducible apply DSat.call (b2)); exact rfl; exact rfl; kernel_rfl; (exact cnvX); exact rfl)
        | ((with_reducible apply Sat.call (b3)); exact rfl; exact rfl; kernel_rfl; (exact cnvX); exact rfl)
        | ((with_reducible apply DSat.call (b3)); exact rfl; exact rfl; kernel_rfl; (exact cnvX); exact rfl)
        | ((with_reducible apply Sat.call (b4)); exact rfl; exact rfl; kernel_rfl; (exact cnvX); exact rfl)
        | ((with_reducible apply DSat.call (b4)); exact rfl; exact rfl; kernel_rfl; (exact cnvX); exact rfl)
        | ((with_reducible apply Sat.callR (e1)); exact rfl; exact rfl; exact rfl; kernel_rfl; (exact cnvX); exact rfl)
        | ((with_reducible apply DSat.callR (e1)); exact rfl; exact rfl; exact rfl; kernel_rfl; (exact cnvX); exact rfl)
        | ((with_reducible apply Sat.callR (e2)); exact rfl; exact rfl; exact rfl; kernel_rfl; (exact cnvX); exact rfl)
        | ((with_reducible apply DSat.callR (e2)); exact rfl; exact rfl; exact rfl; kernel_rfl; (exact cnvX); exact rfl)
        | ((with_reducible apply Sat.callR (s1)); exact rfl; exact rfl; exact rfl; kernel_rfl; (exact cnvX); exact rfl)
        | ((with_reducible apply DSat.callR (s1)); exact rfl; exact rfl; exact rfl; kernel_rfl; (exact cnvX); exact rfl)
        | ((with_reducible apply Sat.callR (s2)); exact rfl; exact rfl; exact rfl; kernel_rfl; (exact cnvX); exact rfl)
        | ((with_reducible apply DSat.callR (s2)); exact rfl; exact rfl; exact rfl; kernel_rfl; (exact cnvX); exact rfl)
        | ((with_reducible apply DSat.callM (b3)); exact rfl; exact rfl; (first | exact rfl | assumption | (decide +kernel)); exact rfl; kernel_rfl; (exact cnvX); exact rfl)
        | ((with_reducible apply DSat.callM (b4)); exact rfl; exact rfl; (first | exact rfl | assumption | (decide +kernel)); exact rfl; kernel_rfl; (exact cnvX); exact rfl)
        | ((with_reducible apply Sat.callG1 (e2)); exact rfl; exact rfl; exact rfl; exact rfl; kernel_rfl; (intro hG; (exact cnvX)); exact rfl)
        | ((with_reducible apply DSat.callG1 (e2)); exact rfl; exact rfl; exact rfl; exact rfl; kernel_rfl; (intro hG; (exact cnvX)); exact rfl)
        | ((with_reducible apply Sat.callG1 (s2)); exact rfl; exact rfl; exact rfl; exact rfl; kernel_rfl; (intro hG; (exact cnvX)); exact rfl)
        | ((with_reducible apply DSat.callG1 (s2)); exact rfl; exact rfl; exact rfl; exact rfl; kernel_rfl; (intro hG; (exact cnvX)); exact rfl) | fail)
    all_goals (refine Sat.fin (Sat.end1 rfl rfl rfl True.intro (.refl _ purX) (by first | exact .inl rfl | exact .inr rfl) (fun _ h => h)) ?_; (first | exact rfl | exact congrArg SV.bool (by decide +kernel)))
end Go.Proofs.YtegbdcadlmefgaaDoor
end
section
namespace Go.Proofs.YtegbdcadlmefgaaDoor
open Go.RowKit V
--PURE: (intro _ _; simp [pureL, pureS, pureE]; done)
set_option maxRecDepth 100000
set_option maxHeartbeats 4000000
set_option linter.unusedSimpArgs false
theorem valid_small (v f e z c : Int) : validB { smallR with version := v, floor := f, expiry := e, size := z, chunks := c } = (inB v 1 60000 && (inB f 0 v && (inB e 0 1000000000 && (inB z 0 65536 && inB c 1 256)))) := by
  have h2 : valid2 { smallR with version := v, floor := f, expiry := e, size := z, chunks := c } = true := by unfold valid2; exact (by decide +kernel : (decide (([] : List Int).length ≤ 16) && (risB [] 0 60000 && decide (([] : List PartL).length ≤ 8))) = true)
  have h3 : valid3 { smallR with version := v, floor := f, expiry := e, size := z, chunks := c } = true := decide_eq_true fun i hi => absurd hi (Nat.not_lt_zero _)
  have h4 : valid4 { smallR with version := v, floor := f, expiry := e, size := z, chunks := c } = true := decide_eq_true fun i hi => absurd hi (Nat.not_lt_zero _)
  unfold validB
  rw [h2, h3, h4]
  exact Bool.and_true _
def rootT (g e n : Int) : RootL := ⟨g, e, [List.replicate 32 7], [⟨[97], [0], n⟩]⟩
theorem valid_rootT (g e n : Int) : rootB (rootT g e n) = (inB g 1 1000000 && (inB e 0 1000000000 && inB n 1 1)) := by
  have h2 : root2 (rootT g e n) = true := by unfold root2; exact (by decide +kernel : decide (∀ i, i < ([List.replicate 32 7] : List (List UInt8)).length → ∀ k, k < i → ([List.replicate 32 7] : List (List UInt8)).getD k [] ≠ ([List.replicate 32 7] : List (List UInt8)).getD i []) = true)
  have hp : plainB [97] = true := by decide +kernel
  have hr : risB [0] 0 ((([List.replicate 32 7] : List (List UInt8)).length : Int) - 1) = true := by decide +kernel
  have h3 : root3 (rootT g e n) = inB n 1 1 := by
    unfold root3
    cases hi : inB n 1 1 with
    | true =>
      refine decide_eq_true fun i h => ?_
      have h : i < 1 := h
      obtain rfl : i = 0 := by omega
      exact ⟨hp, fun h => absurd h (by omega), (show ([0] : List Int).length ≠ 0 by simp), hr, hi⟩
    | false =>
      refine decide_eq_false fun h => ?_
      have := (h 0 (show 0 < 1 by omega)).2.2.2.2
      rw [show inB n 1 1 = true from this] at hi
      cases hi
  unfold rootB root1
  rw [h2, h3]
  have hk : inB ((rootT g e n).keys.length : Int) 1 8 = true := (by decide +kernel : inB 1 1 8 = true)
  have ho : inB ((rootT g e n).roles.length : Int) 1 8 = true := (by decide +kernel : inB 1 1 8 = true)
  rw [hk, ho]
  show (inB g 1 1000000 && (inB e 0 1000000000 && (true && true)) && (true && inB n 1 1)) = _
  cases inB g 1 1000000 <;> cases inB e 0 1000000000 <;> cases inB n 1 1 <;> rfl
attribute [local irreducible] V.Sat V.DSat
theorem limits0 (n k : Int) (hk : k.tmod 8 = 0) : Fun Tryd.prog [] 9 [.int .i32 n, .int .u8 k] (.bool true) := by
  have e : validB ({ smallR with version := n, floor := 0 } : Rel) = inB n 1 60000 := by
    refine (valid_small n 0 3 65536 1).trans ?_
    unfold inB
    apply Bool.eq_iff_iff.2
    simp only [Bool.and_eq_true, decide_eq_true_eq]
    omega
  have v := valid_spec ({ smallR with version := n, floor := 0 } : Rel)
  rw [e] at v
  have q := x17s
  refine Fun.mkF 7 Tryd.func9 rfl Tryd.ntmps9 rfl rfl fun hf T w0 => ?_
  repeat' (first
      | ((with_reducible apply Sat.run (X := X64)); exact rfl; (first | exact True.intro | (exact phi) | skip))
      | ((with_reducible apply Sat.drawn); kernel_rfl)
      | ((with_reducible apply DSat.run (X := X64)); exact rfl; (first | exact True.intro | (exact phi) | skip))
      | ((with_reducible apply DSat.fin); kernel_rfl)
      | ((with_reducible apply Sat.cond_t); exact rfl)
      | ((with_reducible apply Sat.cond_f); exact rfl)
      | ((with_reducible apply Sat.cond_pt); exact rfl; (try dsimp only [V.EV.sub, V.EV.len]); first | assumption | omega)
      | ((with_reducible apply Sat.cond_pf); exact rfl; (try dsimp only [V.EV.sub, V.EV.len]); first | assumption | omega)
      | ((with_reducible apply Sat.cond_p); exact rfl; all_goals intro h)
      | ((with_reducible apply Sat.cond); exact rfl; all_goals intro h)
      | ((with_reducible apply Sat.gon); exact rfl; first | exact rfl | (decide +kernel))
      | ((with_reducible apply Sat.call0 (sanity_law)); exact rfl; exact rfl; kernel_rfl; exact rfl)
      | ((with_reducible apply DSat.call0 (sanity_law)); exact rfl; exact rfl; kernel_rfl; exact rfl)
      | ((with_reducible apply DSat.callM0 (sanity_law)); exact rfl; exact rfl; (first | exact rfl | assumption | (decide +kernel)); exact rfl; kernel_rfl; exact rfl)
      | ((with_reducible apply Sat.call0 (small_law)); exact rfl; exact rfl; kernel_rfl; exact rfl)
      | ((with_reducible apply DSat.call0 (small_law)); exact rfl; exact rfl; kernel_rfl; exact rfl)
      | ((with_reducible apply DSat.callM0 (small_law)); exact rfl; exact rfl; (first | exact rfl | assumption | (decide +kernel)); exact rfl; kernel_rfl; exact rfl)
      | ((with_reducible apply Sat.call0 (root_law)); exact rfl; exact rfl; kernel_rfl; exact rfl)
      | ((with_reducible apply DSat.call0 (root_law)); exact rfl; exact rfl; kernel_rfl; exact rfl)
      | ((with_reducible apply DSat.callM0 (root_law)); exact rfl; exact rfl; (first | exact rfl | assumption | (decide +kernel)); exact rfl; kernel_rfl; exact rfl)
      | ((with_reducible apply Sat.callR (v)); exact rfl; exact rfl; exact rfl; kernel_rfl; (exact cnvX); exact rfl)
      | ((with_reducible apply DSat.callR (v)); exact rfl; exact rfl; exact rfl; kernel_rfl; (exact cnvX); exact rfl)
      | ((with_reducible apply Sat.callR (q)); exact rfl; exact rfl; exact rfl; kernel_rfl; (exact cnvX); exact rfl)
      | ((with_reducible apply DSat.callR (q)); exact rfl; exact rfl; exact rfl; kernel_rfl; (exact cnvX); exact rfl)
      | ((with_reducible apply Sat.callG1 (q)); exact rfl; exact rfl; exact rfl; exact rfl; kernel_rfl; (intro hG; (exact cnvX)); exact rfl)
      | ((with_reducible apply DSat.callG1 (q)); exact rfl; exact rfl; exact rfl; exact rfl; kernel_rfl; (intro hG; (exact cnvX)); exact rfl) | fail)
  all_goals (refine Sat.fin (Sat.end1 rfl rfl rfl True.intro (.refl _ purX) (by first | exact .inl rfl | exact .inr rfl) (fun _ h => h)) ?_; (refine congrArg SV.bool ?_; unfold inB; generalize decide (1 ≤ n) = p1; generalize decide (n ≤ 60000) = p2; cases p1 <;> cases p2 <;> rfl))
theorem limits1 (n k : Int) (hk : k.tmod 8 = 1) : Fun Tryd.prog [] 9 [.int .i32 n, .int .u8 k] (.bool true) := by
  have e : validB ({ smallR with floor := n } : Rel) = inB n 0 258 := by
    refine (valid_small 258 n 3 65536 1).trans ?_
    unfold inB
    apply Bool.eq_iff_iff.2
    simp only [Bool.and_eq_true, decide_eq_true_eq]
    omega
  have v := valid_spec ({ smallR with floor := n } : Rel)
  rw [e] at v
  have q := x17s
  refine Fun.mkF 7 Tryd.func9 rfl Tryd.ntmps9 rfl rfl fun hf T w0 => ?_
  repeat' (first
      | ((with_reducible apply Sat.run (X := X64)); exact rfl; (first | exact True.intro | (exact phi) | skip))
      | ((with_reducible apply Sat.drawn); kernel_rfl)
      | ((with_reducible apply DSat.run (X := X64)); exact rfl; (first | exact True.intro | (exact phi) | skip))
      | ((with_reducible apply DSat.fin); kernel_rfl)
      | ((with_reducible apply Sat.cond_t); exact rfl)
      | ((with_reducible apply Sat.cond_f); exact rfl)
      | ((with_reducible apply Sat.cond_pt); exact rfl; (try dsimp only [V.EV.sub, V.EV.len]); first | assumption | omega)
      | ((with_reducible apply Sat.cond_pf); exact rfl; (try dsimp only [V.EV.sub, V.EV.len]); first | assumption | omega)
      | ((with_reducible apply Sat.cond_p); exact rfl; all_goals intro h)
      | ((with_reducible apply Sat.cond); exact rfl; all_goals intro h)
      | ((with_reducible apply Sat.gon); exact rfl; first | exact rfl | (decide +kernel))
      | ((with_reducible apply Sat.call0 (sanity_law)); exact rfl; exact rfl; kernel_rfl; exact rfl)
      | ((with_reducible apply DSat.call0 (sanity_law)); exact rfl; exact rfl; kernel_rfl; exact rfl)
      | ((with_reducible apply DSat.callM0 (sanity_law)); exact rfl; exact rfl; (first | exact rfl | assumption | (decide +kernel)); exact rfl; kernel_rfl; exact rfl)
      | ((with_reducible apply Sat.call0 (small_law)); exact rfl; exact rfl; kernel_rfl; exact rfl)
      | ((with_reducible apply DSat.call0 (small_law)); exact rfl; exact rfl; kernel_rfl; exact rfl)
      | ((with_reducible apply DSat.callM0 (small_law)); exact rfl; exact rfl; (first | exact rfl | assumption | (decide +kernel)); exact rfl; kernel_rfl; exact rfl)
      | ((with_reducible apply Sat.call0 (root_law)); exact rfl; exact rfl; kernel_rfl; exact rfl)
      | ((with_reducible apply DSat.call0 (root_law)); exact rfl; exact rfl; kernel_rfl; exact rfl)
      | ((with_reducible apply DSat.callM0 (root_law)); exact rfl; exact rfl; (first | exact rfl | assumption | (decide +kernel)); exact rfl; kernel_rfl; exact rfl)
      | ((with_reducible apply Sat.callR (v)); exact rfl; exact rfl; exact rfl; kernel_rfl; (exact cnvX); exact rfl)
      | ((with_reducible apply DSat.callR (v)); exact rfl; exact rfl; exact rfl; kernel_rfl; (exact cnvX); exact rfl)
      | ((with_reducible apply Sat.callR (q)); exact rfl; exact rfl; exact rfl; kernel_rfl; (exact cnvX); exact rfl)
      | ((with_reducible apply DSat.callR (q)); exact rfl; exact rfl; exact rfl; kernel_rfl; (exact cnvX); exact rfl)
      | ((with_reducible apply Sat.callG1 (q)); exact rfl; exact rfl; exact rfl; exact rfl; kernel_rfl; (intro hG; (exact cnvX)); exact rfl)
      | ((with_reducible apply DSat.callG1 (q)); exact rfl; exact rfl; exact rfl; exact rfl; kernel_rfl; (intro hG; (exact cnvX)); exact rfl) | fail)
  all_goals (refine Sat.fin (Sat.end1 rfl rfl rfl True.intro (.refl _ purX) (by first | exact .inl rfl | exact .inr rfl) (fun _ h => h)) ?_; (refine congrArg SV.bool ?_; unfold inB; generalize decide (0 ≤ n) = p1; generalize decide (n ≤ 258) = p2; cases p1 <;> cases p2 <;> rfl))
theorem limits2 (n k : Int) (hk : k.tmod 8 = 2) : Fun Tryd.prog [] 9 [.int .i32 n, .int .u8 k] (.bool true) := by
  have e : validB ({ smallR with expiry := n } : Rel) = inB n 0 1000000000 := by
    refine (valid_small 258 1 n 65536 1).trans ?_
    unfold inB
    apply Bool.eq_iff_iff.2
    simp only [Bool.and_eq_true, decide_eq_true_eq]
    omega
  have v := valid_spec ({ smallR with expiry := n } : Rel)
  rw [e] at v
  have q := x17s
  refine Fun.mkF 7 Tryd.func9 rfl Tryd.ntmps9 rfl rfl fun hf T w0 => ?_
  repeat' (first
      | ((with_reducible apply Sat.run (X := X64)); exact rfl; (first | exact True.intro | (exact phi) | skip))
      | ((with_reducible apply Sat.drawn); kernel_rfl)
      | ((with_reducible apply DSat.run (X := X64)); exact rfl; (first | exact True.intro | (exact phi) | skip))
      | ((with_reducible apply DSat.fin); kernel_rfl)
      | ((with_reducible apply Sat.cond_t); exact rfl)
      | ((with_reducible apply Sat.cond_f); exact rfl)
      | ((with_reducible apply Sat.cond_pt); exact rfl; (try dsimp only [V.EV.sub, V.EV.len]); first | assumption | omega)
      | ((with_reducible apply Sat.cond_pf); exact rfl; (try dsimp only [V.EV.sub, V.EV.len]); first | assumption | omega)
      | ((with_reducible apply Sat.cond_p); exact rfl; all_goals intro h)
      | ((with_reducible apply Sat.cond); exact rfl; all_goals intro h)
      | ((with_reducible apply Sat.gon); exact rfl; first | exact rfl | (decide +kernel))
      | ((with_reducible apply Sat.call0 (sanity_law)); exact rfl; exact rfl; kernel_rfl; exact rfl)
      | ((with_reducible apply DSat.call0 (sanity_law)); exact rfl; exact rfl; kernel_rfl; exact rfl)
      | ((with_reducible apply DSat.callM0 (sanity_law)); exact rfl; exact rfl; (first | exact rfl | assumption | (decide +kernel)); exact rfl; kernel_rfl; exact rfl)
      | ((with_reducible apply Sat.call0 (small_law)); exact rfl; exact rfl; kernel_rfl; exact rfl)
      | ((with_reducible apply DSat.call0 (small_law)); exact rfl; exact rfl; kernel_rfl; exact rfl)
      | ((with_reducible apply DSat.callM0 (small_law)); exact rfl; exact rfl; (first | exact rfl | assumption | (decide +kernel)); exact rfl; kernel_rfl; exact rfl)
      | ((with_reducible apply Sat.call0 (root_law)); exact rfl; exact rfl; kernel_rfl; exact rfl)
      | ((with_reducible apply DSat.call0 (root_law)); exact rfl; exact rfl; kernel_rfl; exact rfl)
      | ((with_reducible apply DSat.callM0 (root_law)); exact rfl; exact rfl; (first | exact rfl | assumption | (decide +kernel)); exact rfl; kernel_rfl; exact rfl)
      | ((with_reducible apply Sat.callR (v)); exact rfl; exact rfl; exact rfl; kernel_rfl; (exact cnvX); exact rfl)
      | ((with_reducible apply DSat.callR (v)); exact rfl; exact rfl; exact rfl; kernel_rfl; (exact cnvX); exact rfl)
      | ((with_reducible apply Sat.callR (q)); exact rfl; exact rfl; exact rfl; kernel_rfl; (exact cnvX); exact rfl)
      | ((with_reducible apply DSat.callR (q)); exact rfl; exact rfl; exact rfl; kernel_rfl; (exact cnvX); exact rfl)
      | ((with_reducible apply Sat.callG1 (q)); exact rfl; exact rfl; exact rfl; exact rfl; kernel_rfl; (intro hG; (exact cnvX)); exact rfl)
      | ((with_reducible apply DSat.callG1 (q)); exact rfl; exact rfl; exact rfl; exact rfl; kernel_rfl; (intro hG; (exact cnvX)); exact rfl) | fail)
  all_goals (refine Sat.fin (Sat.end1 rfl rfl rfl True.intro (.refl _ purX) (by first | exact .inl rfl | exact .inr rfl) (fun _ h => h)) ?_; (refine congrArg SV.bool ?_; unfold inB; generalize decide (0 ≤ n) = p1; generalize decide (n ≤ 1000000000) = p2; cases p1 <;> cases p2 <;> rfl))
theorem limits3 (n k : Int) (hk : k.tmod 8 = 3) : Fun Tryd.prog [] 9 [.int .i32 n, .int .u8 k] (.bool true) := by
  have e : validB ({ smallR with size := n } : Rel) = inB n 0 65536 := by
    refine (valid_small 258 1 3 n 1).trans ?_
    unfold inB
    apply Bool.eq_iff_iff.2
    simp only [Bool.and_eq_true, decide_eq_true_eq]
    omega
  have v := valid_spec ({ smallR with size := n } : Rel)
  rw [e] at v
  have q := x17s
  refine Fun.mkF 7 Tryd.func9 rfl Tryd.ntmps9 rfl rfl fun hf T w0 => ?_
  repeat' (first
      | ((with_reducible apply Sat.run (X := X64)); exact rfl; (first | exact True.intro | (exact phi) | skip))
      | ((with_reducible apply Sat.drawn); kernel_rfl)
      | ((with_reducible apply DSat.run (X := X64)); exact rfl; (first | exact True.intro | (exact phi) | skip))
      | ((with_reducible apply DSat.fin); kernel_rfl)
      | ((with_reducible apply Sat.cond_t); exact rfl)
      | ((with_reducible apply Sat.cond_f); exact rfl)
      | ((with_reducible apply Sat.cond_pt); exact rfl; (try dsimp only [V.EV.sub, V.EV.len]); first | assumption | omega)
      | ((with_reducible apply Sat.cond_pf); exact rfl; (try dsimp only [V.EV.sub, V.EV.len]); first | assumption | omega)
      | ((with_reducible apply Sat.cond_p); exact rfl; all_goals intro h)
      | ((with_reducible apply Sat.cond); exact rfl; all_goals intro h)
      | ((with_reducible apply Sat.gon); exact rfl; first | exact rfl | (decide +kernel))
      | ((with_reducible apply Sat.call0 (sanity_law)); exact rfl; exact rfl; kernel_rfl; exact rfl)
      | ((with_reducible apply DSat.call0 (sanity_law)); exact rfl; exact rfl; kernel_rfl; exact rfl)
      | ((with_reducible apply DSat.callM0 (sanity_law)); exact rfl; exact rfl; (first | exact rfl | assumption | (decide +kernel)); exact rfl; kernel_rfl; exact rfl)
      | ((with_reducible apply Sat.call0 (small_law)); exact rfl; exact rfl; kernel_rfl; exact rfl)
      | ((with_reducible apply DSat.call0 (small_law)); exact rfl; exact rfl; kernel_rfl; exact rfl)
      | ((with_reducible apply DSat.callM0 (small_law)); exact rfl; exact rfl; (first | exact rfl | assumption | (decide +kernel)); exact rfl; kernel_rfl; exact rfl)
      | ((with_reducible apply Sat.call0 (root_law)); exact rfl; exact rfl; kernel_rfl; exact rfl)
      | ((with_reducible apply DSat.call0 (root_law)); exact rfl; exact rfl; kernel_rfl; exact rfl)
      | ((with_reducible apply DSat.callM0 (root_law)); exact rfl; exact rfl; (first | exact rfl | assumption | (decide +kernel)); exact rfl; kernel_rfl; exact rfl)
      | ((with_reducible apply Sat.callR (v)); exact rfl; exact rfl; exact rfl; kernel_rfl; (exact cnvX); exact rfl)
      | ((with_reducible apply DSat.callR (v)); exact rfl; exact rfl; exact rfl; kernel_rfl; (exact cnvX); exact rfl)
      | ((with_reducible apply Sat.callR (q)); exact rfl; exact rfl; exact rfl; kernel_rfl; (exact cnvX); exact rfl)
      | ((with_reducible apply DSat.callR (q)); exact rfl; exact rfl; exact rfl; kernel_rfl; (exact cnvX); exact rfl)
      | ((with_reducible apply Sat.callG1 (q)); exact rfl; exact rfl; exact rfl; exact rfl; kernel_rfl; (intro hG; (exact cnvX)); exact rfl)
      | ((with_reducible apply DSat.callG1 (q)); exact rfl; exact rfl; exact rfl; exact rfl; kernel_rfl; (intro hG; (exact cnvX)); exact rfl) | fail)
  all_goals (refine Sat.fin (Sat.end1 rfl rfl rfl True.intro (.refl _ purX) (by first | exact .inl rfl | exact .inr rfl) (fun _ h => h)) ?_; (refine congrArg SV.bool ?_; unfold inB; generalize decide (0 ≤ n) = p1; generalize decide (n ≤ 65536) = p2; cases p1 <;> cases p2 <;> rfl))
theorem limits4 (n k : Int) (hk : k.tmod 8 = 4) : Fun Tryd.prog [] 9 [.int .i32 n, .int .u8 k] (.bool true) := by
  have e : validB ({ smallR with chunks := n } : Rel) = inB n 1 256 := by
    refine (valid_small 258 1 3 65536 n).trans ?_
    unfold inB
    apply Bool.eq_iff_iff.2
    simp only [Bool.and_eq_true, decide_eq_true_eq]
    omega
  have v := valid_spec ({ smallR with chunks := n } : Rel)
  rw [e] at v
  have q := x17s
  refine Fun.mkF 7 Tryd.func9 rfl Tryd.ntmps9 rfl rfl fun hf T w0 => ?_
  repeat' (first
      | ((with_reducible apply Sat.run (X := X64)); exact rfl; (first | exact True.intro | (exact phi) | skip))
      | ((with_reducible apply Sat.drawn); kernel_rfl)
      | ((with_reducible apply DSat.run (X := X64)); exact rfl; (first | exact True.intro | (exact phi) | skip))
      | ((with_reducible apply DSat.fin); kernel_rfl)
      | ((with_reducible apply Sat.cond_t); exact rfl)
      | ((with_reducible apply Sat.cond_f); exact rfl)
      | ((with_reducible apply Sat.cond_pt); exact rfl; (try dsimp only [V.EV.sub, V.EV.len]); first | assumption | omega)
      | ((with_reducible apply Sat.cond_pf); exact rfl; (try dsimp only [V.EV.sub, V.EV.len]); first | assumption | omega)
      | ((with_reducible apply Sat.cond_p); exact rfl; all_goals intro h)
      | ((with_reducible apply Sat.cond); exact rfl; all_goals intro h)
      | ((with_reducible apply Sat.gon); exact rfl; first | exact rfl | (decide +kernel))
      | ((with_reducible apply Sat.call0 (sanity_law)); exact rfl; exact rfl; kernel_rfl; exact rfl)
      | ((with_reducible apply DSat.call0 (sanity_law)); exact rfl; exact rfl; kernel_rfl; exact rfl)
      | ((with_reducible apply DSat.callM0 (sanity_law)); exact rfl; exact rfl; (first | exact rfl | assumption | (decide +kernel)); exact rfl; kernel_rfl; exact rfl)
      | ((with_reducible apply Sat.call0 (small_law)); exact rfl; exact rfl; kernel_rfl; exact rfl)
      | ((with_reducible apply DSat.call0 (small_law)); exact rfl; exact rfl; kernel_rfl; exact rfl)
      | ((with_reducible apply DSat.callM0 (small_law)); exact rfl; exact rfl; (first | exact rfl | assumption | (decide +kernel)); exact rfl; kernel_rfl; exact rfl)
      | ((with_reducible apply Sat.call0 (root_law)); exact rfl; exact rfl; kernel_rfl; exact rfl)
      | ((with_reducible apply DSat.call0 (root_law)); exact rfl; exact rfl; kernel_rfl; exact rfl)
      | ((with_reducible apply DSat.callM0 (root_law)); exact rfl; exact rfl; (first | exact rfl | assumption | (decide +kernel)); exact rfl; kernel_rfl; exact rfl)
      | ((with_reducible apply Sat.callR (v)); exact rfl; exact rfl; exact rfl; kernel_rfl; (exact cnvX); exact rfl)
      | ((with_reducible apply DSat.callR (v)); exact rfl; exact rfl; exact rfl; kernel_rfl; (exact cnvX); exact rfl)
      | ((with_reducible apply Sat.callR (q)); exact rfl; exact rfl; exact rfl; kernel_rfl; (exact cnvX); exact rfl)
      | ((with_reducible apply DSat.callR (q)); exact rfl; exact rfl; exact rfl; kernel_rfl; (exact cnvX); exact rfl)
      | ((with_reducible apply Sat.callG1 (q)); exact rfl; exact rfl; exact rfl; exact rfl; kernel_rfl; (intro hG; (exact cnvX)); exact rfl)
      | ((with_reducible apply DSat.callG1 (q)); exact rfl; exact rfl; exact rfl; exact rfl; kernel_rfl; (intro hG; (exact cnvX)); exact rfl) | fail)
  all_goals (refine Sat.fin (Sat.end1 rfl rfl rfl True.intro (.refl _ purX) (by first | exact .inl rfl | exact .inr rfl) (fun _ h => h)) ?_; (refine congrArg SV.bool ?_; unfold inB; generalize decide (1 ≤ n) = p1; generalize decide (n ≤ 256) = p2; cases p1 <;> cases p2 <;> rfl))
theorem limits5 (n k : Int) (hk : k.tmod 8 = 5) : Fun Tryd.prog [] 9 [.int .i32 n, .int .u8 k] (.bool true) := by
  have e : rootB ({ rootS with gen := n } : RootL) = inB n 1 1000000 := by
    refine (valid_rootT n 2 1).trans ?_
    unfold inB
    apply Bool.eq_iff_iff.2
    simp only [Bool.and_eq_true, decide_eq_true_eq]
    omega
  have q := validRoot_spec ({ rootS with gen := n } : RootL)
  rw [e] at q
  have v := x12s
  refine Fun.mkF 7 Tryd.func9 rfl Tryd.ntmps9 rfl rfl fun hf T w0 => ?_
  repeat' (first
      | ((with_reducible apply Sat.run (X := X64)); exact rfl; (first | exact True.intro | (exact phi) | skip))
      | ((with_reducible apply Sat.drawn); kernel_rfl)
      | ((with_reducible apply DSat.run (X := X64)); exact rfl; (first | exact True.intro | (exact phi) | skip))
      | ((with_reducible apply DSat.fin); kernel_rfl)
      | ((with_reducible apply Sat.cond_t); exact rfl)
      | ((with_reducible apply Sat.cond_f); exact rfl)
      | ((with_reducible apply Sat.cond_pt); exact rfl; (try dsimp only [V.EV.sub, V.EV.len]); first | assumption | omega)
      | ((with_reducible apply Sat.cond_pf); exact rfl; (try dsimp only [V.EV.sub, V.EV.len]); first | assumption | omega)
      | ((with_reducible apply Sat.cond_p); exact rfl; all_goals intro h)
      | ((with_reducible apply Sat.cond); exact rfl; all_goals intro h)
      | ((with_reducible apply Sat.gon); exact rfl; first | exact rfl | (decide +kernel))
      | ((with_reducible apply Sat.call0 (sanity_law)); exact rfl; exact rfl; kernel_rfl; exact rfl)
      | ((with_reducible apply DSat.call0 (sanity_law)); exact rfl; exact rfl; kernel_rfl; exact rfl)
      | ((with_reducible apply DSat.callM0 (sanity_law)); exact rfl; exact rfl; (first | exact rfl | assumption | (decide +kernel)); exact rfl; kernel_rfl; exact rfl)
      | ((with_reducible apply Sat.call0 (small_law)); exact rfl; exact rfl; kernel_rfl; exact rfl)
      | ((with_reducible apply DSat.call0 (small_law)); exact rfl; exact rfl; kernel_rfl; exact rfl)
      | ((with_reducible apply DSat.callM0 (small_law)); exact rfl; exact rfl; (first | exact rfl | assumption | (decide +kernel)); exact rfl; kernel_rfl; exact rfl)
      | ((with_reducible apply Sat.call0 (root_law)); exact rfl; exact rfl; kernel_rfl; exact rfl)
      | ((with_reducible apply DSat.call0 (root_law)); exact rfl; exact rfl; kernel_rfl; exact rfl)
      | ((with_reducible apply DSat.callM0 (root_law)); exact rfl; exact rfl; (first | exact rfl | assumption | (decide +kernel)); exact rfl; kernel_rfl; exact rfl)
      | ((with_reducible apply Sat.callR (v)); exact rfl; exact rfl; exact rfl; kernel_rfl; (exact cnvX); exact rfl)
      | ((with_reducible apply DSat.callR (v)); exact rfl; exact rfl; exact rfl; kernel_rfl; (exact cnvX); exact rfl)
      | ((with_reducible apply Sat.callR (q)); exact rfl; exact rfl; exact rfl; kernel_rfl; (exact cnvX); exact rfl)
      | ((with_reducible apply DSat.callR (q)); exact rfl; exact rfl; exact rfl; kernel_rfl; (exact cnvX); exact rfl)
      | ((with_reducible apply Sat.callG1 (q)); exact rfl; exact rfl; exact rfl; exact rfl; kernel_rfl; (intro hG; (exact cnvX)); exact rfl)
      | ((with_reducible apply DSat.callG1 (q)); exact rfl; exact rfl; exact rfl; exact rfl; kernel_rfl; (intro hG; (exact cnvX)); exact rfl) | fail)
  all_goals (refine Sat.fin (Sat.end1 rfl rfl rfl True.intro (.refl _ purX) (by first | exact .inl rfl | exact .inr rfl) (fun _ h => h)) ?_; (refine congrArg SV.bool ?_; unfold inB; generalize decide (1 ≤ n) = p1; generalize decide (n ≤ 1000000) = p2; cases p1 <;> cases p2 <;> rfl))
theorem limits6 (n k : Int) (hk : k.tmod 8 = 6) : Fun Tryd.prog [] 9 [.int .i32 n, .int .u8 k] (.bool true) := by
  have e : rootB ({ rootS with expiry := n } : RootL) = inB n 0 1000000000 := by
    refine (valid_rootT 1 n 1).trans ?_
    unfold inB
    apply Bool.eq_iff_iff.2
    simp only [Bool.and_eq_true, decide_eq_true_eq]
    omega
  have q := validRoot_spec ({ rootS with expiry := n } : RootL)
  rw [e] at q
  have v := x12s
  refine Fun.mkF 7 Tryd.func9 rfl Tryd.ntmps9 rfl rfl fun hf T w0 => ?_
  repeat' (first
      | ((with_reducible apply Sat.run (X := X64)); exact rfl; (first | exact True.intro | (exact phi) | skip))
      | ((with_reducible apply Sat.drawn); kernel_rfl)
      | ((with_reducible apply DSat.run (X := X64)); exact rfl; (first | exact True.intro | (exact phi) | skip))
      | ((with_reducible apply DSat.fin); kernel_rfl)
      | ((with_reducible apply Sat.cond_t); exact rfl)
      | ((with_reducible apply Sat.cond_f); exact rfl)
      | ((with_reducible apply Sat.cond_pt); exact rfl; (try dsimp only [V.EV.sub, V.EV.len]); first | assumption | omega)
      | ((with_reducible apply Sat.cond_pf); exact rfl; (try dsimp only [V.EV.sub, V.EV.len]); first | assumption | omega)
      | ((with_reducible apply Sat.cond_p); exact rfl; all_goals intro h)
      | ((with_reducible apply Sat.cond); exact rfl; all_goals intro h)
      | ((with_reducible apply Sat.gon); exact rfl; first | exact rfl | (decide +kernel))
      | ((with_reducible apply Sat.call0 (sanity_law)); exact rfl; exact rfl; kernel_rfl; exact rfl)
      | ((with_reducible apply DSat.call0 (sanity_law)); exact rfl; exact rfl; kernel_rfl; exact rfl)
      | ((with_reducible apply DSat.callM0 (sanity_law)); exact rfl; exact rfl; (first | exact rfl | assumption | (decide +kernel)); exact rfl; kernel_rfl; exact rfl)
      | ((with_reducible apply Sat.call0 (small_law)); exact rfl; exact rfl; kernel_rfl; exact rfl)
      | ((with_reducible apply DSat.call0 (small_law)); exact rfl; exact rfl; kernel_rfl; exact rfl)
      | ((with_reducible apply DSat.callM0 (small_law)); exact rfl; exact rfl; (first | exact rfl | assumption | (decide +kernel)); exact rfl; kernel_rfl; exact rfl)
      | ((with_reducible apply Sat.call0 (root_law)); exact rfl; exact rfl; kernel_rfl; exact rfl)
      | ((with_reducible apply DSat.call0 (root_law)); exact rfl; exact rfl; kernel_rfl; exact rfl)
      | ((with_reducible apply DSat.callM0 (root_law)); exact rfl; exact rfl; (first | exact rfl | assumption | (decide +kernel)); exact rfl; kernel_rfl; exact rfl)
      | ((with_reducible apply Sat.callR (v)); exact rfl; exact rfl; exact rfl; kernel_rfl; (exact cnvX); exact rfl)
      | ((with_reducible apply DSat.callR (v)); exact rfl; exact rfl; exact rfl; kernel_rfl; (exact cnvX); exact rfl)
      | ((with_reducible apply Sat.callR (q)); exact rfl; exact rfl; exact rfl; kernel_rfl; (exact cnvX); exact rfl)
      | ((with_reducible apply DSat.callR (q)); exact rfl; exact rfl; exact rfl; kernel_rfl; (exact cnvX); exact rfl)
      | ((with_reducible apply Sat.callG1 (q)); exact rfl; exact rfl; exact rfl; exact rfl; kernel_rfl; (intro hG; (exact cnvX)); exact rfl)
      | ((with_reducible apply DSat.callG1 (q)); exact rfl; exact rfl; exact rfl; exact rfl; kernel_rfl; (intro hG; (exact cnvX)); exact rfl) | fail)
  all_goals (refine Sat.fin (Sat.end1 rfl rfl rfl True.intro (.refl _ purX) (by first | exact .inl rfl | exact .inr rfl) (fun _ h => h)) ?_; (refine congrArg SV.bool ?_; unfold inB; generalize decide (0 ≤ n) = p1; generalize decide (n ≤ 1000000000) = p2; cases p1 <;> cases p2 <;> rfl))
end Go.Proofs.YtegbdcadlmefgaaDoor
end
section
namespace Go.Proofs.YtegbdcadlmefgaaDoor
open Go.RowKit V
--PURE: (intro _ _; simp [pureL, pureS, pureE]; done)
set_option maxRecDepth 100000
set_option maxHeartbeats 4000000
set_option linter.unusedSimpArgs false
attribute [local irreducible] V.Sat V.DSat
theorem limits7 (n k : Int) (hk : ∀ j, 0 ≤ j → j < 7 → k.tmod 8 ≠ j) : Fun Tryd.prog [] 9 [.int .i32 n, .int .u8 k] (.bool true) := by
  have v := x12s
  have q := validRoot_spec (rootT 1 2 n)
  have e : rootB (rootT 1 2 n) = inB n 1 1 := by
    refine (valid_rootT 1 2 n).trans ?_
    unfold inB
    apply Bool.eq_iff_iff.2
    simp only [Bool.and_eq_true, decide_eq_true_eq]
    omega
  rw [e] at q
  have hl : (List.replicate 32 (7 : UInt8)).length = 32 := rfl
  have hv : ∀ x, x < 32 → (List.replicate 32 (7 : UInt8)).getD x 0 = 7 := fun x hx => by rw [List.getD_eq_getElem?_getD, List.getElem?_replicate, if_pos hx]; rfl
  have h0 : ¬ k.tmod 8 = 0 := hk 0 (by omega) (by omega)
  have h1 : ¬ k.tmod 8 = 1 := hk 1 (by omega) (by omega)
  have h2 : ¬ k.tmod 8 = 2 := hk 2 (by omega) (by omega)
  have h3 : ¬ k.tmod 8 = 3 := hk 3 (by omega) (by omega)
  have h4 : ¬ k.tmod 8 = 4 := hk 4 (by omega) (by omega)
  have h5 : ¬ k.tmod 8 = 5 := hk 5 (by omega) (by omega)
  have h6 : ¬ k.tmod 8 = 6 := hk 6 (by omega) (by omega)
  refine Fun.mkF 7 Tryd.func9 rfl Tryd.ntmps9 rfl rfl fun hf T w0 => ?_
  repeat' (first
      | ((with_reducible apply Sat.run (X := X64)); exact rfl; (first | exact True.intro | (exact phi) | skip))
      | ((with_reducible apply Sat.drawn); kernel_rfl)
      | ((with_reducible apply DSat.run (X := X64)); exact rfl; (first | exact True.intro | (exact phi) | skip))
      | ((with_reducible apply DSat.fin); kernel_rfl)
      | ((with_reducible apply Sat.call0 (sanity_law)); exact rfl; exact rfl; kernel_rfl; exact rfl)
      | ((with_reducible apply DSat.call0 (sanity_law)); exact rfl; exact rfl; kernel_rfl; exact rfl)
      | ((with_reducible apply DSat.callM0 (sanity_law)); exact rfl; exact rfl; (first | exact rfl | assumption | (decide +kernel)); exact rfl; kernel_rfl; exact rfl)
      | ((with_reducible apply Sat.call0 (small_law)); exact rfl; exact rfl; kernel_rfl; exact rfl)
      | ((with_reducible apply DSat.call0 (small_law)); exact rfl; exact rfl; kernel_rfl; exact rfl)
      | ((with_reducible apply DSat.callM0 (small_law)); exact rfl; exact rfl; (first | exact rfl | assumption | (decide +kernel)); exact rfl; kernel_rfl; exact rfl)
      | ((with_reducible apply Sat.inl 7 [] Tryd.func30 Tryd.ntmps30); exact rfl; exact rfl; kernel_rfl; exact rfl; exact rfl; exact rfl; exact rfl; ((repeat' (first | exact AllP.nil | with_reducible refine AllP.cons ?_ ?_)) <;> (first | exact True.intro | exact purX)); intro _ _) | fail)
  generalize hm : List.replicate 32 (7 : UInt8) = m at hl hv
  apply Sat.loop (α := Nat) (fun x => x ≤ 32) (fun x => 32 - x) 0 (fun x => [(2, .int .i64 (x : Int))]) (fun x => [(1, .cells 23 [.arr 32 (.u8 (m.take x ++ List.replicate (32 - x) 0))])]) [] [] 0
  · intro x; exact rfl
  · intro x; exact rfl
  · exact rfl
  · exact rfl
  · (repeat' (first | exact AllP.nil | with_reducible refine AllP.cons ?_ ?_)) <;> first | exact rfl | exact trivial
  · exact Nat.zero_le _
  · intro x hx
    by_cases hx2 : x < 32
    · have e := set_step m x hl hx2
      rw [hv x hx2] at e
      repeat' (first
          | ((with_reducible apply Sat.run (X := X64)); exact rfl; (first | exact True.intro | (exact phi) | skip))
          | ((with_reducible apply Sat.drawn); kernel_rfl)
          | ((with_reducible apply DSat.run (X := X64)); exact rfl; (first | exact True.intro | (exact phi) | skip))
          | ((with_reducible apply DSat.fin); kernel_rfl)
          | ((with_reducible apply Sat.cond_t); exact rfl)
          | ((with_reducible apply Sat.cond_f); exact rfl)
          | ((with_reducible apply Sat.cond_pt); exact rfl; (try dsimp only [V.EV.sub, V.EV.len]); first | assumption | omega)
          | ((with_reducible apply Sat.cond_pf); exact rfl; (try dsimp only [V.EV.sub, V.EV.len]); first | assumption | omega)
          | ((with_reducible apply Sat.cond_p); exact rfl; all_goals intro h)
          | ((with_reducible apply Sat.cond); exact rfl; all_goals intro h) | fail)
      refine Sat.back (x + 1) [] rfl ?_ (by omega) (by omega)
      (repeat' (first | exact AllP.nil | with_reducible refine AllP.cons ?_ ?_)) <;> first | with_reducible exact rfl | exact Int.natCast_add_one _ | exact congrArg EV.u8 e | exact rfl | exact trivial
    · have hx3 : x = 32 := by omega
      subst hx3
      repeat' (first
          | ((with_reducible apply Sat.run (X := X64)); exact rfl; (first | exact True.intro | (exact phi) | skip))
          | ((with_reducible apply Sat.drawn); kernel_rfl)
          | ((with_reducible apply DSat.run (X := X64)); exact rfl; (first | exact True.intro | (exact phi) | skip))
          | ((with_reducible apply DSat.fin); kernel_rfl) | fail)
      with_reducible apply Sat.cond_f
      · exact rfl
      have e32 : m.take 32 ++ List.replicate (32 - 32) 0 = m := by rw [List.take_of_length_le (by omega)]; simp
      refine Sat.runN (X := X64) 6 rfl True.intro ?_
      rw [e32]
      refine Sat.enter ?_
      refine Sat.one (X := X64) rfl True.intro ?_
      refine Sat.one (X := X64) rfl True.intro ?_
      refine Sat.one (X := X64) rfl True.intro ?_
      refine Sat.one (X := X64) rfl True.intro ?_
      refine Sat.freezeR true 3 rfl ?_ ?_
      · (repeat' (first | exact AllP.nil | with_reducible refine AllP.cons ?_ ?_)) <;> first | exact rfl | exact trivial | exact .inl ⟨rfl, rfl, rfl⟩ | (intro _ _; simp [pureL, pureS, pureE]; done) | (intro _ _; exact rfl) | (intro _; exact rfl) | (intro _; exact trivial) | (intro _; exact .inl ⟨rfl, rfl, rfl⟩) | (intro _ _ _; simp [pureL, pureS, pureE]; done)  | (intro i hi; rcases i with _ | i; exact ⟨by simp [pureS, pureE], trivial⟩; exact trivial) | exact ⟨rfl, rfl, rfl, rfl⟩ | (intro z hz; have hz : z < 1 := hz; obtain rfl : z = 0 := (by omega); first | rfl | exact ⟨by simp [pureS, pureE], trivial⟩ | exact ⟨trivial, by simp [pureS, pureE], trivial, trivial⟩) | (intro _; exact ⟨rfl, rfl, rfl, rfl⟩)
      refine Sat.freezeR true 2 rfl ?_ ?_
      · (repeat' (first | exact AllP.nil | with_reducible refine AllP.cons ?_ ?_)) <;> first | exact rfl | exact trivial | exact .inl ⟨rfl, rfl, rfl⟩ | (intro _ _; simp [pureL, pureS, pureE]; done) | (intro _ _; exact rfl) | (intro _; exact rfl) | (intro _; exact trivial) | (intro _; exact .inl ⟨rfl, rfl, rfl⟩) | (intro _ _ _; simp [pureL, pureS, pureE]; done)  | (intro i hi; rcases i with _ | i; exact ⟨by simp [pureS, pureE], trivial⟩; exact trivial) | exact ⟨rfl, rfl, rfl, rfl⟩ | (intro z hz; have hz : z < 1 := hz; obtain rfl : z = 0 := (by omega); first | rfl | exact ⟨by simp [pureS, pureE], trivial⟩ | exact ⟨trivial, by simp [pureS, pureE], trivial, trivial⟩) | (intro _; exact ⟨rfl, rfl, rfl, rfl⟩)
      repeat' (first
          | ((with_reducible apply Sat.run (X := X64)); exact rfl; (first | exact True.intro | (exact phi) | skip))
          | ((with_reducible apply Sat.drawn); kernel_rfl)
          | ((with_reducible apply DSat.run (X := X64)); exact rfl; (first | exact True.intro | (exact phi) | skip))
          | ((with_reducible apply DSat.fin); kernel_rfl)
          | ((with_reducible apply Sat.cond_t); exact rfl)
          | ((with_reducible apply Sat.cond_f); exact rfl)
          | ((with_reducible apply Sat.cond_pt); exact rfl; (try dsimp only [V.EV.sub, V.EV.len]); first | assumption | omega)
          | ((with_reducible apply Sat.cond_pf); exact rfl; (try dsimp only [V.EV.sub, V.EV.len]); first | assumption | omega)
          | ((with_reducible apply Sat.cond_p); exact rfl; all_goals intro h)
          | ((with_reducible apply Sat.cond); exact rfl; all_goals intro h)
          | ((with_reducible apply Sat.out1 (C := ⟨_, _, _, _, _, _, _, _, _⟩)); exact rfl; (first | exact .inl rfl | exact .inr rfl); exact rfl; (exact phi); exact rfl)
          | ((with_reducible apply Sat.out0 (C := ⟨_, _, _, _, _, _, _, _, _⟩)); exact rfl; (first | exact .inl rfl | exact .inr rfl); exact rfl)
          | ((with_reducible apply Sat.out2 (C := ⟨_, _, _, _, _, _, _, _, _⟩)); exact rfl; (first | exact .inl rfl | exact .inr rfl); exact rfl; (exact phi); exact rfl; (exact phi); exact rfl)
          | ((with_reducible apply Sat.gon); exact rfl; first | exact rfl | (decide +kernel))
          | ((with_reducible apply Sat.callR (v)); exact rfl; exact rfl; exact rfl; kernel_rfl; (exact cnvX); exact rfl)
          | ((with_reducible apply DSat.callR (v)); exact rfl; exact rfl; exact rfl; kernel_rfl; (exact cnvX); exact rfl) | fail)
      with_reducible apply Sat.callR q
      · exact rfl
      · exact rfl
      · exact rfl
      · kernel_rfl
      · refine Convs.cons _ _ _ _ (Conv.may _ _ _ ?_ (.agg _ _ (.cons _ _ _ _ (.refl _ trivial) (.cons _ _ _ _ (.refl _ trivial) (.cons _ _ _ _ (.gx _ 1 32 _ _ (.refl _ ?_) ?_) (.cons _ _ _ _ (.gx _ 1 3 _ _ (.all _ _ _ _ _ rfl rfl rfl ?_) ?_) .nil)))))) .nil
        · exact rfl
        · intro i hi
          rcases i with _ | i
          · exact ⟨by simp [pureS, pureE], trivial⟩
          · exact trivial
        · intro i hi
          have hi : i < 1 := hi
          obtain rfl : i = 0 := by omega
          subst hm
          rfl
        · intro i hi
          have hi : i < 1 := hi
          obtain rfl : i = 0 := by omega
          exact ⟨trivial, by simp [pureS, pureE], trivial, trivial⟩
        · intro i hi
          have hi : i < 1 := hi
          obtain rfl : i = 0 := by omega
          rfl
      · exact rfl
      repeat' (first
          | ((with_reducible apply Sat.run (X := X64)); exact rfl; (first | exact True.intro | (exact phi) | skip))
          | ((with_reducible apply Sat.drawn); kernel_rfl)
          | ((with_reducible apply DSat.run (X := X64)); exact rfl; (first | exact True.intro | (exact phi) | skip))
          | ((with_reducible apply DSat.fin); kernel_rfl)
          | ((with_reducible apply Sat.cond_t); exact rfl)
          | ((with_reducible apply Sat.cond_f); exact rfl)
          | ((with_reducible apply Sat.cond_pt); exact rfl; (try dsimp only [V.EV.sub, V.EV.len]); first | assumption | omega)
          | ((with_reducible apply Sat.cond_pf); exact rfl; (try dsimp only [V.EV.sub, V.EV.len]); first | assumption | omega)
          | ((with_reducible apply Sat.cond_p); exact rfl; all_goals intro h)
          | ((with_reducible apply Sat.cond); exact rfl; all_goals intro h)
          | ((with_reducible apply Sat.out1 (C := ⟨_, _, _, _, _, _, _, _, _⟩)); exact rfl; (first | exact .inl rfl | exact .inr rfl); exact rfl; (exact phi); exact rfl)
          | ((with_reducible apply Sat.out0 (C := ⟨_, _, _, _, _, _, _, _, _⟩)); exact rfl; (first | exact .inl rfl | exact .inr rfl); exact rfl)
          | ((with_reducible apply Sat.out2 (C := ⟨_, _, _, _, _, _, _, _, _⟩)); exact rfl; (first | exact .inl rfl | exact .inr rfl); exact rfl; (exact phi); exact rfl; (exact phi); exact rfl)
          | ((with_reducible apply Sat.gon); exact rfl; first | exact rfl | (decide +kernel))
          | ((with_reducible apply Sat.callR (v)); exact rfl; exact rfl; exact rfl; kernel_rfl; (exact cnvX); exact rfl)
          | ((with_reducible apply DSat.callR (v)); exact rfl; exact rfl; exact rfl; kernel_rfl; (exact cnvX); exact rfl) | fail)
      all_goals (refine Sat.fin (Sat.end1 rfl rfl rfl True.intro (.refl _ purX) (by first | exact .inl rfl | exact .inr rfl) (fun _ h => h)) ?_; (refine congrArg SV.bool ?_; unfold inB; generalize decide (1 ≤ n) = p1; generalize decide (n ≤ 1) = p2; cases p1 <;> cases p2 <;> rfl))
theorem limits_law (n k : Int) : Fun Tryd.prog [] 9 [.int .i32 n, .int .u8 k] (.bool true) := by
  by_cases h0 : k.tmod 8 = 0
  · exact limits0 n k h0
  by_cases h1 : k.tmod 8 = 1
  · exact limits1 n k h1
  by_cases h2 : k.tmod 8 = 2
  · exact limits2 n k h2
  by_cases h3 : k.tmod 8 = 3
  · exact limits3 n k h3
  by_cases h4 : k.tmod 8 = 4
  · exact limits4 n k h4
  by_cases h5 : k.tmod 8 = 5
  · exact limits5 n k h5
  by_cases h6 : k.tmod 8 = 6
  · exact limits6 n k h6
  refine limits7 n k fun j j0 j7 e => ?_
  rcases (by omega : j = 0 ∨ j = 1 ∨ j = 2 ∨ j = 3 ∨ j = 4 ∨ j = 5 ∨ j = 6) with rfl | rfl | rfl | rfl | rfl | rfl | rfl <;> contradiction
end Go.Proofs.YtegbdcadlmefgaaDoor
end
section
namespace Go.Proofs.YtegbdcadlmefgaaDoor
open Go.RowKit Go.ChangeShapes Go.WideShapes V
set_option maxRecDepth 100000
set_option maxHeartbeats 8000000
theorem metaLimits_step (os : Os) (started : os.Started) (H : Type) (enc : TypeId × Value → H) (F : Stop.Interp) :
    ReturnsInHanded {} Tryd.checked os 9 .any ((OpenSpec.ofChange Rows.metaLimitsSpec).preRow enc Tryd.prog Tryd.f9 Rows.metaLimitsRow.domain false Rows.metaLimitsRow.laid) (((OpenSpec.ofChange Rows.metaLimitsSpec).at F).post enc Tryd.prog Tryd.f9 false true false false) := by
  refine law_step (C := Tryd.checked) (fn := Tryd.f9) (s := OpenSpec.ofChange Rows.metaLimitsSpec) (F := F) (tb := 4) [] own started (by kernel_rfl) Tryd.func9 laidOut (by kernel_rfl) (by kernel_rfl) (by kernel_rfl) Tryd.underlying4 rfl ?_
    (row_witness (World.doorLaid Tryd.prog 300 os) #[.int .i32 0, .int .u8 0] rfl (by kernel_rfl) (by kernel_rfl) (by kernel_rfl) (by kernel_rfl) (by kernel_rfl) (door_met os _)) errs_glob ?_
  · intro ds hl
    obtain ⟨d1, d2, rfl⟩ := list_len2 hl
    rfl
  · intro W vs ds hl ht hk
    obtain ⟨d1, d2, rfl⟩ := list_len2 hl
    exact limits_law (iOf d1) (iOf d2)
theorem metaLimits_said : Rows.MetaLimitsSaid :=
  OpenClaim.holds_of_cond 9 Tryd.f9 rfl rfl rfl rfl rfl rfl rfl ⟨rfl, rfl, rfl, rfl, rfl⟩ rfl rfl rfl rfl rfl (by kernel_rfl) Tryd.func9 (by kernel_rfl)
    (of_decide_eq_true (by kernel_rfl)) (by unfold Func.isWrapper; first | (rw [if_pos (by decide +kernel)]; kernel_rfl) | (rw [if_neg (by decide +kernel)]; exact ⟨rfl, rfl⟩))
    (fun os started H enc _ F => by rw [OpenClaim.pre_eq_preRow]; exact metaLimits_step os started H enc F)
theorem metaLimits_plain (f : FuncId) (fn : Func) (hf : Tryd.pinned.checked.prog.funcNamed "inlay/inlaylaw26.MetaLimits" = some f) (hfn : Tryd.pinned.checked.prog.funcs[f]? = some fn) :
    false = Tryd.pinned.checked.prog.looks [] ∧ ∀ (j : Nat) t, fn.params[j]? = some t → Tryd.pinned.checked.prog.wantsStandIn t = false := by
  obtain rfl : f = 9 := Option.some.inj ((show Tryd.prog.funcNamed "inlay/inlaylaw26.MetaLimits" = some 9 by kernel_rfl).symm.trans hf) |>.symm
  obtain rfl : fn = Tryd.f9 := (Option.some.inj (Tryd.func9.symm.trans hfn)).symm
  refine ⟨by kernel_rfl, fun j t ht => ?_⟩
  have hall : Tryd.f9.params.all (fun t => !(Tryd.prog.wantsStandIn t)) = true := by kernel_rfl
  have := (Array.all_eq_true_iff_forall_mem.1 hall) t (Array.mem_of_getElem? ht)
  have h2 : Tryd.prog.wantsStandIn t = false := by simpa using this
  exact h2
/-- The card. -/
theorem metaLimits_card : Rows.MetaLimitsCardSaid :=
  Claim7.holds_tied_plain_at .later [] _ _ _ _ metaLimits_said (fun _ h => by cases h) (by kernel_rfl) (fun _ h => by cases h) metaLimits_row_tie rfl ⟨rfl, rfl⟩ (by kernel_rfl) rfl metaLimits_plain (by kernel_rfl)
end Go.Proofs.YtegbdcadlmefgaaDoor
end
