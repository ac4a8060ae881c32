/-
  Joined texts: CH: Coder: the laws Inverts and Tables.
  CI: Coder: the law Codes.
  CJ: Coder: the law Differs.
  Bs: Things that stand hidden in memory: taken in hand, given back; calls whose result is a new block.
  CRa: Coder, the reference: its tables.
  CRc: Coder, the reference: its tables in memory; fresh and begin.
  CRd: Coder, the reference: begin.
  CRb: Coder, the reference: its tables as a model, plain.
  CRe: Coder, the reference: now.
  CRf: Coder, the reference: a piece whose ends meet; add; Encode.
  CRg: Coder, the reference: Decode.
  CRh: Coder: the reference's models as the program's; what is refused.
  CRi: Coder: the law MatchesReference.
  Z1: The law inlaylaw13.CoderMatchesReference returns true for every input, and each argument reads behind the call as it read before: the program's codes, sizes and readings are the reference's, in each model and beside them.
  Conditions: the package variables that the row lists hold, when the call begins, what the program's text lays there (the card ties them); no other narrowing.
-/
import Derived.Test.YtcnpgmohnclojaaDoorQD
import Derived.Test.YtcnpgmohnclojaaDoorQC
import Derived.SevenTiedAt
section
namespace Go.Proofs.YtcnpgmohnclojaaDoor
open Go.RowKit V
set_option maxRecDepth 100000
set_option maxHeartbeats 4000000
set_option linter.unusedSimpArgs false
attribute [local irreducible] V.Sat V.DSat
/-- A text and its code, read again. -/
theorem dec_own {Γ : Glob} (m : Nat) (hm : m < 3) (x : List UInt8) (hl : x.length ≤ 65536) : Fun Tryd.prog Γ 15 [.int .i64 (m : Int), .ro (.u8 (cd m x)), .int .i64 (x.length : Int)] (.tup [.ro (.u8 x), .int .i64 0]) := by
  have := (dec_call m hm (cd m x) x.length hl).weak (Γ := Γ)
  have e := dR_cd m x
  rwa [e.1, e.2] at this
theorem inverts_law {Γ : Glob} (hs : Fun Tryd.prog Γ 10 [] (.bool true)) (b : List UInt8) (t : UInt8) : Fun Tryd.prog Γ 4 [.ro (.u8 b), .int .u8 (t.toNat : Int)] (.bool true) := by
  have hlim : Fun Tryd.prog Γ 11 [.ro (.u8 b), .int .i64 200] (.ro (.u8 (b.take 200))) := (limited_spec b 200 (by decide)).weak
  have hq := take_le b 200
  generalize b.take 200 = q at hlim hq
  refine Fun.mkF 6 Tryd.func4 rfl Tryd.ntmps4 rfl rfl fun hf T w0 => ?_
  repeat' (first
      | ((with_reducible apply Sat.run (X := X64)); exact rfl; (first | exact True.intro | (exact phi) | skip))
      | ((with_reducible apply Sat.drawn); kernel_rfl)
      | ((with_reducible apply DSat.run (X := X64)); exact rfl; (first | exact True.intro | (exact phi) | skip))
      | ((with_reducible apply DSat.fin); kernel_rfl)
      | ((with_reducible apply Sat.call0 (hs)); exact rfl; exact rfl; kernel_rfl; exact rfl)
      | ((with_reducible apply DSat.call0 (hs)); exact rfl; exact rfl; kernel_rfl; exact rfl)
      | ((with_reducible apply DSat.callM0 (hs)); exact rfl; exact rfl; (first | exact rfl | assumption | (decide +kernel)); exact rfl; kernel_rfl; exact rfl) | fail)
  refine Sat.kill [14] rfl ?_
  apply Sat.loop (α := Nat × List UInt8) (fun x => x.1 ≤ 12 ∧ x.2.length ≤ 2200) (fun x => 12 - x.1) (0, []) (fun x => [(7, .int .i64 (x.1 : Int)), (6, .row 0 0 1 0 x.2.length)]) (fun x => [(0, .row 5 (.u8 x.2))]) [] [] 0
  · intro x; exact rfl
  · intro x; exact rfl
  · exact rfl
  · exact rfl
  · ((repeat' (first | exact AllP.nil | with_reducible refine AllP.cons ?_ ?_)) <;> first | exact rfl | exact trivial | exact Int.natCast_add_one _ | exact ⟨rfl, rfl⟩ | exact ⟨rfl, rfl, rfl⟩ | exact ⟨rfl, rfl, rfl, rfl⟩ | exact ⟨rfl, .inl rfl⟩ | exact ⟨rfl, .inr rfl⟩ | exact pur | (intro _; exact rfl) | (intro _; exact trivial) | (intro _; exact pur))
  · exact ⟨Nat.zero_le _, Nat.zero_le _⟩
  rintro ⟨i, x⟩ ⟨hi, hx⟩
  dsimp only at hi hx ⊢
  obtain ⟨N, hNN⟩ : ∃ N, N = t.toNat % 12 := ⟨_, rfl⟩
  have hN : Int.tmod (t.toNat : Int) 12 = (N : Int) := by rw [hNN]; rfl
  have hN1 : N ≤ 11 := by omega
  repeat' (first
      | ((with_reducible apply Sat.run (X := X64)); exact rfl; (first | exact True.intro | (fail) | skip))
      | ((with_reducible apply Sat.drawn); kernel_rfl)
      | ((with_reducible apply DSat.run (X := X64)); exact rfl; (first | exact True.intro | (fail) | skip))
      | ((with_reducible apply DSat.fin); kernel_rfl) | fail)
  · ((repeat' (first | exact AllP.nil | with_reducible refine AllP.cons ?_ ?_)) <;> (first | exact trivial | exact rfl | (exact (by decide)) | (intro h; first | exact h | exact fun h2 => ⟨h, h2⟩ | (refine inR_i64 ?_ ?_ <;> first | omega | (simp [EV.len]; omega)) | exact pur | (intro h2; exact pur) | (simp [EV.len] at h ⊢; omega) | (simp [EV.len] at h; constructor <;> first | omega | (simp [EV.len]; omega)) | (intro h2; exact h))))
  rw [hN]
  with_reducible apply Sat.cond
  · exact rfl
  · intro h
    have h := bif_t h
    repeat' (first
        | ((with_reducible apply Sat.run (X := X64)); exact rfl; (first | exact True.intro | (fail) | skip))
        | ((with_reducible apply Sat.drawn); kernel_rfl)
        | ((with_reducible apply DSat.run (X := X64)); exact rfl; (first | exact True.intro | (fail) | skip))
        | ((with_reducible apply DSat.fin); kernel_rfl)
        | ((with_reducible apply Sat.call (hlim)); exact rfl; exact rfl; kernel_rfl; (exact cnv); exact rfl)
        | ((with_reducible apply DSat.call (hlim)); exact rfl; exact rfl; kernel_rfl; (exact cnv); exact rfl) | fail)
    · exact .cons (inR_i64 (by omega) (by omega)) (.cons rfl (.cons (by show (x.length + q.length) * (0 + 1) ≤ 140737488355328; omega) .nil))
    · refine Sat.back (i + 1, x ++ q) [(0, some 1)] rfl ?_ ?_ ?_
      · ((repeat' (first | exact AllP.nil | with_reducible refine AllP.cons ?_ ?_)) <;> first | exact rfl | exact trivial | exact Int.natCast_add_one _ | exact ⟨rfl, rfl⟩ | exact ⟨rfl, rfl, rfl⟩ | exact ⟨rfl, rfl, rfl, rfl⟩ | exact ⟨rfl, .inl rfl⟩ | exact ⟨rfl, .inr rfl⟩ | exact pur | (intro _; exact rfl) | (intro _; exact trivial) | (intro _; exact pur) | exact ⟨rfl, rfl, rfl, (List.length_append ..).symm⟩)
      · dsimp only
        rw [List.length_append]
        omega
      · dsimp only; omega
  · intro h
    clear h
    repeat' (first
        | ((with_reducible apply Sat.run (X := X64)); exact rfl; (first | exact True.intro | (fail) | skip))
        | ((with_reducible apply Sat.drawn); kernel_rfl)
        | ((with_reducible apply DSat.run (X := X64)); exact rfl; (first | exact True.intro | (fail) | skip))
        | ((with_reducible apply DSat.fin); kernel_rfl) | fail)
    apply Sat.loop (α := Nat) (fun m => m ≤ 3) (fun m => 3 - m) 0 (fun m => [(8, .int .i64 (m : Int)), (6, .ro (.u8 x))]) (fun _ => []) [0] [] 0
    · intro x; exact rfl
    · intro x; exact rfl
    · exact rfl
    · exact rfl
    · ((repeat' (first | exact AllP.nil | with_reducible refine AllP.cons ?_ ?_)) <;> first | exact rfl | exact trivial | exact Int.natCast_add_one _ | exact ⟨rfl, rfl⟩ | exact ⟨rfl, rfl, rfl⟩ | exact ⟨rfl, rfl, rfl, rfl⟩ | exact ⟨rfl, .inl rfl⟩ | exact ⟨rfl, .inr rfl⟩ | exact pur | (intro _; exact rfl) | (intro _; exact trivial) | (intro _; exact pur) | exact .inl ⟨rfl, rfl, rfl⟩)
    · exact Nat.zero_le _
    intro m hm
    by_cases hm3 : m < 3
    · have he : Fun Tryd.prog Γ 13 _ _ := (enc_call m hm3 x (by omega)).weak
      have hd : Fun Tryd.prog Γ 15 _ _ := dec_own m hm3 x (by omega)
      have hmi : (m : Int) < 3 := by omega
      repeat' (first
          | ((with_reducible apply Sat.cond_pt); exact rfl; exact hmi)
          | ((with_reducible apply Sat.run (X := X64)); exact rfl; (first | exact True.intro | (fail) | skip))
          | ((with_reducible apply Sat.drawn); kernel_rfl)
          | ((with_reducible apply DSat.run (X := X64)); exact rfl; (first | exact True.intro | (fail) | skip))
          | ((with_reducible apply DSat.fin); kernel_rfl)
          | ((with_reducible apply Sat.call (he)); exact rfl; exact rfl; kernel_rfl; (exact cnv); exact rfl)
          | ((with_reducible apply DSat.call (he)); exact rfl; exact rfl; kernel_rfl; (exact cnv); exact rfl)
          | ((with_reducible apply Sat.call (hd)); exact rfl; exact rfl; kernel_rfl; (exact cnv); exact rfl)
          | ((with_reducible apply DSat.call (hd)); exact rfl; exact rfl; kernel_rfl; (exact cnv); exact rfl) | fail)
      · ((repeat' (first | exact AllP.nil | with_reducible refine AllP.cons ?_ ?_)) <;> (first | exact trivial | exact rfl | (intro h; first | exact h | exact fun h2 => ⟨h, h2⟩ | (refine inR_i64 ?_ ?_ <;> first | omega | (simp [EV.len]; omega)) | exact pur | (intro h2; exact pur) | (simp [EV.len] at h ⊢; omega) | (simp [EV.len] at h; constructor <;> first | omega | (simp [EV.len]; omega)) | (intro h2; exact h))))
      with_reducible apply Sat.cond
      · exact rfl
      · intro h
        exfalso
        simp at h
      · intro h
        clear h
        repeat' (first
            | ((with_reducible apply Sat.run (X := X64)); exact rfl; (first | exact True.intro | (fail) | skip))
            | ((with_reducible apply Sat.drawn); kernel_rfl)
            | ((with_reducible apply DSat.run (X := X64)); exact rfl; (first | exact True.intro | (fail) | skip))
            | ((with_reducible apply DSat.fin); kernel_rfl) | fail)
        · ((repeat' (first | exact AllP.nil | with_reducible refine AllP.cons ?_ ?_)) <;> first | exact rfl | exact trivial | (apply inR_i64 <;> omega) | (apply inR_u64 <;> omega) | (apply inR_u32 <;> omega) | (apply inR_u8' <;> omega) | omega | (repeat' (with_reducible apply And.intro)) <;> (first | omega | exact rfl | decide))
        · refine Sat.back (m + 1) [] rfl ?_ ?_ ?_
          · ((repeat' (first | exact AllP.nil | with_reducible refine AllP.cons ?_ ?_)) <;> first | exact rfl | exact trivial | exact Int.natCast_add_one _ | exact ⟨rfl, rfl⟩ | exact ⟨rfl, rfl, rfl⟩ | exact ⟨rfl, rfl, rfl, rfl⟩ | exact ⟨rfl, .inl rfl⟩ | exact ⟨rfl, .inr rfl⟩ | exact pur | (intro _; exact rfl) | (intro _; exact trivial) | (intro _; exact pur))
          · omega
          · omega
    · obtain rfl : m = 3 := by omega
      repeat' (first
          | ((with_reducible apply Sat.run (X := X64)); exact rfl; (first | exact True.intro | (exact phi) | skip))
          | ((with_reducible apply Sat.drawn); kernel_rfl)
          | ((with_reducible apply DSat.run (X := X64)); exact rfl; (first | exact True.intro | (exact phi) | skip))
          | ((with_reducible apply DSat.fin); kernel_rfl)
          | ((with_reducible apply Sat.cond_t); exact rfl)
          | ((with_reducible apply Sat.cond_f); exact rfl)
          | ((with_reducible apply Sat.cond_pt); exact rfl; (try dsimp only [V.EV.sub, V.EV.len]); first | assumption | omega)
          | ((with_reducible apply Sat.cond_pf); exact rfl; (try dsimp only [V.EV.sub, V.EV.len]); first | assumption | omega)
          | ((with_reducible apply Sat.cond_p); exact rfl; all_goals intro h)
          | ((with_reducible apply Sat.cond); exact rfl; all_goals intro h) | fail)
      (refine Sat.fin (Sat.end1 rfl rfl rfl True.intro (.refl _ pur) (by first | exact .inl rfl | exact .inr rfl) (fun _ h => h)) ?_; (rfl))
theorem tables_law {Γ : Glob} (hs : Fun Tryd.prog Γ 10 [] (.bool true)) (n : Nat) (c : UInt8) (b : List UInt8) : Fun Tryd.prog Γ 9 [.int .u16 (n : Int), .int .u8 (c.toNat : Int), .ro (.u8 b)] (.bool true) := by
  have hlim : Fun Tryd.prog Γ 11 [.ro (.u8 b), .int .i64 300] (.ro (.u8 (b.take 300))) := (limited_spec b 300 (by decide)).weak
  have hq := take_le b 300
  generalize b.take 300 = y at hlim hq
  obtain ⟨N, hNN⟩ : ∃ N, N = n % 300 := ⟨_, rfl⟩
  have hN : Int.tmod (n : Int) 300 = (N : Int) := by rw [hNN]; rfl
  have hN1 : N ≤ 299 := by omega
  refine Fun.mkF 7 Tryd.func9 rfl Tryd.ntmps9 rfl rfl fun hf T w0 => ?_
  have hx0 : List.replicate (N : Int).toNat (0 : UInt8) ++ List.take 1 (List.drop 0 [UInt8.ofNat ((c.toNat : Int)).toNat]) = List.replicate N 0 ++ [c] := by
    rw [Int.toNat_natCast, Int.toNat_natCast, UInt8.ofNat_toNat]
    rfl
  have hxl : (List.replicate N (0 : UInt8) ++ [c]).length = N + 1 := by rw [List.length_append, List.length_replicate]; rfl
  have h12 : cd 2 (List.replicate N 0 ++ [c]) = cd 1 (List.replicate N 0 ++ [c]) := (Rc.code12 c N).symm
  generalize List.replicate N 0 ++ [c] = x at hx0 hxl h12
  have h1 : Fun Tryd.prog Γ 13 [.int .i64 1, .ro (.u8 x)] _ := (enc_call 1 (by decide) x (by omega)).weak
  have h2 : Fun Tryd.prog Γ 13 [.int .i64 2, .ro (.u8 x)] _ := (enc_call 2 (by decide) x (by omega)).weak
  rw [h12] at h2
  repeat' (first
      | ((with_reducible apply Sat.run (X := X64)); exact rfl; (first | exact True.intro | (fail) | skip))
      | ((with_reducible apply Sat.drawn); kernel_rfl)
      | ((with_reducible apply DSat.run (X := X64)); exact rfl; (first | exact True.intro | (fail) | skip))
      | ((with_reducible apply DSat.fin); kernel_rfl)
      | ((with_reducible apply Sat.call0 (hs)); exact rfl; exact rfl; kernel_rfl; exact rfl)
      | ((with_reducible apply DSat.call0 (hs)); exact rfl; exact rfl; kernel_rfl; exact rfl)
      | ((with_reducible apply DSat.callM0 (hs)); exact rfl; exact rfl; (first | exact rfl | assumption | (decide +kernel)); exact rfl; kernel_rfl; exact rfl) | fail)
  · rw [hN]
    exact .cons (Nat.le_refl 1) (.cons (by show (N : Int).toNat = (List.replicate (N : Int).toNat (0 : UInt8)).length; rw [List.length_replicate]) (.cons (by show ((N : Int).toNat + 1) * (0 + 1) ≤ 140737488355328; omega) (.cons ⟨by omega, by omega, by show (1 : Int) * (N : Int) ≤ 281474976710656; omega, by omega⟩ (.cons (by decide) .nil))))
  rw [hN, hx0]
  refine killR [24] rfl ?_
  with_reducible apply Sat.freeze true
  · exact rfl
  · exact rfl
  · exact rfl
  · ((repeat' (first | exact AllP.nil | with_reducible refine AllP.cons ?_ ?_)) <;> first | exact rfl | exact trivial | exact Int.natCast_add_one _ | exact ⟨rfl, rfl⟩ | exact ⟨rfl, rfl, rfl⟩ | exact ⟨rfl, rfl, rfl, rfl⟩ | exact ⟨rfl, .inl rfl⟩ | exact ⟨rfl, .inr rfl⟩ | exact pur | (intro _; exact rfl) | (intro _; exact trivial) | (intro _; exact pur) | exact .inl ⟨rfl, (by show (N : Int).toNat + 1 = x.length; omega), rfl⟩)
  repeat' (first
      | ((with_reducible apply Sat.run (X := X64)); exact rfl; (first | exact True.intro | (fail) | skip))
      | ((with_reducible apply Sat.drawn); kernel_rfl)
      | ((with_reducible apply DSat.run (X := X64)); exact rfl; (first | exact True.intro | (fail) | skip))
      | ((with_reducible apply DSat.fin); kernel_rfl)
      | ((with_reducible apply Sat.call (h1)); exact rfl; exact rfl; kernel_rfl; (exact cnv); exact rfl)
      | ((with_reducible apply DSat.call (h1)); exact rfl; exact rfl; kernel_rfl; (exact cnv); exact rfl)
      | ((with_reducible apply Sat.call (h2)); exact rfl; exact rfl; kernel_rfl; (exact cnv); exact rfl)
      | ((with_reducible apply DSat.call (h2)); exact rfl; exact rfl; kernel_rfl; (exact cnv); exact rfl) | fail)
  · ((repeat' (first | exact AllP.nil | with_reducible refine AllP.cons ?_ ?_)) <;> (first | exact trivial | exact rfl | (intro h; first | exact h | exact fun h2 => ⟨h, h2⟩ | (refine inR_i64 ?_ ?_ <;> first | omega | (simp [EV.len]; omega)) | exact pur | (intro h2; exact pur) | (simp [EV.len] at h ⊢; omega) | (simp [EV.len] at h; constructor <;> first | omega | (simp [EV.len]; omega)) | (intro h2; exact h))))
  with_reducible apply Sat.cond
  · exact rfl
  · intro h
    exfalso
    simp at h
  intro h
  clear h
  repeat' (first
      | ((with_reducible apply Sat.run (X := X64)); exact rfl; (first | exact True.intro | (fail) | skip))
      | ((with_reducible apply Sat.drawn); kernel_rfl)
      | ((with_reducible apply DSat.run (X := X64)); exact rfl; (first | exact True.intro | (fail) | skip))
      | ((with_reducible apply DSat.fin); kernel_rfl)
      | ((with_reducible apply Sat.call (hlim)); exact rfl; exact rfl; kernel_rfl; (exact cnv); exact rfl)
      | ((with_reducible apply DSat.call (hlim)); exact rfl; exact rfl; kernel_rfl; (exact cnv); exact rfl) | fail)
  apply Sat.loop (α := Nat) (fun k => k ≤ 6) (fun k => 6 - k) 0 (fun k => [(14, .int .i64 ((k : Int) - 1))]) (fun _ => []) [] [] 0
  · intro x; exact rfl
  · intro x; exact rfl
  · exact rfl
  · exact rfl
  · ((repeat' (first | exact AllP.nil | with_reducible refine AllP.cons ?_ ?_)) <;> first | exact rfl | exact trivial | exact Int.natCast_add_one _ | exact ⟨rfl, rfl⟩ | exact ⟨rfl, rfl, rfl⟩ | exact ⟨rfl, rfl, rfl, rfl⟩ | exact ⟨rfl, .inl rfl⟩ | exact ⟨rfl, .inr rfl⟩ | exact pur | (intro _; exact rfl) | (intro _; exact trivial) | (intro _; exact pur))
  · exact Nat.zero_le _
  intro k hk
  by_cases hk6 : k < 6
  · have hki : (k : Int) - 1 < 5 := by omega
    by_cases hg : 1 ≤ k ∧ k ≤ 3
    · have he : Fun Tryd.prog Γ 13 [.int .i64 ((k : Int) - 1), .ro (.u8 y)] (.tup [.ro (.u8 (cd (k - 1) y)), .int .i64 0]) := by
        rw [show ((k : Int) - 1) = ((k - 1 : Nat) : Int) by omega]
        exact (enc_call (k - 1) (by omega) y (by omega)).weak
      have hd : Fun Tryd.prog Γ 15 [.int .i64 ((k : Int) - 1), .ro (.u8 (cd (k - 1) y)), .int .i64 (y.length : Int)] (.tup [.ro (.u8 y), .int .i64 0]) := by
        rw [show ((k : Int) - 1) = ((k - 1 : Nat) : Int) by omega]
        exact dec_own (k - 1) (by omega) y (by omega)
      have g1 : (0 : Int) ≤ (k : Int) - 1 := by omega
      have g2 : (k : Int) - 1 < 3 := by omega
      have g3 : decide ((0 : Int) ≤ (k : Int) - 1) = true := decide_eq_true g1
      have g4 : decide ((k : Int) - 1 < 3) = true := decide_eq_true g2
      repeat' (first
          | ((with_reducible apply Sat.cond_pt); exact rfl; exact hki)
          | ((with_reducible apply Sat.run (X := X64)); exact rfl; (first | exact True.intro | (fail) | skip))
          | ((with_reducible apply Sat.drawn); kernel_rfl)
          | ((with_reducible apply DSat.run (X := X64)); exact rfl; (first | exact True.intro | (fail) | skip))
          | ((with_reducible apply DSat.fin); kernel_rfl)
          | ((with_reducible apply Sat.call (he)); exact rfl; exact rfl; kernel_rfl; (exact cnv); exact rfl)
          | ((with_reducible apply DSat.call (he)); exact rfl; exact rfl; kernel_rfl; (exact cnv); exact rfl)
          | ((with_reducible apply Sat.call (hd)); exact rfl; exact rfl; kernel_rfl; (exact cnv); exact rfl)
          | ((with_reducible apply DSat.call (hd)); exact rfl; exact rfl; kernel_rfl; (exact cnv); exact rfl) | fail)
      · rw [g3, g4]
        ((repeat' (first | exact AllP.nil | with_reducible refine AllP.cons ?_ ?_)) <;> (first | exact trivial | exact rfl | (intro h; first | exact h | exact fun h2 => ⟨h, h2⟩ | (refine inR_i64 ?_ ?_ <;> first | omega | (simp [EV.len]; omega)) | exact pur | (intro h2; exact pur) | (simp [EV.len] at h ⊢; omega) | (simp [EV.len] at h; constructor <;> first | omega | (simp [EV.len]; omega)) | (intro h2; exact h))))
      rw [g3, g4]
      with_reducible apply Sat.cond
      · exact rfl
      · intro h
        exfalso
        simp at h
      · intro h
        clear h
        repeat' (first
            | ((with_reducible apply Sat.run (X := X64)); exact rfl; (first | exact True.intro | (fail) | skip))
            | ((with_reducible apply Sat.drawn); kernel_rfl)
            | ((with_reducible apply DSat.run (X := X64)); exact rfl; (first | exact True.intro | (fail) | skip))
            | ((with_reducible apply DSat.fin); kernel_rfl) | fail)
        · exact .cons (inR_i64 (by omega) (by omega)) .nil
        · refine Sat.back (k + 1) [] rfl ?_ ?_ ?_
          · ((repeat' (first | exact AllP.nil | with_reducible refine AllP.cons ?_ ?_)) <;> first | exact rfl | exact trivial | exact Int.natCast_add_one _ | exact ⟨rfl, rfl⟩ | exact ⟨rfl, rfl, rfl⟩ | exact ⟨rfl, rfl, rfl, rfl⟩ | exact ⟨rfl, .inl rfl⟩ | exact ⟨rfl, .inr rfl⟩ | exact pur | (intro _; exact rfl) | (intro _; exact trivial) | (intro _; exact pur) | (show (k : Int) - 1 + 1 = ((k + 1 : Nat) : Int) - 1; omega))
          · omega
          · omega
    · have he : Fun Tryd.prog Γ 13 [.int .i64 ((k : Int) - 1), .ro (.u8 y)] _ := (enc_nil ((k : Int) - 1) (by omega) (by omega) (by omega) y).weak
      have hd : Fun Tryd.prog Γ 15 [.int .i64 ((k : Int) - 1), .ro (.u8 []), .int .i64 (y.length : Int)] _ := (dec_nil ((k : Int) - 1) (by omega) (by omega) (by omega) [] (y.length : Int)).weak
      obtain ⟨G, hG⟩ : ∃ G, G = (bif decide ((0 : Int) ≤ (k : Int) - 1) then decide ((k : Int) - 1 < 3) else false) := ⟨_, rfl⟩
      have hG2 : G = false := by
        rw [hG]
        by_cases g1 : (0 : Int) ≤ (k : Int) - 1
        · rw [decide_eq_true g1, decide_eq_false (show ¬ (k : Int) - 1 < 3 by omega)]; rfl
        · rw [decide_eq_false g1]; rfl
      repeat' (first
          | ((with_reducible apply Sat.cond_pt); exact rfl; exact hki)
          | ((with_reducible apply Sat.run (X := X64)); exact rfl; (first | exact True.intro | (fail) | skip))
          | ((with_reducible apply Sat.drawn); kernel_rfl)
          | ((with_reducible apply DSat.run (X := X64)); exact rfl; (first | exact True.intro | (fail) | skip))
          | ((with_reducible apply DSat.fin); kernel_rfl)
          | ((with_reducible apply Sat.call (he)); exact rfl; exact rfl; kernel_rfl; (exact cnv); exact rfl)
          | ((with_reducible apply DSat.call (he)); exact rfl; exact rfl; kernel_rfl; (exact cnv); exact rfl)
          | ((with_reducible apply Sat.call (hd)); exact rfl; exact rfl; kernel_rfl; (exact cnv); exact rfl)
          | ((with_reducible apply DSat.call (hd)); exact rfl; exact rfl; kernel_rfl; (exact cnv); exact rfl) | fail)
      · rw [← hG, hG2]
        ((repeat' (first | exact AllP.nil | with_reducible refine AllP.cons ?_ ?_)) <;> (first | exact trivial | exact rfl | (intro _; exact hG2) | (intro h; first | exact h | exact fun h2 => ⟨h, h2⟩ | (refine inR_i64 ?_ ?_ <;> first | omega | (simp [EV.len]; omega)) | exact pur | (intro h2; exact pur) | (simp [EV.len] at h ⊢; omega) | (simp [EV.len] at h; constructor <;> first | omega | (simp [EV.len]; omega)) | (intro h2; exact h))))
      rw [← hG, hG2]
      with_reducible apply Sat.cond
      · exact rfl
      · intro h
        exfalso
        simp at h
      · intro h
        clear h
        repeat' (first
            | ((with_reducible apply Sat.run (X := X64)); exact rfl; (first | exact True.intro | (fail) | skip))
            | ((with_reducible apply Sat.drawn); kernel_rfl)
            | ((with_reducible apply DSat.run (X := X64)); exact rfl; (first | exact True.intro | (fail) | skip))
            | ((with_reducible apply DSat.fin); kernel_rfl) | fail)
        · exact .cons (inR_i64 (by omega) (by omega)) .nil
        · refine Sat.back (k + 1) [] rfl ?_ ?_ ?_
          · ((repeat' (first | exact AllP.nil | with_reducible refine AllP.cons ?_ ?_)) <;> first | exact rfl | exact trivial | exact Int.natCast_add_one _ | exact ⟨rfl, rfl⟩ | exact ⟨rfl, rfl, rfl⟩ | exact ⟨rfl, rfl, rfl, rfl⟩ | exact ⟨rfl, .inl rfl⟩ | exact ⟨rfl, .inr rfl⟩ | exact pur | (intro _; exact rfl) | (intro _; exact trivial) | (intro _; exact pur) | (show (k : Int) - 1 + 1 = ((k + 1 : Nat) : Int) - 1; omega))
          · omega
          · omega
  · obtain rfl : k = 6 := by omega
    repeat' (first
        | ((with_reducible apply Sat.run (X := X64)); exact rfl; (first | exact True.intro | (exact phi) | skip))
        | ((with_reducible apply Sat.drawn); kernel_rfl)
        | ((with_reducible apply DSat.run (X := X64)); exact rfl; (first | exact True.intro | (exact phi) | skip))
        | ((with_reducible apply DSat.fin); kernel_rfl)
        | ((with_reducible apply Sat.cond_t); exact rfl)
        | ((with_reducible apply Sat.cond_f); exact rfl)
        | ((with_reducible apply Sat.cond_pt); exact rfl; (try dsimp only [V.EV.sub, V.EV.len]); first | assumption | omega)
        | ((with_reducible apply Sat.cond_pf); exact rfl; (try dsimp only [V.EV.sub, V.EV.len]); first | assumption | omega)
        | ((with_reducible apply Sat.cond_p); exact rfl; all_goals intro h)
        | ((with_reducible apply Sat.cond); exact rfl; all_goals intro h) | fail)
    (refine Sat.fin (Sat.end1 rfl rfl rfl True.intro (.refl _ pur) (by first | exact .inl rfl | exact .inr rfl) (fun _ h => h)) ?_; (rfl))
end Go.Proofs.YtcnpgmohnclojaaDoor
end
section
namespace Go.Proofs.YtcnpgmohnclojaaDoor
open Go.RowKit V
set_option maxRecDepth 100000
set_option maxHeartbeats 4000000
set_option linter.unusedSimpArgs false
attribute [local irreducible] V.Sat V.DSat
theorem dt_ends (m : Nat) (q : List UInt8) (len : Nat) : dt m (q ++ [0]) len = none := by
  cases h : dt m (q ++ [0]) len with
  | none => rfl
  | some t => exact absurd rfl (cd_last m t q 0 (dt_some m _ _ t h).1)
theorem codes_law {Γ : Glob} (hs : Fun Tryd.prog Γ 10 [] (.bool true)) (raw b : List UInt8) (n : UInt8) : Fun Tryd.prog Γ 5 [.ro (.u8 raw), .ro (.u8 b), .int .u8 (n.toNat : Int)] (.bool true) := by
  have hlim : Fun Tryd.prog Γ 11 [.ro (.u8 raw), .int .i64 60] (.ro (.u8 (raw.take 60))) := (limited_spec raw 60 (by decide)).weak
  have hlim2 : Fun Tryd.prog Γ 11 [.ro (.u8 b), .int .i64 60] (.ro (.u8 (b.take 60))) := (limited_spec b 60 (by decide)).weak
  have hy := take_le raw 60
  have hx := take_le b 60
  generalize raw.take 60 = y at hlim hy
  generalize b.take 60 = x at hlim2 hx
  obtain ⟨N, hNN⟩ : ∃ N, N = n.toNat % 101 := ⟨_, rfl⟩
  have hN : Int.tmod (n.toNat : Int) 101 = (N : Int) := by rw [hNN]; rfl
  have hN1 : N ≤ 100 := by omega
  refine Fun.mkF 7 Tryd.func5 rfl Tryd.ntmps5 rfl rfl fun hf T w0 => ?_
  repeat' (first
      | ((with_reducible apply Sat.run (X := X64)); exact rfl; (first | exact True.intro | (fail) | skip))
      | ((with_reducible apply Sat.drawn); kernel_rfl)
      | ((with_reducible apply DSat.run (X := X64)); exact rfl; (first | exact True.intro | (fail) | skip))
      | ((with_reducible apply DSat.fin); kernel_rfl)
      | ((with_reducible apply Sat.call0 (hs)); exact rfl; exact rfl; kernel_rfl; exact rfl)
      | ((with_reducible apply DSat.call0 (hs)); exact rfl; exact rfl; kernel_rfl; exact rfl)
      | ((with_reducible apply DSat.callM0 (hs)); exact rfl; exact rfl; (first | exact rfl | assumption | (decide +kernel)); exact rfl; kernel_rfl; exact rfl)
      | ((with_reducible apply Sat.call (hlim)); exact rfl; exact rfl; kernel_rfl; (exact cnv); exact rfl)
      | ((with_reducible apply DSat.call (hlim)); exact rfl; exact rfl; kernel_rfl; (exact cnv); exact rfl)
      | ((with_reducible apply Sat.call (hlim2)); exact rfl; exact rfl; kernel_rfl; (exact cnv); exact rfl)
      | ((with_reducible apply DSat.call (hlim2)); exact rfl; exact rfl; kernel_rfl; (exact cnv); exact rfl) | fail)
  apply Sat.loop (α := Nat) (fun m => m ≤ 3) (fun m => 3 - m) 0 (fun m => [(10, .int .i64 (m : Int))]) (fun _ => []) [] [] 0
  · intro x; exact rfl
  · intro x; exact rfl
  · exact rfl
  · exact rfl
  · ((repeat' (first | exact AllP.nil | with_reducible refine AllP.cons ?_ ?_)) <;> first | exact rfl | exact trivial | exact Int.natCast_add_one _ | exact ⟨rfl, rfl⟩ | exact ⟨rfl, rfl, rfl⟩ | exact ⟨rfl, rfl, rfl, rfl⟩ | exact ⟨rfl, .inl rfl⟩ | exact ⟨rfl, .inr rfl⟩ | exact pur | (intro _; exact rfl) | (intro _; exact trivial) | (intro _; exact pur))
  · exact Nat.zero_le _
  intro m hm
  by_cases hm3 : m < 3
  · have hmi : (m : Int) < 3 := by omega
    have hcl := cd_len m x
    have hd : Fun Tryd.prog Γ 15 [.int .i64 (m : Int), .ro (.u8 y), .int .i64 (N : Int)] _ := (dec_call m hm3 y N (by omega)).weak
    have he : Fun Tryd.prog Γ 13 [.int .i64 (m : Int), .ro (.u8 x)] _ := (enc_call m hm3 x (by omega)).weak
    have hz : Fun Tryd.prog Γ 15 [.int .i64 (m : Int), .ro (.u8 (cd m x ++ [0])), .int .i64 (x.length : Int)] (.tup [.ro (.u8 []), .int .i64 130]) := by
      have h := (dec_call m hm3 (cd m x ++ [0]) x.length (by omega)).weak (Γ := Γ)
      unfold dR dE at h
      rw [dt_ends] at h
      exact h
    generalize cd m x = c at he hz hcl
    rcases dE_cases m y N with ⟨h0, h1, h2⟩ | ⟨t, h0, h1, h2⟩
    · rw [h1, h2] at hd
      repeat' (first
          | ((with_reducible apply Sat.cond_pt); exact rfl; exact hmi)
          | ((with_reducible apply Sat.run (X := X64)); exact rfl; (first | exact True.intro | (fail) | skip))
          | ((with_reducible apply Sat.drawn); kernel_rfl)
          | ((with_reducible apply DSat.run (X := X64)); exact rfl; (first | exact True.intro | (fail) | skip))
          | ((with_reducible apply DSat.fin); kernel_rfl) | fail)
      · exact .cons (by decide) .nil
      rw [hN]
      repeat' (first
          | ((with_reducible apply Sat.cond_t); exact rfl)
          | ((with_reducible apply Sat.cond_f); exact rfl)
          | ((with_reducible apply Sat.run (X := X64)); exact rfl; (first | exact True.intro | (fail) | skip))
          | ((with_reducible apply Sat.drawn); kernel_rfl)
          | ((with_reducible apply DSat.run (X := X64)); exact rfl; (first | exact True.intro | (fail) | skip))
          | ((with_reducible apply DSat.fin); kernel_rfl)
          | ((with_reducible apply Sat.call (hd)); exact rfl; exact rfl; kernel_rfl; (exact cnv); exact rfl)
          | ((with_reducible apply DSat.call (hd)); exact rfl; exact rfl; kernel_rfl; (exact cnv); exact rfl) | fail)
      · ((repeat' (first | exact AllP.nil | with_reducible refine AllP.cons ?_ ?_)) <;> (first | exact trivial | exact rfl | (intro h; first | exact h | exact fun h2 => ⟨h, h2⟩ | (refine inR_i64 ?_ ?_ <;> first | omega | (simp [EV.len]; omega)) | exact pur | (intro h2; exact pur) | (simp [EV.len] at h ⊢; omega) | (simp [EV.len] at h; constructor <;> first | omega | (simp [EV.len]; omega)) | (intro h2; exact h))))
      repeat' (first
          | ((with_reducible apply Sat.cond_t); exact rfl)
          | ((with_reducible apply Sat.cond_f); exact rfl)
          | ((with_reducible apply Sat.run (X := X64)); exact rfl; (first | exact True.intro | (fail) | skip))
          | ((with_reducible apply Sat.drawn); kernel_rfl)
          | ((with_reducible apply DSat.run (X := X64)); exact rfl; (first | exact True.intro | (fail) | skip))
          | ((with_reducible apply DSat.fin); kernel_rfl)
          | ((with_reducible apply Sat.call (he)); exact rfl; exact rfl; kernel_rfl; (exact cnv); exact rfl)
          | ((with_reducible apply DSat.call (he)); exact rfl; exact rfl; kernel_rfl; (exact cnv); exact rfl) | fail)
      · exact .cons (Nat.le_refl 1) (.cons (by show 0 + c.length = ([] ++ c).length; rw [List.nil_append]; omega) (.cons (by show (0 + c.length + 1) * (0 + 1) ≤ 140737488355328; omega) (.cons rfl (.cons (by show (0 + c.length) * (0 + 1) ≤ 140737488355328; omega) .nil))))
      rw [show [] ++ c ++ List.take 1 (List.drop 0 [UInt8.ofNat (Int.toNat 0)]) = c ++ [0] from rfl]
      refine killR [76, 78, 17, 81] rfl ?_
      have hzl : (c ++ [(0 : UInt8)]).length = c.length + 1 := by rw [List.length_append]; rfl
      generalize c ++ [(0 : UInt8)] = z at hz hzl ⊢
      with_reducible apply Sat.freeze true
      · exact rfl
      · exact rfl
      · exact rfl
      · ((repeat' (first | exact AllP.nil | with_reducible refine AllP.cons ?_ ?_)) <;> first | exact rfl | exact trivial | exact Int.natCast_add_one _ | exact ⟨rfl, rfl⟩ | exact ⟨rfl, rfl, rfl⟩ | exact ⟨rfl, rfl, rfl, rfl⟩ | exact ⟨rfl, .inl rfl⟩ | exact ⟨rfl, .inr rfl⟩ | exact pur | (intro _; exact rfl) | (intro _; exact trivial) | (intro _; exact pur) | exact .inl ⟨rfl, (by show 0 + c.length + 1 = z.length; omega), rfl⟩)
      repeat' (first
          | ((with_reducible apply Sat.run (X := X64)); exact rfl; (first | exact True.intro | (fail) | skip))
          | ((with_reducible apply Sat.drawn); kernel_rfl)
          | ((with_reducible apply DSat.run (X := X64)); exact rfl; (first | exact True.intro | (fail) | skip))
          | ((with_reducible apply DSat.fin); kernel_rfl)
          | ((with_reducible apply Sat.call (hz)); exact rfl; exact rfl; kernel_rfl; (exact cnv); exact rfl)
          | ((with_reducible apply DSat.call (hz)); exact rfl; exact rfl; kernel_rfl; (exact cnv); exact rfl) | fail)
      · ((repeat' (first | exact AllP.nil | with_reducible refine AllP.cons ?_ ?_)) <;> (first | exact trivial | exact rfl | (intro h; first | exact h | exact fun h2 => ⟨h, h2⟩ | (refine inR_i64 ?_ ?_ <;> first | omega | (simp [EV.len]; omega)) | exact pur | (intro h2; exact pur) | (simp [EV.len] at h ⊢; omega) | (simp [EV.len] at h; constructor <;> first | omega | (simp [EV.len]; omega)) | (intro h2; exact h))))
      with_reducible apply Sat.cond
      · exact rfl
      · intro h
        exfalso
        simp at h
      · intro h
        clear h
        repeat' (first
            | ((with_reducible apply Sat.run (X := X64)); exact rfl; (first | exact True.intro | (fail) | skip))
            | ((with_reducible apply Sat.drawn); kernel_rfl)
            | ((with_reducible apply DSat.run (X := X64)); exact rfl; (first | exact True.intro | (fail) | skip))
            | ((with_reducible apply DSat.fin); kernel_rfl) | fail)
        · ((repeat' (first | exact AllP.nil | with_reducible refine AllP.cons ?_ ?_)) <;> first | exact rfl | exact trivial | (apply inR_i64 <;> omega) | (apply inR_u64 <;> omega) | (apply inR_u32 <;> omega) | (apply inR_u8' <;> omega) | omega | (repeat' (with_reducible apply And.intro)) <;> (first | omega | exact rfl | decide))
        · refine Sat.back (m + 1) [] rfl ?_ ?_ ?_
          · ((repeat' (first | exact AllP.nil | with_reducible refine AllP.cons ?_ ?_)) <;> first | exact rfl | exact trivial | exact Int.natCast_add_one _ | exact ⟨rfl, rfl⟩ | exact ⟨rfl, rfl, rfl⟩ | exact ⟨rfl, rfl, rfl, rfl⟩ | exact ⟨rfl, .inl rfl⟩ | exact ⟨rfl, .inr rfl⟩ | exact pur | (intro _; exact rfl) | (intro _; exact trivial) | (intro _; exact pur))
          · omega
          · omega
    · rw [h1, h2] at hd
      obtain ⟨k1, k2⟩ := dt_some m y N t h0
      have ht : Fun Tryd.prog Γ 13 [.int .i64 (m : Int), .ro (.u8 t)] (.tup [.ro (.u8 y), .int .i64 0]) := by
        have := (enc_call m hm3 t (by omega)).weak (Γ := Γ)
        rwa [k1] at this
      repeat' (first
          | ((with_reducible apply Sat.cond_pt); exact rfl; exact hmi)
          | ((with_reducible apply Sat.run (X := X64)); exact rfl; (first | exact True.intro | (fail) | skip))
          | ((with_reducible apply Sat.drawn); kernel_rfl)
          | ((with_reducible apply DSat.run (X := X64)); exact rfl; (first | exact True.intro | (fail) | skip))
          | ((with_reducible apply DSat.fin); kernel_rfl) | fail)
      · exact .cons (by decide) .nil
      rw [hN]
      repeat' (first
          | ((with_reducible apply Sat.cond_t); exact rfl)
          | ((with_reducible apply Sat.cond_f); exact rfl)
          | ((with_reducible apply Sat.run (X := X64)); exact rfl; (first | exact True.intro | (fail) | skip))
          | ((with_reducible apply Sat.drawn); kernel_rfl)
          | ((with_reducible apply DSat.run (X := X64)); exact rfl; (first | exact True.intro | (fail) | skip))
          | ((with_reducible apply DSat.fin); kernel_rfl)
          | ((with_reducible apply Sat.call (hd)); exact rfl; exact rfl; kernel_rfl; (exact cnv); exact rfl)
          | ((with_reducible apply DSat.call (hd)); exact rfl; exact rfl; kernel_rfl; (exact cnv); exact rfl)
          | ((with_reducible apply Sat.call (ht)); exact rfl; exact rfl; kernel_rfl; (exact cnv); exact rfl)
          | ((with_reducible apply DSat.call (ht)); exact rfl; exact rfl; kernel_rfl; (exact cnv); exact rfl) | fail)
      · rw [hN]
        ((repeat' (first | exact AllP.nil | with_reducible refine AllP.cons ?_ ?_)) <;> (first | exact trivial | exact rfl | (intro _; decide) | (intro h; first | exact h | exact fun h2 => ⟨h, h2⟩ | (refine inR_i64 ?_ ?_ <;> first | omega | (simp [EV.len]; omega)) | exact pur | (intro h2; exact pur) | (simp [EV.len] at h ⊢; omega) | (simp [EV.len] at h; constructor <;> first | omega | (simp [EV.len]; omega)) | (intro h2; exact h))))
      rw [hN]
      with_reducible apply Sat.cond
      · exact rfl
      · intro h
        exfalso
        simp [EV.len, k2] at h
      intro h
      clear h
      repeat' (first
          | ((with_reducible apply Sat.cond_t); exact rfl)
          | ((with_reducible apply Sat.cond_f); exact rfl)
          | ((with_reducible apply Sat.run (X := X64)); exact rfl; (first | exact True.intro | (fail) | skip))
          | ((with_reducible apply Sat.drawn); kernel_rfl)
          | ((with_reducible apply DSat.run (X := X64)); exact rfl; (first | exact True.intro | (fail) | skip))
          | ((with_reducible apply DSat.fin); kernel_rfl)
          | ((with_reducible apply Sat.call (he)); exact rfl; exact rfl; kernel_rfl; (exact cnv); exact rfl)
          | ((with_reducible apply DSat.call (he)); exact rfl; exact rfl; kernel_rfl; (exact cnv); exact rfl) | fail)
      · exact .cons (Nat.le_refl 1) (.cons (by show 0 + c.length = ([] ++ c).length; rw [List.nil_append]; omega) (.cons (by show (0 + c.length + 1) * (0 + 1) ≤ 140737488355328; omega) (.cons rfl (.cons (by show (0 + c.length) * (0 + 1) ≤ 140737488355328; omega) .nil))))
      rw [show [] ++ c ++ List.take 1 (List.drop 0 [UInt8.ofNat (Int.toNat 0)]) = c ++ [0] from rfl]
      refine killR [76, 78, 17, 81] rfl ?_
      have hzl : (c ++ [(0 : UInt8)]).length = c.length + 1 := by rw [List.length_append]; rfl
      generalize c ++ [(0 : UInt8)] = z at hz hzl ⊢
      with_reducible apply Sat.freeze true
      · exact rfl
      · exact rfl
      · exact rfl
      · ((repeat' (first | exact AllP.nil | with_reducible refine AllP.cons ?_ ?_)) <;> first | exact rfl | exact trivial | exact Int.natCast_add_one _ | exact ⟨rfl, rfl⟩ | exact ⟨rfl, rfl, rfl⟩ | exact ⟨rfl, rfl, rfl, rfl⟩ | exact ⟨rfl, .inl rfl⟩ | exact ⟨rfl, .inr rfl⟩ | exact pur | (intro _; exact rfl) | (intro _; exact trivial) | (intro _; exact pur) | exact .inl ⟨rfl, (by show 0 + c.length + 1 = z.length; omega), rfl⟩)
      repeat' (first
          | ((with_reducible apply Sat.run (X := X64)); exact rfl; (first | exact True.intro | (fail) | skip))
          | ((with_reducible apply Sat.drawn); kernel_rfl)
          | ((with_reducible apply DSat.run (X := X64)); exact rfl; (first | exact True.intro | (fail) | skip))
          | ((with_reducible apply DSat.fin); kernel_rfl)
          | ((with_reducible apply Sat.call (hz)); exact rfl; exact rfl; kernel_rfl; (exact cnv); exact rfl)
          | ((with_reducible apply DSat.call (hz)); exact rfl; exact rfl; kernel_rfl; (exact cnv); exact rfl) | fail)
      · ((repeat' (first | exact AllP.nil | with_reducible refine AllP.cons ?_ ?_)) <;> (first | exact trivial | exact rfl | (intro h; first | exact h | exact fun h2 => ⟨h, h2⟩ | (refine inR_i64 ?_ ?_ <;> first | omega | (simp [EV.len]; omega)) | exact pur | (intro h2; exact pur) | (simp [EV.len] at h ⊢; omega) | (simp [EV.len] at h; constructor <;> first | omega | (simp [EV.len]; omega)) | (intro h2; exact h))))
      with_reducible apply Sat.cond
      · exact rfl
      · intro h
        exfalso
        simp at h
      · intro h
        clear h
        repeat' (first
            | ((with_reducible apply Sat.run (X := X64)); exact rfl; (first | exact True.intro | (fail) | skip))
            | ((with_reducible apply Sat.drawn); kernel_rfl)
            | ((with_reducible apply DSat.run (X := X64)); exact rfl; (first | exact True.intro | (fail) | skip))
            | ((with_reducible apply DSat.fin); kernel_rfl) | fail)
        · ((repeat' (first | exact AllP.nil | with_reducible refine AllP.cons ?_ ?_)) <;> first | exact rfl | exact trivial | (apply inR_i64 <;> omega) | (apply inR_u64 <;> omega) | (apply inR_u32 <;> omega) | (apply inR_u8' <;> omega) | omega | (repeat' (with_reducible apply And.intro)) <;> (first | omega | exact rfl | decide))
        · refine Sat.back (m + 1) [] rfl ?_ ?_ ?_
          · ((repeat' (first | exact AllP.nil | with_reducible refine AllP.cons ?_ ?_)) <;> first | exact rfl | exact trivial | exact Int.natCast_add_one _ | exact ⟨rfl, rfl⟩ | exact ⟨rfl, rfl, rfl⟩ | exact ⟨rfl, rfl, rfl, rfl⟩ | exact ⟨rfl, .inl rfl⟩ | exact ⟨rfl, .inr rfl⟩ | exact pur | (intro _; exact rfl) | (intro _; exact trivial) | (intro _; exact pur))
          · omega
          · omega
  · obtain rfl : m = 3 := by omega
    repeat' (first
        | ((with_reducible apply Sat.run (X := X64)); exact rfl; (first | exact True.intro | (exact phi) | skip))
        | ((with_reducible apply Sat.drawn); kernel_rfl)
        | ((with_reducible apply DSat.run (X := X64)); exact rfl; (first | exact True.intro | (exact phi) | skip))
        | ((with_reducible apply DSat.fin); kernel_rfl)
        | ((with_reducible apply Sat.cond_t); exact rfl)
        | ((with_reducible apply Sat.cond_f); exact rfl)
        | ((with_reducible apply Sat.cond_pt); exact rfl; (try dsimp only [V.EV.sub, V.EV.len]); first | assumption | omega)
        | ((with_reducible apply Sat.cond_pf); exact rfl; (try dsimp only [V.EV.sub, V.EV.len]); first | assumption | omega)
        | ((with_reducible apply Sat.cond_p); exact rfl; all_goals intro h)
        | ((with_reducible apply Sat.cond); exact rfl; all_goals intro h) | fail)
    (refine Sat.fin (Sat.end1 rfl rfl rfl True.intro (.refl _ pur) (by first | exact .inl rfl | exact .inr rfl) (fun _ h => h)) ?_; (rfl))
end Go.Proofs.YtcnpgmohnclojaaDoor
end
section
namespace Go.Proofs.YtcnpgmohnclojaaDoor
open Go.RowKit V
set_option maxRecDepth 100000
set_option maxHeartbeats 4000000
set_option linter.unusedSimpArgs false
attribute [local irreducible] V.Sat V.DSat
def xv (a w : Int) : UInt8 := UInt8.ofNat (IntKind.u8.wrap ((BitVec.ofInt IntKind.u8.bits a ^^^ BitVec.ofInt IntKind.u8.bits (maxV w 1)).toNat : Int)).toNat
theorem xv_ne (a : Nat) (ha : a < 256) (w : Nat) (hw : w < 256) : xv (a : Int) (w : Int) ≠ UInt8.ofNat a := by
  intro h
  unfold xv at h
  rw [wrap_ofNat] at h
  have hv : ∃ v : Nat, 1 ≤ v ∧ v < 256 ∧ maxV (w : Int) 1 = (v : Int) := by
    unfold maxV
    split
    · exact ⟨1, by omega, by omega, rfl⟩
    · exact ⟨w, by omega, hw, rfl⟩
  obtain ⟨v, v1, v2, v3⟩ := hv
  rw [v3] at h
  have h1 := congrArg UInt8.toNat h
  rw [UInt8.toNat_ofNat_of_lt' (show a < 256 from ha), UInt8.toNat_ofNat_of_lt' (show _ < 256 from BitVec.isLt _)] at h1
  have e1 : BitVec.ofInt IntKind.u8.bits (a : Int) = BitVec.ofNat 8 a := BitVec.ofInt_natCast 8 a
  have e2 : BitVec.ofInt IntKind.u8.bits (v : Int) = BitVec.ofNat 8 v := BitVec.ofInt_natCast 8 v
  rw [e1, e2] at h1
  have h2 : BitVec.ofNat 8 a ^^^ BitVec.ofNat 8 v = BitVec.ofNat 8 a := by
    apply BitVec.eq_of_toNat_eq
    rw [BitVec.toNat_ofNat a 8, Nat.mod_eq_of_lt (show a < 2 ^ 8 from ha)]
    exact h1
  have h3 : BitVec.ofNat 8 v = 0#8 := by
    have := congrArg (fun z => BitVec.ofNat 8 a ^^^ z) h2
    simpa [← BitVec.xor_assoc] using this
  have h4 := congrArg BitVec.toNat h3
  rw [BitVec.toNat_ofNat, Nat.mod_eq_of_lt (show v < 2 ^ 8 from v2)] at h4
  have h5 : v = 0 := h4
  omega
/-- What is read of other bytes is another text. -/
theorem dec_other {m : Nat} {x o : List UInt8} (h : o ≠ cd m x) (len : Nat) : ¬ (dE m o len = 0 ∧ dR m o len = x) := by
  rintro ⟨h1, h2⟩
  rcases dE_cases m o len with ⟨_, _, q⟩ | ⟨t, q1, q2, _⟩
  · rw [q] at h1; cases h1
  · rw [q2] at h2
    subst h2
    exact h (dt_some m o len t q1).1.symm
theorem differs_law {Γ : Glob} (hs : Fun Tryd.prog Γ 10 [] (.bool true)) (b : List UInt8) (l : List EdL) (w0' w1 : UInt8) : Fun Tryd.prog Γ 6 [.ro (.u8 b), .ro (edE l), .agg [.int .u8 (w0'.toNat : Int), .int .u8 (w1.toNat : Int)]] (.bool true) := by
  have hlim : Fun Tryd.prog Γ 11 [.ro (.u8 b), .int .i64 200] (.ro (.u8 (b.take 200))) := (limited_spec b 200 (by decide)).weak
  have hx := take_le b 200
  generalize b.take 200 = x at hlim hx
  have hed : Fun Tryd.prog Γ 17 [.ro (.u8 x), .ro (edE l)] (.ro (.u8 (editB x l))) := (edited_spec x (by omega) l).weak
  have hyx : (editB x l).length = x.length := editN_len x l _
  generalize editB x l = y at hed hyx
  refine Fun.mkF 7 Tryd.func6 rfl Tryd.ntmps6 rfl rfl fun hf T w0 => ?_
  repeat' (first
      | ((with_reducible apply Sat.call hed); exact rfl; exact rfl; kernel_rfl; exact .cons _ _ _ _ (.refl _ trivial) (.cons _ _ _ _ (.refl _ (by simp [pureL, pureS, pureE])) .nil); exact rfl)
      | ((with_reducible apply Sat.run (X := X64)); exact rfl; (first | exact True.intro | (fail) | skip))
      | ((with_reducible apply Sat.drawn); kernel_rfl)
      | ((with_reducible apply DSat.run (X := X64)); exact rfl; (first | exact True.intro | (fail) | skip))
      | ((with_reducible apply DSat.fin); kernel_rfl)
      | ((with_reducible apply Sat.call0 (hs)); exact rfl; exact rfl; kernel_rfl; exact rfl)
      | ((with_reducible apply DSat.call0 (hs)); exact rfl; exact rfl; kernel_rfl; exact rfl)
      | ((with_reducible apply DSat.callM0 (hs)); exact rfl; exact rfl; (first | exact rfl | assumption | (decide +kernel)); exact rfl; kernel_rfl; exact rfl)
      | ((with_reducible apply Sat.call (hlim)); exact rfl; exact rfl; kernel_rfl; (exact cnv); exact rfl)
      | ((with_reducible apply DSat.call (hlim)); exact rfl; exact rfl; kernel_rfl; (exact cnv); exact rfl) | fail)
  refine Sat.kill [1, 26] rfl ?_
  apply Sat.loop (α := Nat) (fun m => m ≤ 3) (fun m => 3 - m) 0 (fun m => [(10, .int .i64 (m : Int))]) (fun _ => []) [] [] 0
  · intro x; exact rfl
  · intro x; exact rfl
  · exact rfl
  · exact rfl
  · ((repeat' (first | exact AllP.nil | with_reducible refine AllP.cons ?_ ?_)) <;> first | exact rfl | exact trivial | exact Int.natCast_add_one _ | exact ⟨rfl, rfl⟩ | exact ⟨rfl, rfl, rfl⟩ | exact ⟨rfl, rfl, rfl, rfl⟩ | exact ⟨rfl, .inl rfl⟩ | exact ⟨rfl, .inr rfl⟩ | exact pur | (intro _; exact rfl) | (intro _; exact trivial) | (intro _; exact pur))
  · exact Nat.zero_le _
  intro m hm
  by_cases hm3 : m < 3
  · have hmi : (m : Int) < 3 := by omega
    have hcl := cd_len m x
    have he : Fun Tryd.prog Γ 13 [.int .i64 (m : Int), .ro (.u8 x)] _ := (enc_call m hm3 x (by omega)).weak
    have he2 : Fun Tryd.prog Γ 13 [.int .i64 (m : Int), .ro (.u8 y)] _ := (enc_call m hm3 y (by omega)).weak
    repeat' (first
        | ((with_reducible apply Sat.cond_pt); exact rfl; exact hmi)
        | ((with_reducible apply Sat.run (X := X64)); exact rfl; (first | exact True.intro | (fail) | skip))
        | ((with_reducible apply Sat.drawn); kernel_rfl)
        | ((with_reducible apply DSat.run (X := X64)); exact rfl; (first | exact True.intro | (fail) | skip))
        | ((with_reducible apply DSat.fin); kernel_rfl)
        | ((with_reducible apply Sat.call (he)); exact rfl; exact rfl; kernel_rfl; (exact cnv); exact rfl)
        | ((with_reducible apply DSat.call (he)); exact rfl; exact rfl; kernel_rfl; (exact cnv); exact rfl)
        | ((with_reducible apply Sat.call (he2)); exact rfl; exact rfl; kernel_rfl; (exact cnv); exact rfl)
        | ((with_reducible apply DSat.call (he2)); exact rfl; exact rfl; kernel_rfl; (exact cnv); exact rfl) | fail)
    · ((repeat' (first | exact AllP.nil | with_reducible refine AllP.cons ?_ ?_)) <;> (first | exact trivial | exact rfl | (intro h; first | exact h | exact fun h2 => ⟨h, h2⟩ | (refine inR_i64 ?_ ?_ <;> first | omega | (simp [EV.len]; omega)) | exact pur | (intro h2; exact pur) | (simp [EV.len] at h ⊢; omega) | (simp [EV.len] at h; constructor <;> first | omega | (simp [EV.len]; omega)) | (intro h2; exact h))))
    with_reducible apply Sat.cond
    · exact rfl
    · intro h
      exfalso
      simp at h
      exact h ⟨fun e => cd_inj m x y hyx.symm e, fun e => by rw [e]⟩
    intro h
    clear h
    repeat' (first
        | ((with_reducible apply Sat.run (X := X64)); exact rfl; (first | exact True.intro | (fail) | skip))
        | ((with_reducible apply Sat.drawn); kernel_rfl)
        | ((with_reducible apply DSat.run (X := X64)); exact rfl; (first | exact True.intro | (fail) | skip))
        | ((with_reducible apply DSat.fin); kernel_rfl) | fail)
    with_reducible apply Sat.cond_p
    · exact rfl
    · intro h
      clear h
      repeat' (first
          | ((with_reducible apply Sat.run (X := X64)); exact rfl; (first | exact True.intro | (fail) | skip))
          | ((with_reducible apply Sat.drawn); kernel_rfl)
          | ((with_reducible apply DSat.run (X := X64)); exact rfl; (first | exact True.intro | (fail) | skip))
          | ((with_reducible apply DSat.fin); kernel_rfl) | fail)
      · ((repeat' (first | exact AllP.nil | with_reducible refine AllP.cons ?_ ?_)) <;> first | exact rfl | exact trivial | (apply inR_i64 <;> omega) | (apply inR_u64 <;> omega) | (apply inR_u32 <;> omega) | (apply inR_u8' <;> omega) | omega | (repeat' (with_reducible apply And.intro)) <;> (first | omega | exact rfl | decide))
      · refine Sat.back (m + 1) [] rfl ?_ ?_ ?_
        · ((repeat' (first | exact AllP.nil | with_reducible refine AllP.cons ?_ ?_)) <;> first | exact rfl | exact trivial | exact Int.natCast_add_one _ | exact ⟨rfl, rfl⟩ | exact ⟨rfl, rfl, rfl⟩ | exact ⟨rfl, rfl, rfl, rfl⟩ | exact ⟨rfl, .inl rfl⟩ | exact ⟨rfl, .inr rfl⟩ | exact pur | (intro _; exact rfl) | (intro _; exact trivial) | (intro _; exact pur))
        · omega
        · omega
    intro h
    have hc : (cd m x).length ≠ 0 := fun e => h (by show ((cd m x).length : Int) = 0; omega)
    clear h
    obtain ⟨p, hp⟩ : ∃ p, p = cd m x := ⟨_, rfl⟩
    rw [← hp] at hc hcl ⊢
    obtain ⟨I, hI⟩ : ∃ I, I = w0'.toNat % p.length := ⟨_, rfl⟩
    have hIl : I < p.length := by rw [hI]; exact Nat.mod_lt _ (by omega)
    have hIi : (w0'.toNat : Int) % ((EV.u8 p).len : Int) = (I : Int) := by
      show (w0'.toNat : Int) % (p.length : Int) = _
      rw [hI, Int.natCast_emod]
    refine Sat.skipC (Sat.nextC (Sat.holdC ?_))
    repeat' (first
        | ((with_reducible apply Sat.run (X := X64)); exact rfl; (first | exact True.intro | (fail) | skip))
        | ((with_reducible apply Sat.drawn); kernel_rfl)
        | ((with_reducible apply DSat.run (X := X64)); exact rfl; (first | exact True.intro | (fail) | skip))
        | ((with_reducible apply DSat.fin); kernel_rfl) | fail)
    · exact .cons ⟨by omega, by show (0 : Int) < (p.length : Int); omega⟩ (.cons ⟨by omega, by omega⟩ .nil)
    rw [hIi]
    refine Sat.goC (Sat.holdC ?_)
    repeat' (first
        | ((with_reducible apply Sat.run (X := X64)); exact rfl; (first | exact True.intro | (fail) | skip))
        | ((with_reducible apply Sat.drawn); kernel_rfl)
        | ((with_reducible apply DSat.run (X := X64)); exact rfl; (first | exact True.intro | (fail) | skip))
        | ((with_reducible apply DSat.fin); kernel_rfl) | fail)
    · exact .cons rfl (.cons (by show (0 + p.length) * (0 + 1) ≤ 140737488355328; omega) .nil)
    refine Sat.goC (Sat.holdC ?_)
    repeat' (first
        | ((with_reducible apply Sat.run (X := X64)); exact rfl; (first | exact True.intro | (fail) | skip))
        | ((with_reducible apply Sat.drawn); kernel_rfl)
        | ((with_reducible apply DSat.run (X := X64)); exact rfl; (first | exact True.intro | (fail) | skip))
        | ((with_reducible apply DSat.fin); kernel_rfl) | fail)
    · exact .cons (by show 0 + (I : Int).toNat < ([] ++ p).length; rw [List.nil_append]; omega) (.cons ⟨by omega, by show (I : Int) < ((0 + p.length : Nat) : Int); omega⟩ (.cons ⟨by omega, by omega⟩ (.cons (by show 0 + (I : Int).toNat < ([] ++ p).length; rw [List.nil_append]; omega) (.cons ⟨by omega, by show (I : Int) < ((0 + p.length : Nat) : Int); omega⟩ .nil))))
    obtain ⟨q, hq⟩ : ∃ q, q = ([] ++ p).set (0 + (I : Int).toNat) (UInt8.ofNat (IntKind.u8.wrap ((BitVec.ofInt IntKind.u8.bits ((([] ++ p).getD (0 + (I : Int).toNat) 0).toNat : Int) ^^^ BitVec.ofInt IntKind.u8.bits (maxV (w1.toNat : Int) 1)).toNat : Int)).toNat) := ⟨_, rfl⟩
    have hqs : q = p.set I (xv ((p.getD I 0).toNat : Int) (w1.toNat : Int)) := by
      rw [hq, List.nil_append, Nat.zero_add, Int.toNat_natCast]
      rfl
    rw [← hq]
    clear hq
    have hql : q.length = p.length := by rw [hqs, List.length_set]
    have hqn : q ≠ p := fun e => by
      have h1 : q.getD I 0 = xv ((p.getD I 0).toNat : Int) (w1.toNat : Int) := by
        rw [hqs, List.getD_eq_getElem?_getD, List.getElem?_set_self hIl]; rfl
      have h2 := xv_ne (p.getD I 0).toNat (p.getD I 0).toNat_lt w1.toNat w1.toNat_lt
      rw [← h1, e, UInt8.ofNat_toNat] at h2
      exact h2 rfl
    clear hqs
    refine Sat.goC ?_
    refine Sat.kill [72, 79, 85, 47, 48, 49, 50, 51, 52, 53, 54, 55, 56, 57, 58, 59, 60, 61, 62] rfl ?_
    refine Sat.freezeC true 2 rfl ?_ ?_
    · ((repeat' (first | exact AllP.nil | with_reducible refine AllP.cons ?_ ?_)) <;> first | exact rfl | exact trivial | exact Int.natCast_add_one _ | exact ⟨rfl, rfl⟩ | exact ⟨rfl, rfl, rfl⟩ | exact ⟨rfl, rfl, rfl, rfl⟩ | exact ⟨rfl, .inl rfl⟩ | exact ⟨rfl, .inr rfl⟩ | exact pur | (intro _; exact rfl) | (intro _; exact trivial) | (intro _; exact pur) | exact .inl ⟨rfl, (by show 0 + p.length = q.length; omega), rfl⟩)
    refine Sat.holdC ?_
    repeat' (first
        | ((with_reducible apply Sat.run (X := X64)); exact rfl; (first | exact True.intro | (fail) | skip))
        | ((with_reducible apply Sat.drawn); kernel_rfl)
        | ((with_reducible apply DSat.run (X := X64)); exact rfl; (first | exact True.intro | (fail) | skip))
        | ((with_reducible apply DSat.fin); kernel_rfl) | fail)
    · exact .cons rfl (.cons (by show (0 + p.length) * (0 + 1) ≤ 140737488355328; omega) .nil)
    refine Sat.goC (Sat.holdC ?_)
    repeat' (first
        | ((with_reducible apply Sat.run (X := X64)); exact rfl; (first | exact True.intro | (fail) | skip))
        | ((with_reducible apply Sat.drawn); kernel_rfl)
        | ((with_reducible apply DSat.run (X := X64)); exact rfl; (first | exact True.intro | (fail) | skip))
        | ((with_reducible apply DSat.fin); kernel_rfl) | fail)
    · exact .cons (Nat.le_refl 1) (.cons (by show 0 + p.length = ([] ++ p).length; rw [List.nil_append]; omega) (.cons (by show (0 + p.length + 1) * (0 + 1) ≤ 140737488355328; omega) (.cons ⟨by omega, by omega⟩ .nil)))
    obtain ⟨r, hr⟩ : ∃ r, r = [] ++ p ++ List.take 1 (List.drop 0 [UInt8.ofNat (maxV (w1.toNat : Int) 1).toNat]) := ⟨_, rfl⟩
    have hrl : r.length = p.length + 1 := by rw [hr, List.nil_append, List.length_append]; rfl
    have hrn : r ≠ p := fun e => by rw [e] at hrl; omega
    rw [← hr]
    clear hr
    refine Sat.goC ?_
    refine Sat.kill [86, 88, 89, 93] rfl ?_
    refine Sat.freezeC true 6 rfl ?_ ?_
    · ((repeat' (first | exact AllP.nil | with_reducible refine AllP.cons ?_ ?_)) <;> first | exact rfl | exact trivial | exact Int.natCast_add_one _ | exact ⟨rfl, rfl⟩ | exact ⟨rfl, rfl, rfl⟩ | exact ⟨rfl, rfl, rfl, rfl⟩ | exact ⟨rfl, .inl rfl⟩ | exact ⟨rfl, .inr rfl⟩ | exact pur | (intro _; exact rfl) | (intro _; exact trivial) | (intro _; exact pur) | exact .inl ⟨rfl, (by show 0 + p.length + 1 = r.length; omega), rfl⟩)
    obtain ⟨u, hu⟩ : ∃ u, u = p.take I := ⟨_, rfl⟩
    have hut : List.take ((some (I : Int).toNat).getD (EV.u8 p).len - (none : Option Nat).getD 0) (List.drop ((none : Option Nat).getD 0) p) = u := by
      rw [hu]
      show List.take (I - 0) (List.drop 0 p) = _
      rfl
    have hun : u ≠ p := fun e => by
      have := congrArg List.length e
      rw [hu, List.length_take] at this
      omega
    refine Sat.holdC ?_
    repeat' (first
        | ((with_reducible apply Sat.run (X := X64)); exact rfl; (first | exact True.intro | (fail) | skip))
        | ((with_reducible apply Sat.drawn); kernel_rfl)
        | ((with_reducible apply DSat.run (X := X64)); exact rfl; (first | exact True.intro | (fail) | skip))
        | ((with_reducible apply DSat.fin); kernel_rfl) | fail)
    · exact .cons (by omega) (.cons ⟨Nat.zero_le _, by show I ≤ p.length; omega⟩ .nil)
    rw [hut]
    clear hut
    have main : ∀ o : List UInt8, o ≠ p → ∃ (o' : List UInt8) (e : Int), Fun Tryd.prog Γ 15 [.int .i64 (m : Int), .ro (.u8 o), .int .i64 (x.length : Int)] (.tup [.ro (.u8 o'), .int .i64 e]) ∧ ¬ (e = 0 ∧ o' = x) := fun o ho =>
      ⟨_, _, (dec_call m hm3 o x.length (by omega)).weak, dec_other (by rw [← hp]; exact ho) x.length⟩
    obtain ⟨q', e1, hd1, hn1⟩ := main q hqn
    obtain ⟨u', e2, hd2, hn2⟩ := main u hun
    obtain ⟨r', e3, hd3, hn3⟩ := main r hrn
    clear main
    refine Sat.goC ?_
    repeat' (first
        | ((with_reducible apply Sat.cond_t); exact rfl)
        | ((with_reducible apply Sat.cond_f); exact rfl)
        | ((with_reducible apply Sat.run (X := X64)); exact rfl; (first | exact True.intro | (fail) | skip))
        | ((with_reducible apply Sat.drawn); kernel_rfl)
        | ((with_reducible apply DSat.run (X := X64)); exact rfl; (first | exact True.intro | (fail) | skip))
        | ((with_reducible apply DSat.fin); kernel_rfl)
        | (with_reducible apply Sat.unroll 40)
        | (with_reducible apply Sat.again)
        | ((with_reducible apply Sat.call (hd1)); exact rfl; exact rfl; kernel_rfl; (exact cnv); exact rfl)
        | ((with_reducible apply DSat.call (hd1)); exact rfl; exact rfl; kernel_rfl; (exact cnv); exact rfl)
        | ((with_reducible apply Sat.call (hd2)); exact rfl; exact rfl; kernel_rfl; (exact cnv); exact rfl)
        | ((with_reducible apply DSat.call (hd2)); exact rfl; exact rfl; kernel_rfl; (exact cnv); exact rfl)
        | ((with_reducible apply Sat.call (hd3)); exact rfl; exact rfl; kernel_rfl; (exact cnv); exact rfl)
        | ((with_reducible apply DSat.call (hd3)); exact rfl; exact rfl; kernel_rfl; (exact cnv); exact rfl) | fail)
    · ((repeat' (first | exact AllP.nil | with_reducible refine AllP.cons ?_ ?_)) <;> first | exact rfl | exact trivial | (show _ < 3; decide) | (apply inR_i64 <;> omega) | (apply inR_u64 <;> omega) | (apply inR_u32 <;> omega) | (apply inR_u8' <;> omega) | omega | (repeat' (with_reducible apply And.intro)) <;> (first | omega | exact rfl | decide))
    · ((repeat' (first | exact AllP.nil | with_reducible refine AllP.cons ?_ ?_)) <;> (first | exact trivial | exact rfl | (intro h; first | exact h | exact fun h2 => ⟨h, h2⟩ | (refine inR_i64 ?_ ?_ <;> first | omega | (simp [EV.len]; omega)) | exact pur | (intro h2; exact pur) | (simp [EV.len] at h ⊢; omega) | (simp [EV.len] at h; constructor <;> first | omega | (simp [EV.len]; omega)) | (intro h2; exact h))))
    with_reducible apply Sat.cond
    · exact rfl
    · intro h
      exact absurd (bif_t h) hn1
    intro h
    clear h
    repeat' (first
        | ((with_reducible apply Sat.cond_t); exact rfl)
        | ((with_reducible apply Sat.cond_f); exact rfl)
        | ((with_reducible apply Sat.run (X := X64)); exact rfl; (first | exact True.intro | (fail) | skip))
        | ((with_reducible apply Sat.drawn); kernel_rfl)
        | ((with_reducible apply DSat.run (X := X64)); exact rfl; (first | exact True.intro | (fail) | skip))
        | ((with_reducible apply DSat.fin); kernel_rfl)
        | (with_reducible apply Sat.unroll 40)
        | (with_reducible apply Sat.again)
        | ((with_reducible apply Sat.call (hd1)); exact rfl; exact rfl; kernel_rfl; (exact cnv); exact rfl)
        | ((with_reducible apply DSat.call (hd1)); exact rfl; exact rfl; kernel_rfl; (exact cnv); exact rfl)
        | ((with_reducible apply Sat.call (hd2)); exact rfl; exact rfl; kernel_rfl; (exact cnv); exact rfl)
        | ((with_reducible apply DSat.call (hd2)); exact rfl; exact rfl; kernel_rfl; (exact cnv); exact rfl)
        | ((with_reducible apply Sat.call (hd3)); exact rfl; exact rfl; kernel_rfl; (exact cnv); exact rfl)
        | ((with_reducible apply DSat.call (hd3)); exact rfl; exact rfl; kernel_rfl; (exact cnv); exact rfl) | fail)
    · ((repeat' (first | exact AllP.nil | with_reducible refine AllP.cons ?_ ?_)) <;> first | exact rfl | exact trivial | (show _ < 3; decide) | (apply inR_i64 <;> omega) | (apply inR_u64 <;> omega) | (apply inR_u32 <;> omega) | (apply inR_u8' <;> omega) | omega | (repeat' (with_reducible apply And.intro)) <;> (first | omega | exact rfl | decide))
    · ((repeat' (first | exact AllP.nil | with_reducible refine AllP.cons ?_ ?_)) <;> first | exact rfl | exact trivial | (show _ < 3; decide) | (apply inR_i64 <;> omega) | (apply inR_u64 <;> omega) | (apply inR_u32 <;> omega) | (apply inR_u8' <;> omega) | omega | (repeat' (with_reducible apply And.intro)) <;> (first | omega | exact rfl | decide))
    · ((repeat' (first | exact AllP.nil | with_reducible refine AllP.cons ?_ ?_)) <;> (first | exact trivial | exact rfl | (intro h; first | exact h | exact fun h2 => ⟨h, h2⟩ | (refine inR_i64 ?_ ?_ <;> first | omega | (simp [EV.len]; omega)) | exact pur | (intro h2; exact pur) | (simp [EV.len] at h ⊢; omega) | (simp [EV.len] at h; constructor <;> first | omega | (simp [EV.len]; omega)) | (intro h2; exact h))))
    with_reducible apply Sat.cond
    · exact rfl
    · intro h
      exact absurd (bif_t h) hn2
    intro h
    clear h
    repeat' (first
        | ((with_reducible apply Sat.cond_t); exact rfl)
        | ((with_reducible apply Sat.cond_f); exact rfl)
        | ((with_reducible apply Sat.run (X := X64)); exact rfl; (first | exact True.intro | (fail) | skip))
        | ((with_reducible apply Sat.drawn); kernel_rfl)
        | ((with_reducible apply DSat.run (X := X64)); exact rfl; (first | exact True.intro | (fail) | skip))
        | ((with_reducible apply DSat.fin); kernel_rfl)
        | (with_reducible apply Sat.unroll 40)
        | (with_reducible apply Sat.again)
        | ((with_reducible apply Sat.call (hd1)); exact rfl; exact rfl; kernel_rfl; (exact cnv); exact rfl)
        | ((with_reducible apply DSat.call (hd1)); exact rfl; exact rfl; kernel_rfl; (exact cnv); exact rfl)
        | ((with_reducible apply Sat.call (hd2)); exact rfl; exact rfl; kernel_rfl; (exact cnv); exact rfl)
        | ((with_reducible apply DSat.call (hd2)); exact rfl; exact rfl; kernel_rfl; (exact cnv); exact rfl)
        | ((with_reducible apply Sat.call (hd3)); exact rfl; exact rfl; kernel_rfl; (exact cnv); exact rfl)
        | ((with_reducible apply DSat.call (hd3)); exact rfl; exact rfl; kernel_rfl; (exact cnv); exact rfl) | fail)
    · ((repeat' (first | exact AllP.nil | with_reducible refine AllP.cons ?_ ?_)) <;> first | exact rfl | exact trivial | (show _ < 3; decide) | (apply inR_i64 <;> omega) | (apply inR_u64 <;> omega) | (apply inR_u32 <;> omega) | (apply inR_u8' <;> omega) | omega | (repeat' (with_reducible apply And.intro)) <;> (first | omega | exact rfl | decide))
    · ((repeat' (first | exact AllP.nil | with_reducible refine AllP.cons ?_ ?_)) <;> first | exact rfl | exact trivial | (show _ < 3; decide) | (apply inR_i64 <;> omega) | (apply inR_u64 <;> omega) | (apply inR_u32 <;> omega) | (apply inR_u8' <;> omega) | omega | (repeat' (with_reducible apply And.intro)) <;> (first | omega | exact rfl | decide))
    · ((repeat' (first | exact AllP.nil | with_reducible refine AllP.cons ?_ ?_)) <;> (first | exact trivial | exact rfl | (intro h; first | exact h | exact fun h2 => ⟨h, h2⟩ | (refine inR_i64 ?_ ?_ <;> first | omega | (simp [EV.len]; omega)) | exact pur | (intro h2; exact pur) | (simp [EV.len] at h ⊢; omega) | (simp [EV.len] at h; constructor <;> first | omega | (simp [EV.len]; omega)) | (intro h2; exact h))))
    with_reducible apply Sat.cond
    · exact rfl
    · intro h
      exact absurd (bif_t h) hn3
    intro h
    clear h
    repeat' (first
        | ((with_reducible apply Sat.cond_t); exact rfl)
        | ((with_reducible apply Sat.cond_f); exact rfl)
        | ((with_reducible apply Sat.run (X := X64)); exact rfl; (first | exact True.intro | (fail) | skip))
        | ((with_reducible apply Sat.drawn); kernel_rfl)
        | ((with_reducible apply DSat.run (X := X64)); exact rfl; (first | exact True.intro | (fail) | skip))
        | ((with_reducible apply DSat.fin); kernel_rfl)
        | (with_reducible apply Sat.unroll 40)
        | (with_reducible apply Sat.again)
        | ((with_reducible apply Sat.call (hd1)); exact rfl; exact rfl; kernel_rfl; (exact cnv); exact rfl)
        | ((with_reducible apply DSat.call (hd1)); exact rfl; exact rfl; kernel_rfl; (exact cnv); exact rfl)
        | ((with_reducible apply Sat.call (hd2)); exact rfl; exact rfl; kernel_rfl; (exact cnv); exact rfl)
        | ((with_reducible apply DSat.call (hd2)); exact rfl; exact rfl; kernel_rfl; (exact cnv); exact rfl)
        | ((with_reducible apply Sat.call (hd3)); exact rfl; exact rfl; kernel_rfl; (exact cnv); exact rfl)
        | ((with_reducible apply DSat.call (hd3)); exact rfl; exact rfl; kernel_rfl; (exact cnv); exact rfl) | fail)
    · exact .cons (inR_i64 (by decide) (by decide)) .nil
    · exact .cons (inR_i64 (by omega) (by omega)) .nil
    · refine Sat.back (m + 1) [] rfl ?_ ?_ ?_
      · ((repeat' (first | exact AllP.nil | with_reducible refine AllP.cons ?_ ?_)) <;> first | exact rfl | exact trivial | exact Int.natCast_add_one _ | exact ⟨rfl, rfl⟩ | exact ⟨rfl, rfl, rfl⟩ | exact ⟨rfl, rfl, rfl, rfl⟩ | exact ⟨rfl, .inl rfl⟩ | exact ⟨rfl, .inr rfl⟩ | exact pur | (intro _; exact rfl) | (intro _; exact trivial) | (intro _; exact pur))
      · omega
      · omega
  · obtain rfl : m = 3 := by omega
    repeat' (first
        | ((with_reducible apply Sat.run (X := X64)); exact rfl; (first | exact True.intro | (exact phi) | skip))
        | ((with_reducible apply Sat.drawn); kernel_rfl)
        | ((with_reducible apply DSat.run (X := X64)); exact rfl; (first | exact True.intro | (exact phi) | skip))
        | ((with_reducible apply DSat.fin); kernel_rfl)
        | ((with_reducible apply Sat.cond_t); exact rfl)
        | ((with_reducible apply Sat.cond_f); exact rfl)
        | ((with_reducible apply Sat.cond_pt); exact rfl; (try dsimp only [V.EV.sub, V.EV.len]); first | assumption | omega)
        | ((with_reducible apply Sat.cond_pf); exact rfl; (try dsimp only [V.EV.sub, V.EV.len]); first | assumption | omega)
        | ((with_reducible apply Sat.cond_p); exact rfl; all_goals intro h)
        | ((with_reducible apply Sat.cond); exact rfl; all_goals intro h) | fail)
    (refine Sat.fin (Sat.end1 rfl rfl rfl True.intro (.refl _ pur) (by first | exact .inl rfl | exact .inr rfl) (fun _ h => h)) ?_; (rfl))
end Go.Proofs.YtcnpgmohnclojaaDoor
end
section
namespace Go.Proofs.YtcnpgmohnclojaaDoor.V
open Go.RowKit
/-- Something in memory, with the blocks that it lies in. -/
structure Thing where
  own : World → (Nat → Prop) → Prop
  lt : ∀ {w S}, own w S → ∀ b, S b → b < w.heap.size
  kept : ∀ {w w' S}, own w S → (∀ b, S b → w'.heap[b]? = w.heap[b]?) → own w' S
/-- The thing stands in hidden blocks. -/
structure AtX (C : Ctx) (O : Thing) (W : World) (S Sm : Nat → Prop) : Prop where
  kp : Kp C.W0 C.S W
  sp : ∀ b, S b → C.W0.heap.size ≤ b ∨ C.S b
  own : O.own W Sm
  new : ∀ b, Sm b → C.W0.heap.size ≤ b
@[reducible] def hidX (C : Ctx) (Sm : Nat → Prop) : Nat → Prop := fun b => C.T0 b ∨ Sm b
/-- The cells of a block. -/
def Blk.Is (w : World) (p : Nat) (ty : TypeId) (sv : List SV) : Prop := ∃ cs : List Value, w.heap[p]? = some (.cells cs.toArray ty (0, 0)) ∧ ∀ E T w', Items E T w' sv cs
inductive Pos where
  | code (c : Code) (k : List Kont)
  | reg (full rest : List Oper) (k : List Kont)
  | ext (e : Ex) (k : List Kont)
@[reducible] def Pos.at : Pos → Tr → Mem → List Nat → Cfg
  | .code c k, F, M, ids => .code c F M ids k
  | .reg full rest k, F, M, ids => .reg full rest F M ids k
  | .ext e k, F, M, ids => .ext e F M ids k
section
variable {C : Ctx} {Q0 : Exit → Act → World → Prop} {F F' : Tr} {M M' : Mem} {ids ids' : List Nat} {W : World} {S Sm T : Nat → Prop} {l : List (Nat × Nat)} {U : Nat → Prop} {E : Env} {a : Act} {w : World}
theorem Sat.via {pos : Pos} (F' : Tr) (M' : Mem) (ids' : List Nat) (h : ∀ U E a w, Sup ids U → St (C.at W S T l) F M U E a w → ∃ W' S' T' l' U' E', Sup ids' U' ∧ St (C.at W' S' T' l') F' M' U' E' a w ∧ Sat (C.at W' S' T' l') Q0 (pos.at F' M' ids')) : Sat (C.at W S T l) Q0 (pos.at F M ids) := by
  cases pos with
  | code c k =>
    intro U E a w hs hst
    obtain ⟨W', S', T', l', U', E', h1, h2, h3⟩ := h U E a w hs hst
    exact h3 U' E' a w h1 h2
  | reg full rest k =>
    intro U E a w hs hst
    obtain ⟨W', S', T', l', U', E', h1, h2, h3⟩ := h U E a w hs hst
    exact h3 U' E' a w h1 h2
  | ext e k =>
    intro U E a w hs hst
    obtain ⟨W', S', T', l', U', E', h1, h2, h3⟩ := h U E a w hs hst
    exact h3 U' E' a w h1 h2
theorem St.pinned (h : St (C.at W S T l) F M U E a w) {id p : Nat} (hl : (id, p) ∈ l) : E id = some (some p) :=
  (h.pin _ (List.mem_map.2 ⟨(id, p), hl, rfl⟩) id (some p) (by dsimp only; rw [if_pos rfl])).2
theorem AtX.here {O : Thing} (c : Top C) (hat : AtX C O W S Sm) (h : St (C.at W S (hidX C Sm) l) F M U E a w) : O.own w Sm :=
  O.kept hat.own fun b hb => h.kp.chg.keep b (O.lt hat.own b hb) (h.hid_ c.wide b (.inr hb)).2
theorem AtX.mine {O : Thing} (hat : AtX C O W S Sm) (h : St (C.at W S (hidX C Sm) l) F M U E a w) : ∀ b, mine M E b → C.W0.heap.size ≤ b ∨ C.S b := by
  rintro b ⟨j, B, q1, q2⟩
  rcases h.own j b (by rw [q1]; rfl) q2 with q | q
  · exact .inl (Nat.le_trans hat.kp.chg.size q)
  · exact hat.sp b q
theorem AtX.over {O : Thing} (hat : AtX C O W S Sm) : Over C W S (hidX C Sm) := ⟨hat.kp, hat.sp, fun _ => .inl⟩
/-- A block of the thing is taken in hand. -/
theorem Sat.takeX {pos : Pos} {O : Thing} (O' : Thing) (id p : Nat) (ty : TypeId) (sv : List SV) (c : Top C) (hat : AtX C O W S Sm) (hsplit : ∀ w, O.own w Sm → Sm p ∧ O'.own w (fun b => Sm b ∧ b ≠ p) ∧ Blk.Is w p ty sv)
    (h : ∀ W S, AtX C O' W S (fun b => Sm b ∧ b ≠ p) → Sat (C.at W S (hidX C fun b => Sm b ∧ b ≠ p) ((id, p) :: l)) Q0 (pos.at F ((id, .cells ty sv) :: M) ids)) :
    Sat (C.at W S (hidX C Sm) l) Q0 (pos.at F M (id :: ids)) := by
  refine Sat.via F ((id, .cells ty sv) :: M) ids fun U E a w hsup hst => ?_
  obtain ⟨hUid, hsup'⟩ := hsup
  have hEid : E id = none := hst.fresh id hUid
  obtain ⟨hp, hown', cs, hpc, hpi⟩ := hsplit w (hat.here c hst)
  have hpl : p < w.heap.size := O.lt (hat.here c hst) p hp
  have hE := envWith_old (x := some p) hEid
  have hap0 := hst.apart c.wide
  have hidn : ∀ j y, E j = some y → j ≠ id := fun j y hy e => by subst e; rw [hEid] at hy; cases hy
  have hEp : envWith E id (some p) id = some (some p) := by unfold envWith; rw [if_pos rfl]
  have hmin : ∀ b, V.mine ((id, .cells ty sv) :: M) (envWith E id (some p)) b → b = p ∨ V.mine M E b := by
    rintro b ⟨j, B, q1, q2⟩
    rw [find_cons] at q1
    by_cases hj : j = id
    · subst hj
      rw [hEp] at q2
      cases q2
      exact .inl rfl
    · rw [if_neg hj] at q1
      unfold envWith at q2
      rw [if_neg hj] at q2
      exact .inr ⟨j, B, q1, q2⟩
  have hT' : ∀ b, hidX C (fun b => Sm b ∧ b ≠ p) b → b < w.heap.size ∧ ¬ V.mine ((id, .cells ty sv) :: M) (envWith E id (some p)) b := by
    rintro b hb
    have hb0 : hidX C Sm b := hb.elim .inl fun q => .inr q.1
    refine ⟨hst.lt c.wide b (.inr hb0), fun hm => ?_⟩
    rcases hmin b hm with rfl | ⟨j, B, q1, q2⟩
    · rcases hb with q | q
      · have := (c.hid _ q).1
        have := hat.new _ hp
        omega
      · exact q.2 rfl
    · exact hap0 j b (by rw [q1]; rfl) q2 hb0
  have hTT : ∀ b, b < w.heap.size → trk (hidX C fun b => Sm b ∧ b ≠ p) ((id, .cells ty sv) :: M) (envWith E id (some p)) b → trk (hidX C Sm) M E b := by
    rintro b _ (q | q | q)
    · rcases hmin b q with rfl | q
      · exact .inr (.inr hp)
      · exact .inl q
    · exact .inr (.inl q)
    · exact .inr (.inr q.1)
  have hmem : MOk (envWith E id (some p)) (trk (hidX C fun b => Sm b ∧ b ≠ p) ((id, .cells ty sv) :: M) (envWith E id (some p))) ((id, .cells ty sv) :: M) w := by
    refine ⟨fun j B hf => ?_, fun j j' b f1 f2 e1 e2 => ?_⟩
    · rw [find_cons] at hf
      by_cases hj : j = id
      · subst hj
        rw [if_pos rfl] at hf
        cases hf
        exact .inl ⟨p, hEp, hpl, cs, hpc, hpi _ _ _⟩
      · rw [if_neg hj] at hf
        rcases hst.mem.blk j B hf with ⟨b, q1, q2, q3⟩ | ⟨q1, q2⟩
        · exact .inl ⟨b, hE j _ q1, q2, q3.mono hE hTT (Chg.refl _ w) rfl⟩
        · exact .inr ⟨hE j _ q1, q2⟩
    · have hnp : ∀ j, (find M j).isSome = true → E j = some (some p) → False := fun j f e => hap0 j p f e (.inr hp)
      by_cases hj : j = id
      · by_cases hj' : j' = id
        · rw [hj, hj']
        · exfalso
          subst hj
          rw [hEp] at e1
          cases e1
          unfold envWith at e2
          rw [if_neg hj'] at e2
          rw [find_cons, if_neg hj'] at f2
          exact hnp j' f2 e2
      · by_cases hj' : j' = id
        · exfalso
          subst hj'
          rw [hEp] at e2
          cases e2
          unfold envWith at e1
          rw [if_neg hj] at e1
          rw [find_cons, if_neg hj] at f1
          exact hnp j f1 e1
        · unfold envWith at e1 e2
          rw [if_neg hj] at e1
          rw [if_neg hj'] at e2
          rw [find_cons, if_neg hj] at f1
          rw [find_cons, if_neg hj'] at f2
          exact hst.mem.inj j j' b f1 f2 e1 e2
  refine ⟨w, V.mine ((id, .cells ty sv) :: M) (envWith E id (some p)), hidX C (fun b => Sm b ∧ b ≠ p), (id, p) :: l, rest U id, envWith E id (some p), hsup', hst.anew (E' := envWith E id (some p)) (U' := rest U id) hE (Chg.refl _ w) _ hT' hTT hmem (fun k hk => by
    unfold envWith
    rw [if_neg hk.2]
    exact hst.fresh k hk.1) (fun q hq => ?_), h _ _ ⟨Kp.trans hat.kp hst.kp hat.sp, fun b hb => ?_, hown', fun b hb => hat.new b hb.1⟩⟩
  · rcases List.mem_cons.1 hq with rfl | hq
    · exact hEp
    · exact hE _ _ (hst.pinned hq)
  · rcases hmin b hb with rfl | q
    · exact .inl (hat.new _ hp)
    · exact hat.mine hst b q
/-- A block of one's own becomes part of the thing. -/
theorem Sat.giveX {pos : Pos} {O : Thing} (O' : Thing) (id p : Nat) (ty : TypeId) (sv : List SV) (l' : List (Nat × Nat)) (c : Top C) (hat : AtX C O W S Sm) (hl : (id, p) ∈ l) (hl' : ∀ q ∈ l', q ∈ l) (hf : find M id = some (.cells ty sv)) (hrig : V.rigid.rigids sv = true) (hS : ∀ b, ¬ C.S b)
    (hjoin : ∀ w, O.own w Sm → ¬ Sm p → Blk.Is w p ty sv → p < w.heap.size → O'.own w (fun b => Sm b ∨ b = p))
    (h : ∀ W S, AtX C O' W S (fun b => Sm b ∨ b = p) → Sat (C.at W S (hidX C fun b => Sm b ∨ b = p) l') Q0 (pos.at F (del M id) ids)) :
    Sat (C.at W S (hidX C Sm) l) Q0 (pos.at F M ids) := by
  refine Sat.via F (del M id) ids fun U E a w hsup hst => ?_
  have hEid := hst.pinned hl
  obtain ⟨hpl, cs, hpc, hpi⟩ := hst.mem.at hf hEid
  have hpm : V.mine M E p := ⟨id, _, hf, hEid⟩
  have hap0 := hst.apart c.wide
  have hpS : ¬ Sm p := fun q => hap0 id p (by rw [hf]; rfl) hEid (.inr q)
  have hpn : C.W0.heap.size ≤ p := (hat.mine hst p hpm).elim (fun h => h) fun q => absurd q (hS p)
  have hdel : ∀ j B, find (del M id) j = some B → j ≠ id ∧ find M j = some B := fun j B hj => by
    rw [find_del] at hj
    split at hj
    · cases hj
    · rename_i hne; exact ⟨hne, hj⟩
  have hmin : ∀ b, V.mine (del M id) E b → V.mine M E b ∧ b ≠ p := by
    rintro b ⟨j, B, q1, q2⟩
    obtain ⟨r1, r2⟩ := hdel j B q1
    refine ⟨⟨j, B, r2, q2⟩, fun e => r1 ?_⟩
    subst e
    exact hst.mem.inj j id b (by rw [r2]; rfl) (by rw [hf]; rfl) q2 hEid
  have hown' := hjoin w (hat.here c hst) hpS ⟨cs, hpc, fun _ _ _ => hpi.rigid_ hrig⟩ hpl
  have hT' : ∀ b, hidX C (fun b => Sm b ∨ b = p) b → b < w.heap.size ∧ ¬ V.mine (del M id) E b := by
    rintro b hb
    refine ⟨?_, fun hm => ?_⟩
    · rcases hb with q | q | rfl
      · exact hst.lt c.wide b (.inr (.inl q))
      · exact hst.lt c.wide b (.inr (.inr q))
      · exact hpl
    · obtain ⟨⟨j, B, q1, q2⟩, q3⟩ := hmin b hm
      rcases hb with q | q | rfl
      · exact hap0 j b (by rw [q1]; rfl) q2 (.inl q)
      · exact hap0 j b (by rw [q1]; rfl) q2 (.inr q)
      · exact q3 rfl
  have hTT : ∀ b, b < w.heap.size → trk (hidX C fun b => Sm b ∨ b = p) (del M id) E b → trk (hidX C Sm) M E b := by
    rintro b _ (q | q | q | rfl)
    · exact .inl (hmin b q).1
    · exact .inr (.inl q)
    · exact .inr (.inr q)
    · exact .inl hpm
  have hmem : MOk E (trk (hidX C fun b => Sm b ∨ b = p) (del M id) E) (del M id) w := by
    refine ⟨fun j B hj => ?_, fun j j' b f1 f2 e1 e2 => ?_⟩
    · obtain ⟨r1, r2⟩ := hdel j B hj
      rcases hst.mem.blk j B r2 with ⟨b, q1, q2, q3⟩ | q
      · exact .inl ⟨b, q1, q2, q3.mono (fun _ _ h => h) hTT (Chg.refl _ w) rfl⟩
      · exact .inr q
    · obtain ⟨B, hB⟩ := Option.isSome_iff_exists.1 f1
      obtain ⟨B', hB'⟩ := Option.isSome_iff_exists.1 f2
      exact hst.mem.inj j j' b (by rw [(hdel j B hB).2]; rfl) (by rw [(hdel j' B' hB').2]; rfl) e1 e2
  exact ⟨w, V.mine (del M id) E, hidX C (fun b => Sm b ∨ b = p), l', U, E, hsup, hst.anew (E' := E) (U' := U) (fun _ _ h => h) (Chg.refl _ w) _ hT' hTT hmem hst.fresh (fun q hq => hst.pinned (hl' q hq)), h _ _ ⟨Kp.trans hat.kp hst.kp hat.sp, fun b hb => hat.mine hst b (hmin b hb).1, hown', fun b hb => hb.elim (hat.new b) fun e => e ▸ hpn⟩⟩
/-- Where a block of one's own lies. -/
theorem Sat.learnX {pos : Pos} {O : Thing} (id : Nat) (ty : TypeId) (sv : List SV) (hf : find M id = some (.cells ty sv)) (c : Top C) (hat : AtX C O W S Sm)
    (h : ∀ p W S, AtX C O W S Sm → Sat (C.at W S (hidX C Sm) ((id, p) :: l)) Q0 (pos.at F M ids)) : Sat (C.at W S (hidX C Sm) l) Q0 (pos.at F M ids) := by
  refine Sat.via F M ids fun U E a w hsup hst => ?_
  rcases hst.mem.blk id _ hf with ⟨p, hE, q2, q3⟩ | ⟨q1, t, e, q2, q3⟩
  · exact ⟨w, V.mine M E, hidX C Sm, (id, p) :: l, U, E, hsup, hst.anew (E' := E) (U' := U) (fun _ _ h => h) (Chg.refl _ w) _ (fun b hb => ⟨hst.lt c.wide b (.inr hb), fun ⟨j, B, f1, f2⟩ => hst.apart c.wide j b (by rw [f1]; rfl) f2 hb⟩) (fun _ _ h => h) hst.mem hst.fresh (fun q hq => by
      rcases List.mem_cons.1 hq with rfl | hq
      · exact hE
      · exact hst.pinned hq), h p _ _ ⟨Kp.trans hat.kp hst.kp hat.sp, hat.mine hst, hat.here c hst, hat.new⟩⟩
  · cases q2
/-- A slot's pointer is seen as one to the block in hand. -/
theorem Sat.seeX {pos : Pos} (t id p : Nat) (hl : (id, p) ∈ l) (hg : F.get t = some (.val (.pointer (some ⟨p, 0, none⟩)))) (hp : F.put t (some (.ptr id 0)) = some F') (h : Sat (C.at W S T l) Q0 (pos.at F' M ids)) : Sat (C.at W S T l) Q0 (pos.at F M ids) := by
  refine Sat.via F' M ids fun U E a w hsup hst => ?_
  refine ⟨W, S, T, l, U, E, hsup, ⟨hst.defers, hst.size, fun t' s hs => ?_, hst.mem, hst.own, hst.fresh, hst.kp, hst.hid, hst.glob, hst.pin, hst.held⟩, h⟩
  rw [Tr.get_put _ _ _ _ hp] at hs
  split at hs
  · rename_i e
    subst e
    cases hs
    have := hst.slots _ _ hg
    generalize a.tmps.getD t' undef = v at this
    cases this
    exact .ptr id 0 p (hst.pinned hl)
  · exact hst.slots t' s hs
/-- A slot's pointer is seen as the number that it is. -/
theorem Sat.seeV {pos : Pos} (t id p : Nat) (hl : (id, p) ∈ l) (hg : F.get t = some (.ptr id 0)) (hp : F.put t (some (.val (.pointer (some ⟨p, 0, none⟩)))) = some F') (h : Sat (C.at W S T l) Q0 (pos.at F' M ids)) : Sat (C.at W S T l) Q0 (pos.at F M ids) := by
  refine Sat.via F' M ids fun U E a w hsup hst => ?_
  refine ⟨W, S, T, l, U, E, hsup, ⟨hst.defers, hst.size, fun t' s hs => ?_, hst.mem, hst.own, hst.fresh, hst.kp, hst.hid, hst.glob, hst.pin, hst.held⟩, h⟩
  rw [Tr.get_put _ _ _ _ hp] at hs
  split at hs
  · rename_i e
    subst e
    cases hs
    have := hst.slots _ _ hg
    have hE := hst.pinned hl
    generalize a.tmps.getD t' undef = v at this ⊢
    cases this with
    | ptr _ _ b q =>
      rw [hE] at q
      cases q
      exact .val _
  · exact hst.slots t' s hs
end
section
variable {C : Ctx} {Q0 : Exit → Act → World → Prop} {F F' : Tr} {M M' : Mem} {ids ids' : List Nat} {k : List Kont} {l : List (Nat × Nat)} {U : Nat → Prop} {E : Env} {a : Act} {w : World}
/-- What is asked of a round's end. -/
def BackX (C : Ctx) {α : Type} (Ow : α → Thing) (l : List (Nat × Nat)) (ids : List Nat) (Fh : α → Tr) (Mh : α → Mem) (Cx : α → Prop) (m : α → Nat) (x : α) (a : Act) (w : World) : Prop :=
  ∃ x' W S Sm, Cx x' ∧ AtX C (Ow x') W S Sm ∧ m x' < m x ∧ ∃ U E, Sup ids U ∧ St (C.at W S (hidX C Sm) l) (Fh x') (Mh x') U E a w
/-- A loop over a thing. -/
theorem Sat.loopX {α : Type} {body : Code} {Fh : α → Tr} {Mh : α → Mem} {φ : List Prop} {W : World} {S Sm : Nat → Prop} (Ow : α → Thing) (Cx : α → Prop) (m : α → Nat) (x0 : α) (fr : α → List (Nat × SV)) (mr : α → List (Nat × Blk)) (dm : List Nat) (σ : List (Nat × Option Nat)) (n : Nat)
    (_hF : ∀ x, headT F body (fr x) = some (Fh x)) (_hM : ∀ x, headM M dm (mr x) = some (Mh x)) (_hi : dropN ids n = some ids') (hin : intoF C.wide (l.map (·.1)) σ F M (Fh x0) (Mh x0) ids' = some φ) (hφ : AllP φ) (h0 : Cx x0) (hat : AtX C (Ow x0) W S Sm)
    (step : ∀ x W S Sm, Cx x → AtX C (Ow x) W S Sm → Sat (C.at W S (hidX C Sm) l) Q0 (.code body (Fh x) (Mh x) ids' (.lp (BackX C Ow l ids' Fh Mh Cx m x) :: k))) :
    Sat (C.at W S (hidX C Sm) l) Q0 (.code (.loop body) F M ids k) := by
  intro U E a w hsup hst
  obtain ⟨U', E', h1, h2⟩ := into_ok hst hin hφ
  refine wp_loop_ghost (fun n a w => ∃ x W S Sm, Cx x ∧ AtX C (Ow x) W S Sm ∧ m x = n ∧ ∃ U E, Sup ids' U ∧ St (C.at W S (hidX C Sm) l) (Fh x) (Mh x) U E a w) (m x0) ⟨x0, W, S, Sm, h0, hat, rfl, U', E', h1, h2⟩ ?_
  rintro n a w ⟨x, W, S, Sm, hx, hat, rfl, U, E, hs, hst⟩
  refine wp_mono (step x W S Sm hx hat U E a w hs hst) ?_
  intro e a' w' hq
  cases e with
  | normal =>
    obtain ⟨x', W', S', Sm', q1, q2, q3, q4⟩ := hq
    exact ⟨m x', q3, x', W', S', Sm', q1, q2, rfl, q4⟩
  | exit id => exact hq
  | goto l => exact hq
  | ret => exact hq
  | panic v => exact hq
  | outgrown => exact hq
theorem Sat.backX {α : Type} {Fh : α → Tr} {Mh : α → Mem} {φ : List Prop} {ids0 : List Nat} {Ow : α → Thing} {Cx : α → Prop} {m : α → Nat} {x : α} {W : World} {S Sm : Nat → Prop} (x' : α) (σ : List (Nat × Option Nat)) (hin : intoF C.wide (l.map (·.1)) σ F M (Fh x') (Mh x') ids0 = some φ) (hφ : AllP φ) (hat : AtX C (Ow x') W S Sm) (hC : Cx x') (hm : m x' < m x) :
    Sat (C.at W S (hidX C Sm) l) Q0 (.ext .normal F M ids (.lp (BackX C Ow l ids0 Fh Mh Cx m x) :: k)) := by
  intro U E a w hsup hst
  obtain ⟨U', E', h1, h2⟩ := into_ok hst hin hφ
  exact ⟨x', W, S, Sm, hC, hat, hm, U', E', h1, h2⟩
/-- A block's cells seen as others. -/
theorem Sat.recell {pos : Pos} {id : Nat} {ty : TypeId} {sv sv' : List SV} (R : Env → Prop) (hR : ∀ U E a w, St C F M U E a w → R E) (hf : find M id = some (.cells ty sv)) (hI : ∀ E T w cs, R E → Items E T w sv cs → Items E T w sv' cs) (hu : upd M id (.cells ty sv') = some M') (h : Sat C Q0 (pos.at F M' ids)) : Sat C Q0 (pos.at F M ids) := by
  have key : ∀ U E a w, St C F M U E a w → St C F M' U E a w := fun U E a w hst => by
    have hfu := find_upd hu
    have hsome : ∀ j, (find M' j).isSome = true → (find M j).isSome = true := fun j hj => by
      rw [hfu] at hj
      split at hj
      · rename_i e; rw [e, hf]; rfl
      · exact hj
    have hT : ∀ b, b < w.heap.size → trk C.T0 M' E b → trk C.T0 M E b := by
      rintro b _ (⟨j, B, q1, q2⟩ | q)
      · obtain ⟨B', hB'⟩ := Option.isSome_iff_exists.1 (hsome j (by rw [q1]; rfl))
        exact .inl ⟨j, B', hB', q2⟩
      · exact .inr q
    refine hst.go (fun _ _ h => h) hT (Chg.refl _ w) rfl rfl rfl ⟨fun j B hj => ?_, fun j j' b h1 h2 => hst.mem.inj j j' b (hsome j h1) (hsome j' h2)⟩ (fun j b h1 h2 => hst.own j b (hsome j h1) h2) hst.fresh
    rw [hfu] at hj
    split at hj
    · rename_i e
      subst e
      cases hj
      rcases hst.mem.blk _ _ hf with ⟨b, q1, q2, cs, q3, q4⟩ | ⟨_, t, e, q2, _⟩
      · exact .inl ⟨b, q1, q2, cs, q3, hI _ _ _ _ (hR _ _ _ _ hst) (q4.mono (fun _ _ h => h) hT (Chg.refl _ w))⟩
      · cases q2
    · rcases hst.mem.blk _ _ hj with ⟨b, q1, q2, q3⟩ | q
      · exact .inl ⟨b, q1, q2, q3.mono (fun _ _ h => h) hT (Chg.refl _ w) rfl⟩
      · exact .inr q
  cases pos with
  | code c k => exact fun U E a w hs hst => h U E a w hs (key U E a w hst)
  | reg full rest k => exact fun U E a w hs hst => h U E a w hs (key U E a w hst)
  | ext e k => exact fun U E a w hs hst => h U E a w hs (key U E a w hst)
/-- Nothing is hidden yet. -/
def noThing : Thing := ⟨fun _ S => ∀ b, ¬ S b, fun h b hb => absurd hb (h b), fun h _ => h⟩
theorem Sat.atX {pos : Pos} (c : Top C) (h : ∀ W S, AtX C noThing W S (fun _ => False) → Sat (C.at W S (hidX C fun _ => False) []) Q0 (pos.at F M ids)) : Sat C Q0 (pos.at F M ids) := by
  have key : ∀ U E a w, Sup ids U → St C F M U E a w → ∃ W S, Sat (C.at W S (hidX C fun _ => False) []) Q0 (pos.at F M ids) ∧ St (C.at W S (hidX C fun _ => False) []) F M U E a w := fun U E a w hsup hst => by
    refine ⟨w, V.mine M E, h w _ ⟨hst.kp, fun b ⟨j, B, q1, q2⟩ => hst.own j b (by rw [q1]; rfl) q2, fun b hb => hb, fun b hb => hb.elim⟩, hst.anew (E' := E) (M' := M) (U' := U) (l := []) (fun _ _ h => h) (Chg.refl _ w) _ (fun b hb => ?_) (fun b _ hb => ?_) ⟨fun id B hf => (hst.mem.blk id B hf).imp (fun ⟨b, q1, q2, q3⟩ => ⟨b, q1, q2, q3.mono (fun _ _ h => h) (fun b _ hb => ?_) (Chg.refl _ w) rfl⟩) (fun h => h), hst.mem.inj⟩ hst.fresh (fun q hq => by cases hq)⟩
    · rcases hb with q | q
      · exact ⟨hst.lt c.wide b (.inr q), fun ⟨j, B, f1, f2⟩ => hst.apart c.wide j b (by rw [f1]; rfl) f2 q⟩
      · exact q.elim
    · rcases hb with q | q | q
      · exact .inl q
      · exact .inr q
      · exact q.elim
    · rcases hb with q | q | q
      · exact .inl q
      · exact .inr q
      · exact q.elim
  cases pos with
  | code c k =>
    intro U E a w hs hst
    obtain ⟨W, S, h1, h2⟩ := key U E a w hs hst
    exact h1 U E a w hs h2
  | reg full rest k =>
    intro U E a w hs hst
    obtain ⟨W, S, h1, h2⟩ := key U E a w hs hst
    exact h1 U E a w hs h2
  | ext e k =>
    intro U E a w hs hst
    obtain ⟨W, S, h1, h2⟩ := key U E a w hs hst
    exact h1 U E a w hs h2
/-- The thing is made. -/
theorem Sat.beginsX {α : Type} {Ow : α → Thing} {Vx : α → Value} {Fn : α → Tr} {f : FuncId} {svs : List SV} {d : Option Tmp} {x : Operand} {xs : List Operand} {ats : Array TypeId} {type : TypeId} {pos : String} {after : Array Edge} {full rest : List Oper} (c : Top C)
    (hspec : ∀ w vs, (∀ E T w, Tup E T w svs vs) → Calls C.P f vs.toArray w fun e w' => ∃ x Sm, e = .returned (Vx x) ∧ (Ow x).own w' Sm ∧ Below w.heap.size w w' ∧ ∀ b, Sm b → w.heap.size ≤ b)
    (hrig : V.rigid.rigids svs = true) (hx : argsF C.Γ F x xs = some (f, svs)) (hc : callable C.P f = true) (hp : ∀ x, putD C.N F d (some (.val (Vx x))) some = some (Fn x))
    (h : ∀ x W S Sm, AtX C (Ow x) W S Sm → Sat (C.at W S (hidX C Sm) []) Q0 (.reg full rest (Fn x) M ids k)) :
    Sat C Q0 (.reg full (⟨d, .call ⟨.value x, ⟨xs⟩, ats⟩, type, pos, after, none⟩ :: rest) F M ids k) := by
  intro U E a w hsup hst
  refine wpList_plain rfl fun K hK => ?_
  unfold Oper.wp
  obtain ⟨vs, ht, hex⟩ := argsF_ok hst.vw hx
  rw [hex, run_callFunc_go hc]
  refine (hspec w vs (fun E' T' w' => ht.rigid_ hrig)).mono ?_
  rintro e w' ⟨v, Sm, rfl, hown, hb, hnew⟩
  obtain ⟨F1, h1, h2⟩ := putD_inv (hp v)
  cases h1
  have hst2 := hst.below hb
  have hat : AtX C (Ow v) w' (V.mine M E) Sm := by
    refine ⟨hst2.kp, fun b ⟨id, B, q1, q2⟩ => hst.own id b (by rw [q1]; rfl) q2, hown, fun b hb' => Nat.le_trans hst.kp.chg.size (hnew b hb')⟩
  have hap : ∀ b, hidX C Sm b → b < w'.heap.size ∧ ¬ V.mine M E b := by
    rintro b (q | q)
    · exact ⟨hst2.lt c.wide b (.inr q), fun ⟨id, B, q1, q2⟩ => hst2.apart c.wide id b (by rw [q1]; rfl) q2 q⟩
    · refine ⟨(Ow v).lt hown b q, fun ⟨id, B, q1, q2⟩ => ?_⟩
      have := (hst.mem.at q1 q2).1
      have := hnew b q
      omega
  have hTT : ∀ b, b < w.heap.size → trk (hidX C Sm) M E b → trk C.T0 M E b := by
    rintro b hb' (q | q | q)
    · exact .inl q
    · exact .inr q
    · have := hnew b q; omega
  have hmem : MOk E (trk (hidX C Sm) M E) M w' := ⟨fun id B hf => by
    rcases hst.mem.blk id B hf with ⟨b, q1, q2, q3⟩ | q
    · exact .inl ⟨b, q1, Nat.lt_of_lt_of_le q2 hb.size, q3.mono (fun _ _ h => h) hTT (Chg.of_below hb) (hb.block b q2)⟩
    · exact .inr q, hst.mem.inj⟩
  have h3 := hst.anew (E' := E) (M' := M) (U' := U) (l := []) (fun _ _ h => h) (Chg.of_below hb) (hidX C Sm) hap hTT hmem hst.fresh (fun _ h => by cases h)
  exact hK _ _ (h v w' _ Sm hat U E _ w' hsup (St.putD h3 h2 fun s' hs' => by cases hs'; exact .val _))
/-- A function whose result is a new block. -/
def FreshF (P : Program) (f : FuncId) (ty : TypeId) (sv : List SV) : Prop :=
  ∀ w, Calls P f #[] w fun e w' => ∃ p, e = .returned (.pointer (some ⟨p, 0, none⟩)) ∧ w.heap.size ≤ p ∧ Blk.Is w' p ty sv ∧ Below w.heap.size w w'
theorem St.fresh1 {nx p : Nat} {ty : TypeId} {sv : List SV} {w' : World} (h : St C F M U E a w) (hU : U nx) (hb : Below w.heap.size w w') (hp : w.heap.size ≤ p) (hI : Blk.Is w' p ty sv) : St C F ((nx, .cells ty sv) :: M) (rest U nx) (envWith E nx (some p)) a w' := by
  obtain ⟨cs, hpc, hpi⟩ := hI
  have hnx := h.fresh nx hU
  have hold := envWith_old (x := some p) hnx
  have hpl : p < w'.heap.size := by
    rcases Nat.lt_or_ge p w'.heap.size with q | q
    · exact q
    · rw [Array.getElem?_eq_none q] at hpc; cases hpc
  have hEp : envWith E nx (some p) nx = some (some p) := by unfold envWith; rw [if_pos rfl]
  have hT : ∀ b, b < w.heap.size → trk C.T0 ((nx, .cells ty sv) :: M) (envWith E nx (some p)) b → trk C.T0 M E b := by
    rintro b hb (⟨id, B', hf, hE⟩ | h0)
    · unfold envWith at hE
      split at hE
      · simp at hE
        omega
      · rename_i he
        rw [find_cons, if_neg he] at hf
        exact .inl ⟨id, B', hf, hE⟩
    · exact .inr h0
  refine h.go hold hT (Chg.of_below hb) hb.os hb.tape hb.output ⟨fun id B' hf => ?_, fun id id' b h1 h2 h3 h4 => ?_⟩ (fun id b hf hE => ?_) (fun k hk => ?_)
  · rw [find_cons] at hf
    split at hf
    · rename_i he
      subst he
      cases hf
      exact .inl ⟨p, hEp, hpl, cs, hpc, hpi _ _ _⟩
    · rcases h.mem.blk id B' hf with ⟨b, h1, h2, h3⟩ | ⟨h1, h2⟩
      · exact .inl ⟨b, hold _ _ h1, Nat.lt_of_lt_of_le h2 hb.size, h3.mono hold hT (Chg.of_below hb) (hb.block b h2)⟩
      · exact .inr ⟨hold _ _ h1, h2⟩
  · have hnp : ∀ j, (find M j).isSome = true → E j = some (some p) → False := fun j f e => by
      obtain ⟨B, hB⟩ := Option.isSome_iff_exists.1 f
      have := (h.mem.at hB e).1
      omega
    rw [find_cons] at h1 h2
    unfold envWith at h3 h4
    by_cases hj : id = nx
    · by_cases hj' : id' = nx
      · rw [hj, hj']
      · exfalso
        rw [if_pos hj] at h3
        rw [if_neg hj'] at h4 h2
        cases h3
        exact hnp id' h2 h4
    · by_cases hj' : id' = nx
      · exfalso
        rw [if_pos hj'] at h4
        rw [if_neg hj] at h3 h1
        cases h4
        exact hnp id h1 h3
      · rw [if_neg hj] at h1 h3
        rw [if_neg hj'] at h2 h4
        exact h.mem.inj id id' b h1 h2 h3 h4
  · rw [find_cons] at hf
    unfold envWith at hE
    by_cases hj : id = nx
    · rw [if_pos hj] at hE
      cases hE
      exact .inl (Nat.le_trans h.kp.chg.size hp)
    · rw [if_neg hj] at hf hE
      exact h.own id b hf hE
  · unfold envWith
    rw [if_neg hk.2]
    exact h.fresh k hk.1
theorem look_one (id j : Nat) (B : Blk) (M : Mem) : find ((id, B) :: M) j = (look [(id, some B)] j).getD (find M j) := by
  rw [find_cons]
  simp only [look]
  cases hb : Nat.beq id j with
  | true =>
    rw [if_pos (Nat.eq_of_beq_eq_true hb).symm]
    rfl
  | false =>
    rw [if_neg fun e => Nat.ne_of_beq_eq_false hb e.symm]
    rfl
theorem DSat.freshC {i id : Nat} {d : Option Tmp} {x : Operand} {f : FuncId} {ats : Array TypeId} {type ty : TypeId} {sv : List SV} {pos : String} {after : Array Edge} {full rest : List Oper} {F0 : Tr} {M0 : Mem} {ids0 : List Nat} {hist : List Ent}
    (hspec : FreshF C.P f ty sv) (hx : argsF C.Γ F x [] = some (f, [])) (hc : callable C.P f = true) (hp : putD C.N F d (some (.ptr id 0)) some = some F')
    (h : DSat C Q0 k full F0 M0 ids0 (i + 1) (⟨i, d, some (.ptr id 0), some id, [(id, some (.cells ty sv))], [], false⟩ :: hist) rest F' ((id, .cells ty sv) :: M) ids) :
    DSat C Q0 k full F0 M0 ids0 i hist (⟨d, .call ⟨.value x, ⟨[]⟩, ats⟩, type, pos, after, none⟩ :: rest) F M (id :: ids) := by
  intro D
  obtain ⟨F1, h1, h2⟩ := putD_inv hp
  cases h1
  obtain ⟨p1, p2⟩ := putD_get h2
  refine h (D.step (fun ho Q K Fa Ma U E a w q1 q2 _ q3 hst hK => ?_) rfl rfl p2 (fun j => look_one id j _ M) rfl)
  refine wpOp_plain ho rfl ?_
  unfold Oper.wp
  obtain ⟨vs, ht, hex⟩ := argsF_ok hst.vw (argsF_le (looks_le (F := F) q1 fun _ => rfl) hx)
  cases ht
  rw [hex, run_callFunc_go hc]
  refine (hspec w).mono ?_
  rintro e w' ⟨p, rfl, hpn, hI, hb⟩
  obtain ⟨F2, hF2⟩ := tr_put Fa d (some (.ptr id 0))
  have hst2 := hst.fresh1 (q3 id rfl) hb hpn hI
  exact hK F2 _ _ _ _ w' hF2 (fun j => look_one id j _ Ma) (fun k => by constructor <;> rintro ⟨x, y⟩ <;> exact ⟨x, fun e => y (by first | (cases e; rfl) | (rw [e]))⟩) (hst2.putG p1 hF2 fun s' hs' => by cases hs'; exact .ptr id 0 p (by unfold envWith; rw [if_pos rfl]))
end
end Go.Proofs.YtcnpgmohnclojaaDoor.V
end
section
namespace Go.Proofs.YtcnpgmohnclojaaDoor
open Go.RowKit V
set_option maxRecDepth 100000
set_option maxHeartbeats 4000000
set_option linter.unusedSimpArgs false
@[reducible] def tabR (l : List Nat) (t : Nat) : List SV := [.arr 256 (.ints .i64 (castL l)), .int .i64 (t : Int)]
attribute [local irreducible] V.Sat V.DSat
theorem sawR_spec (q : List Nat) (t : Nat) (hp : Rc.Tab q t) (c : UInt8) : MFun Tryd.prog [] 31 [.int .u8 (c.toNat : Int)] 69 (tabR q t) (tabR (Rc.sawT (q, t) c).1 (Rc.sawT (q, t) c).2) (.tup []) := by
  refine MFun.mk 6 Tryd.func31 rfl Tryd.ntmps31 rfl rfl fun hf hg T w b hT hTb => ?_
  clear hf hg
  have hc : c.toNat < 256 := c.toNat_lt
  have hlen : (castL q).length = 256 := by rw [castL_len, hp.len]
  have hv : (castL q).getD ((c.toNat : Int)).toNat 0 = (q.getD c.toNat 0 : Nat) := castL_get q c.toNat (by rw [hp.len]; exact hc)
  have hle := tab_le hp c.toNat hc
  have hb := hp.big
  have hset : Hd ((castL q).set ((c.toNat : Int)).toNat ((castL q).getD ((c.toNat : Int)).toNat 0 + 32) = castL (q.set c.toNat (q.getD c.toNat 0 + 32))) := ⟨by
    rw [hv, Int.toNat_natCast]
    exact castL_set q c.toNat (q.getD c.toNat 0 + 32)⟩
  have hQ : (q.set c.toNat (q.getD c.toNat 0 + 32)).length = 256 := by rw [List.length_set, hp.len]
  have hQv : ∀ i, i < 256 → (q.set c.toNat (q.getD c.toNat 0 + 32)).getD i 0 ≤ 65568 := fun i hi => by
    rw [Rc.getD_set _ _ _ _ (by rw [hp.len]; exact hc)]
    have := tab_le hp i hi
    split <;> omega
  have hvn : (castL q).getD ((c.toNat : Int)).toNat 0 ≤ 65536 ∧ 0 ≤ (castL q).getD ((c.toNat : Int)).toNat 0 := by rw [hv]; omega
  have e1 : Hd (t + 32 ≤ 65536 → Rc.sawT (q, t) c = (q.set c.toNat (q.getD c.toNat 0 + 32), t + 32)) := ⟨fun hk => by
    unfold Rc.sawT
    rw [if_pos hk]⟩
  have e2 : Hd (¬ t + 32 ≤ 65536 → Rc.sawT (q, t) c = ((q.set c.toNat (q.getD c.toNat 0 + 32)).map half, Rc.sumN ((q.set c.toNat (q.getD c.toNat 0 + 32)).map half))) := ⟨fun hk => by
    unfold Rc.sawT
    rw [if_neg hk]
    rfl⟩
  repeat' (first
      | ((with_reducible apply Sat.run (X := XU)); exact rfl; (first | exact True.intro | (fail) | skip))
      | ((with_reducible apply Sat.drawn); kernel_rfl)
      | ((with_reducible apply DSat.run (X := XU)); exact rfl; (first | exact True.intro | (fail) | skip))
      | ((with_reducible apply DSat.fin); kernel_rfl) | fail)
  · exact .cons (by show c.toNat < (castL q).length; omega) (.cons ⟨by omega, by omega⟩ (.cons (inR_i64 (by omega) (by omega)) (.cons (by show c.toNat < (castL q).length; omega) (.cons ⟨by omega, by omega⟩ .nil))))
  · exact .cons (inR_i64 (by omega) (by omega)) .nil
  rw [hset.h]
  generalize q.set c.toNat (q.getD c.toNat 0 + 32) = Q at *
  with_reducible apply Sat.cond_p
  · exact rfl
  · intro h
    rw [e1.h (by omega)]
    repeat' (first
        | ((with_reducible apply Sat.run (X := XU)); exact rfl; (first | exact True.intro | (fail) | skip))
        | ((with_reducible apply Sat.drawn); kernel_rfl)
        | ((with_reducible apply DSat.run (X := XU)); exact rfl; (first | exact True.intro | (fail) | skip))
        | ((with_reducible apply DSat.fin); kernel_rfl) | fail)
    exact Sat.mfin (Sat.mend0 hT rfl rfl (.cons _ _ _ _ (.refl _ (by first | trivial | exact pur)) (.cons _ _ _ _ (.refl _ trivial) .nil)) (.inl rfl) rfl) rfl rfl
  · intro h
    rw [e2.h (by omega)]
    repeat' (first
        | ((with_reducible apply Sat.run (X := XU)); exact rfl; (first | exact True.intro | (fail) | skip))
        | ((with_reducible apply Sat.drawn); kernel_rfl)
        | ((with_reducible apply DSat.run (X := XU)); exact rfl; (first | exact True.intro | (fail) | skip))
        | ((with_reducible apply DSat.fin); kernel_rfl) | fail)
    apply Sat.loop (α := Nat) (fun x => x ≤ 256) (fun x => 256 - x) 0 (fun x => [(4, .int .i64 (x : Int))]) (fun x => [(0, .cells 69 [.arr 256 (.ints .i64 (castL (halfL Q x))), .int .i64 (Rc.sumN ((Q.take x).map half) : Int)])]) [] [] 0
    · intro x; exact rfl
    · intro x; exact rfl
    · exact rfl
    · exact rfl
    · ((repeat' (first | exact AllP.nil | with_reducible refine AllP.cons ?_ ?_)) <;> first | exact rfl | exact trivial | exact Int.natCast_add_one _ | exact ⟨rfl, rfl⟩ | exact ⟨rfl, rfl, rfl⟩ | exact ⟨rfl, rfl, rfl, rfl⟩ | exact ⟨rfl, .inl rfl⟩ | exact ⟨rfl, .inr rfl⟩ | exact pur | (intro _; exact rfl) | (intro _; exact trivial) | (intro _; exact pur))
    · exact Nat.zero_le _
    rintro x x1
    by_cases hx : x < 256
    · have hcc : (x : Int) < 256 := by omega
      have hl2 : (castL (halfL Q x)).length = 256 := by rw [castL_len, halfL_len, hQ]
      have hgx : (castL (halfL Q x)).getD ((x : Int)).toNat 0 = (Q.getD x 0 : Nat) := by
        rw [Int.toNat_natCast, castL_get _ _ (by rw [halfL_len, hQ]; exact hx)]
        unfold halfL
        rw [List.getD_eq_getElem?_getD, List.getElem?_append_right (by rw [List.length_map, List.length_take]; omega), List.length_map, List.length_take, hQ, Nat.min_eq_left (by omega), Nat.sub_self, List.getElem?_drop, Nat.add_zero, ← List.getD_eq_getElem?_getD]
      have hQx := hQv x hx
      have hdiv : Hd (((castL (halfL Q x)).getD ((x : Int)).toNat 0 + 1) / 2 = ((half (Q.getD x 0) : Nat) : Int)) := ⟨by
        rw [hgx]
        unfold half
        omega⟩
      have hset2 : Hd ((castL (halfL Q x)).set ((x : Int)).toNat ((half (Q.getD x 0) : Nat) : Int) = castL (halfL Q (x + 1))) := ⟨by
        rw [Int.toNat_natCast, castL_set, halfL_step Q x (by omega)]⟩
      have hget2 : Hd ((castL (halfL Q (x + 1))).getD ((x : Int)).toNat 0 = ((half (Q.getD x 0) : Nat) : Int)) := ⟨by
        rw [← hset2.h, Int.toNat_natCast]
        simp only [List.getD_eq_getElem?_getD, List.getElem?_set_self (show x < (castL (halfL Q x)).length by omega), Option.getD_some]⟩
      have hsum : Hd (Rc.sumN ((Q.take (x + 1)).map half) = Rc.sumN ((Q.take x).map half) + half (Q.getD x 0)) := ⟨halfL_sum Q x (by omega)⟩
      have hsm : Hd (Rc.sumN ((Q.take x).map half) ≤ 65536 * 256) := ⟨by
        have h1 := sum_half_le Q hQ hQv x x1
        omega⟩
      have hhf : Hd (half (Q.getD x 0) ≤ 65536) := ⟨by unfold half; omega⟩
      repeat' (first
          | ((with_reducible apply Sat.cond_pt); exact rfl; exact hcc)
          | ((with_reducible apply Sat.run (X := XU)); exact rfl; (first | exact True.intro | (fail) | skip))
          | ((with_reducible apply Sat.drawn); kernel_rfl)
          | ((with_reducible apply DSat.run (X := XU)); exact rfl; (first | exact True.intro | (fail) | skip))
          | ((with_reducible apply DSat.fin); kernel_rfl) | fail)
      · rw [hgx]
        exact .cons (by show x < (castL (halfL Q x)).length; omega) (.cons ⟨by omega, by omega⟩ (.cons ⟨by omega, by omega⟩ (.cons (inR_i64 (by omega) (by omega)) (.cons (by show x < (castL (halfL Q x)).length; omega) (.cons ⟨by omega, by omega⟩ .nil)))))
      · have hsm := hsm.h
        have hhf := hhf.h
        rw [hdiv.h, hset2.h, hget2.h]
        exact .cons (inR_i64 (by omega) (by omega)) (.cons (by show x < (castL (halfL Q (x + 1))).length; rw [castL_len, halfL_len, hQ]; exact hx) (.cons ⟨by omega, by omega⟩ .nil))
      · exact .cons (inR_i64 (by omega) (by omega)) .nil
      · rw [hdiv.h, hset2.h, hget2.h]
        refine Sat.back (x + 1) [] rfl ?_ ?_ ?_
        · ((repeat' (first | exact AllP.nil | with_reducible refine AllP.cons ?_ ?_)) <;> first | exact rfl | exact trivial | exact Int.natCast_add_one _ | exact ⟨rfl, rfl⟩ | exact ⟨rfl, rfl, rfl⟩ | exact ⟨rfl, rfl, rfl, rfl⟩ | exact ⟨rfl, .inl rfl⟩ | exact ⟨rfl, .inr rfl⟩ | exact pur | (intro _; exact rfl) | (intro _; exact trivial) | (intro _; exact pur) | (rw [hsum.h]; exact rfl))
        · exact hx
        · omega
    · obtain rfl : x = 256 := by omega
      repeat' (first
          | ((with_reducible apply Sat.run (X := XU)); exact rfl; (first | exact True.intro | (exact phi) | skip))
          | ((with_reducible apply Sat.drawn); kernel_rfl)
          | ((with_reducible apply DSat.run (X := XU)); exact rfl; (first | exact True.intro | (exact phi) | skip))
          | ((with_reducible apply DSat.fin); kernel_rfl)
          | ((with_reducible apply Sat.cond_t); exact rfl)
          | ((with_reducible apply Sat.cond_f); exact rfl)
          | ((with_reducible apply Sat.cond_pt); exact rfl; (try dsimp only [V.EV.sub, V.EV.len]); first | assumption | omega)
          | ((with_reducible apply Sat.cond_pf); exact rfl; (try dsimp only [V.EV.sub, V.EV.len]); first | assumption | omega)
          | ((with_reducible apply Sat.cond_p); exact rfl; all_goals intro h)
          | ((with_reducible apply Sat.cond); exact rfl; all_goals intro h) | fail)
      have hh : halfL Q 256 = Q.map half := by unfold halfL; rw [List.take_of_length_le (by omega), List.drop_eq_nil_of_le (by omega), List.append_nil]
      have ht : Q.take 256 = Q := List.take_of_length_le (by omega)
      refine Sat.mfin (Sat.mend0 hT rfl rfl (.cons _ _ _ _ (.refl _ (by first | trivial | exact pur)) (.cons _ _ _ _ (.refl _ trivial) .nil)) (.inr rfl) rfl) rfl ?_
      show tabR (Q.map half) (Rc.sumN (Q.map half)) = tabR (halfL Q 256) (Rc.sumN ((Q.take 256).map half))
      rw [hh, ht]
theorem befR_spec (l : List Nat) (t : Nat) (hp : Rc.Tab l t) (c : UInt8) : MFun Tryd.prog [] 28 [.int .u8 (c.toNat : Int)] 69 (tabR l t) (tabR l t) (.int .i64 (Rc.bef l c.toNat : Nat)) := by
  refine MFun.mk 6 Tryd.func28 rfl Tryd.ntmps28 rfl rfl fun hf hg T w b hT hTb => ?_
  clear hf hg
  have hc : c.toNat < 256 := c.toNat_lt
  have hlc : (castL l).length = 256 := by rw [castL_len, hp.len]
  have hbig := hp.big
  repeat' (first
      | ((with_reducible apply Sat.run (X := XU)); exact rfl; (first | exact True.intro | (fail) | skip))
      | ((with_reducible apply Sat.drawn); kernel_rfl)
      | ((with_reducible apply DSat.run (X := XU)); exact rfl; (first | exact True.intro | (fail) | skip))
      | ((with_reducible apply DSat.fin); kernel_rfl) | fail)
  apply Sat.loop (α := Nat) (fun x => x ≤ c.toNat) (fun x => c.toNat - x) 0 (fun x => [(6, .int .i64 (x : Int)), (5, .int .i64 (Rc.bef l x : Nat))]) (fun _ => []) [] [] 0
  · intro x; exact rfl
  · intro x; exact rfl
  · exact rfl
  · exact rfl
  · ((repeat' (first | exact AllP.nil | with_reducible refine AllP.cons ?_ ?_)) <;> first | exact rfl | exact trivial | exact Int.natCast_add_one _ | exact ⟨rfl, rfl⟩ | exact ⟨rfl, rfl, rfl⟩ | exact ⟨rfl, rfl, rfl, rfl⟩ | exact ⟨rfl, .inl rfl⟩ | exact ⟨rfl, .inr rfl⟩ | exact pur | (intro _; exact rfl) | (intro _; exact trivial) | (intro _; exact pur))
  · exact Nat.zero_le _
  intro x hx
  have hbx : Rc.bef l x ≤ t := by rw [hp.tot]; exact Rc.bef_le _ _
  by_cases hxc : x < c.toNat
  · have hcc : (x : Int) < (c.toNat : Int) := by omega
    have hg : Hd ((castL l).getD (x : Int).toNat 0 = (l.getD x 0 : Nat)) := ⟨by rw [Int.toNat_natCast]; exact castL_get _ _ (by rw [hp.len]; omega)⟩
    have hle := tab_le hp x (by omega)
    have hbs := Rc.bef_succ l x (by rw [hp.len]; omega)
    repeat' (first
        | ((with_reducible apply Sat.cond_pt); exact rfl; exact hcc)
        | ((with_reducible apply Sat.run (X := XU)); exact rfl; (first | exact True.intro | (fail) | skip))
        | ((with_reducible apply Sat.drawn); kernel_rfl)
        | ((with_reducible apply DSat.run (X := XU)); exact rfl; (first | exact True.intro | (fail) | skip))
        | ((with_reducible apply DSat.fin); kernel_rfl) | fail)
    · rw [hg.h]
      exact .cons (inR_i64 (by omega) (by omega)) (.cons (inR_i64 (by omega) (by omega)) (.cons (by show x < (castL l).length; omega) (.cons ⟨by omega, by omega⟩ .nil)))
    · rw [hg.h]
      refine Sat.back (x + 1) [] rfl ?_ ?_ ?_
      · ((repeat' (first | exact AllP.nil | with_reducible refine AllP.cons ?_ ?_)) <;> first | exact rfl | exact trivial | exact Int.natCast_add_one _ | exact ⟨rfl, rfl⟩ | exact ⟨rfl, rfl, rfl⟩ | exact ⟨rfl, rfl, rfl, rfl⟩ | exact ⟨rfl, .inl rfl⟩ | exact ⟨rfl, .inr rfl⟩ | exact pur | (intro _; exact rfl) | (intro _; exact trivial) | (intro _; exact pur) | (rw [hbs]; exact (Int.natCast_add ..).symm))
      · exact hxc
      · omega
  · obtain rfl : x = c.toNat := by omega
    repeat' (first
        | ((with_reducible apply Sat.cond_pf); exact rfl; omega)
        | ((with_reducible apply Sat.run (X := XU)); exact rfl; (first | exact True.intro | (fail) | skip))
        | ((with_reducible apply Sat.drawn); kernel_rfl)
        | ((with_reducible apply DSat.run (X := XU)); exact rfl; (first | exact True.intro | (fail) | skip))
        | ((with_reducible apply DSat.fin); kernel_rfl) | fail)
    exact Sat.mfin (Sat.mend1 hT rfl rfl trivial rfl (.cons _ _ _ _ (.refl _ (by first | trivial | exact pur)) (.cons _ _ _ _ (.refl _ trivial) .nil)) (.refl _ trivial) (.inl rfl) rfl) rfl rfl
theorem findR_spec (l : List Nat) (t : Nat) (hp : Rc.Tab l t) (r a : Nat) (hr : r * t ≤ 4294967295) (ha : a < 4294967296) : MFun Tryd.prog [] 27 [.int .i64 (r : Int), .int .i64 (a : Int)] 69 (tabR l t) (tabR l t) (.int .u8 (Rc.findC l r a 0 : Nat)) := by
  refine MFun.mk 6 Tryd.func27 rfl Tryd.ntmps27 rfl rfl fun hf hg T w b hT hTb => ?_
  clear hf hg
  have hlc : (castL l).length = 256 := by rw [castL_len, hp.len]
  have hbig := hp.big
  repeat' (first
      | ((with_reducible apply Sat.run (X := XU)); exact rfl; (first | exact True.intro | (fail) | skip))
      | ((with_reducible apply Sat.drawn); kernel_rfl)
      | ((with_reducible apply DSat.run (X := XU)); exact rfl; (first | exact True.intro | (fail) | skip))
      | ((with_reducible apply DSat.fin); kernel_rfl) | fail)
  apply Sat.loop (α := Nat) (fun x => x ≤ 255 ∧ Hd (Rc.findC l r a x = Rc.findC l r a 0)) (fun x => 255 - x) 0 (fun x => [(8, .int .i64 (x : Int)), (7, .int .i64 (Rc.bef l x : Nat))]) (fun _ => []) [] [] 0
  · intro x; exact rfl
  · intro x; exact rfl
  · exact rfl
  · exact rfl
  · ((repeat' (first | exact AllP.nil | with_reducible refine AllP.cons ?_ ?_)) <;> first | exact rfl | exact trivial | exact Int.natCast_add_one _ | exact ⟨rfl, rfl⟩ | exact ⟨rfl, rfl, rfl⟩ | exact ⟨rfl, rfl, rfl, rfl⟩ | exact ⟨rfl, .inl rfl⟩ | exact ⟨rfl, .inr rfl⟩ | exact pur | (intro _; exact rfl) | (intro _; exact trivial) | (intro _; exact pur))
  · exact ⟨Nat.zero_le _, ⟨rfl⟩⟩
  rintro x ⟨hx, hf⟩
  have hbx : Rc.bef l (x + 1) ≤ t := by rw [hp.tot]; exact Rc.bef_le _ _
  obtain ⟨RN, hRN⟩ : ∃ RN, RN = r * Rc.bef l (x + 1) := ⟨_, rfl⟩
  have hRN2 : RN ≤ 4294967295 := by rw [hRN]; exact Nat.le_trans (Nat.mul_le_mul_left _ hbx) hr
  by_cases hxc : x < 255
  · have hcc : (x : Int) < 255 := by omega
    have hbs := Rc.bef_succ l x (by rw [hp.len]; omega)
    have hg : Hd ((Rc.bef l x : Int) + (castL l).getD (x : Int).toNat 0 = (Rc.bef l (x + 1) : Nat)) := ⟨by rw [Int.toNat_natCast, castL_get _ _ (by rw [hp.len]; omega), hbs]; exact (Int.natCast_add ..).symm⟩
    have hm : Hd ((r : Int) * (Rc.bef l (x + 1) : Nat) = (RN : Int)) := ⟨by rw [hRN, Int.natCast_mul]⟩
    repeat' (first
        | ((with_reducible apply Sat.cond_pt); exact rfl; exact hcc)
        | ((with_reducible apply Sat.run (X := XU)); exact rfl; (first | exact True.intro | (fail) | skip))
        | ((with_reducible apply Sat.drawn); kernel_rfl)
        | ((with_reducible apply DSat.run (X := XU)); exact rfl; (first | exact True.intro | (fail) | skip))
        | ((with_reducible apply DSat.fin); kernel_rfl) | fail)
    · rw [hg.h, hm.h]
      ((repeat' (first | exact AllP.nil | with_reducible refine AllP.cons ?_ ?_)) <;> first | exact rfl | exact trivial | (show x < (castL l).length; omega) | (apply inR_i64 <;> omega) | (apply inR_u64 <;> omega) | (apply inR_u32 <;> omega) | (apply inR_u8' <;> omega) | omega | (repeat' (with_reducible apply And.intro)) <;> (first | omega | exact rfl | decide))
    rw [hg.h, hm.h]
    with_reducible apply Sat.cond_p
    · exact rfl
    · intro h
      have hfx : Rc.findC l r a 0 = x := by
        rw [← hf.h, Rc.findC, if_neg]
        rintro ⟨q1, q2⟩
        rw [← hRN] at q2
        omega
      have hwx : IntKind.u8.wrap (x : Int) = (x : Int) := by
        simp [IntKind.wrap, IntKind.signed, IntKind.bits]
        omega
      repeat' (first
          | ((with_reducible apply Sat.run (X := XU)); exact rfl; (first | exact True.intro | (fail) | skip))
          | ((with_reducible apply Sat.drawn); kernel_rfl)
          | ((with_reducible apply DSat.run (X := XU)); exact rfl; (first | exact True.intro | (fail) | skip))
          | ((with_reducible apply DSat.fin); kernel_rfl) | fail)
      rw [hwx]
      refine Sat.mfin (Sat.mend1 hT rfl rfl trivial rfl (.cons _ _ _ _ (.refl _ (by first | trivial | exact pur)) (.cons _ _ _ _ (.refl _ trivial) .nil)) (.refl _ trivial) (.inl rfl) rfl) ?_ rfl
      rw [hfx]
    · intro h
      repeat' (first
          | ((with_reducible apply Sat.run (X := XU)); exact rfl; (first | exact True.intro | (fail) | skip))
          | ((with_reducible apply Sat.drawn); kernel_rfl)
          | ((with_reducible apply DSat.run (X := XU)); exact rfl; (first | exact True.intro | (fail) | skip))
          | ((with_reducible apply DSat.fin); kernel_rfl) | fail)
      · exact .cons (inR_i64 (by omega) (by omega)) .nil
      · refine Sat.back (x + 1) [] rfl ?_ ⟨?_, ⟨?_⟩⟩ ?_
        · ((repeat' (first | exact AllP.nil | with_reducible refine AllP.cons ?_ ?_)) <;> first | exact rfl | exact trivial | exact Int.natCast_add_one _ | exact ⟨rfl, rfl⟩ | exact ⟨rfl, rfl, rfl⟩ | exact ⟨rfl, rfl, rfl, rfl⟩ | exact ⟨rfl, .inl rfl⟩ | exact ⟨rfl, .inr rfl⟩ | exact pur | (intro _; exact rfl) | (intro _; exact trivial) | (intro _; exact pur))
        · omega
        · have q := hf.h
          rw [Rc.findC, if_pos ⟨hxc, by rw [← hRN]; omega⟩] at q
          exact q
        · omega
  · obtain rfl : x = 255 := by omega
    have hfx : Rc.findC l r a 0 = 255 := by
      rw [← hf.h, Rc.findC, if_neg (fun q => absurd q.1 (by decide))]
    repeat' (first
        | ((with_reducible apply Sat.cond_pf); exact rfl; decide)
        | ((with_reducible apply Sat.run (X := XU)); exact rfl; (first | exact True.intro | (fail) | skip))
        | ((with_reducible apply Sat.drawn); kernel_rfl)
        | ((with_reducible apply DSat.run (X := XU)); exact rfl; (first | exact True.intro | (fail) | skip))
        | ((with_reducible apply DSat.fin); kernel_rfl) | fail)
    refine Sat.mfin (Sat.mend1 hT rfl rfl trivial rfl (.cons _ _ _ _ (.refl _ (by first | trivial | exact pur)) (.cons _ _ _ _ (.refl _ trivial) .nil)) (.refl _ trivial) (.inl rfl) rfl) ?_ rfl
    rw [hfx]
    rfl
end Go.Proofs.YtcnpgmohnclojaaDoor
end
section
namespace Go.Proofs.YtcnpgmohnclojaaDoor
open Go.RowKit V
set_option maxRecDepth 100000
set_option maxHeartbeats 4000000
set_option linter.unusedSimpArgs false
@[reducible] def ptrOf (p : Nat) : Value := .pointer (some ⟨p, 0, none⟩)
theorem V.Blk.Is.lt {w : World} {p : Nat} {ty : TypeId} {sv : List SV} (h : Blk.Is w p ty sv) : p < w.heap.size := by
  obtain ⟨cs, h, _⟩ := h
  rcases Nat.lt_or_ge p w.heap.size with hlt | hge
  · exact hlt
  · rw [Array.getElem?_eq_none hge] at h; cases h
/-- The tables of D, in blocks of their own. -/
structure TabsAt (D : Nat → Prop) (f : Nat → List Nat × Nat) (g : Nat → Nat) (w : World) (S : Nat → Prop) : Prop where
  set : ∀ b, S b ↔ ∃ j, D j ∧ g j = b
  blk : ∀ j, D j → Blk.Is w (g j) 69 (tabR (f j).1 (f j).2)
  inj : ∀ j j', D j → D j' → g j = g j' → j = j'
def TabsT (D : Nat → Prop) (f : Nat → List Nat × Nat) (g : Nat → Nat) : Thing := ⟨TabsAt D f g, fun h b hb => by
  obtain ⟨j, hj, rfl⟩ := (h.set b).1 hb
  exact (h.blk j hj).lt, fun h hk => ⟨h.set, fun j hj => by
    obtain ⟨cs, h1, h2⟩ := h.blk j hj
    exact ⟨cs, (hk _ ((h.set _).2 ⟨j, hj, rfl⟩)).trans h1, h2⟩, h.inj⟩⟩
theorem TabsAt.split {D : Nat → Prop} {f : Nat → List Nat × Nat} {g : Nat → Nat} {S : Nat → Prop} (k : Nat) (hk : D k) (w : World) (h : TabsAt D f g w S) : S (g k) ∧ TabsAt (fun j => D j ∧ j ≠ k) f g w (fun b => S b ∧ b ≠ g k) ∧ Blk.Is w (g k) 69 (tabR (f k).1 (f k).2) := by
  refine ⟨(h.set _).2 ⟨k, hk, rfl⟩, ⟨fun b => ⟨fun ⟨q1, q2⟩ => ?_, fun ⟨j, q1, q2⟩ => ?_⟩, fun j hj => h.blk j hj.1, fun j j' q1 q2 e => h.inj j j' q1.1 q2.1 e⟩, h.blk k hk⟩
  · obtain ⟨j, hj, rfl⟩ := (h.set b).1 q1
    exact ⟨j, ⟨hj, fun e => q2 (by rw [e])⟩, rfl⟩
  · subst q2
    exact ⟨(h.set _).2 ⟨j, q1.1, rfl⟩, fun e => q1.2 (h.inj j k q1.1 hk e)⟩
theorem TabsAt.join {D D' : Nat → Prop} {f f' : Nat → List Nat × Nat} {g g' : Nat → Nat} {S : Nat → Prop} (k p : Nat) (hD : ∀ j, D' j ↔ D j ∨ j = k) (hnk : ¬ D k) (hf : ∀ j, D j → f' j = f j) (hg : ∀ j, D j → g' j = g j) (hp : g' k = p) (w : World) (h : TabsAt D f g w S) (hS : ¬ S p)
    (hb : Blk.Is w p 69 (tabR (f' k).1 (f' k).2)) : TabsAt D' f' g' w (fun b => S b ∨ b = p) := by
  have hnp : ∀ j, D j → g j ≠ p := fun j hj e => hS ((h.set p).2 ⟨j, hj, e⟩)
  refine ⟨fun b => ⟨fun hb => ?_, fun ⟨j, q1, q2⟩ => ?_⟩, fun j hj => ?_, fun j j' q1 q2 e => ?_⟩
  · rcases hb with q | rfl
    · obtain ⟨j, hj, rfl⟩ := (h.set b).1 q
      exact ⟨j, (hD j).2 (.inl hj), hg j hj⟩
    · exact ⟨k, (hD k).2 (.inr rfl), hp⟩
  · subst q2
    rcases (hD j).1 q1 with q | rfl
    · exact .inl ((h.set _).2 ⟨j, q, (hg j q).symm⟩)
    · exact .inr hp
  · rcases (hD j).1 hj with q | rfl
    · rw [hg j q, hf j q]; exact h.blk j q
    · rw [hp]; exact hb
  · rcases (hD j).1 q1 with q | rfl
    · rcases (hD j').1 q2 with q' | rfl
      · rw [hg j q, hg j' q'] at e; exact h.inj j j' q q' e
      · rw [hg j q, hp] at e; exact absurd e (hnp j q)
    · rcases (hD j').1 q2 with q' | rfl
      · rw [hg j' q', hp] at e; exact absurd e.symm (hnp j' q')
      · rfl
attribute [local irreducible] V.Sat V.DSat
theorem fresh_spec : FreshF Tryd.prog 29 69 (tabR Rc.onesN 256) := by
  intro w
  refine raw_mk 6 Tryd.func29 rfl Tryd.ntmps29 rfl rfl w [] .nil ?_
  repeat' (first
      | ((with_reducible apply Sat.run (X := X64)); exact rfl; (first | exact True.intro | (exact phi) | skip))
      | ((with_reducible apply Sat.drawn); kernel_rfl)
      | ((with_reducible apply DSat.run (X := X64)); exact rfl; (first | exact True.intro | (exact phi) | skip))
      | ((with_reducible apply DSat.fin); kernel_rfl)
      | ((with_reducible apply Sat.cond_t); exact rfl)
      | ((with_reducible apply Sat.cond_f); exact rfl)
      | ((with_reducible apply Sat.cond_pt); exact rfl; (try dsimp only [V.EV.sub, V.EV.len]); first | assumption | omega)
      | ((with_reducible apply Sat.cond_pf); exact rfl; (try dsimp only [V.EV.sub, V.EV.len]); first | assumption | omega)
      | ((with_reducible apply Sat.cond_p); exact rfl; all_goals (intro h; (try simp only [V.EV.sub, V.EV.len] at h)))
      | ((with_reducible apply Sat.cond); exact rfl; all_goals (intro h; (try simp only [V.EV.sub, V.EV.len, Bool.cond_true_left, Bool.cond_false_right, Bool.or_eq_true, Bool.and_eq_true, Bool.or_eq_false_iff, Bool.and_eq_false_iff, Bool.not_eq_true', Bool.not_eq_false', decide_eq_true_eq, decide_eq_false_iff_not, ne_eq] at h))) | fail)
  apply Sat.loop (α := Nat) (fun x => x ≤ 256) (fun x => 256 - x) 0 (fun x => [(2, .int .i64 (x : Int))]) (fun x => [(0, .cells 69 [.arr 256 (.ints .i64 (List.replicate x 1 ++ List.replicate (256 - x) 0)), .int .i64 256])]) [] [] 0
  · intro x; exact rfl
  · intro x; exact rfl
  · exact rfl
  · exact rfl
  · (repeat' (first | exact AllP.nil | with_reducible refine AllP.cons ?_ ?_)) <;> first | exact rfl | exact trivial | exact Int.natCast_add_one _
  · exact Nat.zero_le _
  · rintro x x1
    repeat' (first
        | ((with_reducible apply Sat.run (X := X64)); exact rfl; (first | exact True.intro | (exact phi) | skip))
        | ((with_reducible apply Sat.drawn); kernel_rfl)
        | ((with_reducible apply DSat.run (X := X64)); exact rfl; (first | exact True.intro | (exact phi) | skip))
        | ((with_reducible apply DSat.fin); kernel_rfl)
        | ((with_reducible apply Sat.cond_t); exact rfl)
        | ((with_reducible apply Sat.cond_f); exact rfl)
        | ((with_reducible apply Sat.cond_pt); exact rfl; (try dsimp only [V.EV.sub, V.EV.len]); first | assumption | omega)
        | ((with_reducible apply Sat.cond_pf); exact rfl; (try dsimp only [V.EV.sub, V.EV.len]); first | assumption | omega)
        | ((with_reducible apply Sat.cond_p); exact rfl; all_goals (intro h; (try simp only [V.EV.sub, V.EV.len] at h)))
        | ((with_reducible apply Sat.cond); exact rfl; all_goals (intro h; (try simp only [V.EV.sub, V.EV.len, Bool.cond_true_left, Bool.cond_false_right, Bool.or_eq_true, Bool.and_eq_true, Bool.or_eq_false_iff, Bool.and_eq_false_iff, Bool.not_eq_true', Bool.not_eq_false', decide_eq_true_eq, decide_eq_false_iff_not, ne_eq] at h))) | fail)
    · refine Sat.back (x + 1) [] rfl ?_ ?_ ?_
      · (repeat' (first | exact AllP.nil | with_reducible refine AllP.cons ?_ ?_)) <;> first | exact rfl | exact trivial | exact Int.natCast_add_one _ | skip
        refine congrArg _ (List.ext_getElem (by simp; omega) fun i h1 h2 => ?_)
        simp only [Int.toNat_natCast, List.getElem_set, List.getElem_append, List.length_replicate, List.getElem_replicate]
        repeat' split
        all_goals first | rfl | omega
      · omega
      · omega
    · have hx : x = 256 := by omega
      subst hx
      refine raw_end1 rfl rfl (.inl rfl) fun U E a w' v hst hr => ?_
      have hr : Rep E (trk (fun _ => False) [(0, .cells 69 _)] E) w' (.ptr 0 0) v := hr
      cases hr with
      | ptr _ _ b hE =>
        obtain ⟨hlt, cs, h1, h2⟩ := hst.mem.at rfl hE
        refine ⟨b, rfl, (hst.own 0 b rfl hE).elim (fun h => h) fun h => h.elim, ⟨cs, h1, fun E' T' w'' => ?_⟩, hst.post (fun _ h => h)⟩
        rw [tabR, ones_castW]
        exact h2.rigid_ rfl
end Go.Proofs.YtcnpgmohnclojaaDoor
end
section
--PURE: (intro j _; dsimp only; split <;> simp [pureL, pureS, pureE]; done)
namespace Go.Proofs.YtcnpgmohnclojaaDoor
open Go.RowKit V
set_option maxRecDepth 100000
set_option maxHeartbeats 4000000
set_option linter.unusedSimpArgs false
/-- The model's block. -/
@[reducible] def modR (n : Int) (g : Nat → Nat) (c : Int) : List SV := [.int .i64 n, .arr 256 (.g 256 1 fun j => [.val (ptrOf (g j))]), .int .u8 c]
/-- The model as begin makes it. -/
structure BegAt (n : Int) (b : Nat) (g : Nat → Nat) (w : World) (S : Nat → Prop) : Prop where
  blk : Blk.Is w b 74 (modR n g 0)
  tabs : ∃ S0, TabsAt (fun j => j < 256) (fun _ => Rc.T1) g w S0 ∧ ¬ S0 b ∧ ∀ x, S x ↔ S0 x ∨ x = b
def BegT (n : Int) (x : Nat × (Nat → Nat)) : Thing := ⟨BegAt n x.1 x.2, fun h b hb => by
  obtain ⟨S0, h1, h2, h3⟩ := h.tabs
  rcases (h3 b).1 hb with q | rfl
  · exact (TabsT _ _ _).lt h1 b q
  · exact h.blk.lt, fun h hk => by
  obtain ⟨S0, h1, h2, h3⟩ := h.tabs
  obtain ⟨cs, q1, q2⟩ := h.blk
  exact ⟨⟨cs, (hk _ ((h3 _).2 (.inr rfl))).trans q1, q2⟩, S0, (TabsT _ _ _).kept h1 fun b hb => hk b ((h3 b).2 (.inl hb)), h2, h3⟩⟩
/-- While the tables are made. -/
@[reducible] def partR (n : Int) (i : Nat) (g : Nat → Nat) : List SV := [.int .i64 n, .arr 256 (.g 256 1 fun j => if j < i then [.val (ptrOf (g j))] else [.nilp]), .int .u8 0]
theorem arr_map {E E' : Env} {T T' : Nat → Prop} {w w' : World} {n m z : Nat} {f f' : Nat → List SV} (hf : ∀ i cs, i < m → Items E T w (f i) cs → Items E' T' w' (f' i) cs) {v : Value} (h : Rep E T w (.arr n (.g m z f)) v) : Rep E' T' w' (.arr n (.g m z f')) v := by
  cases h with
  | arr _ _ cs c hn hl he h1 hc hr => exact .arr _ _ cs c hn hl he h1 hc fun i hi => hf i _ hi (hr i hi)
theorem mod_map {E E' : Env} {T T' : Nat → Prop} {w w' : World} {n c : Int} {f f' : Nat → List SV} (hf : ∀ i cs, i < 256 → Items E T w (f i) cs → Items E' T' w' (f' i) cs) {cs : List Value} (h : Items E T w [.int .i64 n, .arr 256 (.g 256 1 f), .int .u8 c] cs) : Items E' T' w' [.int .i64 n, .arr 256 (.g 256 1 f'), .int .u8 c] cs := by
  cases h with
  | one _ v _ cs1 h1 h2 h3 =>
    cases h2 with
    | int _ _ hn =>
      refine .one _ _ _ _ rfl (.int _ _ hn) ?_
      cases h3 with
      | one _ _ _ _ h4 => cases h4
      | arr _ _ _ c1 cs2 h5 h6 =>
        refine .arr _ _ _ _ _ (arr_map hf h5) ?_
        cases h6 with
        | one _ v2 _ cs3 h7 h8 h9 =>
          cases h8 with
          | int _ _ hn2 =>
            cases h9
            exact .one _ _ _ _ rfl (.int _ _ hn2) .nil
theorem val_items {E E' : Env} {T T' : Nat → Prop} {w w' : World} {p : Nat} {cs : List Value} (h : Items E T w [.val (ptrOf p)] cs) : Items E' T' w' [.val (ptrOf p)] cs := by
  cases h with
  | one _ v _ cs1 h1 h2 h3 =>
    cases h2
    cases h3
    exact .one _ _ _ _ rfl (.val _) .nil
theorem nil_items {E : Env} {T : Nat → Prop} {w : World} {r : List SV} : ∀ {m : Nat} {cs : List Value}, Items E T w (List.replicate m .nilp ++ r) cs → ∃ cs2, cs = List.replicate m (.pointer none) ++ cs2 ∧ Items E T w r cs2
  | 0, cs, h => ⟨cs, rfl, h⟩
  | m + 1, cs, h => by
    have h : Items E T w (.nilp :: (List.replicate m .nilp ++ r)) cs := h
    cases h with
    | one _ v _ cs1 h1 h2 h3 =>
      cases h2
      obtain ⟨cs2, rfl, h4⟩ := nil_items h3
      exact ⟨cs2, rfl, h4⟩
theorem nil_arr {E : Env} {T : Nat → Prop} {w : World} {m : Nat} {f : Nat → List SV} (hf : ∀ i, i < m → f i = [.nilp]) : Rep E T w (.arr m (.g m 1 f)) (.agg (List.replicate m (Value.pointer none)).toArray) := by
  refine .arr _ _ _ (fun _ => [.pointer none]) (fun _ _ => rfl) (by simp) (Nat.mul_one m) (fun v hv => by rw [(List.mem_replicate.1 hv).2]; rfl) (fun i j v hi hv => ?_) fun i hi => ?_
  · cases j with
    | zero =>
      cases hv
      rw [List.getElem?_replicate, if_pos (by show i * 1 + 0 < m; have : i < m := hi; omega)]
    | succ j => cases hv
  · show Items E T w (f i) _
    rw [hf i hi]
    exact .one _ _ _ _ rfl .nilp .nil
theorem part_none (n : Int) (g : Nat → Nat) {E : Env} {T : Nat → Prop} {w : World} {cs : List Value} (h : Items E T w (.int .i64 n :: (List.replicate 256 .nilp ++ [.int .u8 0])) cs) : Items E T w (partR n 0 g) cs := by
  cases h with
  | one _ v _ cs1 h1 h2 h3 =>
    cases h2 with
    | int _ _ hn =>
      obtain ⟨cs2, rfl, h4⟩ := nil_items h3
      exact .one _ _ _ _ rfl (.int _ _ hn) (.arr _ _ _ _ _ (nil_arr fun i _ => if_neg (Nat.not_lt_zero i)) h4)
theorem mod_items {E : Env} {T : Nat → Prop} {w : World} {n : Int} {g : Nat → Nat} {c : Int} {cs : List Value} (h : Items E T w (modR n g c) cs) (E' : Env) (T' : Nat → Prop) (w' : World) : Items E' T' w' (modR n g c) cs :=
  mod_map (fun _ _ _ h => val_items h) h
theorem part_full (n : Int) (g : Nat → Nat) {E : Env} {T : Nat → Prop} {w : World} {cs : List Value} (h : Items E T w (partR n 256 g) cs) : Items E T w (modR n g 0) cs := by
  refine mod_map (fun i cs hi h => ?_) h
  rw [if_pos hi] at h
  exact h
theorem part_step (i p : Nat) (g : Nat → Nat) {E : Env} {T : Nat → Prop} {w : World} (hE : E 1 = some (some p)) (j : Nat) {cs : List Value} (h : Items E T w (if j = (i : Int).toNat then [.ptr 1 0] else if j < i then [.val (ptrOf (g j))] else [.nilp]) cs) :
    Items E T w (if j < i + 1 then [.val (ptrOf (if j = i then p else g j))] else [.nilp]) cs := by
  by_cases h1 : j = i
  · subst h1
    rw [if_pos (by omega)] at h
    rw [if_pos (by omega), if_pos rfl]
    cases h with
    | one _ v _ cs1 h1 h2 h3 =>
      cases h2 with
      | ptr _ _ b hb =>
        rw [hE] at hb
        cases hb
        cases h3
        exact .one _ _ _ _ rfl (.val _) .nil
  · rw [if_neg (by omega)] at h
    rw [if_neg h1]
    by_cases h2 : j < i
    · rw [if_pos h2] at h
      rw [if_pos (by omega)]
      exact h
    · rw [if_neg h2] at h
      rw [if_neg (by omega)]
      exact h
attribute [local irreducible] V.Sat V.DSat
theorem begin_R (n : Nat) (hn : n < 3) (w : World) : Calls Tryd.prog 18 #[.int .i64 (n : Int)] w fun e w' => ∃ (x : Nat × (Nat → Nat)) (Sm : Nat → Prop), e = .returned (ptrOf x.1) ∧ (BegT (n : Int) x).own w' Sm ∧ Below w.heap.size w w' ∧ ∀ b, Sm b → w.heap.size ≤ b := by
  refine raw_mk 6 Tryd.func18 rfl Tryd.ntmps18 rfl rfl w [.int .i64 (n : Int)] (.cons _ _ _ _ (.int _ _ (inR_i64 (by omega) (by omega))) .nil) ?_
  repeat' (first
      | ((with_reducible apply Sat.run (X := X64)); exact rfl; (first | exact True.intro | (exact phi) | skip))
      | ((with_reducible apply Sat.drawn); kernel_rfl)
      | ((with_reducible apply DSat.run (X := X64)); exact rfl; (first | exact True.intro | (exact phi) | skip))
      | ((with_reducible apply DSat.fin); kernel_rfl)
      | ((with_reducible apply Sat.cond_t); exact rfl)
      | ((with_reducible apply Sat.cond_f); exact rfl)
      | ((with_reducible apply Sat.cond_pt); exact rfl; (try dsimp only [V.EV.sub, V.EV.len]); first | assumption | omega)
      | ((with_reducible apply Sat.cond_pf); exact rfl; (try dsimp only [V.EV.sub, V.EV.len]); first | assumption | omega)
      | ((with_reducible apply Sat.cond_p); exact rfl; all_goals (intro h; (try simp only [V.EV.sub, V.EV.len] at h)))
      | ((with_reducible apply Sat.cond); exact rfl; all_goals (intro h; (try simp only [V.EV.sub, V.EV.len, Bool.cond_true_left, Bool.cond_false_right, Bool.or_eq_true, Bool.and_eq_true, Bool.or_eq_false_iff, Bool.and_eq_false_iff, Bool.not_eq_true', Bool.not_eq_false', decide_eq_true_eq, decide_eq_false_iff_not, ne_eq] at h))) | fail)
  refine Sat.recell (pos := .code _ _) (id := 0) (ty := 74) (sv' := partR (n : Int) 0 fun _ => 0) (fun _ => True) (fun _ _ _ _ _ => trivial) rfl (fun _ _ _ _ _ h => part_none _ _ h) rfl ?_
  refine Sat.atX (pos := .code _ _) ⟨rfl, rfl, rfl, fun _ h => h.elim⟩ fun W S hat => ?_
  apply Sat.loopX (α := Nat × (Nat → Nat)) (fun x => TabsT (fun j => j < x.1) (fun _ => Rc.T1) x.2) (fun x => x.1 ≤ 256) (fun x => 256 - x.1) (0, fun _ => 0) (fun x => [(4, .int .i64 (x.1 : Int))]) (fun x => [(0, .cells 74 (partR n x.1 x.2))]) [] [] 0
  · intro x; exact rfl
  · intro x; exact rfl
  · exact rfl
  · exact rfl
  · (repeat' (first | exact AllP.nil | with_reducible refine AllP.cons ?_ ?_)) <;> first | exact rfl | exact trivial | (intro j _; dsimp only; split <;> simp [pureL, pureS, pureE]; done)
  · exact Nat.zero_le _
  · exact ⟨hat.kp, hat.sp, ⟨fun b => ⟨fun h => h.elim, fun ⟨j, hj, _⟩ => absurd hj (Nat.not_lt_zero j)⟩, fun j hj => absurd hj (Nat.not_lt_zero j), fun j _ hj => absurd hj (Nat.not_lt_zero j)⟩, hat.new⟩
  rintro ⟨i, g⟩ W S Sm hi hat
  dsimp only at hi hat ⊢
  have htop : Top ⟨Tryd.prog, w, fun _ => False, fun _ => False, [], 19, [], [], false⟩ := ⟨rfl, rfl, rfl, fun _ h => h.elim⟩
  repeat' (first
      | ((with_reducible apply Sat.drawnL); kernel_rfl; exact rfl; kernel_rfl)
      | ((with_reducible apply Sat.run (X := X64)); exact rfl; (first | exact True.intro | (exact phi) | skip))
      | ((with_reducible apply Sat.drawn); kernel_rfl)
      | ((with_reducible apply DSat.run (X := X64)); exact rfl; (first | exact True.intro | (exact phi) | skip))
      | ((with_reducible apply DSat.fin); kernel_rfl)
      | ((with_reducible apply Sat.cond_t); exact rfl)
      | ((with_reducible apply Sat.cond_f); exact rfl)
      | ((with_reducible apply Sat.cond_pt); exact rfl; (try dsimp only [V.EV.sub, V.EV.len]); first | assumption | omega)
      | ((with_reducible apply Sat.cond_pf); exact rfl; (try dsimp only [V.EV.sub, V.EV.len]); first | assumption | omega)
      | ((with_reducible apply Sat.cond_p); exact rfl; all_goals (intro h; (try simp only [V.EV.sub, V.EV.len] at h)))
      | ((with_reducible apply Sat.cond); exact rfl; all_goals (intro h; (try simp only [V.EV.sub, V.EV.len, Bool.cond_true_left, Bool.cond_false_right, Bool.or_eq_true, Bool.and_eq_true, Bool.or_eq_false_iff, Bool.and_eq_false_iff, Bool.not_eq_true', Bool.not_eq_false', decide_eq_true_eq, decide_eq_false_iff_not, ne_eq] at h)))
      | (refine DSat.freshC fresh_spec rfl (by kernel_rfl) rfl ?_)
      | (with_reducible apply Sat.lastD) | fail)
  · have hlt : i < 256 := by omega
    refine Sat.learnX (pos := .ext _ _) 1 69 (tabR Rc.onesN 256) rfl htop hat fun p W' S' hat' => ?_
    refine Sat.recell (pos := .ext _ _) (id := 0) (ty := 74) (sv' := partR (n : Int) (i + 1) fun j => if j = i then p else g j) (fun E => E 1 = some (some p)) (fun _ _ _ _ h => h.pinned (List.mem_cons_self ..)) rfl (fun _ _ _ _ hE h => mod_map (fun j cs hj h => part_step i p g hE j h) h) rfl ?_
    show Sat _ _ (.ext _ _ _ _ _)
    refine Sat.giveX (pos := .ext _ _) (TabsT (fun j => j < i + 1) (fun _ => Rc.T1) fun j => if j = i then p else g j) 1 p 69 (tabR Rc.onesN 256) [] htop hat' (List.mem_cons_self ..) (fun q hq => by cases hq) ?_ rfl (fun _ h => h) (fun w' h1 h2 h3 _ => TabsAt.join (D := fun j => j < i) (D' := fun j => j < i + 1) (f' := fun _ => Rc.T1) (g' := fun j => if j = i then p else g j) i p (fun j => by omega) (Nat.lt_irrefl i) (fun _ _ => rfl) (fun j hj => if_neg (by omega)) (if_pos rfl) w' h1 h2 h3) fun W2 S2 hat2 => ?_
    · exact rfl
    refine Sat.backX (i + 1, fun j => if j = i then p else g j) [] rfl ?_ hat2 (by show i + 1 ≤ 256; omega) (by show 256 - (i + 1) < 256 - i; omega)
    (repeat' (first | exact AllP.nil | with_reducible refine AllP.cons ?_ ?_)) <;> first | exact rfl | exact trivial | exact Int.natCast_add_one _ | (intro j _; dsimp only; split <;> simp [pureL, pureS, pureE]; done) | skip
  · have hx : i = 256 := by omega
    subst hx
    refine raw_end1 rfl rfl (.inl rfl) fun U E a w' v hst hr => ?_
    have hr : Rep E (trk (hidX _ Sm) [(0, .cells 74 _)] E) w' (.ptr 0 0) v := hr
    cases hr with
    | ptr _ _ b hE =>
      obtain ⟨hlt, cs, h1, h2⟩ := hst.mem.at rfl hE
      have hk := Kp.trans hat.kp hst.kp hat.sp
      have hown := hat.here htop hst
      have hbm : w.heap.size ≤ b := (hat.mine hst b ⟨0, _, rfl, hE⟩).elim (fun h => h) fun h => h.elim
      have hbS : ¬ Sm b := fun q => hst.apart rfl 0 b rfl hE (.inr q)
      exact ⟨(b, g), fun x => Sm x ∨ x = b, rfl, ⟨⟨cs, h1, mod_items (part_full _ _ h2)⟩, Sm, hown, hbS, fun _ => Iff.rfl⟩, ⟨hk.os, hk.tape, hk.output, hk.chg.size, fun q hq => hk.chg.keep q hq fun h => h⟩, fun q hq => hq.elim (hat.new q) fun e => e ▸ hbm⟩
end Go.Proofs.YtcnpgmohnclojaaDoor
end
section
namespace Go.Proofs.YtcnpgmohnclojaaDoor
namespace Rc
set_option maxRecDepth 10000
/-- Two models that do the same. -/
structure Sim (A B : Mdl) (r : A.σ → B.σ → Prop) : Prop where
  l : ∀ s s', r s s' → A.l s = B.l s'
  t : ∀ s s', r s s' → A.t s = B.t s'
  saw : ∀ s s' c, r s s' → r (A.saw s c) (B.saw s' c)
theorem Sim.enc {A B : Mdl} {r : A.σ → B.σ → Prop} (h : Sim A B r) : ∀ (x : List UInt8) (s : A.σ) (s' : B.σ) (e : Enc), r s s' → encS A s e x = encS B s' e x
  | [], _, _, _, _ => rfl
  | c :: x, s, s', e, hr => by
    show encS A (A.saw s c) (stepE (A.l s) (A.t s) e c.toNat) x = encS B (B.saw s' c) (stepE (B.l s') (B.t s') e c.toNat) x
    rw [h.l s s' hr, h.t s s' hr]
    exact h.enc x _ _ _ (h.saw s s' c hr)
theorem Sim.code {A B : Mdl} {r : A.σ → B.σ → Prop} (h : Sim A B r) {s : A.σ} {s' : B.σ} (hr : r s s') (x : List UInt8) : code A s x = code B s' x := by
  unfold Rc.code
  rw [h.enc x s s' e0 hr]
theorem Sim.dec {A B : Mdl} {r : A.σ → B.σ → Prop} (h : Sim A B r) (b : List UInt8) : ∀ (n : Nat) (s : A.σ) (s' : B.σ) (a size k : Nat) (out : List UInt8), r s s' → decL A b n s a size k out = decL B b n s' a size k out
  | 0, _, _, _, _, _, _, _ => by rw [decL, decL]
  | n + 1, s, s', a, size, k, out, hr => by
    rw [decL, decL, h.l s s' hr, h.t s s' hr]
    split
    · rfl
    · exact h.dec b n _ _ _ _ _ _ (h.saw s s' _ hr)
def ixR (n : Nat) (s : (UInt8 → List Nat × Nat) × UInt8) : UInt8 := if n = 2 then s.2 else 0
def sawR (n : Nat) (s : (UInt8 → List Nat × Nat) × UInt8) (c : UInt8) : (UInt8 → List Nat × Nat) × UInt8 := (if n = 0 then s.1 else fun k => if k = ixR n s then sawT (s.1 (ixR n s)) c else s.1 k, c)
def RM (n : Nat) : Mdl := ⟨(UInt8 → List Nat × Nat) × UInt8, fun s => (s.1 (ixR n s)).1, fun s => (s.1 (ixR n s)).2, sawR n, fun s => ∀ k, Tab (s.1 k).1 (s.1 k).2, fun s h => h (ixR n s), fun s c h k => by
  show Tab ((if n = 0 then s.1 else fun k => if k = ixR n s then sawT (s.1 (ixR n s)) c else s.1 k) k).1 ((if n = 0 then s.1 else fun k => if k = ixR n s then sawT (s.1 (ixR n s)) c else s.1 k) k).2
  split
  · exact h k
  · dsimp only
    split
    · exact tab_saw (h (ixR n s)) c
    · exact h k⟩
theorem simR0 : Sim (RM 0) M0 (fun s _ => s.1 0 = T1) := ⟨fun _ _ h => congrArg Prod.fst h, fun _ _ h => congrArg Prod.snd h, fun _ _ _ h => h⟩
theorem simR1 : Sim (RM 1) M1 (fun s s' => s.1 0 = s') := ⟨fun _ _ h => by subst h; rfl, fun _ _ h => by subst h; rfl, fun s s' c h => by
  subst h
  show (if (0 : UInt8) = 0 then sawT (s.1 0) c else s.1 0) = sawT (s.1 0) c
  rw [if_pos rfl]⟩
theorem simR2 : Sim (RM 2) M2 (fun s s' => s = s') := ⟨fun _ _ h => by subst h; rfl, fun _ _ h => by subst h; rfl, fun _ _ _ h => by subst h; rfl⟩
end Rc
open Rc
theorem codeR (n : Nat) (hn : n < 3) (x : List UInt8) : code (RM n) T2 x = cd n x := by
  rcases n with _ | _ | _ | n
  · exact simR0.code rfl x
  · exact simR1.code rfl x
  · exact simR2.code rfl x
  · omega
theorem simT {A B : Mdl} {r : A.σ → B.σ → Prop} (h : Sim A B r) {s : A.σ} {s' : B.σ} (hr : r s s') (b : List UInt8) (len : Nat) : decT A s b len = decT B s' b len := by
  unfold decT
  rw [h.dec b len s s' _ _ _ _ hr]
  split
  · rfl
  · rw [h.code hr]
theorem decTR (n : Nat) (hn : n < 3) (b : List UInt8) (len : Nat) : decT (RM n) T2 b len = dt n b len := by
  rcases n with _ | _ | _ | n
  · exact simT simR0 rfl b len
  · exact simT simR1 rfl b len
  · exact simT simR2 rfl b len
  · omega
end Go.Proofs.YtcnpgmohnclojaaDoor
end
section
--PURE: (intro j _; simp [pureL, pureS, pureE]; done)
namespace Go.Proofs.YtcnpgmohnclojaaDoor
open Go.RowKit V
set_option maxRecDepth 100000
set_option maxHeartbeats 4000000
set_option linter.unusedSimpArgs false
attribute [local irreducible] V.Sat V.DSat
theorem now_R2 (g : Nat → Nat) (c : UInt8) : MFun Tryd.prog [] 20 [] 74 (modR 2 g (c.toNat : Int)) (modR 2 g (c.toNat : Int)) (.val (ptrOf (g c.toNat))) := by
  refine MFun.mk 6 Tryd.func20 rfl Tryd.ntmps20 rfl rfl fun hf hg T w b hT hTb => ?_
  clear hf hg
  have hc := c.toNat_lt
  repeat' (first
      | ((with_reducible apply Sat.run (X := XU)); exact rfl; (first | exact True.intro | (exact phi) | skip))
      | ((with_reducible apply Sat.drawn); kernel_rfl)
      | ((with_reducible apply DSat.run (X := XU)); exact rfl; (first | exact True.intro | (exact phi) | skip))
      | ((with_reducible apply DSat.fin); kernel_rfl)
      | ((with_reducible apply Sat.cond_t); exact rfl)
      | ((with_reducible apply Sat.cond_f); exact rfl)
      | ((with_reducible apply Sat.cond_pt); exact rfl; (try dsimp only [V.EV.sub, V.EV.len]); first | assumption | omega)
      | ((with_reducible apply Sat.cond_pf); exact rfl; (try dsimp only [V.EV.sub, V.EV.len]); first | assumption | omega)
      | ((with_reducible apply Sat.cond_p); exact rfl; all_goals (intro h; (try simp only [V.EV.sub, V.EV.len] at h)))
      | ((with_reducible apply Sat.cond); exact rfl; all_goals (intro h; (try simp only [V.EV.sub, V.EV.len, Bool.cond_true_left, Bool.cond_false_right, Bool.or_eq_true, Bool.and_eq_true, Bool.or_eq_false_iff, Bool.and_eq_false_iff, Bool.not_eq_true', Bool.not_eq_false', decide_eq_true_eq, decide_eq_false_iff_not, ne_eq] at h))) | fail)
  exact Sat.mfin (Sat.mend1 hT rfl rfl trivial rfl (.cons _ _ _ _ (.refl _ trivial) (.cons _ _ _ _ (.refl _ (by intro j _; simp [pureL, pureS, pureE])) (.cons _ _ _ _ (.refl _ trivial) .nil))) (.refl _ trivial) (.inl rfl) rfl) rfl rfl
theorem now_R1 (n : Nat) (hn : n < 2) (g : Nat → Nat) (c : UInt8) : MFun Tryd.prog [] 20 [] 74 (modR (n : Int) g (c.toNat : Int)) (modR (n : Int) g (c.toNat : Int)) (.val (ptrOf (g 0))) := by
  refine MFun.mk 6 Tryd.func20 rfl Tryd.ntmps20 rfl rfl fun hf hg T w b hT hTb => ?_
  clear hf hg
  have hne : ¬ (n : Int) = 2 := by omega
  repeat' (first
      | ((with_reducible apply Sat.cond_p); exact rfl; (intro h; exact absurd h hne); (intro h; clear h))
      | ((with_reducible apply Sat.run (X := XU)); exact rfl; (first | exact True.intro | (exact phi) | skip))
      | ((with_reducible apply Sat.drawn); kernel_rfl)
      | ((with_reducible apply DSat.run (X := XU)); exact rfl; (first | exact True.intro | (exact phi) | skip))
      | ((with_reducible apply DSat.fin); kernel_rfl) | fail)
  exact Sat.mfin (Sat.mend1 hT rfl rfl trivial rfl (.cons _ _ _ _ (.refl _ trivial) (.cons _ _ _ _ (.refl _ (by intro j _; simp [pureL, pureS, pureE])) (.cons _ _ _ _ (.refl _ trivial) .nil))) (.refl _ trivial) (.inl rfl) rfl) rfl rfl
end Go.Proofs.YtcnpgmohnclojaaDoor
end
section
--PURE: (intro j _; simp [pureL, pureS, pureE]; done)
namespace Go.Proofs.YtcnpgmohnclojaaDoor
open Go.RowKit V
set_option maxRecDepth 100000
set_option maxHeartbeats 8000000
set_option linter.unusedSimpArgs false
namespace V
section
variable {C : Ctx} {Q0 : Exit → Act → World → Prop} {F F' : Tr} {M M' : Mem} {ids ids' : List Nat} {k : List Kont}
def MeetI (C : Ctx) (ids : List Nat) {α : Type} (Fh : α → Tr) (Mh : α → Mem) (Cx : α → Prop) (a : Act) (w : World) : Prop := ∃ x, Cx x ∧ ∃ U E, Sup ids U ∧ St C (Fh x) (Mh x) U E a w
/-- A piece whose ends meet in one state. -/
theorem Sat.meet {α : Type} {c1 c2 : Code} {Fh : α → Tr} {Mh : α → Mem} (Cx : α → Prop) (fr : α → List (Nat × SV)) (mr : α → List (Nat × Blk)) (dm : List Nat) (n : Nat)
    (_hF : ∀ x, headT F c1 (fr x) = some (Fh x)) (_hM : ∀ x, headM M dm (mr x) = some (Mh x)) (_hi : dropN ids n = some ids')
    (walk : Sat C Q0 (.code c1 F M ids (.lp (MeetI C ids' Fh Mh Cx) :: k))) (step : ∀ x, Cx x → Sat C Q0 (.code c2 (Fh x) (Mh x) ids' k)) : Sat C Q0 (.code (.seq c1 c2) F M ids k) := by
  intro U E a w hsup hst
  refine wp_seq (wp_mono (walk U E a w hsup hst) ?_)
  intro e a' w' hq
  cases e with
  | normal =>
    obtain ⟨x, q1, U2, E2, q3, q4⟩ := hq
    exact step x q1 U2 E2 a' w' q3 q4
  | exit id => exact hq
  | goto l => exact hq
  | ret => exact hq
  | panic v => exact hq
  | outgrown => exact hq
theorem Sat.meets {α : Type} {Fh : α → Tr} {Mh : α → Mem} {Cx : α → Prop} {φ : List Prop} {ids0 : List Nat} (x : α) (σ : List (Nat × Option Nat)) (hin : intoF C.wide C.pins σ F M (Fh x) (Mh x) ids0 = some φ) (hφ : AllP φ) (hC : Cx x) :
    Sat C Q0 (.ext .normal F M ids (.lp (MeetI C ids0 Fh Mh Cx) :: k)) := by
  intro U E a w hsup hst
  obtain ⟨U', E', h1, h2⟩ := into_ok hst hin hφ
  exact ⟨x, hC, U', E', h1, h2⟩
/-- A block is given up. -/
theorem Sat.forget {c : Code} (id : Nat) (h : Sat C Q0 (.code c F (del M id) ids k)) : Sat C Q0 (.code c F M ids k) := by
  intro U E a w hsup hst
  have hdel : ∀ j B, find (del M id) j = some B → find M j = some B := fun j B hj => by
    rw [find_del] at hj
    split at hj
    · cases hj
    · exact hj
  have hsome : ∀ j, (find (del M id) j).isSome = true → (find M j).isSome = true := fun j hj => by
    obtain ⟨B, hB⟩ := Option.isSome_iff_exists.1 hj
    rw [hdel j B hB]; rfl
  have hT : ∀ b, b < w.heap.size → trk C.T0 (del M id) E b → trk C.T0 M E b := by
    rintro b _ (⟨j, B, q1, q2⟩ | q)
    · exact .inl ⟨j, B, hdel j B q1, q2⟩
    · exact .inr q
  refine h U E a w hsup (hst.go (fun _ _ h => h) hT (Chg.refl _ w) rfl rfl rfl ⟨fun j B hj => ?_, fun j j' b h1 h2 => hst.mem.inj j j' b (hsome j h1) (hsome j' h2)⟩ (fun j b h1 h2 => hst.own j b (hsome j h1) h2) hst.fresh)
  rcases hst.mem.blk j B (hdel j B hj) with ⟨b, q1, q2, q3⟩ | q
  · exact .inl ⟨b, q1, q2, q3.mono (fun _ _ h => h) hT (Chg.refl _ w) rfl⟩
  · exact .inr q
/-- A slot's pointer is seen as one to a block in hand. -/
theorem Sat.seeH {full rest : List Oper} (t id p : Nat) (hl : ∃ q, q ∈ C.hold ∧ q.pe id = some (some p)) (hg : F.get t = some (.val (.pointer (some ⟨p, 0, none⟩)))) (hp : F.put t (some (.ptr id 0)) = some F') (h : Sat C Q0 (.reg full rest F' M ids k)) : Sat C Q0 (.reg full rest F M ids k) := by
  intro U E a w hsup hst
  refine h U E a w hsup ⟨hst.defers, hst.size, fun t' s hs => ?_, hst.mem, hst.own, hst.fresh, hst.kp, hst.hid, hst.glob, hst.pin, hst.held⟩
  rw [Tr.get_put _ _ _ _ hp] at hs
  split at hs
  · rename_i e
    subst e
    cases hs
    have := hst.slots _ _ hg
    generalize a.tmps.getD t' undef = v at this
    cases this
    obtain ⟨q, q1, q2⟩ := hl
    exact .ptr id 0 p (hst.pin q q1 id _ q2).2
  · exact hst.slots t' s hs
end
end V
theorem BegAt.split {n : Int} {b : Nat} {g : Nat → Nat} {Sm : Nat → Prop} (w : World) (h : BegAt n b g w Sm) : Sm b ∧ TabsAt (fun j => j < 256) (fun _ => Rc.T1) g w (fun x => Sm x ∧ x ≠ b) ∧ Blk.Is w b 74 (modR n g 0) := by
  obtain ⟨S0, h1, h2, h3⟩ := h.tabs
  refine ⟨(h3 b).2 (.inr rfl), ⟨fun x => ⟨fun ⟨q1, q2⟩ => (h1.set x).1 (((h3 x).1 q1).elim (fun h => h) fun e => absurd e q2), fun q => ?_⟩, h1.blk, h1.inj⟩, h.blk⟩
  have := (h1.set x).2 q
  exact ⟨(h3 x).2 (.inl this), fun e => h2 (e ▸ this)⟩
def ixN (n c : Nat) : Nat := if n = 2 then c else 0
theorem now_R (n : Nat) (hn : n < 3) (g : Nat → Nat) (c : UInt8) : MFun Tryd.prog [] 20 [] 74 (modR (n : Int) g (c.toNat : Int)) (modR (n : Int) g (c.toNat : Int)) (.val (ptrOf (g (ixN n c.toNat)))) := by
  unfold ixN
  by_cases h : n = 2
  · subst h
    rw [if_pos rfl]
    exact now_R2 g c
  · rw [if_neg h]
    exact now_R1 n (by omega) g c
attribute [local irreducible] V.Sat V.DSat
/-- The tables of a state. -/
@[reducible] def tbs (s : (UInt8 → List Nat × Nat) × UInt8) : Nat → List Nat × Nat := fun j => s.1 (UInt8.ofNat j)
theorem ix_lt (n : Nat) (s : (UInt8 → List Nat × Nat) × UInt8) : ixN n s.2.toNat < 256 := by
  have := s.2.toNat_lt
  unfold ixN
  split <;> omega
theorem tbs_ix (n : Nat) (s : (UInt8 → List Nat × Nat) × UInt8) : tbs s (ixN n s.2.toNat) = s.1 (Rc.ixR n s) := by
  have h : UInt8.ofNat (ixN n s.2.toNat) = Rc.ixR n s := by
    unfold ixN Rc.ixR
    split
    · exact UInt8.ofNat_toNat
    · rfl
  show s.1 _ = s.1 _
  rw [h]
theorem tbs_is (n : Nat) (s : (UInt8 → List Nat × Nat) × UInt8) : tabR (tbs s (ixN n s.2.toNat)).1 (tbs s (ixN n s.2.toNat)).2 = tabR ((Rc.RM n).l s) ((Rc.RM n).t s) := by
  rw [tbs_ix]
  rfl
theorem ofNat_ix (n : Nat) (s : (UInt8 → List Nat × Nat) × UInt8) : UInt8.ofNat (ixN n s.2.toNat) = Rc.ixR n s := by
  unfold ixN Rc.ixR
  split
  · exact UInt8.ofNat_toNat
  · rfl
theorem saw_other (n : Nat) (s : (UInt8 → List Nat × Nat) × UInt8) (c : UInt8) (j : Nat) (hj : j < 256) (hne : j ≠ ixN n s.2.toNat) : tbs (Rc.sawR n s c) j = tbs s j := by
  show (if n = 0 then s.1 else fun k => if k = Rc.ixR n s then Rc.sawT (s.1 (Rc.ixR n s)) c else s.1 k) (UInt8.ofNat j) = s.1 (UInt8.ofNat j)
  split
  · rfl
  · dsimp only
    rw [if_neg]
    intro e
    rw [← ofNat_ix] at e
    have h1 := congrArg UInt8.toNat e
    rw [UInt8.toNat_ofNat', UInt8.toNat_ofNat'] at h1
    have h2 := ix_lt n s
    omega
theorem saw_here (n : Nat) (s : (UInt8 → List Nat × Nat) × UInt8) (c : UInt8) : tbs (Rc.sawR n s c) (ixN n s.2.toNat) = if n = 0 then s.1 (Rc.ixR n s) else Rc.sawT (s.1 (Rc.ixR n s)) c := by
  show (if n = 0 then s.1 else fun k => if k = Rc.ixR n s then Rc.sawT (s.1 (Rc.ixR n s)) c else s.1 k) (UInt8.ofNat (ixN n s.2.toNat)) = _
  rw [ofNat_ix]
  split
  · rfl
  · dsimp only
    rw [if_pos rfl]
theorem join_R (n : Nat) (s : (UInt8 → List Nat × Nat) × UInt8) (c : UInt8) (g : Nat → Nat) {Sm : Nat → Prop} {q : List Nat × Nat} (hq : (if n = 0 then s.1 (Rc.ixR n s) else Rc.sawT (s.1 (Rc.ixR n s)) c) = q) (w : World) (q1 : TabsAt (fun j => j < 256 ∧ j ≠ ixN n s.2.toNat) (tbs s) g w Sm) (q2 : ¬ Sm (g (ixN n s.2.toNat)))
    (q3 : Blk.Is w (g (ixN n s.2.toNat)) 69 (tabR q.1 q.2)) : TabsAt (fun j => j < 256) (tbs (Rc.sawR n s c)) g w (fun b => Sm b ∨ b = g (ixN n s.2.toNat)) := by
  refine TabsAt.join (D := fun j => j < 256 ∧ j ≠ ixN n s.2.toNat) (D' := fun j => j < 256) (f' := tbs (Rc.sawR n s c)) (g' := g) (ixN n s.2.toNat) (g (ixN n s.2.toNat)) (fun j => ?_) (fun q => q.2 rfl) (fun j hj => saw_other n s c j hj.1 hj.2) (fun _ _ => rfl) rfl w q1 q2 ?_
  · have := ix_lt n s
    constructor
    · intro h
      by_cases e : j = ixN n s.2.toNat
      · exact .inr e
      · exact .inl ⟨h, e⟩
    · rintro (h | h)
      · exact h.1
      · omega
  · rw [saw_here, hq]
    exact q3
theorem mid_get2 (m r : List UInt8) (b x : UInt8) : (m ++ [x] ++ r).getD (0 + (((m ++ [b]).length : Nat) - 1 : Int).toNat) 0 = x := by
  rw [mid_at, List.append_assoc, List.getD_eq_getElem?_getD, List.getElem?_append_right (Nat.le_refl _), Nat.sub_self]
  rfl
theorem enc_R (n : Nat) (hn : n < 3) (l : List UInt8) (hl : l.length ≤ 65536) : Fun Tryd.prog [] 12 [.int .i64 (n : Int), .ro (.u8 l)] (.tup [.ro (.u8 (Rc.code (Rc.RM n) Rc.T2 l)), .int .i64 0]) := by
  refine Fun.mkF 7 Tryd.func12 rfl Tryd.ntmps12 rfl rfl fun hf T w0 => ?_
  refine Sat.top rfl rfl rfl fun top => ?_
  have hn0 : ¬ (n : Int) < 0 := by omega
  have hn2 : ¬ (n : Int) > 2 := by omega
  have hll : ¬ (l.length : Int) > 65536 := by omega
  repeat' (first
      | ((with_reducible apply Sat.run (X := XU)); exact rfl; (first | exact True.intro | (exact phi) | skip))
      | ((with_reducible apply Sat.drawn); kernel_rfl)
      | ((with_reducible apply DSat.run (X := XU)); exact rfl; (first | exact True.intro | (exact phi) | skip))
      | ((with_reducible apply DSat.fin); kernel_rfl)
      | ((with_reducible apply Sat.cond_t); exact rfl)
      | ((with_reducible apply Sat.cond_f); exact rfl)
      | ((with_reducible apply Sat.cond_pt); exact rfl; (try dsimp only [V.EV.sub, V.EV.len]); first | assumption | omega)
      | ((with_reducible apply Sat.cond_pf); exact rfl; (try dsimp only [V.EV.sub, V.EV.len]); first | assumption | omega)
      | ((with_reducible apply Sat.cond_p); exact rfl; all_goals (intro h; (try simp only [V.EV.sub, V.EV.len] at h)))
      | ((with_reducible apply Sat.cond); exact rfl; all_goals (intro h; (try simp only [V.EV.sub, V.EV.len, Bool.cond_true_left, Bool.cond_false_right, Bool.or_eq_true, Bool.and_eq_true, Bool.or_eq_false_iff, Bool.and_eq_false_iff, Bool.not_eq_true', Bool.not_eq_false', decide_eq_true_eq, decide_eq_false_iff_not, ne_eq] at h))) | fail)
  refine Sat.beginsX (C := cx Tryd.prog 93 T w0) (Ow := BegT (n : Int)) (Vx := fun x => ptrOf x.1) (f := 18) (svs := [.int .i64 (n : Int)]) top (fun w vs hv => ?_) rfl rfl (by kernel_rfl) (fun _ => rfl) ?_
  · have hvs : vs = [.int .i64 (n : Int)] := by
      cases hv E0 (fun _ => False) w with
      | cons _ _ _ _ h1 h2 =>
        cases h1
        cases h2
        rfl
    subst hvs
    exact begin_R n hn w
  rintro ⟨b, g⟩ W S Sm hat
  refine Sat.takeX (C := cx Tryd.prog 93 T w0) (pos := .reg _ _ _) (TabsT (fun j => j < 256) (fun _ => Rc.T1) g) 0 b 74 (modR (n : Int) g 0) top hat (fun w h => BegAt.split w h) fun W S hat => ?_
  refine Sat.seeX (pos := .reg _ _ _) 20 0 b (List.mem_cons_self ..) rfl rfl ?_
  show Sat _ _ (.reg _ _ _ _ _ _)
  repeat' (first
      | ((with_reducible apply Sat.run (X := XU)); exact rfl; (first | exact True.intro | (exact phi) | skip))
      | ((with_reducible apply Sat.drawn); kernel_rfl)
      | ((with_reducible apply DSat.run (X := XU)); exact rfl; (first | exact True.intro | (exact phi) | skip))
      | ((with_reducible apply DSat.fin); kernel_rfl)
      | ((with_reducible apply Sat.cond_t); exact rfl)
      | ((with_reducible apply Sat.cond_f); exact rfl)
      | ((with_reducible apply Sat.cond_pt); exact rfl; (try dsimp only [V.EV.sub, V.EV.len]); first | assumption | omega)
      | ((with_reducible apply Sat.cond_pf); exact rfl; (try dsimp only [V.EV.sub, V.EV.len]); first | assumption | omega)
      | ((with_reducible apply Sat.cond_p); exact rfl; all_goals (intro h; (try simp only [V.EV.sub, V.EV.len] at h)))
      | ((with_reducible apply Sat.cond); exact rfl; all_goals (intro h; (try simp only [V.EV.sub, V.EV.len, Bool.cond_true_left, Bool.cond_false_right, Bool.or_eq_true, Bool.and_eq_true, Bool.or_eq_false_iff, Bool.and_eq_false_iff, Bool.not_eq_true', Bool.not_eq_false', decide_eq_true_eq, decide_eq_false_iff_not, ne_eq] at h))) | fail)
  refine Sat.loopX (C := cx Tryd.prog 93 T w0) (α := Nat × ((UInt8 → List Nat × Nat) × UInt8) × Rc.Enc) (fun x => TabsT (fun j => j < 256) (tbs x.2.1) g) (fun x => x.1 ≤ l.length ∧ (Rc.RM n).inv x.2.1 ∧ Rc.Ok x.2.2 ∧ x.2.2.out.length ≤ 4 * x.1 ∧ Hd (Rc.encS (Rc.RM n) x.2.1 x.2.2 (l.drop x.1) = Rc.encS (Rc.RM n) Rc.T2 Rc.e0 l)) (fun x => l.length - x.1) (0, Rc.T2, Rc.e0)
    (fun x => [(8, .int .i64 (x.1 : Int))]) (fun x => [(2, .row 5 (.u8 x.2.2.out)), (1, .cells 48 [.int .i64 (x.2.2.low : Int), .int .i64 (x.2.2.size : Int), .row 2 0 1 0 x.2.2.out.length]), (0, .cells 74 (modR (n : Int) g (x.2.1.2.toNat : Int)))]) [] [(2, none)] 1 (fun x => rfl) (fun x => rfl) rfl rfl ?_ ?_ hat ?_
  · (repeat' (first | exact AllP.nil | with_reducible refine AllP.cons ?_ ?_)) <;> first | exact rfl | exact trivial | (intro j _; simp [pureL, pureS, pureE]; done)
  · exact ⟨Nat.zero_le _, fun k => Rc.inv2 k, Rc.e0_ok, Nat.zero_le _, ⟨rfl⟩⟩
  rintro ⟨i, s, e⟩ W S Sm ⟨hi, hs, he, ho, hE⟩ hat
  dsimp only at hi hs he ho hE hat ⊢
  have hT := (Rc.RM n).tab s hs
  have ht1 := hT.tpos
  have ht2 := hT.big
  have hlow := he.low
  have hlo := he.lo
  have hhi := he.hi
  repeat' (first
      | ((with_reducible apply Sat.drawnL); kernel_rfl; exact rfl; kernel_rfl)
      | ((with_reducible apply Sat.run (X := XU)); exact rfl; (first | exact True.intro | (exact phi) | skip))
      | ((with_reducible apply Sat.drawn); kernel_rfl)
      | ((with_reducible apply DSat.run (X := XU)); exact rfl; (first | exact True.intro | (exact phi) | skip))
      | ((with_reducible apply DSat.fin); kernel_rfl)
      | ((with_reducible apply Sat.cond_t); exact rfl)
      | ((with_reducible apply Sat.cond_f); exact rfl)
      | ((with_reducible apply Sat.cond_pt); exact rfl; (try dsimp only [V.EV.sub, V.EV.len]); first | assumption | omega)
      | ((with_reducible apply Sat.cond_pf); exact rfl; (try dsimp only [V.EV.sub, V.EV.len]); first | assumption | omega)
      | ((with_reducible apply Sat.cond_p); exact rfl; all_goals (intro h; (try simp only [V.EV.sub, V.EV.len] at h)))
      | ((with_reducible apply Sat.cond); exact rfl; all_goals (intro h; (try simp only [V.EV.sub, V.EV.len, Bool.cond_true_left, Bool.cond_false_right, Bool.or_eq_true, Bool.and_eq_true, Bool.or_eq_false_iff, Bool.and_eq_false_iff, Bool.not_eq_true', Bool.not_eq_false', decide_eq_true_eq, decide_eq_false_iff_not, ne_eq] at h)))
      | ((with_reducible apply Sat.mcall ((now_R n hn g s.2))); exact rfl; exact rfl; kernel_rfl; (exact cnvX); exact rfl; exact purX; exact rfl; exact rfl)
      | ((with_reducible apply DSat.mcall ((now_R n hn g s.2))); exact rfl; exact rfl; kernel_rfl; (exact cnvX); exact rfl; exact purX; exact rfl; exact rfl)
      | (with_reducible apply Sat.lastD) | fail)
  · have hil : i < l.length := by omega
    refine Sat.takeX (C := cx Tryd.prog 93 T w0) (pos := .reg _ _ _) (TabsT (fun j => j < 256 ∧ j ≠ ixN n s.2.toNat) (tbs s) g) 3 (g (ixN n s.2.toNat)) 69 (tabR ((Rc.RM n).l s) ((Rc.RM n).t s)) top hat (fun w h => by rw [← tbs_is]; exact TabsAt.split (D := fun j => j < 256) _ (ix_lt n s) w h) fun W S hat => ?_
    refine Sat.seeX (pos := .reg _ _ _) 31 3 (g (ixN n s.2.toNat)) (List.mem_cons_self ..) rfl rfl ?_
    show Sat ⟨Tryd.prog, W, S, hidX (cx Tryd.prog 93 T w0) (fun b => Sm b ∧ b ≠ g (ixN n s.2.toNat)), [], 93, [3, 0], [⟨fun i => if i = 3 then some (some (g (ixN n s.2.toNat))) else none, .e, fun _ => undef⟩, ⟨fun i => if i = 0 then some (some b) else none, .e, fun _ => undef⟩], false⟩ _ (.reg _ _ _ _ _ _)
    clear hn0 hn2 hll
    generalize hL : (Rc.RM n).l s = L at *
    generalize ht : (Rc.RM n).t s = t at *
    generalize hcd : l.getD (i : Int).toNat 0 = c
    have hc := c.toNat_lt
    with_reducible apply Sat.inl 7 [2] Tryd.func19 Tryd.ntmps19
    · exact rfl
    · exact rfl
    · kernel_rfl
    · exact rfl
    · exact rfl
    · exact rfl
    · exact rfl
    · (repeat' (first | exact AllP.nil | with_reducible refine AllP.cons ?_ ?_)) <;> first | exact rfl | exact trivial | (intro j _; simp [pureL, pureS, pureE]; done)
    intro a1 E1
    refine Sat.holdC ?_
    repeat' (first
        | ((with_reducible apply Sat.run (X := XU)); exact rfl; (first | exact True.intro | (fail) | skip))
        | ((with_reducible apply Sat.drawn); kernel_rfl)
        | ((with_reducible apply DSat.run (X := XU)); exact rfl; (first | exact True.intro | (fail) | skip))
        | ((with_reducible apply DSat.fin); kernel_rfl) | fail)
    · exact .cons ⟨by omega, by omega⟩ .nil
    refine Sat.goC ?_
    refine Sat.holdC ?_
    have hbs : Rc.bef L c.toNat ≤ t := by rw [hT.tot]; exact Rc.bef_le _ _
    obtain ⟨RB, hRB⟩ : ∃ RB : Nat, RB = e.size / t * Rc.bef L c.toNat := ⟨_, rfl⟩
    obtain ⟨RK, hRK⟩ : ∃ RK : Nat, RK = e.size / t * L.getD c.toNat 0 := ⟨_, rfl⟩
    have hX : Hd ((e.size : Int) / (t : Int) * (Rc.bef L c.toNat : Nat) = (RB : Int)) := ⟨by rw [hRB, Int.natCast_mul, Int.natCast_ediv]⟩
    have hY : Hd ((e.size : Int) / (t : Int) * (castL L).getD (c.toNat : Int).toNat 0 = (RK : Int)) := ⟨by rw [Int.toNat_natCast, castL_get _ _ (by rw [hT.len]; exact hc), hRK, Int.natCast_mul, Int.natCast_ediv]⟩
    have hpl : RB + RK ≤ e.size := by rw [hRB, hRK]; exact Rc.part_le (hT.part c.toNat hc)
    have hK0 : 0 < RK := by rw [hRK]; exact Nat.mul_pos (Nat.div_pos (by omega) ht1) (hT.pos c.toNat hc)
    have hfit : Rc.num e.out * 4294967296 + e.low + e.size ≤ 256 ^ (e.out.length + 4) := he.fit
    have hcut := Rc.cut_ok (low := e.low + RB) (out := e.out) (size := RK) (by omega) hK0 (by omega)
    have hstep : Hd (Rc.stepE L t e c.toNat = Rc.norm (Rc.cut (e.low + RB) e.out).1 RK (Rc.cut (e.low + RB) e.out).2) := ⟨by unfold Rc.stepE; rw [← hRB, ← hRK]⟩
    clear hRB hRK
    repeat' (first
        | ((with_reducible apply Sat.run (X := XU)); exact rfl; (first | exact True.intro | (fail) | skip))
        | ((with_reducible apply Sat.drawn); kernel_rfl)
        | ((with_reducible apply DSat.run (X := XU)); exact rfl; (first | exact True.intro | (fail) | skip))
        | ((with_reducible apply DSat.fin); kernel_rfl)
        | ((with_reducible apply Sat.mcall ((befR_spec L t hT c))); exact rfl; exact rfl; kernel_rfl; (exact cnvX); exact rfl; exact purX; exact rfl; exact rfl)
        | ((with_reducible apply DSat.mcall ((befR_spec L t hT c))); exact rfl; exact rfl; kernel_rfl; (exact cnvX); exact rfl; exact purX; exact rfl; exact rfl) | fail)
    · rw [hX.h]
      exact .cons (inR_i64 (by omega) (by omega)) (.cons (inR_i64 (by omega) (by omega)) .nil)
    rw [hX.h, show ((e.low : Int) + (RB : Int)) = ((e.low + RB : Nat) : Int) by omega]
    obtain ⟨lb, hlb⟩ : ∃ lb, lb = e.low + RB := ⟨_, rfl⟩
    rw [← hlb] at hcut hstep ⊢
    refine Sat.goC ?_
    generalize hcq : Rc.cut lb e.out = lo at *
    obtain ⟨lo, o'⟩ := lo
    dsimp only at hcut hstep
    refine Sat.meet (α := Unit) (fun _ => True) (fun _ => []) (fun _ => [(2, .row 5 (.u8 o')), (1, .cells 48 [.int .i64 (lo : Int), .int .i64 (e.size : Int), .row 2 0 1 0 o'.length])]) [] 0 (fun _ => rfl) (fun _ => rfl) rfl ?_ ?_
    · repeat' (first
          | ((with_reducible apply Sat.run (X := XU)); exact rfl; (first | exact True.intro | (fail) | skip))
          | ((with_reducible apply Sat.drawn); kernel_rfl)
          | ((with_reducible apply DSat.run (X := XU)); exact rfl; (first | exact True.intro | (fail) | skip))
          | ((with_reducible apply DSat.fin); kernel_rfl) | fail)
      with_reducible apply Sat.cond_p
      · exact rfl
      · intro h
        have hcutE : Rc.cut lb e.out = (lb - 4294967296, Rc.carry e.out) := by unfold Rc.cut; rw [if_pos (by omega)]
        have hlo2 : lo = lb - 4294967296 ∧ o' = Rc.carry e.out := by
          rw [hcq] at hcutE
          exact ⟨congrArg Prod.fst hcutE, congrArg Prod.snd hcutE⟩
        have hlt : Rc.num e.out + 1 < 256 ^ e.out.length := by
          rw [Rc.pow4] at hfit
          generalize 256 ^ e.out.length = q at hfit
          omega
        repeat' (first
            | ((with_reducible apply Sat.run (X := XU)); exact rfl; (first | exact True.intro | (fail) | skip))
            | ((with_reducible apply Sat.drawn); kernel_rfl)
            | ((with_reducible apply DSat.run (X := XU)); exact rfl; (first | exact True.intro | (fail) | skip))
            | ((with_reducible apply DSat.fin); kernel_rfl)
            | ((with_reducible apply Sat.inl 7 [] Tryd.func30 Tryd.ntmps30); exact rfl; exact rfl; kernel_rfl; exact rfl; exact rfl; exact rfl; exact rfl; ((repeat' (first | exact AllP.nil | with_reducible refine AllP.cons ?_ ?_)) <;> (first | exact True.intro | exact purX)); intro _ _) | fail)
        · exact .cons (inR_i64 (by omega) (by omega)) .nil
        · exact .cons (inR_i64 (by omega) (by omega)) .nil
        apply Sat.loop (α := List UInt8 × Nat) (fun x => x.1.length + x.2 = e.out.length ∧ Hd (Rc.carry e.out = Rc.carry x.1 ++ List.replicate x.2 0) ∧ Hd (Rc.num x.1 + 1 < 256 ^ x.1.length)) (fun x => x.1.length) (e.out, 0) (fun x => [(2, .int .i64 ((x.1.length : Int) - 1))]) (fun x => [(2, .row 5 (.u8 (x.1 ++ List.replicate x.2 0)))]) [] [] 0
        · intro x; exact rfl
        · intro x; exact rfl
        · exact rfl
        · exact rfl
        · ((repeat' (first | exact AllP.nil | with_reducible refine AllP.cons ?_ ?_)) <;> first | exact rfl | exact trivial | exact Int.natCast_add_one _ | (intro j _; simp [pureL, pureS, pureE]; done) | exact ⟨rfl, rfl, rfl, rfl⟩ | (show EV.u8 _ = EV.u8 (_ ++ []); rw [List.append_nil]))
        · exact ⟨rfl, ⟨(List.append_nil _).symm⟩, ⟨hlt⟩⟩
        rintro ⟨m, k⟩ ⟨x1, x2, x3⟩
        dsimp only at x1 x2 x3 ⊢
        rcases Rc.snoc_cases m with rfl | ⟨m, b0, rfl⟩
        · exact absurd x3.h (by decide)
        have hml : (m ++ [b0]).length = m.length + 1 := by rw [List.length_append]; rfl
        have hgo : (0 : Int) ≤ ((m ++ [b0]).length : Int) - 1 := by omega
        repeat' (first
            | ((with_reducible apply Sat.cond_pt); exact rfl; exact hgo)
            | ((with_reducible apply Sat.run (X := XU)); exact rfl; (first | exact True.intro | (exact phi) | skip))
            | ((with_reducible apply Sat.drawn); kernel_rfl)
            | ((with_reducible apply DSat.run (X := XU)); exact rfl; (first | exact True.intro | (exact phi) | skip))
            | ((with_reducible apply DSat.fin); kernel_rfl) | fail)
        rw [mid_get, mid_set, mid_get2, inc_u8]
        with_reducible apply Sat.cond_p
        · exact rfl
        · intro h
          have hb255 : b0 ≠ 255 := fun e => by subst e; exact h rfl
          have hoe : o' = m ++ [b0 + 1] ++ List.replicate k 0 := by rw [hlo2.2, x2.h, carry_else m b0 hb255]
          repeat' (first
              | ((with_reducible apply Sat.run (X := XU)); exact rfl; (first | exact True.intro | (fail) | skip))
              | ((with_reducible apply Sat.drawn); kernel_rfl)
              | ((with_reducible apply DSat.run (X := XU)); exact rfl; (first | exact True.intro | (fail) | skip))
              | ((with_reducible apply DSat.fin); kernel_rfl)
              | ((with_reducible apply Sat.out1 (C := ⟨_, _, _, _, _, _, _, _, _⟩)); exact rfl; (first | exact .inl rfl | exact .inr rfl); exact rfl; (fail); exact rfl)
              | ((with_reducible apply Sat.out0 (C := ⟨_, _, _, _, _, _, _, _, _⟩)); exact rfl; (first | exact .inl rfl | exact .inr rfl); exact rfl)
              | ((with_reducible apply Sat.out2 (C := ⟨_, _, _, _, _, _, _, _, _⟩)); exact rfl; (first | exact .inl rfl | exact .inr rfl); exact rfl; (fail); exact rfl; (fail); exact rfl) | fail)
          apply Sat.meets () []
          · exact rfl
          rotate_left
          · exact trivial
          ((repeat' (first | exact AllP.nil | with_reducible refine AllP.cons ?_ ?_)) <;> first | exact rfl | exact trivial | exact Int.natCast_add_one _ | (intro j _; simp [pureL, pureS, pureE]; done) | exact ⟨rfl, rfl, rfl, rfl⟩ | (show EV.u8 _ = EV.u8 _; rw [hoe]) | (show (lb : Int) - 4294967296 = (lo : Int); omega) | exact ⟨rfl, rfl, rfl, hcut.2.1.symm⟩)
        · intro h
          have hb255 : b0 = 255 := by
            have : (b0 + 1).toNat = 0 := by omega
            rw [UInt8.toNat_add] at this
            have h2 := b0.toNat_lt
            apply UInt8.toNat_inj.1
            show b0.toNat = 255
            have h3 : (1 : UInt8).toNat = 1 := rfl
            omega
          subst hb255
          repeat' (first
              | ((with_reducible apply Sat.run (X := XU)); exact rfl; (first | exact True.intro | (fail) | skip))
              | ((with_reducible apply Sat.drawn); kernel_rfl)
              | ((with_reducible apply DSat.run (X := XU)); exact rfl; (first | exact True.intro | (fail) | skip))
              | ((with_reducible apply DSat.fin); kernel_rfl) | fail)
          · exact .cons (inR_i64 (by omega) (by omega)) .nil
          refine Sat.back (m, k + 1) [] rfl ?_ ⟨?_, ⟨?_⟩, ⟨?_⟩⟩ ?_
          · ((repeat' (first | exact AllP.nil | with_reducible refine AllP.cons ?_ ?_)) <;> first | exact rfl | exact trivial | exact Int.natCast_add_one _ | (intro j _; simp [pureL, pureS, pureE]; done) | exact ⟨rfl, rfl, rfl, rfl⟩ | (show EV.u8 (m ++ [0] ++ List.replicate k 0) = EV.u8 (m ++ List.replicate (k + 1) 0); rw [List.replicate_succ, List.append_assoc]; rfl) | (show ((((m ++ [255]).length : Nat) : Int) - 1 - 1 = (m.length : Int) - 1); omega))
          · dsimp only; omega
          · rw [x2.h, carry_255, List.append_assoc, List.replicate_succ]
            rfl
          · have q := x3.h
            rw [Rc.num_snoc, hml, Nat.pow_succ] at q
            have : (255 : UInt8).toNat = 255 := rfl
            dsimp only
            omega
          · show m.length < (m ++ [255]).length
            omega
      · intro h
        have hcutE : Rc.cut lb e.out = (lb, e.out) := by unfold Rc.cut; rw [if_neg (by omega)]
        rw [hcq] at hcutE
        injection hcutE with e1 e2
        subst e1 e2
        refine Sat.skipC ?_
        refine Sat.meets () [] rfl ?_ trivial
        ((repeat' (first | exact AllP.nil | with_reducible refine AllP.cons ?_ ?_)) <;> first | exact rfl | exact trivial | exact Int.natCast_add_one _ | (intro j _; simp [pureL, pureS, pureE]; done) | exact ⟨rfl, rfl, rfl, rfl⟩)
    · rintro ⟨⟩ -
      repeat' (first
          | ((with_reducible apply Sat.run (X := XU)); exact rfl; (first | exact True.intro | (fail) | skip))
          | ((with_reducible apply Sat.drawn); kernel_rfl)
          | ((with_reducible apply DSat.run (X := XU)); exact rfl; (first | exact True.intro | (fail) | skip))
          | ((with_reducible apply DSat.fin); kernel_rfl) | fail)
      · rw [hY.h]
        exact .cons (inR_i64 (by omega) (by omega)) (.cons (by show c.toNat < (castL L).length; rw [castL_len, hT.len]; omega) (.cons ⟨by omega, by omega⟩ .nil))
      rw [hY.h]
      apply Sat.loop (α := Nat × Rc.Enc) (fun x => Hd (Rc.norm x.2.low x.2.size x.2.out = Rc.norm lo RK o') ∧ 0 < x.2.size ∧ x.2.size < 4294967296 ∧ x.2.low < 4294967296 ∧ x.2.out.length = o'.length + x.1 ∧ x.1 ≤ 4 ∧ 256 ^ x.1 ≤ x.2.size) (fun x => 16777216 - x.2.size) (0, ⟨lo, RK, o'⟩) (fun _ => []) (fun x => [(2, .row 5 (.u8 x.2.out)), (1, .cells 48 [.int .i64 (x.2.low : Int), .int .i64 (x.2.size : Int), .row 2 0 1 0 x.2.out.length])]) [] [] 0
      · intro x; exact rfl
      · intro x; exact rfl
      · exact rfl
      · exact rfl
      · ((repeat' (first | exact AllP.nil | with_reducible refine AllP.cons ?_ ?_)) <;> first | exact rfl | exact trivial | exact Int.natCast_add_one _ | (intro j _; simp [pureL, pureS, pureE]; done) | exact ⟨rfl, rfl, rfl, rfl⟩)
      · dsimp only; exact ⟨⟨rfl⟩, hK0, by omega, by omega, rfl, by omega, by rw [Nat.pow_zero]; exact hK0⟩
      rintro ⟨j, lo1, sz1, o1⟩ ⟨z1, z2, z3, z4, z5, z6, z7⟩
      dsimp only at z1 z2 z3 z4 z5 z6 z7 ⊢
      repeat' (first
          | ((with_reducible apply Sat.run (X := XU)); exact rfl; (first | exact True.intro | (fail) | skip))
          | ((with_reducible apply Sat.drawn); kernel_rfl)
          | ((with_reducible apply DSat.run (X := XU)); exact rfl; (first | exact True.intro | (fail) | skip))
          | ((with_reducible apply DSat.fin); kernel_rfl) | fail)
      with_reducible apply Sat.cond_p
      · exact rfl
      · intro h
        have hw : UInt8.ofNat (IntKind.u8.wrap ((lo1 : Int) / 16777216)).toNat = UInt8.ofNat (lo1 / 16777216) := by
          rw [show ((lo1 : Int) / 16777216) = ((lo1 / 16777216 : Nat) : Int) by omega, wrap_ofNat]
        have hj : j < 3 := by
          rcases Nat.lt_or_ge j 3 with q | q
          · exact q
          · have : 256 ^ 3 ≤ 256 ^ j := Nat.pow_le_pow_right (by decide) q
            omega
        repeat' (first
            | ((with_reducible apply Sat.run (X := XU)); exact rfl; (first | exact True.intro | (fail) | skip))
            | ((with_reducible apply Sat.drawn); kernel_rfl)
            | ((with_reducible apply DSat.run (X := XU)); exact rfl; (first | exact True.intro | (fail) | skip))
            | ((with_reducible apply DSat.fin); kernel_rfl) | fail)
        · exact .cons (Nat.le_refl 1) (.cons rfl (.cons (by show (o1.length + 1) * (0 + 1) ≤ 140737488355328; omega) (.cons ⟨by omega, by omega⟩ .nil)))
        · exact .cons (inR_i64 (by omega) (by omega)) (.cons (inR_i64 (by omega) (by omega)) (.cons ⟨by omega, by omega⟩ .nil))
        rw [hw]
        refine Sat.back (j + 1, ⟨lo1 % 16777216 * 256, sz1 * 256, o1 ++ [UInt8.ofNat (lo1 / 16777216)]⟩) [(2, some 5)] rfl ?_ ?_ ?_
        · ((repeat' (first | exact AllP.nil | with_reducible refine AllP.cons ?_ ?_)) <;> first | exact rfl | exact trivial | exact Int.natCast_add_one _ | (intro j _; simp [pureL, pureS, pureE]; done) | exact ⟨rfl, rfl, rfl, rfl⟩ | exact ⟨rfl, rfl, rfl, (by rw [List.length_append]; rfl)⟩ | (dsimp only; omega))
        · dsimp only
          refine ⟨⟨?_⟩, by omega, by omega, by omega, ?_, by omega, ?_⟩
          · rw [← z1.h, Rc.norm_more (low := lo1) ⟨z2, by omega⟩]
          · rw [List.length_append, z5]; rfl
          · rw [Nat.pow_succ]; omega
        · dsimp only; omega
      · intro h
        have hend : Rc.stepE L t e c.toNat = ⟨lo1, sz1, o1⟩ := by
          rw [hstep.h, ← z1.h]
          exact Rc.norm_end (by omega)
        repeat' (first
            | ((with_reducible apply Sat.run (X := XU)); exact rfl; (first | exact True.intro | (fail) | skip))
            | ((with_reducible apply Sat.drawn); kernel_rfl)
            | ((with_reducible apply DSat.run (X := XU)); exact rfl; (first | exact True.intro | (fail) | skip))
            | ((with_reducible apply DSat.fin); kernel_rfl)
            | ((with_reducible apply Sat.out1 (C := ⟨_, _, _, _, _, _, _, _, _⟩)); exact rfl; (first | exact .inl rfl | exact .inr rfl); exact rfl; (fail); exact rfl)
            | ((with_reducible apply Sat.out0 (C := ⟨_, _, _, _, _, _, _, _, _⟩)); exact rfl; (first | exact .inl rfl | exact .inr rfl); exact rfl)
            | ((with_reducible apply Sat.out2 (C := ⟨_, _, _, _, _, _, _, _, _⟩)); exact rfl; (first | exact .inl rfl | exact .inr rfl); exact rfl; (fail); exact rfl; (fail); exact rfl) | fail)
        · exact .cons ⟨by omega, by show (i : Int) < (l.length : Int); omega⟩ .nil
        rw [hcd]
        with_reducible apply Sat.inl 7 [] Tryd.func21 Tryd.ntmps21
        · exact rfl
        · exact rfl
        · kernel_rfl
        · exact rfl
        · exact rfl
        · exact rfl
        · exact rfl
        · ((repeat' (first | exact AllP.nil | with_reducible refine AllP.cons ?_ ?_)) <;> first | exact rfl | exact trivial | exact Int.natCast_add_one _ | (intro j _; simp [pureL, pureS, pureE]; done) | exact ⟨rfl, rfl, rfl, rfl⟩)
        intro a2 E2
        repeat' (first
            | ((with_reducible apply Sat.run (X := XU)); exact rfl; (first | exact True.intro | (fail) | skip))
            | ((with_reducible apply Sat.drawn); kernel_rfl)
            | ((with_reducible apply DSat.run (X := XU)); exact rfl; (first | exact True.intro | (fail) | skip))
            | ((with_reducible apply DSat.fin); kernel_rfl) | fail)
        with_reducible apply Sat.cond_p
        · exact rfl
        · intro h
          repeat' (first
              | ((with_reducible apply Sat.run (X := XU)); exact rfl; (first | exact True.intro | (fail) | skip))
              | ((with_reducible apply Sat.drawn); kernel_rfl)
              | ((with_reducible apply DSat.run (X := XU)); exact rfl; (first | exact True.intro | (fail) | skip))
              | ((with_reducible apply DSat.fin); kernel_rfl)
              | ((with_reducible apply Sat.mcall ((now_R n hn g s.2))); exact rfl; exact rfl; kernel_rfl; (exact cnvX); exact rfl; exact purX; exact rfl; exact rfl)
              | ((with_reducible apply DSat.mcall ((now_R n hn g s.2))); exact rfl; exact rfl; kernel_rfl; (exact cnvX); exact rfl; exact purX; exact rfl; exact rfl) | fail)
          refine Sat.seeH 10 3 (g (ixN n s.2.toNat)) ⟨_, List.mem_cons_of_mem _ (List.mem_cons_self ..), rfl⟩ rfl rfl ?_
          repeat' (first
              | ((with_reducible apply Sat.run (X := XU)); exact rfl; (first | exact True.intro | (fail) | skip))
              | ((with_reducible apply Sat.drawn); kernel_rfl)
              | ((with_reducible apply DSat.run (X := XU)); exact rfl; (first | exact True.intro | (fail) | skip))
              | ((with_reducible apply DSat.fin); kernel_rfl)
              | ((with_reducible apply Sat.mcall ((sawR_spec L t hT c))); exact rfl; exact rfl; kernel_rfl; (exact cnvX); exact rfl; exact purX; exact rfl; exact rfl)
              | ((with_reducible apply DSat.mcall ((sawR_spec L t hT c))); exact rfl; exact rfl; kernel_rfl; (exact cnvX); exact rfl; exact purX; exact rfl; exact rfl)
              | ((with_reducible apply Sat.out1 (C := ⟨_, _, _, _, _, _, _, _, _⟩)); exact rfl; (first | exact .inl rfl | exact .inr rfl); exact rfl; (fail); exact rfl)
              | ((with_reducible apply Sat.out0 (C := ⟨_, _, _, _, _, _, _, _, _⟩)); exact rfl; (first | exact .inl rfl | exact .inr rfl); exact rfl)
              | ((with_reducible apply Sat.out2 (C := ⟨_, _, _, _, _, _, _, _, _⟩)); exact rfl; (first | exact .inl rfl | exact .inr rfl); exact rfl; (fail); exact rfl; (fail); exact rfl) | fail)
          · exact .cons (inR_i64 (by omega) (by omega)) .nil
          show Sat ((cx Tryd.prog 93 T w0).at W S (hidX (cx Tryd.prog 93 T w0) fun b => Sm b ∧ b ≠ g (ixN n s.2.toNat)) [(3, g (ixN n s.2.toNat)), (0, b)]) _ _
          refine Sat.giveX (pos := .ext _ _) (TabsT (fun j => j < 256) (tbs (Rc.sawR n s c)) g) 3 (g (ixN n s.2.toNat)) 69 (tabR (Rc.sawT (L, t) c).1 (Rc.sawT (L, t) c).2) [(0, b)] top hat (List.mem_cons_self ..) (fun q hq => List.mem_cons_of_mem _ hq) ?_ rfl (fun _ h => h) (fun w' q1 q2 q3 _ => join_R n s c g (q := Rc.sawT (L, t) c) (by rw [if_neg (by omega)]; rw [← hL, ← ht]; rfl) w' q1 q2 q3) fun W S hat => ?_
          · exact rfl
          refine Sat.backX (C := cx Tryd.prog 93 T w0) (i + 1, Rc.sawR n s c, (⟨lo1, sz1, o1⟩ : Rc.Enc)) [] rfl ?_ hat ?_ ?_
          · ((repeat' (first | exact AllP.nil | with_reducible refine AllP.cons ?_ ?_)) <;> first | exact rfl | exact trivial | exact Int.natCast_add_one _ | (intro j _; simp [pureL, pureS, pureE]; done) | exact ⟨rfl, rfl, rfl, rfl⟩)
          · have hok := (Rc.step_ok hT he c.toNat hc).1
            rw [hend] at hok
            refine ⟨by dsimp only; omega, (Rc.RM n).keep s c hs, hok, by dsimp only; omega, ⟨?_⟩⟩
            dsimp only
            rw [← hE.h, ← hend, List.drop_eq_getElem_cons hil, show l[i] = c by rw [← hcd, Int.toNat_natCast, List.getD_eq_getElem?_getD, List.getElem?_eq_getElem hil]; rfl, ← hL, ← ht]
            rfl
          · dsimp only; omega
        · intro h
          repeat' (first
              | ((with_reducible apply Sat.run (X := XU)); exact rfl; (first | exact True.intro | (fail) | skip))
              | ((with_reducible apply Sat.drawn); kernel_rfl)
              | ((with_reducible apply DSat.run (X := XU)); exact rfl; (first | exact True.intro | (fail) | skip))
              | ((with_reducible apply DSat.fin); kernel_rfl)
              | ((with_reducible apply Sat.out1 (C := ⟨_, _, _, _, _, _, _, _, _⟩)); exact rfl; (first | exact .inl rfl | exact .inr rfl); exact rfl; (fail); exact rfl)
              | ((with_reducible apply Sat.out0 (C := ⟨_, _, _, _, _, _, _, _, _⟩)); exact rfl; (first | exact .inl rfl | exact .inr rfl); exact rfl)
              | ((with_reducible apply Sat.out2 (C := ⟨_, _, _, _, _, _, _, _, _⟩)); exact rfl; (first | exact .inl rfl | exact .inr rfl); exact rfl; (fail); exact rfl; (fail); exact rfl) | fail)
          · exact .cons (inR_i64 (by omega) (by omega)) .nil
          show Sat ((cx Tryd.prog 93 T w0).at W S (hidX (cx Tryd.prog 93 T w0) fun b => Sm b ∧ b ≠ g (ixN n s.2.toNat)) [(3, g (ixN n s.2.toNat)), (0, b)]) _ _
          refine Sat.giveX (pos := .ext _ _) (TabsT (fun j => j < 256) (tbs (Rc.sawR n s c)) g) 3 (g (ixN n s.2.toNat)) 69 (tabR L t) [(0, b)] top hat (List.mem_cons_self ..) (fun q hq => List.mem_cons_of_mem _ hq) ?_ rfl (fun _ h => h) (fun w' q1 q2 q3 _ => join_R n s c g (q := (L, t)) (by rw [if_pos (by omega)]; rw [← hL, ← ht]; rfl) w' q1 q2 q3) fun W S hat => ?_
          · exact rfl
          refine Sat.backX (C := cx Tryd.prog 93 T w0) (i + 1, Rc.sawR n s c, (⟨lo1, sz1, o1⟩ : Rc.Enc)) [] rfl ?_ hat ?_ ?_
          · ((repeat' (first | exact AllP.nil | with_reducible refine AllP.cons ?_ ?_)) <;> first | exact rfl | exact trivial | exact Int.natCast_add_one _ | (intro j _; simp [pureL, pureS, pureE]; done) | exact ⟨rfl, rfl, rfl, rfl⟩)
          · have hok := (Rc.step_ok hT he c.toNat hc).1
            rw [hend] at hok
            refine ⟨by dsimp only; omega, (Rc.RM n).keep s c hs, hok, by dsimp only; omega, ⟨?_⟩⟩
            dsimp only
            rw [← hE.h, ← hend, List.drop_eq_getElem_cons hil, show l[i] = c by rw [← hcd, Int.toNat_natCast, List.getD_eq_getElem?_getD, List.getElem?_eq_getElem hil]; rfl, ← hL, ← ht]
            rfl
          · dsimp only; omega
  · have hil : i = l.length := by omega
    refine Sat.up top hat.over ?_
    have hmod : ∀ k : Nat, UInt8.ofNat (k % 256) = UInt8.ofNat k := fun k => by
      apply UInt8.toNat_inj.1
      rw [UInt8.toNat_ofNat', UInt8.toNat_ofNat']
      omega
    have hfull : e.out ++ List.take 4 (List.drop 0 [UInt8.ofNat (IntKind.u8.wrap ((e.low : Int) / 16777216)).toNat, UInt8.ofNat (IntKind.u8.wrap ((e.low : Int) / 65536 % 256)).toNat, UInt8.ofNat (IntKind.u8.wrap ((e.low : Int) / 256 % 256)).toNat, UInt8.ofNat (IntKind.u8.wrap ((e.low : Int) % 256)).toNat]) = Rc.full e := by
      rw [show ((e.low : Int) / 16777216) = ((e.low / 16777216 : Nat) : Int) from rfl, show ((e.low : Int) / 65536 % 256) = ((e.low / 65536 % 256 : Nat) : Int) from rfl, show ((e.low : Int) / 256 % 256) = ((e.low / 256 % 256 : Nat) : Int) from rfl, show ((e.low : Int) % 256) = ((e.low % 256 : Nat) : Int) from rfl, wrap_ofNat, wrap_ofNat, wrap_ofNat, wrap_ofNat, hmod, hmod, hmod]
      rfl
    have hcode : Rc.trim (Rc.full e) = Rc.code (Rc.RM n) Rc.T2 l := by
      have := hE.h
      rw [hil, List.drop_length] at this
      show Rc.trim (Rc.full e) = Rc.trim (Rc.full (Rc.encS (Rc.RM n) Rc.T2 Rc.e0 l))
      rw [← this]
      rfl
    rw [hfull]
    have hfl : e.out.length + 4 = (Rc.full e).length := by rw [Rc.full_len]
    refine Sat.forget 0 (Sat.forget 1 (Sat.forget 3 ?_))
    refine Sat.drop rfl ?_ ?_
    · ((repeat' (first | exact AllP.nil | with_reducible refine AllP.cons ?_ ?_)) <;> first | exact rfl | exact trivial | exact Int.natCast_add_one _ | (intro j _; simp [pureL, pureS, pureE]; done) | exact ⟨rfl, rfl, rfl, rfl⟩)
    refine Sat.freezeC true 4 rfl ?_ ?_
    · (repeat' (first | exact AllP.nil | with_reducible refine AllP.cons ?_ ?_)) <;> first | exact rfl | exact .inl ⟨rfl, hfl, rfl⟩ | exact trivial
    rw [← hcode]
    have hF : (Rc.full e).length ≤ 262148 := by rw [Rc.full_len]; omega
    generalize Rc.full e = FL at *
    apply Sat.loop (α := List UInt8) (fun x => x.length ≤ 262148 ∧ Hd (Rc.trim FL = Rc.trim x)) (fun x => x.length) FL (fun x => [(9, .ro (.u8 x))]) (fun _ => []) [] [] 0
    · intro x; exact rfl
    · intro x; exact rfl
    · exact rfl
    · exact rfl
    · ((repeat' (first | exact AllP.nil | with_reducible refine AllP.cons ?_ ?_)) <;> first | exact rfl | exact trivial | exact Int.natCast_add_one _ | (intro j _; simp [pureL, pureS, pureE]; done) | exact ⟨rfl, rfl, rfl, rfl⟩)
    · exact ⟨hF, ⟨rfl⟩⟩
    rintro x ⟨x1, x2⟩
    rcases Rc.snoc_cases x with rfl | ⟨m, b0, rfl⟩
    · repeat' (first
          | ((with_reducible apply Sat.run (X := XU)); exact rfl; (first | exact True.intro | (exact phi) | skip))
          | ((with_reducible apply Sat.drawn); kernel_rfl)
          | ((with_reducible apply DSat.run (X := XU)); exact rfl; (first | exact True.intro | (exact phi) | skip))
          | ((with_reducible apply DSat.fin); kernel_rfl)
          | ((with_reducible apply Sat.cond_t); exact rfl)
          | ((with_reducible apply Sat.cond_f); exact rfl)
          | ((with_reducible apply Sat.cond_pt); exact rfl; (try dsimp only [V.EV.sub, V.EV.len]); first | assumption | omega)
          | ((with_reducible apply Sat.cond_pf); exact rfl; (try dsimp only [V.EV.sub, V.EV.len]); first | assumption | omega)
          | ((with_reducible apply Sat.cond_p); exact rfl; all_goals (intro h; (try simp only [V.EV.sub, V.EV.len] at h)))
          | ((with_reducible apply Sat.cond); exact rfl; all_goals (intro h; (try simp only [V.EV.sub, V.EV.len, Bool.cond_true_left, Bool.cond_false_right, Bool.or_eq_true, Bool.and_eq_true, Bool.or_eq_false_iff, Bool.and_eq_false_iff, Bool.not_eq_true', Bool.not_eq_false', decide_eq_true_eq, decide_eq_false_iff_not, ne_eq] at h))) | fail)
      (refine Sat.fin (Sat.end2 rfl rfl rfl rfl True.intro True.intro (.refl _ purX) (.refl _ purX) (by first | exact .inl rfl | exact .inr rfl) (fun _ h => h)) ?_; (rw [x2.h]; rfl))
    · have hml : (m ++ [b0]).length = m.length + 1 := by rw [List.length_append]; rfl
      have hge : (m ++ [b0]).getD (((m ++ [b0]).length : Int) - 1).toNat 0 = b0 := by
        rw [show (((m ++ [b0]).length : Int) - 1).toNat = m.length by omega, List.getD_eq_getElem?_getD, List.getElem?_append_right (Nat.le_refl _), Nat.sub_self]
        rfl
      repeat' (first
          | ((with_reducible apply Sat.run (X := XU)); exact rfl; (first | exact True.intro | (exact phi) | skip))
          | ((with_reducible apply Sat.drawn); kernel_rfl)
          | ((with_reducible apply DSat.run (X := XU)); exact rfl; (first | exact True.intro | (exact phi) | skip))
          | ((with_reducible apply DSat.fin); kernel_rfl)
          | ((with_reducible apply Sat.cond_t); exact rfl)
          | ((with_reducible apply Sat.cond_f); exact rfl)
          | ((with_reducible apply Sat.cond_pt); exact rfl; (try dsimp only [V.EV.sub, V.EV.len]); first | assumption | omega)
          | ((with_reducible apply Sat.cond_pf); exact rfl; (try dsimp only [V.EV.sub, V.EV.len]); first | assumption | omega)
          | ((with_reducible apply Sat.cond_p); exact rfl; all_goals (intro h; (try simp only [V.EV.sub, V.EV.len] at h)))
          | ((with_reducible apply Sat.cond); exact rfl; all_goals (intro h; (try simp only [V.EV.sub, V.EV.len, Bool.cond_true_left, Bool.cond_false_right, Bool.or_eq_true, Bool.and_eq_true, Bool.or_eq_false_iff, Bool.and_eq_false_iff, Bool.not_eq_true', Bool.not_eq_false', decide_eq_true_eq, decide_eq_false_iff_not, ne_eq] at h))) | fail)
      · have h2 : (((m ++ [b0]).getD (((m ++ [b0]).length : Int) - 1).toNat 0).toNat : Int) = 0 := of_decide_eq_true h.2
        rw [hge] at h2
        have hb : b0 = 0 := UInt8.toNat_inj.1 (by show b0.toNat = 0; omega)
        subst hb
        have hq : (((m ++ [(0 : UInt8)]).length : Int) - 1).toNat - 0 = m.length := by omega
        refine Sat.back m [] rfl ?_ ⟨by omega, ⟨?_⟩⟩ ?_
        · ((repeat' (first | exact AllP.nil | with_reducible refine AllP.cons ?_ ?_)) <;> first | exact rfl | exact trivial | exact Int.natCast_add_one _ | (intro j _; simp [pureL, pureS, pureE]; done) | exact ⟨rfl, rfl, rfl, rfl⟩ | (show EV.u8 (List.take ((((m ++ [0]).length : Int) - 1).toNat - 0) (List.drop 0 (m ++ [0]))) = EV.u8 m; rw [hq, List.drop_zero, List.take_left]))
        · rw [x2.h, Rc.trim_zero]
        · omega
      · have hb : b0 ≠ 0 := fun e => by
          rcases h with h | h
          · exact of_decide_eq_false h (by show (0 : Int) < ((m ++ [b0]).length : Int); omega)
          · exact of_decide_eq_false h (by
              show (((m ++ [b0]).getD (((m ++ [b0]).length : Int) - 1).toNat 0).toNat : Int) = 0
              rw [hge, e]
              rfl)
        have hend : Rc.trim FL = m ++ [b0] := by rw [x2.h, Rc.trim_keep m b0 hb]
        (refine Sat.fin (Sat.end2 rfl rfl rfl rfl True.intro True.intro (.refl _ purX) (.refl _ purX) (by first | exact .inl rfl | exact .inr rfl) (fun _ h => h)) ?_; (rw [hend]))
end Go.Proofs.YtcnpgmohnclojaaDoor
end
section
--PURE: (intro j _; simp [pureL, pureS, pureE]; done)
namespace Go.Proofs.YtcnpgmohnclojaaDoor
open Go.RowKit V
set_option maxRecDepth 100000
set_option maxHeartbeats 8000000
set_option linter.unusedSimpArgs false
/-- A text, filled up to four bytes. -/
def padL (b : List UInt8) : List UInt8 := b ++ List.replicate (4 - b.length) 0
theorem padL_get (b : List UInt8) (k : Nat) : (padL b).getD k 0 = b.getD k 0 := by
  unfold padL
  rw [List.getD_eq_getElem?_getD, List.getD_eq_getElem?_getD]
  rcases Nat.lt_or_ge k b.length with h | h
  · rw [List.getElem?_append_left h]
  · rw [List.getElem?_append_right h, List.getElem?_eq_none h, List.getElem?_replicate]
    split <;> rfl
theorem padL_len (b : List UInt8) : 4 ≤ (padL b).length ∧ b.length ≤ (padL b).length ∧ (padL b).length ≤ b.length + 4 := by
  unfold padL
  rw [List.length_append, List.length_replicate]
  omega
theorem be_ok (X0 X1 X2 X3 L : Nat) (h0 : X0 < 256) (h1 : X1 < 256) (h2 : X2 < 256) (h3 : X3 < 256) (h : 4 ≤ L) :
    AllP [inR .i64 ((X0 : Int) * 2 ^ Int.toNat 24 + (X1 : Int) * 2 ^ Int.toNat 16 + (X2 : Int) * 2 ^ Int.toNat 8 + (X3 : Int)), 0 + Int.toNat 3 < L, (0 : Int) ≤ 3 ∧ (3 : Int) < (L : Int),
      inR .i64 ((X0 : Int) * 2 ^ Int.toNat 24 + (X1 : Int) * 2 ^ Int.toNat 16 + (X2 : Int) * 2 ^ Int.toNat 8), (0 : Int) ≤ 8 ∧ (8 : Int) < (IntKind.i64.bits : Int) ∧ inR .i64 ((X2 : Int) * 2 ^ Int.toNat 8), 0 + Int.toNat 2 < L, (0 : Int) ≤ 2 ∧ (2 : Int) < (L : Int),
      inR .i64 ((X0 : Int) * 2 ^ Int.toNat 24 + (X1 : Int) * 2 ^ Int.toNat 16), (0 : Int) ≤ 16 ∧ (16 : Int) < (IntKind.i64.bits : Int) ∧ inR .i64 ((X1 : Int) * 2 ^ Int.toNat 16), 0 + Int.toNat 1 < L, (0 : Int) ≤ 1 ∧ (1 : Int) < (L : Int),
      (0 : Int) ≤ 24 ∧ (24 : Int) < (IntKind.i64.bits : Int) ∧ inR .i64 ((X0 : Int) * 2 ^ Int.toNat 24), 0 + Int.toNat 0 < L, (0 : Int) ≤ 0 ∧ (0 : Int) < (L : Int)] := by
  have e1 : (2 : Int) ^ Int.toNat 24 = 16777216 := rfl
  have e2 : (2 : Int) ^ Int.toNat 16 = 65536 := rfl
  have e3 : (2 : Int) ^ Int.toNat 8 = 256 := rfl
  have e4 : Int.toNat 3 = 3 := rfl
  have e5 : Int.toNat 2 = 2 := rfl
  have e6 : Int.toNat 1 = 1 := rfl
  have e7 : Int.toNat 0 = 0 := rfl
  rw [e1, e2, e3, e4, e5, e6, e7]
  refine .cons (inR_i64 (by omega) (by omega)) (.cons (by omega) (.cons ⟨by omega, by omega⟩ (.cons (inR_i64 (by omega) (by omega)) (.cons ⟨by decide, by decide, inR_i64 (by omega) (by omega)⟩ (.cons (by omega) (.cons ⟨by omega, by omega⟩ (.cons (inR_i64 (by omega) (by omega)) (.cons ⟨by decide, by decide, inR_i64 (by omega) (by omega)⟩ (.cons (by omega) (.cons ⟨by omega, by omega⟩ (.cons ⟨by decide, by decide, inR_i64 (by omega) (by omega)⟩ (.cons (by omega) (.cons ⟨by omega, by omega⟩ .nil)))))))))))))
theorem be_val (b : List UInt8) : ((padL b).getD (0 + Int.toNat 0) 0).toNat * (2 : Int) ^ Int.toNat 24 + ((padL b).getD (0 + Int.toNat 1) 0).toNat * (2 : Int) ^ Int.toNat 16 + ((padL b).getD (0 + Int.toNat 2) 0).toNat * (2 : Int) ^ Int.toNat 8 + (((padL b).getD (0 + Int.toNat 3) 0).toNat : Int) = (Rc.wn b 4 : Int) := by
  have e1 : (2 : Int) ^ Int.toNat 24 = 16777216 := rfl
  have e2 : (2 : Int) ^ Int.toNat 16 = 65536 := rfl
  have e3 : (2 : Int) ^ Int.toNat 8 = 256 := rfl
  rw [e1, e2, e3, padL_get, padL_get, padL_get, padL_get]
  show _ = ((((((0 * 256 + (b.getD 0 0).toNat) * 256 + (b.getD 1 0).toNat) * 256 + (b.getD 2 0).toNat) * 256 + (b.getD 3 0).toNat : Nat)) : Int)
  show ((b.getD 0 0).toNat : Int) * 16777216 + ((b.getD 1 0).toNat : Int) * 65536 + ((b.getD 2 0).toNat : Int) * 256 + ((b.getD 3 0).toNat : Int) = _
  omega
theorem decL_succ (M : Rc.Mdl) (b : List UInt8) (n : Nat) (s : M.σ) (a size k : Nat) (out : List UInt8) : Rc.decL M b (n + 1) s a size k out = if size / M.t s * (M.l s).getD (Rc.findC (M.l s) (size / M.t s) a 0) 0 ≤ a - size / M.t s * Rc.bef (M.l s) (Rc.findC (M.l s) (size / M.t s) a 0) then none else
    Rc.decL M b n (M.saw s (UInt8.ofNat (Rc.findC (M.l s) (size / M.t s) a 0)))
      (Rc.normD b (a - size / M.t s * Rc.bef (M.l s) (Rc.findC (M.l s) (size / M.t s) a 0)) (size / M.t s * (M.l s).getD (Rc.findC (M.l s) (size / M.t s) a 0) 0) k).1
      (Rc.normD b (a - size / M.t s * Rc.bef (M.l s) (Rc.findC (M.l s) (size / M.t s) a 0)) (size / M.t s * (M.l s).getD (Rc.findC (M.l s) (size / M.t s) a 0) 0) k).2.1
      (Rc.normD b (a - size / M.t s * Rc.bef (M.l s) (Rc.findC (M.l s) (size / M.t s) a 0)) (size / M.t s * (M.l s).getD (Rc.findC (M.l s) (size / M.t s) a 0) 0) k).2.2
      (out ++ [UInt8.ofNat (Rc.findC (M.l s) (size / M.t s) a 0)]) := by rw [Rc.decL]
theorem find_in (l : List Nat) (r a : Nat) : ∀ (n c : Nat), c + n = 255 → r * Rc.bef l c ≤ a → Rc.findC l r a c ≤ 255 ∧ r * Rc.bef l (Rc.findC l r a c) ≤ a
  | 0, c, h, h1 => by
    rw [Rc.findC, if_neg (fun q => by omega)]
    exact ⟨by omega, h1⟩
  | n + 1, c, h, h1 => by
    rw [Rc.findC]
    split
    · rename_i q
      exact find_in l r a n (c + 1) (by omega) q.2
    · exact ⟨by omega, h1⟩
attribute [local irreducible] V.Sat V.DSat
theorem dec_R (n : Nat) (hn : n < 3) (b : List UInt8) (len : Nat) (hlen : len ≤ 65536) (hbl : b.length ≤ 1000000) :
    Fun Tryd.prog [] 16 [.int .i64 (n : Int), .ro (.u8 b), .int .i64 (len : Int)] (.tup [.ro (.u8 (decR (Rc.RM n) Rc.T2 b len)), .int .i64 (decE (Rc.RM n) Rc.T2 b len)]) := by
  refine Fun.mkF 8 Tryd.func16 rfl Tryd.ntmps16 rfl rfl fun hf T w0 => ?_
  refine Sat.top rfl rfl rfl fun top => ?_
  have hn0 : ¬ (n : Int) < 0 := by omega
  have hn2 : ¬ (n : Int) > 2 := by omega
  have hl0 : ¬ (len : Int) < 0 := by omega
  have hl2 : ¬ (len : Int) > 65536 := by omega
  repeat' (first
      | ((with_reducible apply Sat.run (X := XU)); exact rfl; (first | exact True.intro | (exact phi) | skip))
      | ((with_reducible apply Sat.drawn); kernel_rfl)
      | ((with_reducible apply DSat.run (X := XU)); exact rfl; (first | exact True.intro | (exact phi) | skip))
      | ((with_reducible apply DSat.fin); kernel_rfl)
      | ((with_reducible apply Sat.cond_t); exact rfl)
      | ((with_reducible apply Sat.cond_f); exact rfl)
      | ((with_reducible apply Sat.cond_pt); exact rfl; (try dsimp only [V.EV.sub, V.EV.len]); first | assumption | omega)
      | ((with_reducible apply Sat.cond_pf); exact rfl; (try dsimp only [V.EV.sub, V.EV.len]); first | assumption | omega)
      | ((with_reducible apply Sat.cond_p); exact rfl; all_goals (intro h; (try simp only [V.EV.sub, V.EV.len] at h)))
      | ((with_reducible apply Sat.cond); exact rfl; all_goals (intro h; (try simp only [V.EV.sub, V.EV.len, Bool.cond_true_left, Bool.cond_false_right, Bool.or_eq_true, Bool.and_eq_true, Bool.or_eq_false_iff, Bool.and_eq_false_iff, Bool.not_eq_true', Bool.not_eq_false', decide_eq_true_eq, decide_eq_false_iff_not, ne_eq] at h))) | fail)
  · exact absurd h (by omega)
  clear h
  refine Sat.kill [34, 36] rfl ?_
  apply Sat.loop (α := Nat) (fun x => x ≤ 4 - b.length) (fun x => 4 - b.length - x) 0 (fun x => [(8, .row 1 0 1 0 (b.length + x))]) (fun x => [(1, .row 5 (.u8 (b ++ List.replicate x 0)))]) [] [] 0
  · intro x; exact rfl
  · intro x; exact rfl
  · exact rfl
  · exact rfl
  · ((repeat' (first | exact AllP.nil | with_reducible refine AllP.cons ?_ ?_)) <;> first | exact rfl | exact trivial | exact Int.natCast_add_one _ | (intro j _; simp [pureL, pureS, pureE]; done) | exact ⟨rfl, rfl, rfl, rfl⟩ | (show EV.u8 _ = EV.u8 (b ++ []); rw [List.append_nil]; rfl) | (refine ⟨rfl, rfl, rfl, ?_⟩; show 0 + b.length = b.length + 0; omega))
  · exact Nat.zero_le _
  · intro x hx
    repeat' (first
        | ((with_reducible apply Sat.run (X := XU)); exact rfl; (first | exact True.intro | (fail) | skip))
        | ((with_reducible apply Sat.drawn); kernel_rfl)
        | ((with_reducible apply DSat.run (X := XU)); exact rfl; (first | exact True.intro | (fail) | skip))
        | ((with_reducible apply DSat.fin); kernel_rfl) | fail)
    with_reducible apply Sat.cond_p
    · exact rfl
    · intro h
      have hlt : b.length + x < 4 := by
        have h : ((b.length + x : Nat) : Int) < 4 := h
        omega
      repeat' (first
          | ((with_reducible apply Sat.run (X := XU)); exact rfl; (first | exact True.intro | (fail) | skip))
          | ((with_reducible apply Sat.drawn); kernel_rfl)
          | ((with_reducible apply DSat.run (X := XU)); exact rfl; (first | exact True.intro | (fail) | skip))
          | ((with_reducible apply DSat.fin); kernel_rfl) | fail)
      · exact .cons (Nat.le_refl 1) (.cons (by show b.length + x = (b ++ List.replicate x 0).length; rw [List.length_append, List.length_replicate]) (.cons (by show (b.length + x + 1) * (0 + 1) ≤ 140737488355328; omega) .nil))
      refine Sat.back (x + 1) [(1, some 3)] rfl ?_ ?_ ?_
      · ((repeat' (first | exact AllP.nil | with_reducible refine AllP.cons ?_ ?_)) <;> first | exact rfl | exact trivial | exact Int.natCast_add_one _ | (intro j _; simp [pureL, pureS, pureE]; done) | exact ⟨rfl, rfl, rfl, rfl⟩ | (show EV.u8 (b ++ List.replicate x 0 ++ [0]) = EV.u8 (b ++ List.replicate (x + 1) 0); rw [List.append_assoc, ← List.replicate_succ']))
      · omega
      · omega
    · intro h
      have hx4 : x = 4 - b.length := by
        have h : ¬ ((b.length + x : Nat) : Int) < 4 := h
        omega
      subst hx4
      have hPl : b.length + (4 - b.length) = (padL b).length := by unfold padL; rw [List.length_append, List.length_replicate]
      have hP4 := padL_len b
      rw [show b ++ List.replicate (4 - b.length) 0 = padL b from rfl, hPl]
      repeat' (first
          | ((with_reducible apply Sat.run (X := XU)); exact rfl; (first | exact True.intro | (fail) | skip))
          | ((with_reducible apply Sat.drawn); kernel_rfl)
          | ((with_reducible apply DSat.run (X := XU)); exact rfl; (first | exact True.intro | (fail) | skip))
          | ((with_reducible apply DSat.fin); kernel_rfl) | fail)
      refine Sat.beginsX (C := cx Tryd.prog 141 T w0) (Ow := BegT (n : Int)) (Vx := fun x => ptrOf x.1) (f := 18) (svs := [.int .i64 (n : Int)]) top (fun w vs hv => ?_) rfl rfl (by kernel_rfl) (fun _ => rfl) ?_
      · have hvs : vs = [.int .i64 (n : Int)] := by
          cases hv E0 (fun _ => False) w with
          | cons _ _ _ _ h1 h2 =>
            cases h1
            cases h2
            rfl
        subst hvs
        exact begin_R n hn w
      rintro ⟨pm, g⟩ W S Sm hat
      refine Sat.takeX (C := cx Tryd.prog 141 T w0) (pos := .reg _ _ _) (TabsT (fun j => j < 256) (fun _ => Rc.T1) g) 2 pm 74 (modR (n : Int) g 0) top hat (fun w h => BegAt.split w h) fun W S hat => ?_
      refine Sat.seeX (pos := .reg _ _ _) 44 2 pm (List.mem_cons_self ..) rfl rfl ?_
      show Sat _ _ (.reg _ _ _ _ _ _)
      repeat' (first
          | ((with_reducible apply Sat.run (X := XU)); exact rfl; (first | exact True.intro | (exact phi) | skip))
          | ((with_reducible apply Sat.drawn); kernel_rfl)
          | ((with_reducible apply DSat.run (X := XU)); exact rfl; (first | exact True.intro | (exact phi) | skip))
          | ((with_reducible apply DSat.fin); kernel_rfl)
          | ((with_reducible apply Sat.cond_t); exact rfl)
          | ((with_reducible apply Sat.cond_f); exact rfl)
          | ((with_reducible apply Sat.cond_pt); exact rfl; (try dsimp only [V.EV.sub, V.EV.len]); first | assumption | omega)
          | ((with_reducible apply Sat.cond_pf); exact rfl; (try dsimp only [V.EV.sub, V.EV.len]); first | assumption | omega)
          | ((with_reducible apply Sat.cond_p); exact rfl; all_goals (intro h; (try simp only [V.EV.sub, V.EV.len] at h)))
          | ((with_reducible apply Sat.cond); exact rfl; all_goals (intro h; (try simp only [V.EV.sub, V.EV.len, Bool.cond_true_left, Bool.cond_false_right, Bool.or_eq_true, Bool.and_eq_true, Bool.or_eq_false_iff, Bool.and_eq_false_iff, Bool.not_eq_true', Bool.not_eq_false', decide_eq_true_eq, decide_eq_false_iff_not, ne_eq] at h))) | fail)
      · exact be_ok _ _ _ _ _ (UInt8.toNat_lt _) (UInt8.toNat_lt _) (UInt8.toNat_lt _) (UInt8.toNat_lt _) hP4.1
      rw [be_val]
      have hwl2 : Rc.wn b 4 < 4294967296 := wn_lt b 4
      obtain ⟨D, hD⟩ : ∃ D, Rc.decL (Rc.RM n) b len Rc.T2 (Rc.wn b 4) 4294967295 4 [] = D := ⟨_, rfl⟩
      refine Sat.kill [67] rfl ?_
      refine Sat.loopX (C := cx Tryd.prog 141 T w0) (α := Nat × ((UInt8 → List Nat × Nat) × UInt8) × (Nat × Nat × Nat) × List UInt8) (fun x => TabsT (fun j => j < 256) (tbs x.2.1) g) (fun x => x.1 ≤ len ∧ (Rc.RM n).inv x.2.1 ∧ Hd (Rc.decL (Rc.RM n) b (len - x.1) x.2.1 x.2.2.1.1 x.2.2.1.2.1 x.2.2.1.2.2 x.2.2.2 = D) ∧ x.2.2.1.1 < 4294967296 ∧ 16777216 ≤ x.2.2.1.2.1 ∧ x.2.2.1.2.1 < 4294967296 ∧ x.2.2.2.length = x.1 ∧ x.2.2.1.2.2 ≤ 4 + 4 * x.1) (fun x => len - x.1) (0, Rc.T2, (Rc.wn b 4, 4294967295, 4), [])
        (fun x => [(14, .int .i64 (x.1 : Int)), (13, .row 3 0 1 0 x.2.2.2.length), (10, .int .i64 (x.2.2.1.1 : Int)), (12, .int .i64 (x.2.2.1.2.1 : Int)), (11, .int .i64 (x.2.2.1.2.2 : Int))]) (fun x => [(3, .row 5 (.u8 x.2.2.2)), (2, .cells 74 (modR (n : Int) g (x.2.1.2.toNat : Int)))]) [] [] 0 (fun x => rfl) (fun x => rfl) rfl rfl ?_ ?_ hat ?_
      · ((repeat' (first | exact AllP.nil | with_reducible refine AllP.cons ?_ ?_)) <;> first | exact rfl | exact trivial | exact Int.natCast_add_one _ | (intro j _; simp [pureL, pureS, pureE]; done) | exact ⟨rfl, rfl, rfl, rfl⟩)
      · exact ⟨Nat.zero_le _, fun k => Rc.inv2 k, ⟨hD⟩, hwl2, by dsimp only; omega, by dsimp only; omega, rfl, by dsimp only; omega⟩
      rintro ⟨i, s, ⟨a, size, k⟩, out⟩ W S Sm ⟨hi, hs, hdl, ha, hlo, hhi, ho, hk⟩ hat
      dsimp only at hi hs hdl ha hlo hhi ho hk hat ⊢
      have hT := (Rc.RM n).tab s hs
      have ht1 := hT.tpos
      have ht2 := hT.big
      repeat' (first
          | ((with_reducible apply Sat.run (X := XU)); exact rfl; (first | exact True.intro | (fail) | skip))
          | ((with_reducible apply Sat.drawn); kernel_rfl)
          | ((with_reducible apply DSat.run (X := XU)); exact rfl; (first | exact True.intro | (fail) | skip))
          | ((with_reducible apply DSat.fin); kernel_rfl) | fail)
      with_reducible apply Sat.cond_p
      · exact rfl
      · intro hil
        have hil : i < len := by omega
        repeat' (first
            | ((with_reducible apply Sat.run (X := XU)); exact rfl; (first | exact True.intro | (fail) | skip))
            | ((with_reducible apply Sat.drawn); kernel_rfl)
            | ((with_reducible apply DSat.run (X := XU)); exact rfl; (first | exact True.intro | (fail) | skip))
            | ((with_reducible apply DSat.fin); kernel_rfl)
            | ((with_reducible apply Sat.mcall ((now_R n hn g s.2))); exact rfl; exact rfl; kernel_rfl; (exact cnvX); exact rfl; exact purX; exact rfl; exact rfl)
            | ((with_reducible apply DSat.mcall ((now_R n hn g s.2))); exact rfl; exact rfl; kernel_rfl; (exact cnvX); exact rfl; exact purX; exact rfl; exact rfl) | fail)
        refine Sat.takeX (C := cx Tryd.prog 141 T w0) (pos := .reg _ _ _) (TabsT (fun j => j < 256 ∧ j ≠ ixN n s.2.toNat) (tbs s) g) 4 (g (ixN n s.2.toNat)) 69 (tabR ((Rc.RM n).l s) ((Rc.RM n).t s)) top hat (fun w h => by rw [← tbs_is]; exact TabsAt.split (D := fun j => j < 256) _ (ix_lt n s) w h) fun W S hat => ?_
        refine Sat.seeX (pos := .reg _ _ _) 15 4 (g (ixN n s.2.toNat)) (List.mem_cons_self ..) rfl rfl ?_
        refine Sat.seeX (pos := .reg _ _ _) 76 4 (g (ixN n s.2.toNat)) (List.mem_cons_self ..) rfl rfl ?_
        show Sat _ _ (.reg _ _ _ _ _ _)
        have hun : len - i = (len - (i + 1)) + 1 := by omega
        have hdl2 := hdl.h
        rw [hun] at hdl2
        have hdl2 := (decL_succ (Rc.RM n) b (len - (i + 1)) s a size k out).symm.trans hdl2
        clear hn0 hn2 hl0 hl2
        generalize hL : (Rc.RM n).l s = L at *
        generalize ht : (Rc.RM n).t s = t at *
        obtain ⟨R, hR⟩ : ∃ R, R = size / t := ⟨_, rfl⟩
        have hRi : Hd ((size : Int) / (t : Int) = (R : Int)) := ⟨by rw [hR, Int.natCast_ediv]⟩
        have hRs : R * t ≤ size := by rw [hR]; exact Nat.div_mul_le_self _ _
        rw [← hR] at hdl2
        obtain ⟨c, hcq⟩ : ∃ c, c = Rc.findC L R a 0 := ⟨_, rfl⟩
        have hfi := find_in L R a 255 0 rfl (by show R * 0 ≤ a; omega)
        rw [← hcq] at hdl2 hfi
        obtain ⟨c8, hc8⟩ : ∃ c8, c8 = UInt8.ofNat c := ⟨_, rfl⟩
        have hcc : c8.toNat = c := by rw [hc8]; exact UInt8.toNat_ofNat_of_lt' (show c < 256 by omega)
        obtain ⟨RB, hRB⟩ : ∃ RB, RB = R * Rc.bef L c := ⟨_, rfl⟩
        obtain ⟨RK, hRK⟩ : ∃ RK, RK = R * L.getD c 0 := ⟨_, rfl⟩
        have hRBi : Hd ((R : Int) * (Rc.bef L c8.toNat : Nat) = (RB : Int)) := ⟨by rw [hcc, hRB, Int.natCast_mul]⟩
        have hRKi : Hd ((R : Int) * (castL L).getD (c8.toNat : Int).toNat 0 = (RK : Int)) := ⟨by rw [Int.toNat_natCast, castL_get _ _ (by rw [hT.len, hcc]; omega), hcc, hRK, Int.natCast_mul]⟩
        have hBK : RB + RK ≤ size := by
          rw [hRB, hRK, ← Nat.mul_add, ← Rc.bef_succ _ _ (by rw [hT.len]; omega)]
          exact Nat.le_trans (Nat.mul_le_mul_left _ (by rw [hT.tot]; exact Rc.bef_le _ _)) hRs
        have hRBa : RB ≤ a := by rw [hRB]; exact hfi.2
        rw [← hRB, ← hRK, ← hc8] at hdl2
        have hfind := findR_spec L t hT R a (by omega) ha
        rw [← hcq, show ((c : Nat) : Int) = (c8.toNat : Int) by rw [hcc]] at hfind
        repeat' (first
            | ((with_reducible apply Sat.run (X := XU)); exact rfl; (first | exact True.intro | (fail) | skip))
            | ((with_reducible apply Sat.drawn); kernel_rfl)
            | ((with_reducible apply DSat.run (X := XU)); exact rfl; (first | exact True.intro | (fail) | skip))
            | ((with_reducible apply DSat.fin); kernel_rfl) | fail)
        · exact .cons ⟨by omega, by omega⟩ .nil
        rw [hRi.h]
        repeat' (first
            | ((with_reducible apply Sat.run (X := XU)); exact rfl; (first | exact True.intro | (fail) | skip))
            | ((with_reducible apply Sat.drawn); kernel_rfl)
            | ((with_reducible apply DSat.run (X := XU)); exact rfl; (first | exact True.intro | (fail) | skip))
            | ((with_reducible apply DSat.fin); kernel_rfl)
            | ((with_reducible apply Sat.mcall (hfind)); exact rfl; exact rfl; kernel_rfl; (exact cnvX); exact rfl; exact purX; exact rfl; exact rfl)
            | ((with_reducible apply DSat.mcall (hfind)); exact rfl; exact rfl; kernel_rfl; (exact cnvX); exact rfl; exact purX; exact rfl; exact rfl)
            | ((with_reducible apply Sat.mcall ((befR_spec L t hT c8))); exact rfl; exact rfl; kernel_rfl; (exact cnvX); exact rfl; exact purX; exact rfl; exact rfl)
            | ((with_reducible apply DSat.mcall ((befR_spec L t hT c8))); exact rfl; exact rfl; kernel_rfl; (exact cnvX); exact rfl; exact purX; exact rfl; exact rfl) | fail)
        all_goals first | (rw [hRBi.h, hRKi.h]) | (rw [hRBi.h]) | skip
        · have hc8l := c8.toNat_lt
          exact .cons (inR_i64 (by omega) (by omega)) (.cons (by show c8.toNat < (castL L).length; rw [castL_len, hT.len]; omega) (.cons ⟨by omega, by omega⟩ (.cons (inR_i64 (by omega) (by omega)) (.cons (inR_i64 (by omega) (by omega)) .nil))))
        rw [show ((a : Int) - (RB : Int)) = ((a - RB : Nat) : Int) by omega]
        with_reducible apply Sat.cond_p
        · exact rfl
        · intro hge
          have hdl2 := (if_pos (show RK ≤ a - RB by omega)).symm.trans hdl2
          have hdT : decT (Rc.RM n) Rc.T2 b len = none := by
            unfold decT
            rw [hD, ← hdl2]
          refine Sat.up top hat.over ?_
          rw [(decT_none hdT).1, (decT_none hdT).2]
          repeat' (first
              | ((with_reducible apply Sat.run (X := XU)); exact rfl; (first | exact True.intro | (fail) | skip))
              | ((with_reducible apply Sat.drawn); kernel_rfl)
              | ((with_reducible apply DSat.run (X := XU)); exact rfl; (first | exact True.intro | (fail) | skip))
              | ((with_reducible apply DSat.fin); kernel_rfl) | fail)
          refine Sat.fin (Sat.end2 rfl rfl rfl rfl True.intro True.intro (.nils _ rfl) (.refl _ trivial) (by first | exact .inl rfl | exact .inr rfl) (fun _ h => h)) rfl
        · intro hge
          have hdl2 := (if_neg (show ¬ RK ≤ a - RB by omega)).symm.trans hdl2
          repeat' (first
              | ((with_reducible apply Sat.run (X := XU)); exact rfl; (first | exact True.intro | (fail) | skip))
              | ((with_reducible apply Sat.drawn); kernel_rfl)
              | ((with_reducible apply DSat.run (X := XU)); exact rfl; (first | exact True.intro | (fail) | skip))
              | ((with_reducible apply DSat.fin); kernel_rfl) | fail)
          apply Sat.loop (α := (Nat × Nat × Nat) × Nat) (fun x => Hd (Rc.normD b x.1.1 x.1.2.1 x.1.2.2 = Rc.normD b (a - RB) RK k) ∧ x.1.1 < x.1.2.1 ∧ x.1.2.1 < 4294967296 ∧ x.1.2.2 = k + x.2 ∧ x.2 ≤ 4 ∧ 256 ^ x.2 ≤ x.1.2.1) (fun x => 16777216 - x.1.2.1) ((a - RB, RK, k), 0) (fun x => [(10, .int .i64 (x.1.1 : Int)), (12, .int .i64 (x.1.2.1 : Int)), (11, .int .i64 (x.1.2.2 : Int))]) (fun _ => []) [] [] 0
          · intro x; exact rfl
          · intro x; exact rfl
          · exact rfl
          · exact rfl
          · ((repeat' (first | exact AllP.nil | with_reducible refine AllP.cons ?_ ?_)) <;> first | exact rfl | exact trivial | exact Int.natCast_add_one _ | (intro j _; simp [pureL, pureS, pureE]; done) | exact ⟨rfl, rfl, rfl, rfl⟩)
          · exact ⟨⟨rfl⟩, by dsimp only; omega, by dsimp only; omega, rfl, by dsimp only; omega, by dsimp only; rw [Nat.pow_zero]; omega⟩
          rintro ⟨⟨a1, sz1, k1⟩, j⟩ ⟨z1, z2, z3, z4, z5, z6⟩
          dsimp only at z1 z2 z3 z4 z5 z6 ⊢
          have hd := (b.getD k1 0).toNat_lt
          repeat' (first
              | ((with_reducible apply Sat.run (X := XU)); exact rfl; (first | exact True.intro | (fail) | skip))
              | ((with_reducible apply Sat.drawn); kernel_rfl)
              | ((with_reducible apply DSat.run (X := XU)); exact rfl; (first | exact True.intro | (fail) | skip))
              | ((with_reducible apply DSat.fin); kernel_rfl) | fail)
          with_reducible apply Sat.cond_p
          · exact rfl
          · intro h
            have hj : j < 3 := by
              rcases Nat.lt_or_ge j 3 with q | q
              · exact q
              · have : 256 ^ 3 ≤ 256 ^ j := Nat.pow_le_pow_right (by decide) q
                omega
            have hgo : Hd (Rc.normD b (a1 * 256 + (b.getD k1 0).toNat) (sz1 * 256) (k1 + 1) = Rc.normD b (a - RB) RK k) := ⟨by
              have q := z1.h
              rw [Rc.normD_more (size := sz1) ⟨by omega, by omega⟩] at q
              exact q⟩
            have hpw : 256 ^ (j + 1) ≤ sz1 * 256 := by rw [Nat.pow_succ]; omega
            repeat' (first
                | ((with_reducible apply Sat.run (X := XU)); exact rfl; (first | exact True.intro | (fail) | skip))
                | ((with_reducible apply Sat.drawn); kernel_rfl)
                | ((with_reducible apply DSat.run (X := XU)); exact rfl; (first | exact True.intro | (fail) | skip))
                | ((with_reducible apply DSat.fin); kernel_rfl) | fail)
            · exact .cons (inR_i64 (by omega) (by omega)) (.cons (inR_i64 (by omega) (by omega)) .nil)
            with_reducible apply Sat.cond_p
            · exact rfl
            · intro hk1
              have hk1 : k1 < (padL b).length := by omega
              have hpg := padL_get b k1
              repeat' (first
                  | ((with_reducible apply Sat.run (X := XU)); exact rfl; (first | exact True.intro | (fail) | skip))
                  | ((with_reducible apply Sat.drawn); kernel_rfl)
                  | ((with_reducible apply DSat.run (X := XU)); exact rfl; (first | exact True.intro | (fail) | skip))
                  | ((with_reducible apply DSat.fin); kernel_rfl) | fail)
              · have hpd := ((padL b).getD (0 + (k1 : Int).toNat) 0).toNat_lt
                exact .cons (inR_i64 (by omega) (by omega)) (.cons (inR_i64 (by omega) (by omega)) (.cons (by show 0 + k1 < (padL b).length; omega) (.cons ⟨by omega, by omega⟩ .nil)))
              rw [show 0 + (k1 : Int).toNat = k1 by omega, hpg]
              refine Sat.back ((a1 * 256 + (b.getD k1 0).toNat, sz1 * 256, k1 + 1), j + 1) [] rfl ?_ ⟨hgo, ?_, ?_, ?_, ?_, hpw⟩ ?_
              · ((repeat' (first | exact AllP.nil | with_reducible refine AllP.cons ?_ ?_)) <;> first | exact rfl | exact trivial | exact Int.natCast_add_one _ | (intro j _; simp [pureL, pureS, pureE]; done) | exact ⟨rfl, rfl, rfl, rfl⟩ | (show (a1 : Int) * 256 + ((b.getD k1 0).toNat : Int) = ((a1 * 256 + (b.getD k1 0).toNat : Nat) : Int); omega) | (show (sz1 : Int) * 256 = ((sz1 * 256 : Nat) : Int); omega))
              all_goals (dsimp only; omega)
            · intro hk1
              have hb0 : b.getD k1 0 = 0 := by
                rw [List.getD_eq_getElem?_getD, List.getElem?_eq_none (by omega)]
                rfl
              refine Sat.skipC ?_
              repeat' (first
                  | ((with_reducible apply Sat.run (X := XU)); exact rfl; (first | exact True.intro | (fail) | skip))
                  | ((with_reducible apply Sat.drawn); kernel_rfl)
                  | ((with_reducible apply DSat.run (X := XU)); exact rfl; (first | exact True.intro | (fail) | skip))
                  | ((with_reducible apply DSat.fin); kernel_rfl) | fail)
              · exact .cons (inR_i64 (by omega) (by omega)) .nil
              refine Sat.back ((a1 * 256 + (b.getD k1 0).toNat, sz1 * 256, k1 + 1), j + 1) [] rfl ?_ ⟨hgo, ?_, ?_, ?_, ?_, hpw⟩ ?_
              · have h00 : (0 : UInt8).toNat = 0 := rfl
                ((repeat' (first | exact AllP.nil | with_reducible refine AllP.cons ?_ ?_)) <;> first | exact rfl | exact trivial | exact Int.natCast_add_one _ | (intro j _; simp [pureL, pureS, pureE]; done) | exact ⟨rfl, rfl, rfl, rfl⟩ | (show (a1 : Int) * 256 = ((a1 * 256 + (b.getD k1 0).toNat : Nat) : Int); rw [hb0]; omega) | (show (sz1 : Int) * 256 = ((sz1 * 256 : Nat) : Int); omega))
              all_goals (dsimp only; omega)
          · intro h
            have hnd := z1.h
            rw [Rc.normD_end (size := sz1) (by omega)] at hnd
            rw [← hnd] at hdl2
            have hou : UInt8.ofNat (c8.toNat : Int).toNat = c8 := by rw [Int.toNat_natCast, UInt8.ofNat_toNat]
            repeat' (first
                | ((with_reducible apply Sat.run (X := XU)); exact rfl; (first | exact True.intro | (fail) | skip))
                | ((with_reducible apply Sat.drawn); kernel_rfl)
                | ((with_reducible apply DSat.run (X := XU)); exact rfl; (first | exact True.intro | (fail) | skip))
                | ((with_reducible apply DSat.fin); kernel_rfl) | fail)
            · exact .cons (Nat.le_refl 1) (.cons rfl (.cons (by show (out.length + 1) * (0 + 1) ≤ 140737488355328; omega) .nil))
            show Sat ⟨Tryd.prog, W, S, hidX (cx Tryd.prog 141 T w0) (fun b => Sm b ∧ b ≠ g (ixN n s.2.toNat)), [], 141, [4, 2], [⟨fun i => if i = 4 then some (some (g (ixN n s.2.toNat))) else none, .e, fun _ => undef⟩, ⟨fun i => if i = 2 then some (some pm) else none, .e, fun _ => undef⟩], false⟩ _ (.reg _ _ _ _ _ _)
            with_reducible apply Sat.inl 7 [] Tryd.func21 Tryd.ntmps21
            · exact rfl
            · exact rfl
            · kernel_rfl
            · exact rfl
            · exact rfl
            · exact rfl
            · exact rfl
            · ((repeat' (first | exact AllP.nil | with_reducible refine AllP.cons ?_ ?_)) <;> first | exact rfl | exact trivial | exact Int.natCast_add_one _ | (intro j _; simp [pureL, pureS, pureE]; done) | exact ⟨rfl, rfl, rfl, rfl⟩)
            intro a2 E2
            repeat' (first
                | ((with_reducible apply Sat.run (X := XU)); exact rfl; (first | exact True.intro | (fail) | skip))
                | ((with_reducible apply Sat.drawn); kernel_rfl)
                | ((with_reducible apply DSat.run (X := XU)); exact rfl; (first | exact True.intro | (fail) | skip))
                | ((with_reducible apply DSat.fin); kernel_rfl) | fail)
            with_reducible apply Sat.cond_p
            · exact rfl
            · intro h
              repeat' (first
                  | ((with_reducible apply Sat.run (X := XU)); exact rfl; (first | exact True.intro | (fail) | skip))
                  | ((with_reducible apply Sat.drawn); kernel_rfl)
                  | ((with_reducible apply DSat.run (X := XU)); exact rfl; (first | exact True.intro | (fail) | skip))
                  | ((with_reducible apply DSat.fin); kernel_rfl)
                  | ((with_reducible apply Sat.mcall ((now_R n hn g s.2))); exact rfl; exact rfl; kernel_rfl; (exact cnvX); exact rfl; exact purX; exact rfl; exact rfl)
                  | ((with_reducible apply DSat.mcall ((now_R n hn g s.2))); exact rfl; exact rfl; kernel_rfl; (exact cnvX); exact rfl; exact purX; exact rfl; exact rfl) | fail)
              refine Sat.seeH 10 4 (g (ixN n s.2.toNat)) ⟨_, List.mem_cons_of_mem _ (List.mem_cons_self ..), rfl⟩ rfl rfl ?_
              repeat' (first
                  | ((with_reducible apply Sat.run (X := XU)); exact rfl; (first | exact True.intro | (fail) | skip))
                  | ((with_reducible apply Sat.drawn); kernel_rfl)
                  | ((with_reducible apply DSat.run (X := XU)); exact rfl; (first | exact True.intro | (fail) | skip))
                  | ((with_reducible apply DSat.fin); kernel_rfl)
                  | ((with_reducible apply Sat.mcall ((sawR_spec L t hT c8))); exact rfl; exact rfl; kernel_rfl; (exact cnvX); exact rfl; exact purX; exact rfl; exact rfl)
                  | ((with_reducible apply DSat.mcall ((sawR_spec L t hT c8))); exact rfl; exact rfl; kernel_rfl; (exact cnvX); exact rfl; exact purX; exact rfl; exact rfl)
                  | ((with_reducible apply Sat.out1 (C := ⟨_, _, _, _, _, _, _, _, _⟩)); exact rfl; (first | exact .inl rfl | exact .inr rfl); exact rfl; (fail); exact rfl)
                  | ((with_reducible apply Sat.out0 (C := ⟨_, _, _, _, _, _, _, _, _⟩)); exact rfl; (first | exact .inl rfl | exact .inr rfl); exact rfl)
                  | ((with_reducible apply Sat.out2 (C := ⟨_, _, _, _, _, _, _, _, _⟩)); exact rfl; (first | exact .inl rfl | exact .inr rfl); exact rfl; (fail); exact rfl; (fail); exact rfl) | fail)
              · exact .cons (inR_i64 (by omega) (by omega)) .nil
              show Sat ((cx Tryd.prog 141 T w0).at W S (hidX (cx Tryd.prog 141 T w0) fun b => Sm b ∧ b ≠ g (ixN n s.2.toNat)) [(4, g (ixN n s.2.toNat)), (2, pm)]) _ _
              refine Sat.giveX (pos := .ext _ _) (TabsT (fun j => j < 256) (tbs (Rc.sawR n s c8)) g) 4 (g (ixN n s.2.toNat)) 69 (tabR (Rc.sawT (L, t) c8).1 (Rc.sawT (L, t) c8).2) [(2, pm)] top hat (List.mem_cons_self ..) (fun q hq => List.mem_cons_of_mem _ hq) ?_ rfl (fun _ h => h) (fun w' q1 q2 q3 _ => join_R n s c8 g (q := Rc.sawT (L, t) c8) (by rw [if_neg (by omega)]; rw [← hL, ← ht]; rfl) w' q1 q2 q3) fun W S hat => ?_
              · exact rfl
              refine Sat.backX (C := cx Tryd.prog 141 T w0) (i + 1, Rc.sawR n s c8, (a1, sz1, k1), out ++ [c8]) [(3, some 6)] rfl ?_ hat ?_ ?_
              · ((repeat' (first | exact AllP.nil | with_reducible refine AllP.cons ?_ ?_)) <;> first | exact rfl | exact trivial | exact Int.natCast_add_one _ | (intro j _; simp [pureL, pureS, pureE]; done) | exact ⟨rfl, rfl, rfl, rfl⟩ | exact ⟨rfl, rfl, rfl, (by rw [List.length_append]; rfl)⟩ | (show EV.u8 _ = EV.u8 _; rw [hou]; rfl))
              · exact ⟨by dsimp only; omega, (Rc.RM n).keep s c8 hs, ⟨hdl2⟩, by dsimp only; omega, by dsimp only; omega, by dsimp only; omega, by dsimp only; rw [List.length_append, ho]; rfl, by dsimp only; omega⟩
              · dsimp only; omega
            · intro h
              repeat' (first
                  | ((with_reducible apply Sat.run (X := XU)); exact rfl; (first | exact True.intro | (fail) | skip))
                  | ((with_reducible apply Sat.drawn); kernel_rfl)
                  | ((with_reducible apply DSat.run (X := XU)); exact rfl; (first | exact True.intro | (fail) | skip))
                  | ((with_reducible apply DSat.fin); kernel_rfl)
                  | ((with_reducible apply Sat.out1 (C := ⟨_, _, _, _, _, _, _, _, _⟩)); exact rfl; (first | exact .inl rfl | exact .inr rfl); exact rfl; (fail); exact rfl)
                  | ((with_reducible apply Sat.out0 (C := ⟨_, _, _, _, _, _, _, _, _⟩)); exact rfl; (first | exact .inl rfl | exact .inr rfl); exact rfl)
                  | ((with_reducible apply Sat.out2 (C := ⟨_, _, _, _, _, _, _, _, _⟩)); exact rfl; (first | exact .inl rfl | exact .inr rfl); exact rfl; (fail); exact rfl; (fail); exact rfl) | fail)
              · exact .cons (inR_i64 (by omega) (by omega)) .nil
              show Sat ((cx Tryd.prog 141 T w0).at W S (hidX (cx Tryd.prog 141 T w0) fun b => Sm b ∧ b ≠ g (ixN n s.2.toNat)) [(4, g (ixN n s.2.toNat)), (2, pm)]) _ _
              refine Sat.giveX (pos := .ext _ _) (TabsT (fun j => j < 256) (tbs (Rc.sawR n s c8)) g) 4 (g (ixN n s.2.toNat)) 69 (tabR L t) [(2, pm)] top hat (List.mem_cons_self ..) (fun q hq => List.mem_cons_of_mem _ hq) ?_ rfl (fun _ h => h) (fun w' q1 q2 q3 _ => join_R n s c8 g (q := (L, t)) (by rw [if_pos (by omega)]; rw [← hL, ← ht]; rfl) w' q1 q2 q3) fun W S hat => ?_
              · exact rfl
              refine Sat.backX (C := cx Tryd.prog 141 T w0) (i + 1, Rc.sawR n s c8, (a1, sz1, k1), out ++ [c8]) [(3, some 6)] rfl ?_ hat ?_ ?_
              · ((repeat' (first | exact AllP.nil | with_reducible refine AllP.cons ?_ ?_)) <;> first | exact rfl | exact trivial | exact Int.natCast_add_one _ | (intro j _; simp [pureL, pureS, pureE]; done) | exact ⟨rfl, rfl, rfl, rfl⟩ | exact ⟨rfl, rfl, rfl, (by rw [List.length_append]; rfl)⟩ | (show EV.u8 _ = EV.u8 _; rw [hou]; rfl))
              · exact ⟨by dsimp only; omega, (Rc.RM n).keep s c8 hs, ⟨hdl2⟩, by dsimp only; omega, by dsimp only; omega, by dsimp only; omega, by dsimp only; rw [List.length_append, ho]; rfl, by dsimp only; omega⟩
              · dsimp only; omega
      · intro hil
        obtain rfl : i = len := by omega
        have hdl2 := hdl.h
        rw [Nat.sub_self] at hdl2
        have hdl2 : some out = D := hdl2
        have hEo := enc_R n hn out (by omega)
        refine Sat.up top hat.over ?_
        repeat' (first
            | ((with_reducible apply Sat.run (X := XU)); exact rfl; (first | exact True.intro | (fail) | skip))
            | ((with_reducible apply Sat.drawn); kernel_rfl)
            | ((with_reducible apply DSat.run (X := XU)); exact rfl; (first | exact True.intro | (fail) | skip))
            | ((with_reducible apply DSat.fin); kernel_rfl) | fail)
        with_reducible apply Sat.freeze true
        · exact rfl
        · exact rfl
        · exact rfl
        · ((repeat' (first | exact AllP.nil | with_reducible refine AllP.cons ?_ ?_)) <;> first | exact rfl | exact trivial | exact Int.natCast_add_one _ | (intro j _; simp [pureL, pureS, pureE]; done) | exact ⟨rfl, rfl, rfl, rfl⟩ | exact .inl ⟨rfl, rfl, rfl⟩)
        repeat' (first
            | ((with_reducible apply Sat.run (X := XU)); exact rfl; (first | exact True.intro | (fail) | skip))
            | ((with_reducible apply Sat.drawn); kernel_rfl)
            | ((with_reducible apply DSat.run (X := XU)); exact rfl; (first | exact True.intro | (fail) | skip))
            | ((with_reducible apply DSat.fin); kernel_rfl)
            | ((with_reducible apply Sat.call (hEo)); exact rfl; exact rfl; kernel_rfl; (exact cnvX); exact rfl)
            | ((with_reducible apply DSat.call (hEo)); exact rfl; exact rfl; kernel_rfl; (exact cnvX); exact rfl) | fail)
        with_reducible apply Sat.cond_p
        · exact rfl
        · intro hc
          have hdT : decT (Rc.RM n) Rc.T2 b i = none := by
            unfold decT
            rw [hD, ← hdl2]
            dsimp only
            rw [if_neg hc]
          rw [(decT_none hdT).1, (decT_none hdT).2]
          repeat' (first
              | ((with_reducible apply Sat.run (X := XU)); exact rfl; (first | exact True.intro | (fail) | skip))
              | ((with_reducible apply Sat.drawn); kernel_rfl)
              | ((with_reducible apply DSat.run (X := XU)); exact rfl; (first | exact True.intro | (fail) | skip))
              | ((with_reducible apply DSat.fin); kernel_rfl) | fail)
          refine Sat.fin (Sat.end2 rfl rfl rfl rfl True.intro True.intro (.nils _ rfl) (.refl _ trivial) (by first | exact .inl rfl | exact .inr rfl) (fun _ h => h)) rfl
        · intro hc
          have hc : Rc.code (Rc.RM n) Rc.T2 out = b := by
            rcases Classical.em (Rc.code (Rc.RM n) Rc.T2 out = b) with q | q
            · exact q
            · exact absurd q hc
          have hdT : decT (Rc.RM n) Rc.T2 b i = some out := by
            unfold decT
            rw [hD, ← hdl2]
            dsimp only
            rw [if_pos hc]
          rw [(decT_some hdT).1, (decT_some hdT).2]
          repeat' (first
              | ((with_reducible apply Sat.run (X := XU)); exact rfl; (first | exact True.intro | (fail) | skip))
              | ((with_reducible apply Sat.drawn); kernel_rfl)
              | ((with_reducible apply DSat.run (X := XU)); exact rfl; (first | exact True.intro | (fail) | skip))
              | ((with_reducible apply DSat.fin); kernel_rfl) | fail)
          refine Sat.fin (Sat.end2 rfl rfl rfl rfl True.intro True.intro (.refl _ trivial) (.refl _ trivial) (by first | exact .inl rfl | exact .inr rfl) (fun _ h => h)) rfl
end Go.Proofs.YtcnpgmohnclojaaDoor
end
section
--PURE: (intro j _; simp [pureL, pureS, pureE]; done)
namespace Go.Proofs.YtcnpgmohnclojaaDoor
open Go.RowKit V
set_option maxRecDepth 100000
set_option maxHeartbeats 8000000
set_option linter.unusedSimpArgs false
attribute [local irreducible] V.Sat V.DSat
theorem encR_nil (n : Int) (hn : n < 0 ∨ 2 < n) (l : List UInt8) : Fun Tryd.prog [] 12 [.int .i64 n, .ro (.u8 l)] (.tup [.ro (.u8 []), .int .i64 130]) := by
  refine Fun.mkF 7 Tryd.func12 rfl Tryd.ntmps12 rfl rfl fun hf T w0 => ?_
  by_cases h0 : n < 0
  · repeat' (first
        | ((with_reducible apply Sat.run (X := XU)); exact rfl; (first | exact True.intro | (exact phi) | skip))
        | ((with_reducible apply Sat.drawn); kernel_rfl)
        | ((with_reducible apply DSat.run (X := XU)); exact rfl; (first | exact True.intro | (exact phi) | skip))
        | ((with_reducible apply DSat.fin); kernel_rfl)
        | ((with_reducible apply Sat.cond_t); exact rfl)
        | ((with_reducible apply Sat.cond_f); exact rfl)
        | ((with_reducible apply Sat.cond_pt); exact rfl; (try dsimp only [V.EV.sub, V.EV.len]); first | assumption | omega)
        | ((with_reducible apply Sat.cond_pf); exact rfl; (try dsimp only [V.EV.sub, V.EV.len]); first | assumption | omega)
        | ((with_reducible apply Sat.cond_p); exact rfl; all_goals (intro h; (try simp only [V.EV.sub, V.EV.len] at h)))
        | ((with_reducible apply Sat.cond); exact rfl; all_goals (intro h; (try simp only [V.EV.sub, V.EV.len, Bool.cond_true_left, Bool.cond_false_right, Bool.or_eq_true, Bool.and_eq_true, Bool.or_eq_false_iff, Bool.and_eq_false_iff, Bool.not_eq_true', Bool.not_eq_false', decide_eq_true_eq, decide_eq_false_iff_not, ne_eq] at h))) | fail)
    · refine Sat.fin (Sat.end2 rfl rfl rfl rfl True.intro True.intro (.nils _ rfl) (.refl _ trivial) (by first | exact .inl rfl | exact .inr rfl) (fun _ h => h)) rfl
    all_goals (exfalso; omega)
  · have h1 : 2 < n := by omega
    repeat' (first
        | ((with_reducible apply Sat.run (X := XU)); exact rfl; (first | exact True.intro | (exact phi) | skip))
        | ((with_reducible apply Sat.drawn); kernel_rfl)
        | ((with_reducible apply DSat.run (X := XU)); exact rfl; (first | exact True.intro | (exact phi) | skip))
        | ((with_reducible apply DSat.fin); kernel_rfl)
        | ((with_reducible apply Sat.cond_t); exact rfl)
        | ((with_reducible apply Sat.cond_f); exact rfl)
        | ((with_reducible apply Sat.cond_pt); exact rfl; (try dsimp only [V.EV.sub, V.EV.len]); first | assumption | omega)
        | ((with_reducible apply Sat.cond_pf); exact rfl; (try dsimp only [V.EV.sub, V.EV.len]); first | assumption | omega)
        | ((with_reducible apply Sat.cond_p); exact rfl; all_goals (intro h; (try simp only [V.EV.sub, V.EV.len] at h)))
        | ((with_reducible apply Sat.cond); exact rfl; all_goals (intro h; (try simp only [V.EV.sub, V.EV.len, Bool.cond_true_left, Bool.cond_false_right, Bool.or_eq_true, Bool.and_eq_true, Bool.or_eq_false_iff, Bool.and_eq_false_iff, Bool.not_eq_true', Bool.not_eq_false', decide_eq_true_eq, decide_eq_false_iff_not, ne_eq] at h))) | fail)
    · refine Sat.fin (Sat.end2 rfl rfl rfl rfl True.intro True.intro (.nils _ rfl) (.refl _ trivial) (by first | exact .inl rfl | exact .inr rfl) (fun _ h => h)) rfl
    all_goals (exfalso; omega)
theorem decR_nil (n : Int) (hn : n < 0 ∨ 2 < n) (l : List UInt8) (len : Int) : Fun Tryd.prog [] 16 [.int .i64 n, .ro (.u8 l), .int .i64 len] (.tup [.ro (.u8 []), .int .i64 130]) := by
  refine Fun.mkF 8 Tryd.func16 rfl Tryd.ntmps16 rfl rfl fun hf T w0 => ?_
  repeat' (first
      | ((with_reducible apply Sat.run (X := XU)); exact rfl; (first | exact True.intro | (exact phi) | skip))
      | ((with_reducible apply Sat.drawn); kernel_rfl)
      | ((with_reducible apply DSat.run (X := XU)); exact rfl; (first | exact True.intro | (exact phi) | skip))
      | ((with_reducible apply DSat.fin); kernel_rfl)
      | ((with_reducible apply Sat.cond_t); exact rfl)
      | ((with_reducible apply Sat.cond_f); exact rfl)
      | ((with_reducible apply Sat.cond_pt); exact rfl; (try dsimp only [V.EV.sub, V.EV.len]); first | assumption | omega)
      | ((with_reducible apply Sat.cond_pf); exact rfl; (try dsimp only [V.EV.sub, V.EV.len]); first | assumption | omega)
      | ((with_reducible apply Sat.cond_p); exact rfl; all_goals (intro h; (try simp only [V.EV.sub, V.EV.len] at h)))
      | ((with_reducible apply Sat.cond); exact rfl; all_goals (intro h; (try simp only [V.EV.sub, V.EV.len, Bool.cond_true_left, Bool.cond_false_right, Bool.or_eq_true, Bool.and_eq_true, Bool.or_eq_false_iff, Bool.and_eq_false_iff, Bool.not_eq_true', Bool.not_eq_false', decide_eq_true_eq, decide_eq_false_iff_not, ne_eq] at h))) | fail)
  · refine Sat.fin (Sat.end2 rfl rfl rfl rfl True.intro True.intro (.nils _ rfl) (.refl _ trivial) (by first | exact .inl rfl | exact .inr rfl) (fun _ h => h)) rfl
  all_goals (exfalso; omega)
/-- What a model does, of the program and of the reference. -/
structure Both (m : Int) (x : List UInt8) (C : List UInt8) (e : Int) (P : List UInt8 → List UInt8) (D : List UInt8 → Int) : Prop where
  e1 : Fun Tryd.prog [] 12 [.int .i64 m, .ro (.u8 x)] (.tup [.ro (.u8 C), .int .i64 e])
  e2 : Fun Tryd.prog [] 13 [.int .i64 m, .ro (.u8 x)] (.tup [.ro (.u8 C), .int .i64 e])
  sz : Fun Tryd.prog [] 14 [.int .i64 m, .ro (.u8 x)] (.tup [.int .i64 (C.length : Int), .int .i64 e])
  d1 : ∀ y : List UInt8, y.length ≤ 1000000 → Fun Tryd.prog [] 16 [.int .i64 m, .ro (.u8 y), .int .i64 (x.length : Int)] (.tup [.ro (.u8 (P y)), .int .i64 (D y)])
  d2 : ∀ y : List UInt8, y.length ≤ 1000000 → Fun Tryd.prog [] 15 [.int .i64 m, .ro (.u8 y), .int .i64 (x.length : Int)] (.tup [.ro (.u8 (P y)), .int .i64 (D y)])
  len : C.length ≤ 1000000
theorem both (m : Int) (x : List UInt8) (hx : x.length ≤ 200) : ∃ C e P D, Both m x C e P D := by
  by_cases h : m < 0 ∨ 2 < m
  · have h0 : m ≠ 0 := by omega
    have h1 : m ≠ 1 := by omega
    have h2 : m ≠ 2 := by omega
    exact ⟨[], 130, fun _ => [], fun _ => 130, encR_nil m h x, enc_nil m h0 h1 h2 x, size_spec _ _ _ _ (enc_nil m h0 h1 h2 x), fun y _ => decR_nil m h y _, fun y _ => dec_nil m h0 h1 h2 y _, by decide⟩
  · obtain ⟨n, rfl⟩ : ∃ n : Nat, m = (n : Int) := ⟨m.toNat, by omega⟩
    have hn : n < 3 := by omega
    refine ⟨cd n x, 0, fun y => dR n y x.length, fun y => dE n y x.length, ?_, enc_call n hn x (by omega), size_call n hn x (by omega), fun y hy => ?_, fun y _ => dec_call n hn y x.length (by omega), ?_⟩
    · rw [← codeR n hn x]
      exact enc_R n hn x (by omega)
    · have := dec_R n hn y x.length (by omega) hy
      unfold decR decE at this
      rw [decTR n hn] at this
      exact this
    · have := cd_len n x
      omega
end Go.Proofs.YtcnpgmohnclojaaDoor
end
section
--PURE: (intro j _; simp [pureL, pureS, pureE]; done)
namespace Go.Proofs.YtcnpgmohnclojaaDoor
open Go.RowKit V
set_option maxRecDepth 100000
set_option maxHeartbeats 8000000
set_option linter.unusedSimpArgs false
attribute [local irreducible] V.Sat V.DSat
theorem matches_law {Γ : Glob} (hs : Fun Tryd.prog Γ 10 [] (.bool true)) (b raw : List UInt8) (w0 w1 w2 : UInt8) : Fun Tryd.prog Γ 3 [.ro (.u8 b), .ro (.u8 raw), .agg [.int .u8 (w0.toNat : Int), .int .u8 (w1.toNat : Int), .int .u8 (w2.toNat : Int)]] (.bool true) := by
  have hl1 : Fun Tryd.prog Γ 11 [.ro (.u8 b), .int .i64 200] (.ro (.u8 (b.take 200))) := (limited_spec b 200 (by decide)).weak
  have hl2 : Fun Tryd.prog Γ 11 [.ro (.u8 raw), .int .i64 200] (.ro (.u8 (raw.take 200))) := (limited_spec raw 200 (by decide)).weak
  have hx : (b.take 200).length ≤ 200 := by rw [List.length_take]; omega
  have hy : (raw.take 200).length ≤ 200 := by rw [List.length_take]; omega
  generalize b.take 200 = x at hl1 hx
  generalize raw.take 200 = y at hl2 hy
  have h0 := w0.toNat_lt
  have h2 := w2.toNat_lt
  obtain ⟨C, e, P, D, B⟩ := both (((w2.toNat % 6 : Nat) : Int) - 1) x hx
  have e1 := B.e1.weak (Γ := Γ)
  have e2 := B.e2.weak (Γ := Γ)
  have sz := B.sz.weak (Γ := Γ)
  have d1 : ∀ y : List UInt8, y.length ≤ 1000000 → Fun Tryd.prog Γ 16 _ _ := fun y hy => (B.d1 y hy).weak
  have d2 : ∀ y : List UInt8, y.length ≤ 1000000 → Fun Tryd.prog Γ 15 _ _ := fun y hy => (B.d2 y hy).weak
  have hC := B.len
  have hm : Int.tmod (w2.toNat : Int) 6 = ((w2.toNat % 6 : Nat) : Int) := rfl
  have hm6 : w2.toNat % 6 < 6 := Nat.mod_lt _ (by decide)
  refine Fun.mkF 8 Tryd.func3 rfl Tryd.ntmps3 rfl rfl fun hf T w0' => ?_
  repeat' (first
      | ((with_reducible apply Sat.run (X := X64)); exact rfl; (first | exact True.intro | (fail) | skip))
      | ((with_reducible apply Sat.drawn); kernel_rfl)
      | ((with_reducible apply DSat.run (X := X64)); exact rfl; (first | exact True.intro | (fail) | skip))
      | ((with_reducible apply DSat.fin); kernel_rfl)
      | ((with_reducible apply Sat.call0 (hs)); exact rfl; exact rfl; kernel_rfl; exact rfl)
      | ((with_reducible apply DSat.call0 (hs)); exact rfl; exact rfl; kernel_rfl; exact rfl)
      | ((with_reducible apply DSat.callM0 (hs)); exact rfl; exact rfl; (first | exact rfl | assumption | (decide +kernel)); exact rfl; kernel_rfl; exact rfl)
      | ((with_reducible apply Sat.call (hl1)); exact rfl; exact rfl; kernel_rfl; (exact cnvX); exact rfl)
      | ((with_reducible apply DSat.call (hl1)); exact rfl; exact rfl; kernel_rfl; (exact cnvX); exact rfl)
      | ((with_reducible apply Sat.call (hl2)); exact rfl; exact rfl; kernel_rfl; (exact cnvX); exact rfl)
      | ((with_reducible apply DSat.call (hl2)); exact rfl; exact rfl; kernel_rfl; (exact cnvX); exact rfl) | fail)
  · rw [hm]
    exact .cons (inR_i64 (by omega) (by omega)) (.cons (by decide) (.cons ⟨by decide, by decide⟩ .nil))
  rw [hm]
  clear hm hm6
  clear B
  generalize ((w2.toNat % 6 : Nat) : Int) - 1 = m at *
  repeat' (first
      | ((with_reducible apply Sat.run (X := X64)); exact rfl; (first | exact True.intro | (fail) | skip))
      | ((with_reducible apply Sat.drawn); kernel_rfl)
      | ((with_reducible apply DSat.run (X := X64)); exact rfl; (first | exact True.intro | (fail) | skip))
      | ((with_reducible apply DSat.fin); kernel_rfl)
      | ((with_reducible apply Sat.call (e1)); exact rfl; exact rfl; kernel_rfl; (exact cnvX); exact rfl)
      | ((with_reducible apply DSat.call (e1)); exact rfl; exact rfl; kernel_rfl; (exact cnvX); exact rfl)
      | ((with_reducible apply Sat.call (e2)); exact rfl; exact rfl; kernel_rfl; (exact cnvX); exact rfl)
      | ((with_reducible apply DSat.call (e2)); exact rfl; exact rfl; kernel_rfl; (exact cnvX); exact rfl)
      | ((with_reducible apply Sat.callR (sz)); exact rfl; exact rfl; exact rfl; kernel_rfl; (exact cnvX); exact rfl)
      | ((with_reducible apply DSat.callR (sz)); exact rfl; exact rfl; exact rfl; kernel_rfl; (exact cnvX); exact rfl) | fail)
  · (repeat' (first | exact AllP.nil | with_reducible refine AllP.cons ?_ ?_)) <;> exact id
  with_reducible apply Sat.cond
  · exact rfl
  · intro h
    exfalso
    simp [EV.len] at h
  intro h
  clear h
  refine Sat.skipC (Sat.nextC (Sat.holdC ?_))
  repeat' (first
      | ((with_reducible apply Sat.run (X := X64)); exact rfl; (first | exact True.intro | (fail) | skip))
      | ((with_reducible apply Sat.drawn); kernel_rfl)
      | ((with_reducible apply DSat.run (X := X64)); exact rfl; (first | exact True.intro | (fail) | skip))
      | ((with_reducible apply DSat.fin); kernel_rfl) | fail)
  · exact .cons rfl (.cons (by show (0 + C.length) * (0 + 1) ≤ 140737488355328; omega) .nil)
  refine Sat.goC ?_
  refine Sat.kill [73] rfl ?_
  refine Sat.meet (α := List UInt8) (fun ch => ch.length = C.length) (fun _ => []) (fun ch => [(2, .row 5 (.u8 ch))]) [] 0 (fun _ => rfl) (fun _ => rfl) rfl ?_ ?_
  · repeat' (first
        | ((with_reducible apply Sat.run (X := X64)); exact rfl; (first | exact True.intro | (fail) | skip))
        | ((with_reducible apply Sat.drawn); kernel_rfl)
        | ((with_reducible apply DSat.run (X := X64)); exact rfl; (first | exact True.intro | (fail) | skip))
        | ((with_reducible apply DSat.fin); kernel_rfl) | fail)
    with_reducible apply Sat.cond_p
    · exact rfl
    · intro h
      repeat' (first
          | ((with_reducible apply Sat.run (X := X64)); exact rfl; (first | exact True.intro | (fail) | skip))
          | ((with_reducible apply Sat.drawn); kernel_rfl)
          | ((with_reducible apply DSat.run (X := X64)); exact rfl; (first | exact True.intro | (fail) | skip))
          | ((with_reducible apply DSat.fin); kernel_rfl) | fail)
      · have h : (0 : Int) < ((0 + C.length : Nat) : Int) := h
        have hCl : 0 < C.length := by omega
        have hml : w0.toNat % C.length < C.length := Nat.mod_lt _ hCl
        have hmi : (w0.toNat : Int) % ((0 + C.length : Nat) : Int) = ((w0.toNat % C.length : Nat) : Int) := by rw [Nat.zero_add, Int.natCast_emod]
        refine .cons (show 0 + ((w0.toNat : Int) % ((0 + C.length : Nat) : Int)).toNat < ([] ++ C).length by rw [hmi, List.nil_append]; omega) (.cons (show (0 : Int) ≤ (w0.toNat : Int) % ((0 + C.length : Nat) : Int) ∧ (w0.toNat : Int) % ((0 + C.length : Nat) : Int) < ((0 + C.length : Nat) : Int) by rw [hmi]; omega) (.cons ⟨by decide, by decide⟩ (.cons ⟨by omega, h⟩ (.cons ⟨by decide, by decide⟩ .nil))))
      · refine Sat.meets (([] ++ C).set (0 + ((w0.toNat : Int) % ((0 + (EV.u8 C).len : Nat) : Int)).toNat) (UInt8.ofNat (w1.toNat : Int).toNat)) [] rfl ?_ (by rw [List.length_set, List.nil_append])
        ((repeat' (first | exact AllP.nil | with_reducible refine AllP.cons ?_ ?_)) <;> first | exact rfl | exact trivial | exact Int.natCast_add_one _ | (intro j _; simp [pureL, pureS, pureE]; done) | exact ⟨rfl, rfl, rfl, rfl⟩)
    · intro h
      refine Sat.skipC ?_
      refine Sat.meets ([] ++ C) [] rfl ?_ (by rw [List.nil_append])
      ((repeat' (first | exact AllP.nil | with_reducible refine AllP.cons ?_ ?_)) <;> first | exact rfl | exact trivial | exact Int.natCast_add_one _ | (intro j _; simp [pureL, pureS, pureE]; done) | exact ⟨rfl, rfl, rfl, rfl⟩)
  intro ch hch
  have hchl : ch.length ≤ 1000000 := by omega
  refine Sat.freezeC true 2 rfl ?_ ?_
  · ((repeat' (first | exact AllP.nil | with_reducible refine AllP.cons ?_ ?_)) <;> first | exact rfl | exact trivial | exact Int.natCast_add_one _ | (intro j _; simp [pureL, pureS, pureE]; done) | exact ⟨rfl, rfl, rfl, rfl⟩ | exact .inl ⟨rfl, (by show 0 + C.length = ch.length; omega), rfl⟩)
  have f1 := d1 C hC
  have f2 := d2 C hC
  have g1 := d1 ch hchl
  have g2 := d2 ch hchl
  have k1 := d1 y (by omega)
  have k2 := d2 y (by omega)
  repeat' (first
      | ((with_reducible apply Sat.cond); exact rfl; (intro h; exfalso; simp at h); (intro h; clear h))
      | ((with_reducible apply Sat.cond_pf); exact rfl; decide)
      | ((with_reducible apply Sat.cond_pt); exact rfl; decide)
      | ((with_reducible apply Sat.run (X := X64)); exact rfl; (first | exact True.intro | (exact phi) | skip))
      | ((with_reducible apply Sat.drawn); kernel_rfl)
      | ((with_reducible apply DSat.run (X := X64)); exact rfl; (first | exact True.intro | (exact phi) | skip))
      | ((with_reducible apply DSat.fin); kernel_rfl)
      | (with_reducible apply Sat.unroll 40)
      | (with_reducible apply Sat.again)
      | ((with_reducible apply Sat.call (f1)); exact rfl; exact rfl; kernel_rfl; (exact cnvX); exact rfl)
      | ((with_reducible apply DSat.call (f1)); exact rfl; exact rfl; kernel_rfl; (exact cnvX); exact rfl)
      | ((with_reducible apply Sat.call (f2)); exact rfl; exact rfl; kernel_rfl; (exact cnvX); exact rfl)
      | ((with_reducible apply DSat.call (f2)); exact rfl; exact rfl; kernel_rfl; (exact cnvX); exact rfl)
      | ((with_reducible apply Sat.call (g1)); exact rfl; exact rfl; kernel_rfl; (exact cnvX); exact rfl)
      | ((with_reducible apply DSat.call (g1)); exact rfl; exact rfl; kernel_rfl; (exact cnvX); exact rfl)
      | ((with_reducible apply Sat.call (g2)); exact rfl; exact rfl; kernel_rfl; (exact cnvX); exact rfl)
      | ((with_reducible apply DSat.call (g2)); exact rfl; exact rfl; kernel_rfl; (exact cnvX); exact rfl)
      | ((with_reducible apply Sat.call (k1)); exact rfl; exact rfl; kernel_rfl; (exact cnvX); exact rfl)
      | ((with_reducible apply DSat.call (k1)); exact rfl; exact rfl; kernel_rfl; (exact cnvX); exact rfl)
      | ((with_reducible apply Sat.call (k2)); exact rfl; exact rfl; kernel_rfl; (exact cnvX); exact rfl)
      | ((with_reducible apply DSat.call (k2)); exact rfl; exact rfl; kernel_rfl; (exact cnvX); exact rfl) | fail)
  (refine Sat.fin (Sat.end1 rfl rfl rfl True.intro (.refl _ purX) (by first | exact .inl rfl | exact .inr rfl) (fun _ h => h)) ?_; (rfl))
end Go.Proofs.YtcnpgmohnclojaaDoor
end
section
namespace Go.Proofs.YtcnpgmohnclojaaDoor
open Go.RowKit Go.ChangeShapes Go.WideShapes V
set_option maxRecDepth 100000
set_option maxHeartbeats 8000000
theorem coderMatchesReference_step (os : Os) (started : os.Started) (H : Type) (enc : TypeId × Value → H) (F : Stop.Interp) :
    ReturnsInHanded {} Tryd.checked os 3 .any ((OpenSpec.ofChange Rows.coderMatchesReferenceSpec).preRow enc Tryd.prog Tryd.f3 Rows.coderMatchesReferenceRow.domain false Rows.coderMatchesReferenceRow.laid) (((OpenSpec.ofChange Rows.coderMatchesReferenceSpec).at F).post enc Tryd.prog Tryd.f3 false true false false) := by
  refine law_step (C := Tryd.checked) (fn := Tryd.f3) (s := OpenSpec.ofChange Rows.coderMatchesReferenceSpec) (F := F) (tb := 4) [] own started (by kernel_rfl) Tryd.func3 laidOut (by kernel_rfl) (by kernel_rfl) (by kernel_rfl) Tryd.underlying4 rfl ?_
    (row_witness (World.laidAll Tryd.prog os tabs_laid) #[.slice none 0 0, .slice none 0 0, .agg #[.int .u8 0, .int .u8 0, .int .u8 0]] (World.laidAll_os _ _ _) (by kernel_rfl) (by kernel_rfl) (by kernel_rfl) (by kernel_rfl) (by kernel_rfl) (door_met os _)) tabs_glob ?_
  · intro ds hl
    obtain ⟨d1, d2, d3, rfl⟩ := list_len3 hl
    rfl
  · intro W vs ds hl ht hk
    obtain ⟨d1, d2, d3, rfl⟩ := list_len3 hl
    refine Fun.facts fun hf => ?_
    show Fun _ _ _ [.ro (.u8 ((eOf d1).map u8Of)), .ro (.u8 ((eOf d2).map u8Of)), .agg [.int .u8 (iOf (nthD (ptsD d3) 0)), .int .u8 (iOf (nthD (ptsD d3) 1)), .int .u8 (iOf (nthD (ptsD d3) 2))]] _
    obtain ⟨_, _, ⟨h1, h2, h3, _⟩, _⟩ := hf
    rw [u8Of_i _ h1, u8Of_i _ h2, u8Of_i _ h3]
    exact matches_law sanity_law _ _ _ _ _
theorem coderMatchesReference_said : Rows.CoderMatchesReferenceSaid :=
  OpenClaim.holds_of_cond 3 Tryd.f3 rfl rfl rfl rfl rfl rfl rfl ⟨rfl, rfl, rfl, rfl, rfl⟩ rfl rfl rfl rfl rfl (by kernel_rfl) Tryd.func3 (by kernel_rfl)
    (of_decide_eq_true (by kernel_rfl)) (by unfold Func.isWrapper; first | (rw [if_pos (by decide +kernel)]; kernel_rfl) | (rw [if_neg (by decide +kernel)]; exact ⟨rfl, rfl⟩))
    (fun os started H enc _ F => by rw [OpenClaim.pre_eq_preRow]; exact coderMatchesReference_step os started H enc F)
theorem coderMatchesReference_plain (f : FuncId) (fn : Func) (hf : Tryd.pinned.checked.prog.funcNamed "inlay/inlaylaw13.CoderMatchesReference" = some f) (hfn : Tryd.pinned.checked.prog.funcs[f]? = some fn) :
    false = Tryd.pinned.checked.prog.looks [] ∧ ∀ (j : Nat) t, fn.params[j]? = some t → Tryd.pinned.checked.prog.wantsStandIn t = false := by
  obtain rfl : f = 3 := Option.some.inj ((show Tryd.prog.funcNamed "inlay/inlaylaw13.CoderMatchesReference" = some 3 by kernel_rfl).symm.trans hf) |>.symm
  obtain rfl : fn = Tryd.f3 := (Option.some.inj (Tryd.func3.symm.trans hfn)).symm
  refine ⟨by kernel_rfl, fun j t ht => ?_⟩
  have hall : Tryd.f3.params.all (fun t => !(Tryd.prog.wantsStandIn t)) = true := by kernel_rfl
  have := (Array.all_eq_true_iff_forall_mem.1 hall) t (Array.mem_of_getElem? ht)
  have h2 : Tryd.prog.wantsStandIn t = false := by simpa using this
  exact h2
/-- The card. -/
theorem coderMatchesReference_card : Rows.CoderMatchesReferenceCardSaid :=
  Claim7.holds_tied_plain_at .later [] _ _ _ _ coderMatchesReference_said (fun _ h => by cases h) (by kernel_rfl) (fun _ h => by cases h) coderMatchesReference_row_tie rfl ⟨rfl, rfl⟩ (by kernel_rfl) rfl coderMatchesReference_plain (by kernel_rfl)
end Go.Proofs.YtcnpgmohnclojaaDoor
end
