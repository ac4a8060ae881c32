/-
  Joined texts: CH: Coder: the laws Inverts and Tables.
  CI: Coder: the law Codes.
  CJ: Coder: the law Differs.
  Z2: The law inlaylaw13.CoderInverts returns true for every input, and each argument reads behind the call as it read before: the text is read from its code, in each model, however long it is.
  Conditions: the package variables that the row lists hold, when the call begins, what the program's text lays there (the card ties them); no other narrowing.
-/
import Derived.Test.YtcnpgmohnclojaaDoorQD
import Derived.Test.YtcnpgmohnclojaaDoorQC
import Derived.SevenTiedAt
section
namespace Go.Proofs.YtcnpgmohnclojaaDoor
open Go.RowKit V
set_option maxRecDepth 100000
set_option maxHeartbeats 4000000
set_option linter.unusedSimpArgs false
attribute [local irreducible] V.Sat V.DSat
/-- A text and its code, read again. -/
theorem dec_own {Γ : Glob} (m : Nat) (hm : m < 3) (x : List UInt8) (hl : x.length ≤ 65536) : Fun Tryd.prog Γ 15 [.int .i64 (m : Int), .ro (.u8 (cd m x)), .int .i64 (x.length : Int)] (.tup [.ro (.u8 x), .int .i64 0]) := by
  have := (dec_call m hm (cd m x) x.length hl).weak (Γ := Γ)
  have e := dR_cd m x
  rwa [e.1, e.2] at this
theorem inverts_law {Γ : Glob} (hs : Fun Tryd.prog Γ 10 [] (.bool true)) (b : List UInt8) (t : UInt8) : Fun Tryd.prog Γ 4 [.ro (.u8 b), .int .u8 (t.toNat : Int)] (.bool true) := by
  have hlim : Fun Tryd.prog Γ 11 [.ro (.u8 b), .int .i64 200] (.ro (.u8 (b.take 200))) := (limited_spec b 200 (by decide)).weak
  have hq := take_le b 200
  generalize b.take 200 = q at hlim hq
  refine Fun.mkF 6 Tryd.func4 rfl Tryd.ntmps4 rfl rfl fun hf T w0 => ?_
  repeat' (first
      | ((with_reducible apply Sat.run (X := X64)); exact rfl; (first | exact True.intro | (exact phi) | skip))
      | ((with_reducible apply Sat.drawn); kernel_rfl)
      | ((with_reducible apply DSat.run (X := X64)); exact rfl; (first | exact True.intro | (exact phi) | skip))
      | ((with_reducible apply DSat.fin); kernel_rfl)
      | ((with_reducible apply Sat.call0 (hs)); exact rfl; exact rfl; kernel_rfl; exact rfl)
      | ((with_reducible apply DSat.call0 (hs)); exact rfl; exact rfl; kernel_rfl; exact rfl)
      | ((with_reducible apply DSat.callM0 (hs)); exact rfl; exact rfl; (first | exact rfl | assumption | (decide +kernel)); exact rfl; kernel_rfl; exact rfl) | fail)
  refine Sat.kill [14] rfl ?_
  apply Sat.loop (α := Nat × List UInt8) (fun x => x.1 ≤ 12 ∧ x.2.length ≤ 2200) (fun x => 12 - x.1) (0, []) (fun x => [(7, .int .i64 (x.1 : Int)), (6, .row 0 0 1 0 x.2.length)]) (fun x => [(0, .row 5 (.u8 x.2))]) [] [] 0
  · intro x; exact rfl
  · intro x; exact rfl
  · exact rfl
  · exact rfl
  · ((repeat' (first | exact AllP.nil | with_reducible refine AllP.cons ?_ ?_)) <;> first | exact rfl | exact trivial | exact Int.natCast_add_one _ | exact ⟨rfl, rfl⟩ | exact ⟨rfl, rfl, rfl⟩ | exact ⟨rfl, rfl, rfl, rfl⟩ | exact ⟨rfl, .inl rfl⟩ | exact ⟨rfl, .inr rfl⟩ | exact pur | (intro _; exact rfl) | (intro _; exact trivial) | (intro _; exact pur))
  · exact ⟨Nat.zero_le _, Nat.zero_le _⟩
  rintro ⟨i, x⟩ ⟨hi, hx⟩
  dsimp only at hi hx ⊢
  obtain ⟨N, hNN⟩ : ∃ N, N = t.toNat % 12 := ⟨_, rfl⟩
  have hN : Int.tmod (t.toNat : Int) 12 = (N : Int) := by rw [hNN]; rfl
  have hN1 : N ≤ 11 := by omega
  repeat' (first
      | ((with_reducible apply Sat.run (X := X64)); exact rfl; (first | exact True.intro | (fail) | skip))
      | ((with_reducible apply Sat.drawn); kernel_rfl)
      | ((with_reducible apply DSat.run (X := X64)); exact rfl; (first | exact True.intro | (fail) | skip))
      | ((with_reducible apply DSat.fin); kernel_rfl) | fail)
  · ((repeat' (first | exact AllP.nil | with_reducible refine AllP.cons ?_ ?_)) <;> (first | exact trivial | exact rfl | (exact (by decide)) | (intro h; first | exact h | exact fun h2 => ⟨h, h2⟩ | (refine inR_i64 ?_ ?_ <;> first | omega | (simp [EV.len]; omega)) | exact pur | (intro h2; exact pur) | (simp [EV.len] at h ⊢; omega) | (simp [EV.len] at h; constructor <;> first | omega | (simp [EV.len]; omega)) | (intro h2; exact h))))
  rw [hN]
  with_reducible apply Sat.cond
  · exact rfl
  · intro h
    have h := bif_t h
    repeat' (first
        | ((with_reducible apply Sat.run (X := X64)); exact rfl; (first | exact True.intro | (fail) | skip))
        | ((with_reducible apply Sat.drawn); kernel_rfl)
        | ((with_reducible apply DSat.run (X := X64)); exact rfl; (first | exact True.intro | (fail) | skip))
        | ((with_reducible apply DSat.fin); kernel_rfl)
        | ((with_reducible apply Sat.call (hlim)); exact rfl; exact rfl; kernel_rfl; (exact cnv); exact rfl)
        | ((with_reducible apply DSat.call (hlim)); exact rfl; exact rfl; kernel_rfl; (exact cnv); exact rfl) | fail)
    · exact .cons (inR_i64 (by omega) (by omega)) (.cons rfl (.cons (by show (x.length + q.length) * (0 + 1) ≤ 140737488355328; omega) .nil))
    · refine Sat.back (i + 1, x ++ q) [(0, some 1)] rfl ?_ ?_ ?_
      · ((repeat' (first | exact AllP.nil | with_reducible refine AllP.cons ?_ ?_)) <;> first | exact rfl | exact trivial | exact Int.natCast_add_one _ | exact ⟨rfl, rfl⟩ | exact ⟨rfl, rfl, rfl⟩ | exact ⟨rfl, rfl, rfl, rfl⟩ | exact ⟨rfl, .inl rfl⟩ | exact ⟨rfl, .inr rfl⟩ | exact pur | (intro _; exact rfl) | (intro _; exact trivial) | (intro _; exact pur) | exact ⟨rfl, rfl, rfl, (List.length_append ..).symm⟩)
      · dsimp only
        rw [List.length_append]
        omega
      · dsimp only; omega
  · intro h
    clear h
    repeat' (first
        | ((with_reducible apply Sat.run (X := X64)); exact rfl; (first | exact True.intro | (fail) | skip))
        | ((with_reducible apply Sat.drawn); kernel_rfl)
        | ((with_reducible apply DSat.run (X := X64)); exact rfl; (first | exact True.intro | (fail) | skip))
        | ((with_reducible apply DSat.fin); kernel_rfl) | fail)
    apply Sat.loop (α := Nat) (fun m => m ≤ 3) (fun m => 3 - m) 0 (fun m => [(8, .int .i64 (m : Int)), (6, .ro (.u8 x))]) (fun _ => []) [0] [] 0
    · intro x; exact rfl
    · intro x; exact rfl
    · exact rfl
    · exact rfl
    · ((repeat' (first | exact AllP.nil | with_reducible refine AllP.cons ?_ ?_)) <;> first | exact rfl | exact trivial | exact Int.natCast_add_one _ | exact ⟨rfl, rfl⟩ | exact ⟨rfl, rfl, rfl⟩ | exact ⟨rfl, rfl, rfl, rfl⟩ | exact ⟨rfl, .inl rfl⟩ | exact ⟨rfl, .inr rfl⟩ | exact pur | (intro _; exact rfl) | (intro _; exact trivial) | (intro _; exact pur) | exact .inl ⟨rfl, rfl, rfl⟩)
    · exact Nat.zero_le _
    intro m hm
    by_cases hm3 : m < 3
    · have he : Fun Tryd.prog Γ 13 _ _ := (enc_call m hm3 x (by omega)).weak
      have hd : Fun Tryd.prog Γ 15 _ _ := dec_own m hm3 x (by omega)
      have hmi : (m : Int) < 3 := by omega
      repeat' (first
          | ((with_reducible apply Sat.cond_pt); exact rfl; exact hmi)
          | ((with_reducible apply Sat.run (X := X64)); exact rfl; (first | exact True.intro | (fail) | skip))
          | ((with_reducible apply Sat.drawn); kernel_rfl)
          | ((with_reducible apply DSat.run (X := X64)); exact rfl; (first | exact True.intro | (fail) | skip))
          | ((with_reducible apply DSat.fin); kernel_rfl)
          | ((with_reducible apply Sat.call (he)); exact rfl; exact rfl; kernel_rfl; (exact cnv); exact rfl)
          | ((with_reducible apply DSat.call (he)); exact rfl; exact rfl; kernel_rfl; (exact cnv); exact rfl)
          | ((with_reducible apply Sat.call (hd)); exact rfl; exact rfl; kernel_rfl; (exact cnv); exact rfl)
          | ((with_reducible apply DSat.call (hd)); exact rfl; exact rfl; kernel_rfl; (exact cnv); exact rfl) | fail)
      · ((repeat' (first | exact AllP.nil | with_reducible refine AllP.cons ?_ ?_)) <;> (first | exact trivial | exact rfl | (intro h; first | exact h | exact fun h2 => ⟨h, h2⟩ | (refine inR_i64 ?_ ?_ <;> first | omega | (simp [EV.len]; omega)) | exact pur | (intro h2; exact pur) | (simp [EV.len] at h ⊢; omega) | (simp [EV.len] at h; constructor <;> first | omega | (simp [EV.len]; omega)) | (intro h2; exact h))))
      with_reducible apply Sat.cond
      · exact rfl
      · intro h
        exfalso
        simp at h
      · intro h
        clear h
        repeat' (first
            | ((with_reducible apply Sat.run (X := X64)); exact rfl; (first | exact True.intro | (fail) | skip))
            | ((with_reducible apply Sat.drawn); kernel_rfl)
            | ((with_reducible apply DSat.run (X := X64)); exact rfl; (first | exact True.intro | (fail) | skip))
            | ((with_reducible apply DSat.fin); kernel_rfl) | fail)
        · ((repeat' (first | exact AllP.nil | with_reducible refine AllP.cons ?_ ?_)) <;> first | exact rfl | exact trivial | (apply inR_i64 <;> omega) | (apply inR_u64 <;> omega) | (apply inR_u32 <;> omega) | (apply inR_u8' <;> omega) | omega | (repeat' (with_reducible apply And.intro)) <;> (first | omega | exact rfl | decide))
        · refine Sat.back (m + 1) [] rfl ?_ ?_ ?_
          · ((repeat' (first | exact AllP.nil | with_reducible refine AllP.cons ?_ ?_)) <;> first | exact rfl | exact trivial | exact Int.natCast_add_one _ | exact ⟨rfl, rfl⟩ | exact ⟨rfl, rfl, rfl⟩ | exact ⟨rfl, rfl, rfl, rfl⟩ | exact ⟨rfl, .inl rfl⟩ | exact ⟨rfl, .inr rfl⟩ | exact pur | (intro _; exact rfl) | (intro _; exact trivial) | (intro _; exact pur))
          · omega
          · omega
    · obtain rfl : m = 3 := by omega
      repeat' (first
          | ((with_reducible apply Sat.run (X := X64)); exact rfl; (first | exact True.intro | (exact phi) | skip))
          | ((with_reducible apply Sat.drawn); kernel_rfl)
          | ((with_reducible apply DSat.run (X := X64)); exact rfl; (first | exact True.intro | (exact phi) | skip))
          | ((with_reducible apply DSat.fin); kernel_rfl)
          | ((with_reducible apply Sat.cond_t); exact rfl)
          | ((with_reducible apply Sat.cond_f); exact rfl)
          | ((with_reducible apply Sat.cond_pt); exact rfl; (try dsimp only [V.EV.sub, V.EV.len]); first | assumption | omega)
          | ((with_reducible apply Sat.cond_pf); exact rfl; (try dsimp only [V.EV.sub, V.EV.len]); first | assumption | omega)
          | ((with_reducible apply Sat.cond_p); exact rfl; all_goals intro h)
          | ((with_reducible apply Sat.cond); exact rfl; all_goals intro h) | fail)
      (refine Sat.fin (Sat.end1 rfl rfl rfl True.intro (.refl _ pur) (by first | exact .inl rfl | exact .inr rfl) (fun _ h => h)) ?_; (rfl))
theorem tables_law {Γ : Glob} (hs : Fun Tryd.prog Γ 10 [] (.bool true)) (n : Nat) (c : UInt8) (b : List UInt8) : Fun Tryd.prog Γ 9 [.int .u16 (n : Int), .int .u8 (c.toNat : Int), .ro (.u8 b)] (.bool true) := by
  have hlim : Fun Tryd.prog Γ 11 [.ro (.u8 b), .int .i64 300] (.ro (.u8 (b.take 300))) := (limited_spec b 300 (by decide)).weak
  have hq := take_le b 300
  generalize b.take 300 = y at hlim hq
  obtain ⟨N, hNN⟩ : ∃ N, N = n % 300 := ⟨_, rfl⟩
  have hN : Int.tmod (n : Int) 300 = (N : Int) := by rw [hNN]; rfl
  have hN1 : N ≤ 299 := by omega
  refine Fun.mkF 7 Tryd.func9 rfl Tryd.ntmps9 rfl rfl fun hf T w0 => ?_
  have hx0 : List.replicate (N : Int).toNat (0 : UInt8) ++ List.take 1 (List.drop 0 [UInt8.ofNat ((c.toNat : Int)).toNat]) = List.replicate N 0 ++ [c] := by
    rw [Int.toNat_natCast, Int.toNat_natCast, UInt8.ofNat_toNat]
    rfl
  have hxl : (List.replicate N (0 : UInt8) ++ [c]).length = N + 1 := by rw [List.length_append, List.length_replicate]; rfl
  have h12 : cd 2 (List.replicate N 0 ++ [c]) = cd 1 (List.replicate N 0 ++ [c]) := (Rc.code12 c N).symm
  generalize List.replicate N 0 ++ [c] = x at hx0 hxl h12
  have h1 : Fun Tryd.prog Γ 13 [.int .i64 1, .ro (.u8 x)] _ := (enc_call 1 (by decide) x (by omega)).weak
  have h2 : Fun Tryd.prog Γ 13 [.int .i64 2, .ro (.u8 x)] _ := (enc_call 2 (by decide) x (by omega)).weak
  rw [h12] at h2
  repeat' (first
      | ((with_reducible apply Sat.run (X := X64)); exact rfl; (first | exact True.intro | (fail) | skip))
      | ((with_reducible apply Sat.drawn); kernel_rfl)
      | ((with_reducible apply DSat.run (X := X64)); exact rfl; (first | exact True.intro | (fail) | skip))
      | ((with_reducible apply DSat.fin); kernel_rfl)
      | ((with_reducible apply Sat.call0 (hs)); exact rfl; exact rfl; kernel_rfl; exact rfl)
      | ((with_reducible apply DSat.call0 (hs)); exact rfl; exact rfl; kernel_rfl; exact rfl)
      | ((with_reducible apply DSat.callM0 (hs)); exact rfl; exact rfl; (first | exact rfl | assumption | (decide +kernel)); exact rfl; kernel_rfl; exact rfl) | fail)
  · rw [hN]
    exact .cons (Nat.le_refl 1) (.cons (by show (N : Int).toNat = (List.replicate (N : Int).toNat (0 : UInt8)).length; rw [List.length_replicate]) (.cons (by show ((N : Int).toNat + 1) * (0 + 1) ≤ 140737488355328; omega) (.cons ⟨by omega, by omega, by show (1 : Int) * (N : Int) ≤ 281474976710656; omega, by omega⟩ (.cons (by decide) .nil))))
  rw [hN, hx0]
  refine killR [24] rfl ?_
  with_reducible apply Sat.freeze true
  · exact rfl
  · exact rfl
  · exact rfl
  · ((repeat' (first | exact AllP.nil | with_reducible refine AllP.cons ?_ ?_)) <;> first | exact rfl | exact trivial | exact Int.natCast_add_one _ | exact ⟨rfl, rfl⟩ | exact ⟨rfl, rfl, rfl⟩ | exact ⟨rfl, rfl, rfl, rfl⟩ | exact ⟨rfl, .inl rfl⟩ | exact ⟨rfl, .inr rfl⟩ | exact pur | (intro _; exact rfl) | (intro _; exact trivial) | (intro _; exact pur) | exact .inl ⟨rfl, (by show (N : Int).toNat + 1 = x.length; omega), rfl⟩)
  repeat' (first
      | ((with_reducible apply Sat.run (X := X64)); exact rfl; (first | exact True.intro | (fail) | skip))
      | ((with_reducible apply Sat.drawn); kernel_rfl)
      | ((with_reducible apply DSat.run (X := X64)); exact rfl; (first | exact True.intro | (fail) | skip))
      | ((with_reducible apply DSat.fin); kernel_rfl)
      | ((with_reducible apply Sat.call (h1)); exact rfl; exact rfl; kernel_rfl; (exact cnv); exact rfl)
      | ((with_reducible apply DSat.call (h1)); exact rfl; exact rfl; kernel_rfl; (exact cnv); exact rfl)
      | ((with_reducible apply Sat.call (h2)); exact rfl; exact rfl; kernel_rfl; (exact cnv); exact rfl)
      | ((with_reducible apply DSat.call (h2)); exact rfl; exact rfl; kernel_rfl; (exact cnv); exact rfl) | fail)
  · ((repeat' (first | exact AllP.nil | with_reducible refine AllP.cons ?_ ?_)) <;> (first | exact trivial | exact rfl | (intro h; first | exact h | exact fun h2 => ⟨h, h2⟩ | (refine inR_i64 ?_ ?_ <;> first | omega | (simp [EV.len]; omega)) | exact pur | (intro h2; exact pur) | (simp [EV.len] at h ⊢; omega) | (simp [EV.len] at h; constructor <;> first | omega | (simp [EV.len]; omega)) | (intro h2; exact h))))
  with_reducible apply Sat.cond
  · exact rfl
  · intro h
    exfalso
    simp at h
  intro h
  clear h
  repeat' (first
      | ((with_reducible apply Sat.run (X := X64)); exact rfl; (first | exact True.intro | (fail) | skip))
      | ((with_reducible apply Sat.drawn); kernel_rfl)
      | ((with_reducible apply DSat.run (X := X64)); exact rfl; (first | exact True.intro | (fail) | skip))
      | ((with_reducible apply DSat.fin); kernel_rfl)
      | ((with_reducible apply Sat.call (hlim)); exact rfl; exact rfl; kernel_rfl; (exact cnv); exact rfl)
      | ((with_reducible apply DSat.call (hlim)); exact rfl; exact rfl; kernel_rfl; (exact cnv); exact rfl) | fail)
  apply Sat.loop (α := Nat) (fun k => k ≤ 6) (fun k => 6 - k) 0 (fun k => [(14, .int .i64 ((k : Int) - 1))]) (fun _ => []) [] [] 0
  · intro x; exact rfl
  · intro x; exact rfl
  · exact rfl
  · exact rfl
  · ((repeat' (first | exact AllP.nil | with_reducible refine AllP.cons ?_ ?_)) <;> first | exact rfl | exact trivial | exact Int.natCast_add_one _ | exact ⟨rfl, rfl⟩ | exact ⟨rfl, rfl, rfl⟩ | exact ⟨rfl, rfl, rfl, rfl⟩ | exact ⟨rfl, .inl rfl⟩ | exact ⟨rfl, .inr rfl⟩ | exact pur | (intro _; exact rfl) | (intro _; exact trivial) | (intro _; exact pur))
  · exact Nat.zero_le _
  intro k hk
  by_cases hk6 : k < 6
  · have hki : (k : Int) - 1 < 5 := by omega
    by_cases hg : 1 ≤ k ∧ k ≤ 3
    · have he : Fun Tryd.prog Γ 13 [.int .i64 ((k : Int) - 1), .ro (.u8 y)] (.tup [.ro (.u8 (cd (k - 1) y)), .int .i64 0]) := by
        rw [show ((k : Int) - 1) = ((k - 1 : Nat) : Int) by omega]
        exact (enc_call (k - 1) (by omega) y (by omega)).weak
      have hd : Fun Tryd.prog Γ 15 [.int .i64 ((k : Int) - 1), .ro (.u8 (cd (k - 1) y)), .int .i64 (y.length : Int)] (.tup [.ro (.u8 y), .int .i64 0]) := by
        rw [show ((k : Int) - 1) = ((k - 1 : Nat) : Int) by omega]
        exact dec_own (k - 1) (by omega) y (by omega)
      have g1 : (0 : Int) ≤ (k : Int) - 1 := by omega
      have g2 : (k : Int) - 1 < 3 := by omega
      have g3 : decide ((0 : Int) ≤ (k : Int) - 1) = true := decide_eq_true g1
      have g4 : decide ((k : Int) - 1 < 3) = true := decide_eq_true g2
      repeat' (first
          | ((with_reducible apply Sat.cond_pt); exact rfl; exact hki)
          | ((with_reducible apply Sat.run (X := X64)); exact rfl; (first | exact True.intro | (fail) | skip))
          | ((with_reducible apply Sat.drawn); kernel_rfl)
          | ((with_reducible apply DSat.run (X := X64)); exact rfl; (first | exact True.intro | (fail) | skip))
          | ((with_reducible apply DSat.fin); kernel_rfl)
          | ((with_reducible apply Sat.call (he)); exact rfl; exact rfl; kernel_rfl; (exact cnv); exact rfl)
          | ((with_reducible apply DSat.call (he)); exact rfl; exact rfl; kernel_rfl; (exact cnv); exact rfl)
          | ((with_reducible apply Sat.call (hd)); exact rfl; exact rfl; kernel_rfl; (exact cnv); exact rfl)
          | ((with_reducible apply DSat.call (hd)); exact rfl; exact rfl; kernel_rfl; (exact cnv); exact rfl) | fail)
      · rw [g3, g4]
        ((repeat' (first | exact AllP.nil | with_reducible refine AllP.cons ?_ ?_)) <;> (first | exact trivial | exact rfl | (intro h; first | exact h | exact fun h2 => ⟨h, h2⟩ | (refine inR_i64 ?_ ?_ <;> first | omega | (simp [EV.len]; omega)) | exact pur | (intro h2; exact pur) | (simp [EV.len] at h ⊢; omega) | (simp [EV.len] at h; constructor <;> first | omega | (simp [EV.len]; omega)) | (intro h2; exact h))))
      rw [g3, g4]
      with_reducible apply Sat.cond
      · exact rfl
      · intro h
        exfalso
        simp at h
      · intro h
        clear h
        repeat' (first
            | ((with_reducible apply Sat.run (X := X64)); exact rfl; (first | exact True.intro | (fail) | skip))
            | ((with_reducible apply Sat.drawn); kernel_rfl)
            | ((with_reducible apply DSat.run (X := X64)); exact rfl; (first | exact True.intro | (fail) | skip))
            | ((with_reducible apply DSat.fin); kernel_rfl) | fail)
        · exact .cons (inR_i64 (by omega) (by omega)) .nil
        · refine Sat.back (k + 1) [] rfl ?_ ?_ ?_
          · ((repeat' (first | exact AllP.nil | with_reducible refine AllP.cons ?_ ?_)) <;> first | exact rfl | exact trivial | exact Int.natCast_add_one _ | exact ⟨rfl, rfl⟩ | exact ⟨rfl, rfl, rfl⟩ | exact ⟨rfl, rfl, rfl, rfl⟩ | exact ⟨rfl, .inl rfl⟩ | exact ⟨rfl, .inr rfl⟩ | exact pur | (intro _; exact rfl) | (intro _; exact trivial) | (intro _; exact pur) | (show (k : Int) - 1 + 1 = ((k + 1 : Nat) : Int) - 1; omega))
          · omega
          · omega
    · have he : Fun Tryd.prog Γ 13 [.int .i64 ((k : Int) - 1), .ro (.u8 y)] _ := (enc_nil ((k : Int) - 1) (by omega) (by omega) (by omega) y).weak
      have hd : Fun Tryd.prog Γ 15 [.int .i64 ((k : Int) - 1), .ro (.u8 []), .int .i64 (y.length : Int)] _ := (dec_nil ((k : Int) - 1) (by omega) (by omega) (by omega) [] (y.length : Int)).weak
      obtain ⟨G, hG⟩ : ∃ G, G = (bif decide ((0 : Int) ≤ (k : Int) - 1) then decide ((k : Int) - 1 < 3) else false) := ⟨_, rfl⟩
      have hG2 : G = false := by
        rw [hG]
        by_cases g1 : (0 : Int) ≤ (k : Int) - 1
        · rw [decide_eq_true g1, decide_eq_false (show ¬ (k : Int) - 1 < 3 by omega)]; rfl
        · rw [decide_eq_false g1]; rfl
      repeat' (first
          | ((with_reducible apply Sat.cond_pt); exact rfl; exact hki)
          | ((with_reducible apply Sat.run (X := X64)); exact rfl; (first | exact True.intro | (fail) | skip))
          | ((with_reducible apply Sat.drawn); kernel_rfl)
          | ((with_reducible apply DSat.run (X := X64)); exact rfl; (first | exact True.intro | (fail) | skip))
          | ((with_reducible apply DSat.fin); kernel_rfl)
          | ((with_reducible apply Sat.call (he)); exact rfl; exact rfl; kernel_rfl; (exact cnv); exact rfl)
          | ((with_reducible apply DSat.call (he)); exact rfl; exact rfl; kernel_rfl; (exact cnv); exact rfl)
          | ((with_reducible apply Sat.call (hd)); exact rfl; exact rfl; kernel_rfl; (exact cnv); exact rfl)
          | ((with_reducible apply DSat.call (hd)); exact rfl; exact rfl; kernel_rfl; (exact cnv); exact rfl) | fail)
      · rw [← hG, hG2]
        ((repeat' (first | exact AllP.nil | with_reducible refine AllP.cons ?_ ?_)) <;> (first | exact trivial | exact rfl | (intro _; exact hG2) | (intro h; first | exact h | exact fun h2 => ⟨h, h2⟩ | (refine inR_i64 ?_ ?_ <;> first | omega | (simp [EV.len]; omega)) | exact pur | (intro h2; exact pur) | (simp [EV.len] at h ⊢; omega) | (simp [EV.len] at h; constructor <;> first | omega | (simp [EV.len]; omega)) | (intro h2; exact h))))
      rw [← hG, hG2]
      with_reducible apply Sat.cond
      · exact rfl
      · intro h
        exfalso
        simp at h
      · intro h
        clear h
        repeat' (first
            | ((with_reducible apply Sat.run (X := X64)); exact rfl; (first | exact True.intro | (fail) | skip))
            | ((with_reducible apply Sat.drawn); kernel_rfl)
            | ((with_reducible apply DSat.run (X := X64)); exact rfl; (first | exact True.intro | (fail) | skip))
            | ((with_reducible apply DSat.fin); kernel_rfl) | fail)
        · exact .cons (inR_i64 (by omega) (by omega)) .nil
        · refine Sat.back (k + 1) [] rfl ?_ ?_ ?_
          · ((repeat' (first | exact AllP.nil | with_reducible refine AllP.cons ?_ ?_)) <;> first | exact rfl | exact trivial | exact Int.natCast_add_one _ | exact ⟨rfl, rfl⟩ | exact ⟨rfl, rfl, rfl⟩ | exact ⟨rfl, rfl, rfl, rfl⟩ | exact ⟨rfl, .inl rfl⟩ | exact ⟨rfl, .inr rfl⟩ | exact pur | (intro _; exact rfl) | (intro _; exact trivial) | (intro _; exact pur) | (show (k : Int) - 1 + 1 = ((k + 1 : Nat) : Int) - 1; omega))
          · omega
          · omega
  · obtain rfl : k = 6 := by omega
    repeat' (first
        | ((with_reducible apply Sat.run (X := X64)); exact rfl; (first | exact True.intro | (exact phi) | skip))
        | ((with_reducible apply Sat.drawn); kernel_rfl)
        | ((with_reducible apply DSat.run (X := X64)); exact rfl; (first | exact True.intro | (exact phi) | skip))
        | ((with_reducible apply DSat.fin); kernel_rfl)
        | ((with_reducible apply Sat.cond_t); exact rfl)
        | ((with_reducible apply Sat.cond_f); exact rfl)
        | ((with_reducible apply Sat.cond_pt); exact rfl; (try dsimp only [V.EV.sub, V.EV.len]); first | assumption | omega)
        | ((with_reducible apply Sat.cond_pf); exact rfl; (try dsimp only [V.EV.sub, V.EV.len]); first | assumption | omega)
        | ((with_reducible apply Sat.cond_p); exact rfl; all_goals intro h)
        | ((with_reducible apply Sat.cond); exact rfl; all_goals intro h) | fail)
    (refine Sat.fin (Sat.end1 rfl rfl rfl True.intro (.refl _ pur) (by first | exact .inl rfl | exact .inr rfl) (fun _ h => h)) ?_; (rfl))
end Go.Proofs.YtcnpgmohnclojaaDoor
end
section
namespace Go.Proofs.YtcnpgmohnclojaaDoor
open Go.RowKit V
set_option maxRecDepth 100000
set_option maxHeartbeats 4000000
set_option linter.unusedSimpArgs false
attribute [local irreducible] V.Sat V.DSat
theorem dt_ends (m : Nat) (q : List UInt8) (len : Nat) : dt m (q ++ [0]) len = none := by
  cases h : dt m (q ++ [0]) len with
  | none => rfl
  | some t => exact absurd rfl (cd_last m t q 0 (dt_some m _ _ t h).1)
theorem codes_law {Γ : Glob} (hs : Fun Tryd.prog Γ 10 [] (.bool true)) (raw b : List UInt8) (n : UInt8) : Fun Tryd.prog Γ 5 [.ro (.u8 raw), .ro (.u8 b), .int .u8 (n.toNat : Int)] (.bool true) := by
  have hlim : Fun Tryd.prog Γ 11 [.ro (.u8 raw), .int .i64 60] (.ro (.u8 (raw.take 60))) := (limited_spec raw 60 (by decide)).weak
  have hlim2 : Fun Tryd.prog Γ 11 [.ro (.u8 b), .int .i64 60] (.ro (.u8 (b.take 60))) := (limited_spec b 60 (by decide)).weak
  have hy := take_le raw 60
  have hx := take_le b 60
  generalize raw.take 60 = y at hlim hy
  generalize b.take 60 = x at hlim2 hx
  obtain ⟨N, hNN⟩ : ∃ N, N = n.toNat % 101 := ⟨_, rfl⟩
  have hN : Int.tmod (n.toNat : Int) 101 = (N : Int) := by rw [hNN]; rfl
  have hN1 : N ≤ 100 := by omega
  refine Fun.mkF 7 Tryd.func5 rfl Tryd.ntmps5 rfl rfl fun hf T w0 => ?_
  repeat' (first
      | ((with_reducible apply Sat.run (X := X64)); exact rfl; (first | exact True.intro | (fail) | skip))
      | ((with_reducible apply Sat.drawn); kernel_rfl)
      | ((with_reducible apply DSat.run (X := X64)); exact rfl; (first | exact True.intro | (fail) | skip))
      | ((with_reducible apply DSat.fin); kernel_rfl)
      | ((with_reducible apply Sat.call0 (hs)); exact rfl; exact rfl; kernel_rfl; exact rfl)
      | ((with_reducible apply DSat.call0 (hs)); exact rfl; exact rfl; kernel_rfl; exact rfl)
      | ((with_reducible apply DSat.callM0 (hs)); exact rfl; exact rfl; (first | exact rfl | assumption | (decide +kernel)); exact rfl; kernel_rfl; exact rfl)
      | ((with_reducible apply Sat.call (hlim)); exact rfl; exact rfl; kernel_rfl; (exact cnv); exact rfl)
      | ((with_reducible apply DSat.call (hlim)); exact rfl; exact rfl; kernel_rfl; (exact cnv); exact rfl)
      | ((with_reducible apply Sat.call (hlim2)); exact rfl; exact rfl; kernel_rfl; (exact cnv); exact rfl)
      | ((with_reducible apply DSat.call (hlim2)); exact rfl; exact rfl; kernel_rfl; (exact cnv); exact rfl) | fail)
  apply Sat.loop (α := Nat) (fun m => m ≤ 3) (fun m => 3 - m) 0 (fun m => [(10, .int .i64 (m : Int))]) (fun _ => []) [] [] 0
  · intro x; exact rfl
  · intro x; exact rfl
  · exact rfl
  · exact rfl
  · ((repeat' (first | exact AllP.nil | with_reducible refine AllP.cons ?_ ?_)) <;> first | exact rfl | exact trivial | exact Int.natCast_add_one _ | exact ⟨rfl, rfl⟩ | exact ⟨rfl, rfl, rfl⟩ | exact ⟨rfl, rfl, rfl, rfl⟩ | exact ⟨rfl, .inl rfl⟩ | exact ⟨rfl, .inr rfl⟩ | exact pur | (intro _; exact rfl) | (intro _; exact trivial) | (intro _; exact pur))
  · exact Nat.zero_le _
  intro m hm
  by_cases hm3 : m < 3
  · have hmi : (m : Int) < 3 := by omega
    have hcl := cd_len m x
    have hd : Fun Tryd.prog Γ 15 [.int .i64 (m : Int), .ro (.u8 y), .int .i64 (N : Int)] _ := (dec_call m hm3 y N (by omega)).weak
    have he : Fun Tryd.prog Γ 13 [.int .i64 (m : Int), .ro (.u8 x)] _ := (enc_call m hm3 x (by omega)).weak
    have hz : Fun Tryd.prog Γ 15 [.int .i64 (m : Int), .ro (.u8 (cd m x ++ [0])), .int .i64 (x.length : Int)] (.tup [.ro (.u8 []), .int .i64 130]) := by
      have h := (dec_call m hm3 (cd m x ++ [0]) x.length (by omega)).weak (Γ := Γ)
      unfold dR dE at h
      rw [dt_ends] at h
      exact h
    generalize cd m x = c at he hz hcl
    rcases dE_cases m y N with ⟨h0, h1, h2⟩ | ⟨t, h0, h1, h2⟩
    · rw [h1, h2] at hd
      repeat' (first
          | ((with_reducible apply Sat.cond_pt); exact rfl; exact hmi)
          | ((with_reducible apply Sat.run (X := X64)); exact rfl; (first | exact True.intro | (fail) | skip))
          | ((with_reducible apply Sat.drawn); kernel_rfl)
          | ((with_reducible apply DSat.run (X := X64)); exact rfl; (first | exact True.intro | (fail) | skip))
          | ((with_reducible apply DSat.fin); kernel_rfl) | fail)
      · exact .cons (by decide) .nil
      rw [hN]
      repeat' (first
          | ((with_reducible apply Sat.cond_t); exact rfl)
          | ((with_reducible apply Sat.cond_f); exact rfl)
          | ((with_reducible apply Sat.run (X := X64)); exact rfl; (first | exact True.intro | (fail) | skip))
          | ((with_reducible apply Sat.drawn); kernel_rfl)
          | ((with_reducible apply DSat.run (X := X64)); exact rfl; (first | exact True.intro | (fail) | skip))
          | ((with_reducible apply DSat.fin); kernel_rfl)
          | ((with_reducible apply Sat.call (hd)); exact rfl; exact rfl; kernel_rfl; (exact cnv); exact rfl)
          | ((with_reducible apply DSat.call (hd)); exact rfl; exact rfl; kernel_rfl; (exact cnv); exact rfl) | fail)
      · ((repeat' (first | exact AllP.nil | with_reducible refine AllP.cons ?_ ?_)) <;> (first | exact trivial | exact rfl | (intro h; first | exact h | exact fun h2 => ⟨h, h2⟩ | (refine inR_i64 ?_ ?_ <;> first | omega | (simp [EV.len]; omega)) | exact pur | (intro h2; exact pur) | (simp [EV.len] at h ⊢; omega) | (simp [EV.len] at h; constructor <;> first | omega | (simp [EV.len]; omega)) | (intro h2; exact h))))
      repeat' (first
          | ((with_reducible apply Sat.cond_t); exact rfl)
          | ((with_reducible apply Sat.cond_f); exact rfl)
          | ((with_reducible apply Sat.run (X := X64)); exact rfl; (first | exact True.intro | (fail) | skip))
          | ((with_reducible apply Sat.drawn); kernel_rfl)
          | ((with_reducible apply DSat.run (X := X64)); exact rfl; (first | exact True.intro | (fail) | skip))
          | ((with_reducible apply DSat.fin); kernel_rfl)
          | ((with_reducible apply Sat.call (he)); exact rfl; exact rfl; kernel_rfl; (exact cnv); exact rfl)
          | ((with_reducible apply DSat.call (he)); exact rfl; exact rfl; kernel_rfl; (exact cnv); exact rfl) | fail)
      · exact .cons (Nat.le_refl 1) (.cons (by show 0 + c.length = ([] ++ c).length; rw [List.nil_append]; omega) (.cons (by show (0 + c.length + 1) * (0 + 1) ≤ 140737488355328; omega) (.cons rfl (.cons (by show (0 + c.length) * (0 + 1) ≤ 140737488355328; omega) .nil))))
      rw [show [] ++ c ++ List.take 1 (List.drop 0 [UInt8.ofNat (Int.toNat 0)]) = c ++ [0] from rfl]
      refine killR [76, 78, 17, 81] rfl ?_
      have hzl : (c ++ [(0 : UInt8)]).length = c.length + 1 := by rw [List.length_append]; rfl
      generalize c ++ [(0 : UInt8)] = z at hz hzl ⊢
      with_reducible apply Sat.freeze true
      · exact rfl
      · exact rfl
      · exact rfl
      · ((repeat' (first | exact AllP.nil | with_reducible refine AllP.cons ?_ ?_)) <;> first | exact rfl | exact trivial | exact Int.natCast_add_one _ | exact ⟨rfl, rfl⟩ | exact ⟨rfl, rfl, rfl⟩ | exact ⟨rfl, rfl, rfl, rfl⟩ | exact ⟨rfl, .inl rfl⟩ | exact ⟨rfl, .inr rfl⟩ | exact pur | (intro _; exact rfl) | (intro _; exact trivial) | (intro _; exact pur) | exact .inl ⟨rfl, (by show 0 + c.length + 1 = z.length; omega), rfl⟩)
      repeat' (first
          | ((with_reducible apply Sat.run (X := X64)); exact rfl; (first | exact True.intro | (fail) | skip))
          | ((with_reducible apply Sat.drawn); kernel_rfl)
          | ((with_reducible apply DSat.run (X := X64)); exact rfl; (first | exact True.intro | (fail) | skip))
          | ((with_reducible apply DSat.fin); kernel_rfl)
          | ((with_reducible apply Sat.call (hz)); exact rfl; exact rfl; kernel_rfl; (exact cnv); exact rfl)
          | ((with_reducible apply DSat.call (hz)); exact rfl; exact rfl; kernel_rfl; (exact cnv); exact rfl) | fail)
      · ((repeat' (first | exact AllP.nil | with_reducible refine AllP.cons ?_ ?_)) <;> (first | exact trivial | exact rfl | (intro h; first | exact h | exact fun h2 => ⟨h, h2⟩ | (refine inR_i64 ?_ ?_ <;> first | omega | (simp [EV.len]; omega)) | exact pur | (intro h2; exact pur) | (simp [EV.len] at h ⊢; omega) | (simp [EV.len] at h; constructor <;> first | omega | (simp [EV.len]; omega)) | (intro h2; exact h))))
      with_reducible apply Sat.cond
      · exact rfl
      · intro h
        exfalso
        simp at h
      · intro h
        clear h
        repeat' (first
            | ((with_reducible apply Sat.run (X := X64)); exact rfl; (first | exact True.intro | (fail) | skip))
            | ((with_reducible apply Sat.drawn); kernel_rfl)
            | ((with_reducible apply DSat.run (X := X64)); exact rfl; (first | exact True.intro | (fail) | skip))
            | ((with_reducible apply DSat.fin); kernel_rfl) | fail)
        · ((repeat' (first | exact AllP.nil | with_reducible refine AllP.cons ?_ ?_)) <;> first | exact rfl | exact trivial | (apply inR_i64 <;> omega) | (apply inR_u64 <;> omega) | (apply inR_u32 <;> omega) | (apply inR_u8' <;> omega) | omega | (repeat' (with_reducible apply And.intro)) <;> (first | omega | exact rfl | decide))
        · refine Sat.back (m + 1) [] rfl ?_ ?_ ?_
          · ((repeat' (first | exact AllP.nil | with_reducible refine AllP.cons ?_ ?_)) <;> first | exact rfl | exact trivial | exact Int.natCast_add_one _ | exact ⟨rfl, rfl⟩ | exact ⟨rfl, rfl, rfl⟩ | exact ⟨rfl, rfl, rfl, rfl⟩ | exact ⟨rfl, .inl rfl⟩ | exact ⟨rfl, .inr rfl⟩ | exact pur | (intro _; exact rfl) | (intro _; exact trivial) | (intro _; exact pur))
          · omega
          · omega
    · rw [h1, h2] at hd
      obtain ⟨k1, k2⟩ := dt_some m y N t h0
      have ht : Fun Tryd.prog Γ 13 [.int .i64 (m : Int), .ro (.u8 t)] (.tup [.ro (.u8 y), .int .i64 0]) := by
        have := (enc_call m hm3 t (by omega)).weak (Γ := Γ)
        rwa [k1] at this
      repeat' (first
          | ((with_reducible apply Sat.cond_pt); exact rfl; exact hmi)
          | ((with_reducible apply Sat.run (X := X64)); exact rfl; (first | exact True.intro | (fail) | skip))
          | ((with_reducible apply Sat.drawn); kernel_rfl)
          | ((with_reducible apply DSat.run (X := X64)); exact rfl; (first | exact True.intro | (fail) | skip))
          | ((with_reducible apply DSat.fin); kernel_rfl) | fail)
      · exact .cons (by decide) .nil
      rw [hN]
      repeat' (first
          | ((with_reducible apply Sat.cond_t); exact rfl)
          | ((with_reducible apply Sat.cond_f); exact rfl)
          | ((with_reducible apply Sat.run (X := X64)); exact rfl; (first | exact True.intro | (fail) | skip))
          | ((with_reducible apply Sat.drawn); kernel_rfl)
          | ((with_reducible apply DSat.run (X := X64)); exact rfl; (first | exact True.intro | (fail) | skip))
          | ((with_reducible apply DSat.fin); kernel_rfl)
          | ((with_reducible apply Sat.call (hd)); exact rfl; exact rfl; kernel_rfl; (exact cnv); exact rfl)
          | ((with_reducible apply DSat.call (hd)); exact rfl; exact rfl; kernel_rfl; (exact cnv); exact rfl)
          | ((with_reducible apply Sat.call (ht)); exact rfl; exact rfl; kernel_rfl; (exact cnv); exact rfl)
          | ((with_reducible apply DSat.call (ht)); exact rfl; exact rfl; kernel_rfl; (exact cnv); exact rfl) | fail)
      · rw [hN]
        ((repeat' (first | exact AllP.nil | with_reducible refine AllP.cons ?_ ?_)) <;> (first | exact trivial | exact rfl | (intro _; decide) | (intro h; first | exact h | exact fun h2 => ⟨h, h2⟩ | (refine inR_i64 ?_ ?_ <;> first | omega | (simp [EV.len]; omega)) | exact pur | (intro h2; exact pur) | (simp [EV.len] at h ⊢; omega) | (simp [EV.len] at h; constructor <;> first | omega | (simp [EV.len]; omega)) | (intro h2; exact h))))
      rw [hN]
      with_reducible apply Sat.cond
      · exact rfl
      · intro h
        exfalso
        simp [EV.len, k2] at h
      intro h
      clear h
      repeat' (first
          | ((with_reducible apply Sat.cond_t); exact rfl)
          | ((with_reducible apply Sat.cond_f); exact rfl)
          | ((with_reducible apply Sat.run (X := X64)); exact rfl; (first | exact True.intro | (fail) | skip))
          | ((with_reducible apply Sat.drawn); kernel_rfl)
          | ((with_reducible apply DSat.run (X := X64)); exact rfl; (first | exact True.intro | (fail) | skip))
          | ((with_reducible apply DSat.fin); kernel_rfl)
          | ((with_reducible apply Sat.call (he)); exact rfl; exact rfl; kernel_rfl; (exact cnv); exact rfl)
          | ((with_reducible apply DSat.call (he)); exact rfl; exact rfl; kernel_rfl; (exact cnv); exact rfl) | fail)
      · exact .cons (Nat.le_refl 1) (.cons (by show 0 + c.length = ([] ++ c).length; rw [List.nil_append]; omega) (.cons (by show (0 + c.length + 1) * (0 + 1) ≤ 140737488355328; omega) (.cons rfl (.cons (by show (0 + c.length) * (0 + 1) ≤ 140737488355328; omega) .nil))))
      rw [show [] ++ c ++ List.take 1 (List.drop 0 [UInt8.ofNat (Int.toNat 0)]) = c ++ [0] from rfl]
      refine killR [76, 78, 17, 81] rfl ?_
      have hzl : (c ++ [(0 : UInt8)]).length = c.length + 1 := by rw [List.length_append]; rfl
      generalize c ++ [(0 : UInt8)] = z at hz hzl ⊢
      with_reducible apply Sat.freeze true
      · exact rfl
      · exact rfl
      · exact rfl
      · ((repeat' (first | exact AllP.nil | with_reducible refine AllP.cons ?_ ?_)) <;> first | exact rfl | exact trivial | exact Int.natCast_add_one _ | exact ⟨rfl, rfl⟩ | exact ⟨rfl, rfl, rfl⟩ | exact ⟨rfl, rfl, rfl, rfl⟩ | exact ⟨rfl, .inl rfl⟩ | exact ⟨rfl, .inr rfl⟩ | exact pur | (intro _; exact rfl) | (intro _; exact trivial) | (intro _; exact pur) | exact .inl ⟨rfl, (by show 0 + c.length + 1 = z.length; omega), rfl⟩)
      repeat' (first
          | ((with_reducible apply Sat.run (X := X64)); exact rfl; (first | exact True.intro | (fail) | skip))
          | ((with_reducible apply Sat.drawn); kernel_rfl)
          | ((with_reducible apply DSat.run (X := X64)); exact rfl; (first | exact True.intro | (fail) | skip))
          | ((with_reducible apply DSat.fin); kernel_rfl)
          | ((with_reducible apply Sat.call (hz)); exact rfl; exact rfl; kernel_rfl; (exact cnv); exact rfl)
          | ((with_reducible apply DSat.call (hz)); exact rfl; exact rfl; kernel_rfl; (exact cnv); exact rfl) | fail)
      · ((repeat' (first | exact AllP.nil | with_reducible refine AllP.cons ?_ ?_)) <;> (first | exact trivial | exact rfl | (intro h; first | exact h | exact fun h2 => ⟨h, h2⟩ | (refine inR_i64 ?_ ?_ <;> first | omega | (simp [EV.len]; omega)) | exact pur | (intro h2; exact pur) | (simp [EV.len] at h ⊢; omega) | (simp [EV.len] at h; constructor <;> first | omega | (simp [EV.len]; omega)) | (intro h2; exact h))))
      with_reducible apply Sat.cond
      · exact rfl
      · intro h
        exfalso
        simp at h
      · intro h
        clear h
        repeat' (first
            | ((with_reducible apply Sat.run (X := X64)); exact rfl; (first | exact True.intro | (fail) | skip))
            | ((with_reducible apply Sat.drawn); kernel_rfl)
            | ((with_reducible apply DSat.run (X := X64)); exact rfl; (first | exact True.intro | (fail) | skip))
            | ((with_reducible apply DSat.fin); kernel_rfl) | fail)
        · ((repeat' (first | exact AllP.nil | with_reducible refine AllP.cons ?_ ?_)) <;> first | exact rfl | exact trivial | (apply inR_i64 <;> omega) | (apply inR_u64 <;> omega) | (apply inR_u32 <;> omega) | (apply inR_u8' <;> omega) | omega | (repeat' (with_reducible apply And.intro)) <;> (first | omega | exact rfl | decide))
        · refine Sat.back (m + 1) [] rfl ?_ ?_ ?_
          · ((repeat' (first | exact AllP.nil | with_reducible refine AllP.cons ?_ ?_)) <;> first | exact rfl | exact trivial | exact Int.natCast_add_one _ | exact ⟨rfl, rfl⟩ | exact ⟨rfl, rfl, rfl⟩ | exact ⟨rfl, rfl, rfl, rfl⟩ | exact ⟨rfl, .inl rfl⟩ | exact ⟨rfl, .inr rfl⟩ | exact pur | (intro _; exact rfl) | (intro _; exact trivial) | (intro _; exact pur))
          · omega
          · omega
  · obtain rfl : m = 3 := by omega
    repeat' (first
        | ((with_reducible apply Sat.run (X := X64)); exact rfl; (first | exact True.intro | (exact phi) | skip))
        | ((with_reducible apply Sat.drawn); kernel_rfl)
        | ((with_reducible apply DSat.run (X := X64)); exact rfl; (first | exact True.intro | (exact phi) | skip))
        | ((with_reducible apply DSat.fin); kernel_rfl)
        | ((with_reducible apply Sat.cond_t); exact rfl)
        | ((with_reducible apply Sat.cond_f); exact rfl)
        | ((with_reducible apply Sat.cond_pt); exact rfl; (try dsimp only [V.EV.sub, V.EV.len]); first | assumption | omega)
        | ((with_reducible apply Sat.cond_pf); exact rfl; (try dsimp only [V.EV.sub, V.EV.len]); first | assumption | omega)
        | ((with_reducible apply Sat.cond_p); exact rfl; all_goals intro h)
        | ((with_reducible apply Sat.cond); exact rfl; all_goals intro h) | fail)
    (refine Sat.fin (Sat.end1 rfl rfl rfl True.intro (.refl _ pur) (by first | exact .inl rfl | exact .inr rfl) (fun _ h => h)) ?_; (rfl))
end Go.Proofs.YtcnpgmohnclojaaDoor
end
section
namespace Go.Proofs.YtcnpgmohnclojaaDoor
open Go.RowKit V
set_option maxRecDepth 100000
set_option maxHeartbeats 4000000
set_option linter.unusedSimpArgs false
attribute [local irreducible] V.Sat V.DSat
def xv (a w : Int) : UInt8 := UInt8.ofNat (IntKind.u8.wrap ((BitVec.ofInt IntKind.u8.bits a ^^^ BitVec.ofInt IntKind.u8.bits (maxV w 1)).toNat : Int)).toNat
theorem xv_ne (a : Nat) (ha : a < 256) (w : Nat) (hw : w < 256) : xv (a : Int) (w : Int) ≠ UInt8.ofNat a := by
  intro h
  unfold xv at h
  rw [wrap_ofNat] at h
  have hv : ∃ v : Nat, 1 ≤ v ∧ v < 256 ∧ maxV (w : Int) 1 = (v : Int) := by
    unfold maxV
    split
    · exact ⟨1, by omega, by omega, rfl⟩
    · exact ⟨w, by omega, hw, rfl⟩
  obtain ⟨v, v1, v2, v3⟩ := hv
  rw [v3] at h
  have h1 := congrArg UInt8.toNat h
  rw [UInt8.toNat_ofNat_of_lt' (show a < 256 from ha), UInt8.toNat_ofNat_of_lt' (show _ < 256 from BitVec.isLt _)] at h1
  have e1 : BitVec.ofInt IntKind.u8.bits (a : Int) = BitVec.ofNat 8 a := BitVec.ofInt_natCast 8 a
  have e2 : BitVec.ofInt IntKind.u8.bits (v : Int) = BitVec.ofNat 8 v := BitVec.ofInt_natCast 8 v
  rw [e1, e2] at h1
  have h2 : BitVec.ofNat 8 a ^^^ BitVec.ofNat 8 v = BitVec.ofNat 8 a := by
    apply BitVec.eq_of_toNat_eq
    rw [BitVec.toNat_ofNat a 8, Nat.mod_eq_of_lt (show a < 2 ^ 8 from ha)]
    exact h1
  have h3 : BitVec.ofNat 8 v = 0#8 := by
    have := congrArg (fun z => BitVec.ofNat 8 a ^^^ z) h2
    simpa [← BitVec.xor_assoc] using this
  have h4 := congrArg BitVec.toNat h3
  rw [BitVec.toNat_ofNat, Nat.mod_eq_of_lt (show v < 2 ^ 8 from v2)] at h4
  have h5 : v = 0 := h4
  omega
/-- What is read of other bytes is another text. -/
theorem dec_other {m : Nat} {x o : List UInt8} (h : o ≠ cd m x) (len : Nat) : ¬ (dE m o len = 0 ∧ dR m o len = x) := by
  rintro ⟨h1, h2⟩
  rcases dE_cases m o len with ⟨_, _, q⟩ | ⟨t, q1, q2, _⟩
  · rw [q] at h1; cases h1
  · rw [q2] at h2
    subst h2
    exact h (dt_some m o len t q1).1.symm
theorem differs_law {Γ : Glob} (hs : Fun Tryd.prog Γ 10 [] (.bool true)) (b : List UInt8) (l : List EdL) (w0' w1 : UInt8) : Fun Tryd.prog Γ 6 [.ro (.u8 b), .ro (edE l), .agg [.int .u8 (w0'.toNat : Int), .int .u8 (w1.toNat : Int)]] (.bool true) := by
  have hlim : Fun Tryd.prog Γ 11 [.ro (.u8 b), .int .i64 200] (.ro (.u8 (b.take 200))) := (limited_spec b 200 (by decide)).weak
  have hx := take_le b 200
  generalize b.take 200 = x at hlim hx
  have hed : Fun Tryd.prog Γ 17 [.ro (.u8 x), .ro (edE l)] (.ro (.u8 (editB x l))) := (edited_spec x (by omega) l).weak
  have hyx : (editB x l).length = x.length := editN_len x l _
  generalize editB x l = y at hed hyx
  refine Fun.mkF 7 Tryd.func6 rfl Tryd.ntmps6 rfl rfl fun hf T w0 => ?_
  repeat' (first
      | ((with_reducible apply Sat.call hed); exact rfl; exact rfl; kernel_rfl; exact .cons _ _ _ _ (.refl _ trivial) (.cons _ _ _ _ (.refl _ (by simp [pureL, pureS, pureE])) .nil); exact rfl)
      | ((with_reducible apply Sat.run (X := X64)); exact rfl; (first | exact True.intro | (fail) | skip))
      | ((with_reducible apply Sat.drawn); kernel_rfl)
      | ((with_reducible apply DSat.run (X := X64)); exact rfl; (first | exact True.intro | (fail) | skip))
      | ((with_reducible apply DSat.fin); kernel_rfl)
      | ((with_reducible apply Sat.call0 (hs)); exact rfl; exact rfl; kernel_rfl; exact rfl)
      | ((with_reducible apply DSat.call0 (hs)); exact rfl; exact rfl; kernel_rfl; exact rfl)
      | ((with_reducible apply DSat.callM0 (hs)); exact rfl; exact rfl; (first | exact rfl | assumption | (decide +kernel)); exact rfl; kernel_rfl; exact rfl)
      | ((with_reducible apply Sat.call (hlim)); exact rfl; exact rfl; kernel_rfl; (exact cnv); exact rfl)
      | ((with_reducible apply DSat.call (hlim)); exact rfl; exact rfl; kernel_rfl; (exact cnv); exact rfl) | fail)
  refine Sat.kill [1, 26] rfl ?_
  apply Sat.loop (α := Nat) (fun m => m ≤ 3) (fun m => 3 - m) 0 (fun m => [(10, .int .i64 (m : Int))]) (fun _ => []) [] [] 0
  · intro x; exact rfl
  · intro x; exact rfl
  · exact rfl
  · exact rfl
  · ((repeat' (first | exact AllP.nil | with_reducible refine AllP.cons ?_ ?_)) <;> first | exact rfl | exact trivial | exact Int.natCast_add_one _ | exact ⟨rfl, rfl⟩ | exact ⟨rfl, rfl, rfl⟩ | exact ⟨rfl, rfl, rfl, rfl⟩ | exact ⟨rfl, .inl rfl⟩ | exact ⟨rfl, .inr rfl⟩ | exact pur | (intro _; exact rfl) | (intro _; exact trivial) | (intro _; exact pur))
  · exact Nat.zero_le _
  intro m hm
  by_cases hm3 : m < 3
  · have hmi : (m : Int) < 3 := by omega
    have hcl := cd_len m x
    have he : Fun Tryd.prog Γ 13 [.int .i64 (m : Int), .ro (.u8 x)] _ := (enc_call m hm3 x (by omega)).weak
    have he2 : Fun Tryd.prog Γ 13 [.int .i64 (m : Int), .ro (.u8 y)] _ := (enc_call m hm3 y (by omega)).weak
    repeat' (first
        | ((with_reducible apply Sat.cond_pt); exact rfl; exact hmi)
        | ((with_reducible apply Sat.run (X := X64)); exact rfl; (first | exact True.intro | (fail) | skip))
        | ((with_reducible apply Sat.drawn); kernel_rfl)
        | ((with_reducible apply DSat.run (X := X64)); exact rfl; (first | exact True.intro | (fail) | skip))
        | ((with_reducible apply DSat.fin); kernel_rfl)
        | ((with_reducible apply Sat.call (he)); exact rfl; exact rfl; kernel_rfl; (exact cnv); exact rfl)
        | ((with_reducible apply DSat.call (he)); exact rfl; exact rfl; kernel_rfl; (exact cnv); exact rfl)
        | ((with_reducible apply Sat.call (he2)); exact rfl; exact rfl; kernel_rfl; (exact cnv); exact rfl)
        | ((with_reducible apply DSat.call (he2)); exact rfl; exact rfl; kernel_rfl; (exact cnv); exact rfl) | fail)
    · ((repeat' (first | exact AllP.nil | with_reducible refine AllP.cons ?_ ?_)) <;> (first | exact trivial | exact rfl | (intro h; first | exact h | exact fun h2 => ⟨h, h2⟩ | (refine inR_i64 ?_ ?_ <;> first | omega | (simp [EV.len]; omega)) | exact pur | (intro h2; exact pur) | (simp [EV.len] at h ⊢; omega) | (simp [EV.len] at h; constructor <;> first | omega | (simp [EV.len]; omega)) | (intro h2; exact h))))
    with_reducible apply Sat.cond
    · exact rfl
    · intro h
      exfalso
      simp at h
      exact h ⟨fun e => cd_inj m x y hyx.symm e, fun e => by rw [e]⟩
    intro h
    clear h
    repeat' (first
        | ((with_reducible apply Sat.run (X := X64)); exact rfl; (first | exact True.intro | (fail) | skip))
        | ((with_reducible apply Sat.drawn); kernel_rfl)
        | ((with_reducible apply DSat.run (X := X64)); exact rfl; (first | exact True.intro | (fail) | skip))
        | ((with_reducible apply DSat.fin); kernel_rfl) | fail)
    with_reducible apply Sat.cond_p
    · exact rfl
    · intro h
      clear h
      repeat' (first
          | ((with_reducible apply Sat.run (X := X64)); exact rfl; (first | exact True.intro | (fail) | skip))
          | ((with_reducible apply Sat.drawn); kernel_rfl)
          | ((with_reducible apply DSat.run (X := X64)); exact rfl; (first | exact True.intro | (fail) | skip))
          | ((with_reducible apply DSat.fin); kernel_rfl) | fail)
      · ((repeat' (first | exact AllP.nil | with_reducible refine AllP.cons ?_ ?_)) <;> first | exact rfl | exact trivial | (apply inR_i64 <;> omega) | (apply inR_u64 <;> omega) | (apply inR_u32 <;> omega) | (apply inR_u8' <;> omega) | omega | (repeat' (with_reducible apply And.intro)) <;> (first | omega | exact rfl | decide))
      · refine Sat.back (m + 1) [] rfl ?_ ?_ ?_
        · ((repeat' (first | exact AllP.nil | with_reducible refine AllP.cons ?_ ?_)) <;> first | exact rfl | exact trivial | exact Int.natCast_add_one _ | exact ⟨rfl, rfl⟩ | exact ⟨rfl, rfl, rfl⟩ | exact ⟨rfl, rfl, rfl, rfl⟩ | exact ⟨rfl, .inl rfl⟩ | exact ⟨rfl, .inr rfl⟩ | exact pur | (intro _; exact rfl) | (intro _; exact trivial) | (intro _; exact pur))
        · omega
        · omega
    intro h
    have hc : (cd m x).length ≠ 0 := fun e => h (by show ((cd m x).length : Int) = 0; omega)
    clear h
    obtain ⟨p, hp⟩ : ∃ p, p = cd m x := ⟨_, rfl⟩
    rw [← hp] at hc hcl ⊢
    obtain ⟨I, hI⟩ : ∃ I, I = w0'.toNat % p.length := ⟨_, rfl⟩
    have hIl : I < p.length := by rw [hI]; exact Nat.mod_lt _ (by omega)
    have hIi : (w0'.toNat : Int) % ((EV.u8 p).len : Int) = (I : Int) := by
      show (w0'.toNat : Int) % (p.length : Int) = _
      rw [hI, Int.natCast_emod]
    refine Sat.skipC (Sat.nextC (Sat.holdC ?_))
    repeat' (first
        | ((with_reducible apply Sat.run (X := X64)); exact rfl; (first | exact True.intro | (fail) | skip))
        | ((with_reducible apply Sat.drawn); kernel_rfl)
        | ((with_reducible apply DSat.run (X := X64)); exact rfl; (first | exact True.intro | (fail) | skip))
        | ((with_reducible apply DSat.fin); kernel_rfl) | fail)
    · exact .cons ⟨by omega, by show (0 : Int) < (p.length : Int); omega⟩ (.cons ⟨by omega, by omega⟩ .nil)
    rw [hIi]
    refine Sat.goC (Sat.holdC ?_)
    repeat' (first
        | ((with_reducible apply Sat.run (X := X64)); exact rfl; (first | exact True.intro | (fail) | skip))
        | ((with_reducible apply Sat.drawn); kernel_rfl)
        | ((with_reducible apply DSat.run (X := X64)); exact rfl; (first | exact True.intro | (fail) | skip))
        | ((with_reducible apply DSat.fin); kernel_rfl) | fail)
    · exact .cons rfl (.cons (by show (0 + p.length) * (0 + 1) ≤ 140737488355328; omega) .nil)
    refine Sat.goC (Sat.holdC ?_)
    repeat' (first
        | ((with_reducible apply Sat.run (X := X64)); exact rfl; (first | exact True.intro | (fail) | skip))
        | ((with_reducible apply Sat.drawn); kernel_rfl)
        | ((with_reducible apply DSat.run (X := X64)); exact rfl; (first | exact True.intro | (fail) | skip))
        | ((with_reducible apply DSat.fin); kernel_rfl) | fail)
    · exact .cons (by show 0 + (I : Int).toNat < ([] ++ p).length; rw [List.nil_append]; omega) (.cons ⟨by omega, by show (I : Int) < ((0 + p.length : Nat) : Int); omega⟩ (.cons ⟨by omega, by omega⟩ (.cons (by show 0 + (I : Int).toNat < ([] ++ p).length; rw [List.nil_append]; omega) (.cons ⟨by omega, by show (I : Int) < ((0 + p.length : Nat) : Int); omega⟩ .nil))))
    obtain ⟨q, hq⟩ : ∃ q, q = ([] ++ p).set (0 + (I : Int).toNat) (UInt8.ofNat (IntKind.u8.wrap ((BitVec.ofInt IntKind.u8.bits ((([] ++ p).getD (0 + (I : Int).toNat) 0).toNat : Int) ^^^ BitVec.ofInt IntKind.u8.bits (maxV (w1.toNat : Int) 1)).toNat : Int)).toNat) := ⟨_, rfl⟩
    have hqs : q = p.set I (xv ((p.getD I 0).toNat : Int) (w1.toNat : Int)) := by
      rw [hq, List.nil_append, Nat.zero_add, Int.toNat_natCast]
      rfl
    rw [← hq]
    clear hq
    have hql : q.length = p.length := by rw [hqs, List.length_set]
    have hqn : q ≠ p := fun e => by
      have h1 : q.getD I 0 = xv ((p.getD I 0).toNat : Int) (w1.toNat : Int) := by
        rw [hqs, List.getD_eq_getElem?_getD, List.getElem?_set_self hIl]; rfl
      have h2 := xv_ne (p.getD I 0).toNat (p.getD I 0).toNat_lt w1.toNat w1.toNat_lt
      rw [← h1, e, UInt8.ofNat_toNat] at h2
      exact h2 rfl
    clear hqs
    refine Sat.goC ?_
    refine Sat.kill [72, 79, 85, 47, 48, 49, 50, 51, 52, 53, 54, 55, 56, 57, 58, 59, 60, 61, 62] rfl ?_
    refine Sat.freezeC true 2 rfl ?_ ?_
    · ((repeat' (first | exact AllP.nil | with_reducible refine AllP.cons ?_ ?_)) <;> first | exact rfl | exact trivial | exact Int.natCast_add_one _ | exact ⟨rfl, rfl⟩ | exact ⟨rfl, rfl, rfl⟩ | exact ⟨rfl, rfl, rfl, rfl⟩ | exact ⟨rfl, .inl rfl⟩ | exact ⟨rfl, .inr rfl⟩ | exact pur | (intro _; exact rfl) | (intro _; exact trivial) | (intro _; exact pur) | exact .inl ⟨rfl, (by show 0 + p.length = q.length; omega), rfl⟩)
    refine Sat.holdC ?_
    repeat' (first
        | ((with_reducible apply Sat.run (X := X64)); exact rfl; (first | exact True.intro | (fail) | skip))
        | ((with_reducible apply Sat.drawn); kernel_rfl)
        | ((with_reducible apply DSat.run (X := X64)); exact rfl; (first | exact True.intro | (fail) | skip))
        | ((with_reducible apply DSat.fin); kernel_rfl) | fail)
    · exact .cons rfl (.cons (by show (0 + p.length) * (0 + 1) ≤ 140737488355328; omega) .nil)
    refine Sat.goC (Sat.holdC ?_)
    repeat' (first
        | ((with_reducible apply Sat.run (X := X64)); exact rfl; (first | exact True.intro | (fail) | skip))
        | ((with_reducible apply Sat.drawn); kernel_rfl)
        | ((with_reducible apply DSat.run (X := X64)); exact rfl; (first | exact True.intro | (fail) | skip))
        | ((with_reducible apply DSat.fin); kernel_rfl) | fail)
    · exact .cons (Nat.le_refl 1) (.cons (by show 0 + p.length = ([] ++ p).length; rw [List.nil_append]; omega) (.cons (by show (0 + p.length + 1) * (0 + 1) ≤ 140737488355328; omega) (.cons ⟨by omega, by omega⟩ .nil)))
    obtain ⟨r, hr⟩ : ∃ r, r = [] ++ p ++ List.take 1 (List.drop 0 [UInt8.ofNat (maxV (w1.toNat : Int) 1).toNat]) := ⟨_, rfl⟩
    have hrl : r.length = p.length + 1 := by rw [hr, List.nil_append, List.length_append]; rfl
    have hrn : r ≠ p := fun e => by rw [e] at hrl; omega
    rw [← hr]
    clear hr
    refine Sat.goC ?_
    refine Sat.kill [86, 88, 89, 93] rfl ?_
    refine Sat.freezeC true 6 rfl ?_ ?_
    · ((repeat' (first | exact AllP.nil | with_reducible refine AllP.cons ?_ ?_)) <;> first | exact rfl | exact trivial | exact Int.natCast_add_one _ | exact ⟨rfl, rfl⟩ | exact ⟨rfl, rfl, rfl⟩ | exact ⟨rfl, rfl, rfl, rfl⟩ | exact ⟨rfl, .inl rfl⟩ | exact ⟨rfl, .inr rfl⟩ | exact pur | (intro _; exact rfl) | (intro _; exact trivial) | (intro _; exact pur) | exact .inl ⟨rfl, (by show 0 + p.length + 1 = r.length; omega), rfl⟩)
    obtain ⟨u, hu⟩ : ∃ u, u = p.take I := ⟨_, rfl⟩
    have hut : List.take ((some (I : Int).toNat).getD (EV.u8 p).len - (none : Option Nat).getD 0) (List.drop ((none : Option Nat).getD 0) p) = u := by
      rw [hu]
      show List.take (I - 0) (List.drop 0 p) = _
      rfl
    have hun : u ≠ p := fun e => by
      have := congrArg List.length e
      rw [hu, List.length_take] at this
      omega
    refine Sat.holdC ?_
    repeat' (first
        | ((with_reducible apply Sat.run (X := X64)); exact rfl; (first | exact True.intro | (fail) | skip))
        | ((with_reducible apply Sat.drawn); kernel_rfl)
        | ((with_reducible apply DSat.run (X := X64)); exact rfl; (first | exact True.intro | (fail) | skip))
        | ((with_reducible apply DSat.fin); kernel_rfl) | fail)
    · exact .cons (by omega) (.cons ⟨Nat.zero_le _, by show I ≤ p.length; omega⟩ .nil)
    rw [hut]
    clear hut
    have main : ∀ o : List UInt8, o ≠ p → ∃ (o' : List UInt8) (e : Int), Fun Tryd.prog Γ 15 [.int .i64 (m : Int), .ro (.u8 o), .int .i64 (x.length : Int)] (.tup [.ro (.u8 o'), .int .i64 e]) ∧ ¬ (e = 0 ∧ o' = x) := fun o ho =>
      ⟨_, _, (dec_call m hm3 o x.length (by omega)).weak, dec_other (by rw [← hp]; exact ho) x.length⟩
    obtain ⟨q', e1, hd1, hn1⟩ := main q hqn
    obtain ⟨u', e2, hd2, hn2⟩ := main u hun
    obtain ⟨r', e3, hd3, hn3⟩ := main r hrn
    clear main
    refine Sat.goC ?_
    repeat' (first
        | ((with_reducible apply Sat.cond_t); exact rfl)
        | ((with_reducible apply Sat.cond_f); exact rfl)
        | ((with_reducible apply Sat.run (X := X64)); exact rfl; (first | exact True.intro | (fail) | skip))
        | ((with_reducible apply Sat.drawn); kernel_rfl)
        | ((with_reducible apply DSat.run (X := X64)); exact rfl; (first | exact True.intro | (fail) | skip))
        | ((with_reducible apply DSat.fin); kernel_rfl)
        | (with_reducible apply Sat.unroll 40)
        | (with_reducible apply Sat.again)
        | ((with_reducible apply Sat.call (hd1)); exact rfl; exact rfl; kernel_rfl; (exact cnv); exact rfl)
        | ((with_reducible apply DSat.call (hd1)); exact rfl; exact rfl; kernel_rfl; (exact cnv); exact rfl)
        | ((with_reducible apply Sat.call (hd2)); exact rfl; exact rfl; kernel_rfl; (exact cnv); exact rfl)
        | ((with_reducible apply DSat.call (hd2)); exact rfl; exact rfl; kernel_rfl; (exact cnv); exact rfl)
        | ((with_reducible apply Sat.call (hd3)); exact rfl; exact rfl; kernel_rfl; (exact cnv); exact rfl)
        | ((with_reducible apply DSat.call (hd3)); exact rfl; exact rfl; kernel_rfl; (exact cnv); exact rfl) | fail)
    · ((repeat' (first | exact AllP.nil | with_reducible refine AllP.cons ?_ ?_)) <;> first | exact rfl | exact trivial | (show _ < 3; decide) | (apply inR_i64 <;> omega) | (apply inR_u64 <;> omega) | (apply inR_u32 <;> omega) | (apply inR_u8' <;> omega) | omega | (repeat' (with_reducible apply And.intro)) <;> (first | omega | exact rfl | decide))
    · ((repeat' (first | exact AllP.nil | with_reducible refine AllP.cons ?_ ?_)) <;> (first | exact trivial | exact rfl | (intro h; first | exact h | exact fun h2 => ⟨h, h2⟩ | (refine inR_i64 ?_ ?_ <;> first | omega | (simp [EV.len]; omega)) | exact pur | (intro h2; exact pur) | (simp [EV.len] at h ⊢; omega) | (simp [EV.len] at h; constructor <;> first | omega | (simp [EV.len]; omega)) | (intro h2; exact h))))
    with_reducible apply Sat.cond
    · exact rfl
    · intro h
      exact absurd (bif_t h) hn1
    intro h
    clear h
    repeat' (first
        | ((with_reducible apply Sat.cond_t); exact rfl)
        | ((with_reducible apply Sat.cond_f); exact rfl)
        | ((with_reducible apply Sat.run (X := X64)); exact rfl; (first | exact True.intro | (fail) | skip))
        | ((with_reducible apply Sat.drawn); kernel_rfl)
        | ((with_reducible apply DSat.run (X := X64)); exact rfl; (first | exact True.intro | (fail) | skip))
        | ((with_reducible apply DSat.fin); kernel_rfl)
        | (with_reducible apply Sat.unroll 40)
        | (with_reducible apply Sat.again)
        | ((with_reducible apply Sat.call (hd1)); exact rfl; exact rfl; kernel_rfl; (exact cnv); exact rfl)
        | ((with_reducible apply DSat.call (hd1)); exact rfl; exact rfl; kernel_rfl; (exact cnv); exact rfl)
        | ((with_reducible apply Sat.call (hd2)); exact rfl; exact rfl; kernel_rfl; (exact cnv); exact rfl)
        | ((with_reducible apply DSat.call (hd2)); exact rfl; exact rfl; kernel_rfl; (exact cnv); exact rfl)
        | ((with_reducible apply Sat.call (hd3)); exact rfl; exact rfl; kernel_rfl; (exact cnv); exact rfl)
        | ((with_reducible apply DSat.call (hd3)); exact rfl; exact rfl; kernel_rfl; (exact cnv); exact rfl) | fail)
    · ((repeat' (first | exact AllP.nil | with_reducible refine AllP.cons ?_ ?_)) <;> first | exact rfl | exact trivial | (show _ < 3; decide) | (apply inR_i64 <;> omega) | (apply inR_u64 <;> omega) | (apply inR_u32 <;> omega) | (apply inR_u8' <;> omega) | omega | (repeat' (with_reducible apply And.intro)) <;> (first | omega | exact rfl | decide))
    · ((repeat' (first | exact AllP.nil | with_reducible refine AllP.cons ?_ ?_)) <;> first | exact rfl | exact trivial | (show _ < 3; decide) | (apply inR_i64 <;> omega) | (apply inR_u64 <;> omega) | (apply inR_u32 <;> omega) | (apply inR_u8' <;> omega) | omega | (repeat' (with_reducible apply And.intro)) <;> (first | omega | exact rfl | decide))
    · ((repeat' (first | exact AllP.nil | with_reducible refine AllP.cons ?_ ?_)) <;> (first | exact trivial | exact rfl | (intro h; first | exact h | exact fun h2 => ⟨h, h2⟩ | (refine inR_i64 ?_ ?_ <;> first | omega | (simp [EV.len]; omega)) | exact pur | (intro h2; exact pur) | (simp [EV.len] at h ⊢; omega) | (simp [EV.len] at h; constructor <;> first | omega | (simp [EV.len]; omega)) | (intro h2; exact h))))
    with_reducible apply Sat.cond
    · exact rfl
    · intro h
      exact absurd (bif_t h) hn2
    intro h
    clear h
    repeat' (first
        | ((with_reducible apply Sat.cond_t); exact rfl)
        | ((with_reducible apply Sat.cond_f); exact rfl)
        | ((with_reducible apply Sat.run (X := X64)); exact rfl; (first | exact True.intro | (fail) | skip))
        | ((with_reducible apply Sat.drawn); kernel_rfl)
        | ((with_reducible apply DSat.run (X := X64)); exact rfl; (first | exact True.intro | (fail) | skip))
        | ((with_reducible apply DSat.fin); kernel_rfl)
        | (with_reducible apply Sat.unroll 40)
        | (with_reducible apply Sat.again)
        | ((with_reducible apply Sat.call (hd1)); exact rfl; exact rfl; kernel_rfl; (exact cnv); exact rfl)
        | ((with_reducible apply DSat.call (hd1)); exact rfl; exact rfl; kernel_rfl; (exact cnv); exact rfl)
        | ((with_reducible apply Sat.call (hd2)); exact rfl; exact rfl; kernel_rfl; (exact cnv); exact rfl)
        | ((with_reducible apply DSat.call (hd2)); exact rfl; exact rfl; kernel_rfl; (exact cnv); exact rfl)
        | ((with_reducible apply Sat.call (hd3)); exact rfl; exact rfl; kernel_rfl; (exact cnv); exact rfl)
        | ((with_reducible apply DSat.call (hd3)); exact rfl; exact rfl; kernel_rfl; (exact cnv); exact rfl) | fail)
    · ((repeat' (first | exact AllP.nil | with_reducible refine AllP.cons ?_ ?_)) <;> first | exact rfl | exact trivial | (show _ < 3; decide) | (apply inR_i64 <;> omega) | (apply inR_u64 <;> omega) | (apply inR_u32 <;> omega) | (apply inR_u8' <;> omega) | omega | (repeat' (with_reducible apply And.intro)) <;> (first | omega | exact rfl | decide))
    · ((repeat' (first | exact AllP.nil | with_reducible refine AllP.cons ?_ ?_)) <;> first | exact rfl | exact trivial | (show _ < 3; decide) | (apply inR_i64 <;> omega) | (apply inR_u64 <;> omega) | (apply inR_u32 <;> omega) | (apply inR_u8' <;> omega) | omega | (repeat' (with_reducible apply And.intro)) <;> (first | omega | exact rfl | decide))
    · ((repeat' (first | exact AllP.nil | with_reducible refine AllP.cons ?_ ?_)) <;> (first | exact trivial | exact rfl | (intro h; first | exact h | exact fun h2 => ⟨h, h2⟩ | (refine inR_i64 ?_ ?_ <;> first | omega | (simp [EV.len]; omega)) | exact pur | (intro h2; exact pur) | (simp [EV.len] at h ⊢; omega) | (simp [EV.len] at h; constructor <;> first | omega | (simp [EV.len]; omega)) | (intro h2; exact h))))
    with_reducible apply Sat.cond
    · exact rfl
    · intro h
      exact absurd (bif_t h) hn3
    intro h
    clear h
    repeat' (first
        | ((with_reducible apply Sat.cond_t); exact rfl)
        | ((with_reducible apply Sat.cond_f); exact rfl)
        | ((with_reducible apply Sat.run (X := X64)); exact rfl; (first | exact True.intro | (fail) | skip))
        | ((with_reducible apply Sat.drawn); kernel_rfl)
        | ((with_reducible apply DSat.run (X := X64)); exact rfl; (first | exact True.intro | (fail) | skip))
        | ((with_reducible apply DSat.fin); kernel_rfl)
        | (with_reducible apply Sat.unroll 40)
        | (with_reducible apply Sat.again)
        | ((with_reducible apply Sat.call (hd1)); exact rfl; exact rfl; kernel_rfl; (exact cnv); exact rfl)
        | ((with_reducible apply DSat.call (hd1)); exact rfl; exact rfl; kernel_rfl; (exact cnv); exact rfl)
        | ((with_reducible apply Sat.call (hd2)); exact rfl; exact rfl; kernel_rfl; (exact cnv); exact rfl)
        | ((with_reducible apply DSat.call (hd2)); exact rfl; exact rfl; kernel_rfl; (exact cnv); exact rfl)
        | ((with_reducible apply Sat.call (hd3)); exact rfl; exact rfl; kernel_rfl; (exact cnv); exact rfl)
        | ((with_reducible apply DSat.call (hd3)); exact rfl; exact rfl; kernel_rfl; (exact cnv); exact rfl) | fail)
    · exact .cons (inR_i64 (by decide) (by decide)) .nil
    · exact .cons (inR_i64 (by omega) (by omega)) .nil
    · refine Sat.back (m + 1) [] rfl ?_ ?_ ?_
      · ((repeat' (first | exact AllP.nil | with_reducible refine AllP.cons ?_ ?_)) <;> first | exact rfl | exact trivial | exact Int.natCast_add_one _ | exact ⟨rfl, rfl⟩ | exact ⟨rfl, rfl, rfl⟩ | exact ⟨rfl, rfl, rfl, rfl⟩ | exact ⟨rfl, .inl rfl⟩ | exact ⟨rfl, .inr rfl⟩ | exact pur | (intro _; exact rfl) | (intro _; exact trivial) | (intro _; exact pur))
      · omega
      · omega
  · obtain rfl : m = 3 := by omega
    repeat' (first
        | ((with_reducible apply Sat.run (X := X64)); exact rfl; (first | exact True.intro | (exact phi) | skip))
        | ((with_reducible apply Sat.drawn); kernel_rfl)
        | ((with_reducible apply DSat.run (X := X64)); exact rfl; (first | exact True.intro | (exact phi) | skip))
        | ((with_reducible apply DSat.fin); kernel_rfl)
        | ((with_reducible apply Sat.cond_t); exact rfl)
        | ((with_reducible apply Sat.cond_f); exact rfl)
        | ((with_reducible apply Sat.cond_pt); exact rfl; (try dsimp only [V.EV.sub, V.EV.len]); first | assumption | omega)
        | ((with_reducible apply Sat.cond_pf); exact rfl; (try dsimp only [V.EV.sub, V.EV.len]); first | assumption | omega)
        | ((with_reducible apply Sat.cond_p); exact rfl; all_goals intro h)
        | ((with_reducible apply Sat.cond); exact rfl; all_goals intro h) | fail)
    (refine Sat.fin (Sat.end1 rfl rfl rfl True.intro (.refl _ pur) (by first | exact .inl rfl | exact .inr rfl) (fun _ h => h)) ?_; (rfl))
end Go.Proofs.YtcnpgmohnclojaaDoor
end
section
namespace Go.Proofs.YtcnpgmohnclojaaDoor
open Go.RowKit Go.ChangeShapes Go.WideShapes V
set_option maxRecDepth 100000
set_option maxHeartbeats 8000000
theorem coderInverts_step (os : Os) (started : os.Started) (H : Type) (enc : TypeId × Value → H) (F : Stop.Interp) :
    ReturnsInHanded {} Tryd.checked os 4 .any ((OpenSpec.ofChange Rows.coderInvertsSpec).preRow enc Tryd.prog Tryd.f4 Rows.coderInvertsRow.domain false Rows.coderInvertsRow.laid) (((OpenSpec.ofChange Rows.coderInvertsSpec).at F).post enc Tryd.prog Tryd.f4 false true false false) := by
  refine law_step (C := Tryd.checked) (fn := Tryd.f4) (s := OpenSpec.ofChange Rows.coderInvertsSpec) (F := F) (tb := 4) [] own started (by kernel_rfl) Tryd.func4 laidOut (by kernel_rfl) (by kernel_rfl) (by kernel_rfl) Tryd.underlying4 rfl ?_
    (row_witness (World.laidAll Tryd.prog os tabs_laid) #[.slice none 0 0, .int .u8 0] (World.laidAll_os _ _ _) (by kernel_rfl) (by kernel_rfl) (by kernel_rfl) (by kernel_rfl) (by kernel_rfl) (door_met os _)) tabs_glob ?_
  · intro ds hl
    obtain ⟨d1, d2, rfl⟩ := list_len2 hl
    rfl
  · intro W vs ds hl ht hk
    obtain ⟨d1, d2, rfl⟩ := list_len2 hl
    refine Fun.facts fun hf => ?_
    show Fun _ _ _ [.ro (.u8 ((eOf d1).map u8Of)), .int .u8 (iOf d2)] _
    obtain ⟨_, h2, _⟩ := hf
    rw [u8Of_i d2 h2]
    exact inverts_law sanity_law _ _
theorem coderInverts_said : Rows.CoderInvertsSaid :=
  OpenClaim.holds_of_cond 4 Tryd.f4 rfl rfl rfl rfl rfl rfl rfl ⟨rfl, rfl, rfl, rfl, rfl⟩ rfl rfl rfl rfl rfl (by kernel_rfl) Tryd.func4 (by kernel_rfl)
    (of_decide_eq_true (by kernel_rfl)) (by unfold Func.isWrapper; first | (rw [if_pos (by decide +kernel)]; kernel_rfl) | (rw [if_neg (by decide +kernel)]; exact ⟨rfl, rfl⟩))
    (fun os started H enc _ F => by rw [OpenClaim.pre_eq_preRow]; exact coderInverts_step os started H enc F)
theorem coderInverts_plain (f : FuncId) (fn : Func) (hf : Tryd.pinned.checked.prog.funcNamed "inlay/inlaylaw13.CoderInverts" = some f) (hfn : Tryd.pinned.checked.prog.funcs[f]? = some fn) :
    false = Tryd.pinned.checked.prog.looks [] ∧ ∀ (j : Nat) t, fn.params[j]? = some t → Tryd.pinned.checked.prog.wantsStandIn t = false := by
  obtain rfl : f = 4 := Option.some.inj ((show Tryd.prog.funcNamed "inlay/inlaylaw13.CoderInverts" = some 4 by kernel_rfl).symm.trans hf) |>.symm
  obtain rfl : fn = Tryd.f4 := (Option.some.inj (Tryd.func4.symm.trans hfn)).symm
  refine ⟨by kernel_rfl, fun j t ht => ?_⟩
  have hall : Tryd.f4.params.all (fun t => !(Tryd.prog.wantsStandIn t)) = true := by kernel_rfl
  have := (Array.all_eq_true_iff_forall_mem.1 hall) t (Array.mem_of_getElem? ht)
  have h2 : Tryd.prog.wantsStandIn t = false := by simpa using this
  exact h2
/-- The card. -/
theorem coderInverts_card : Rows.CoderInvertsCardSaid :=
  Claim7.holds_tied_plain_at .later [] _ _ _ _ coderInverts_said (fun _ h => by cases h) (by kernel_rfl) (fun _ h => by cases h) coderInverts_row_tie rfl ⟨rfl, rfl⟩ (by kernel_rfl) rfl coderInverts_plain (by kernel_rfl)
end Go.Proofs.YtcnpgmohnclojaaDoor
end
