/-
  Joined texts: SZe: Settings: the law Valid.
  Z3: The law inlaylaw23.SettingsValid returns true for every input, and each argument reads behind the call as it read before: Valid and Print agree with the reference implementation for arbitrary settings, and for those in which one part was changed.
  Conditions: the package variables that the row lists hold, when the call begins, what the program's text lays there (the card ties them); no other narrowing.
-/
import Derived.Test.YtpbgihhfcdggkaaGreatDoorQE
import Derived.Test.YtpbgihhfcdggkaaGreatDoorQC
import Derived.SevenTiedAt
section
namespace Go.Proofs.YtpbgihhfcdggkaaGreatDoor
open Go.RowKit V
set_option maxRecDepth 100000
set_option maxHeartbeats 4000000
set_option linter.unusedSimpArgs false
set_option linter.unusedVariables false
attribute [local irreducible] V.Sat V.DSat V.SatP V.ASat V.AOp
def badT : List Nm := [[], [97, 45], [97, 98, 99, 100, 101, 102, 103, 104, 105, 106, 107, 108, 109], [97], [122]]
def badU : List Nm := [[], [10], [97, 97, 97, 97, 97, 97, 97, 97, 97, 97, 97, 97, 97, 97, 97, 97, 97, 97, 97, 97, 97], [49]]
def badV (w : Int × Int) : ValL := ⟨badT.getD (0 + (w.1.tmod 5).toNat) [], badU.getD (0 + (w.2.tmod 4).toNat) []⟩
theorem valE_snoc (l : List ValL) (v : ValL) : valE (l ++ [v]) = .g (0 + l.length + 1) 2 fun i => valP ((l ++ [v]).getD i v00) := by
  unfold valE
  rw [List.length_append, Nat.zero_add]
  rfl
theorem snoc_val (l : List ValL) (v : ValL) : ∀ i, i < 0 + l.length + 1 → valP ((l ++ [v]).getD i v00) = if i < 0 + l.length then (fun i => if i < 0 then nthL [] i else (fun i => valP (l.getD i v00)) (i - 0)) i else (fun i => nthL [valP v] (0 + i)) (i - (0 + l.length)) := by
  intro i hi
  rw [Nat.zero_add] at *
  have h := app_row l v i hi
  rw [h]
  split
  · show valP (l.getD i v00) = if i < 0 then nthL [] i else valP (l.getD (i - 0) v00)
    rw [if_neg (Nat.not_lt_zero _)]; rfl
  · rfl
section
variable {a b : TypeId} {p q : Value}
theorem vlaw_spec (S : SetL) (x : Raw) (hx : RawOk x) (w : Int × Int) (hw : PairOk w) : Fun Tryz.prog (Γs a b p q) 5 [S.v, x.v, .agg [.int .u8 w.1, .int .u8 w.2]] (.bool true) := by
  have hup := sanity_spec (a := a) (b := b) (p := p) (q := q)
  have hM := Fun.weak (Γ := Γs a b p q) (made_spec x hx)
  have hs := made_ok' x hx
  have hp1 := pur_pair x.vals
  have hp2 := pur_pair x.kept
  generalize madeS x = s at hM hs
  have hnv := hs.nv
  have hnk := hs.nk
  have v1 := Fun.weak (Γ := Γs a b p q) (Valid_spec S)
  have v2 := Fun.weak (Γ := Γs a b p q) (ValidR_spec S)
  have v5 := Fun.weak (Γ := Γs a b p q) (Valid_spec s)
  rw [(validS_iff s).2 hs.valid] at v5
  have q1 := pur_val S.vals
  have q2 := pur_val S.kept
  have q3 := pur_val s.vals
  have q4 := pur_val s.kept
  obtain ⟨⟨w0, w1⟩, ⟨w2, w3⟩⟩ := hw
  obtain ⟨t1, t2⟩ := tm w.1 w0 5 (by decide)
  obtain ⟨t3, t4⟩ := tm w.2 w2 4 (by decide)
  obtain ⟨t5, t6⟩ := tm w.1 w0 3 (by decide)
  refine Fun.mk 7 Tryz.func5 rfl Tryz.ntmps5 rfl rfl fun T w0 => ?_
  by_cases k0 : w.1.tmod 3 = 0
  · repeat' (first
        | ((with_reducible apply Sat.run (X := X64)); exact rfl; (first | exact True.intro | (exact phi) | skip))
        | ((with_reducible apply Sat.drawn (id := 4)); kernel_rfl)
        | ((with_reducible apply Sat.drawn (id := 8)); kernel_rfl)
        | ((with_reducible apply Sat.drawn (id := 10)); kernel_rfl)
        | ((with_reducible apply DSat.run (X := X64)); exact rfl; (first | exact True.intro | (exact phi) | skip))
        | ((with_reducible apply DSat.fin); kernel_rfl)
        | ((with_reducible apply Sat.cond_t); exact rfl)
        | ((with_reducible apply Sat.cond_f); exact rfl)
        | ((with_reducible apply Sat.cond_pt); exact rfl; (try dsimp only [V.EV.sub, V.EV.len]); first | assumption | omega)
        | ((with_reducible apply Sat.cond_pf); exact rfl; (try dsimp only [V.EV.sub, V.EV.len]); first | assumption | omega)
        | ((with_reducible apply Sat.cond_p); exact rfl; all_goals intro h)
        | ((with_reducible apply Sat.cond); exact rfl; all_goals intro h)
        | ((with_reducible refine (?_ : AllP _)); ((repeat' (first | exact AllP.nil | with_reducible refine AllP.cons ?_ ?_)) <;> (first | (intro hq; exact hq) | (dsimp only [V.EV.len]; omega) | (intro hq; dsimp only [V.EV.len]; omega) | (intro hq; exact absurd hq (by decide)))))
        | ((with_reducible apply Sat.call0 (hup)); exact rfl; exact rfl; kernel_rfl; exact rfl)
        | ((with_reducible apply DSat.call0 (hup)); exact rfl; exact rfl; kernel_rfl; exact rfl)
        | ((with_reducible apply DSat.callM0 (hup)); exact rfl; exact rfl; (first | exact rfl | assumption | (decide +kernel)); exact rfl; kernel_rfl; exact rfl)
        | ((with_reducible apply Sat.call (hM)); exact rfl; exact rfl; kernel_rfl; (exact cnvX); exact rfl)
        | ((with_reducible apply DSat.call (hM)); exact rfl; exact rfl; kernel_rfl; (exact cnvX); exact rfl) | fail)
    · (refine Sat.fin (Sat.end1 rfl rfl rfl True.intro (.refl _ purX) (by first | exact .inl rfl | exact .inr rfl) (fun _ h => h)) ?_; rfl)
    refine Sat.reC (i := 10) (.g (0 + s.vals.length + 1) 2 fun i => valP ((s.vals ++ [badV w]).getD i v00)) rfl rfl (Nat.le_refl _) rfl (fun i hi => snoc_val s.vals (badV w) i hi) ?_
    have u1 := Fun.weak (Γ := Γs a b p q) (Valid_spec (⟨s.version, s.vals ++ [badV w], s.kept⟩ : SetL))
    have u2 := Fun.weak (Γ := Γs a b p q) (ValidR_spec (⟨s.version, s.vals ++ [badV w], s.kept⟩ : SetL))
    have u3 := print_spec (a := a) (b := b) (p := p) (q := q) (⟨s.version, s.vals ++ [badV w], s.kept⟩ : SetL)
    have u4 := Fun.weak (Γ := Γs a b p q) (printR_spec (⟨s.version, s.vals ++ [badV w], s.kept⟩ : SetL))
    have e : valE (s.vals ++ [badV w]) = .g (0 + s.vals.length + 1) 2 fun i => valP ((s.vals ++ [badV w]).getD i v00) := valE_snoc _ _
    have q5 : pureE (.g (0 + s.vals.length + 1) 2 fun i => valP ((s.vals ++ [badV w]).getD i v00)) := by rw [← e]; exact pur_val _
    dsimp only [SetL.v] at u1 u2 u3 u4
    rw [e] at u1 u2 u3 u4
    have hg : (bif bif decide (validS S = validS S) then decide (validS (⟨s.version, s.vals ++ [badV w], s.kept⟩ : SetL) = validS (⟨s.version, s.vals ++ [badV w], s.kept⟩ : SetL)) else false then decide (printS Lib.itoa (⟨s.version, s.vals ++ [badV w], s.kept⟩ : SetL) = printS Lib.itoa (⟨s.version, s.vals ++ [badV w], s.kept⟩ : SetL)) else false) = true := by simp
    repeat' (first
      | ((with_reducible apply Sat.run (X := X64)); exact rfl; (first | exact True.intro | (exact phi) | skip))
      | ((with_reducible apply Sat.drawn); kernel_rfl)
      | ((with_reducible apply DSat.run (X := X64)); exact rfl; (first | exact True.intro | (exact phi) | skip))
      | ((with_reducible apply DSat.fin); kernel_rfl)
      | ((with_reducible apply DSat.callR (v1)); exact rfl; exact rfl; exact rfl; kernel_rfl; (exact cnvX); exact rfl)
      | ((with_reducible apply DSat.callR (v2)); exact rfl; exact rfl; exact rfl; kernel_rfl; (exact cnvX); exact rfl)
      | ((with_reducible apply DSat.callG1 (u1)); exact rfl; exact rfl; exact rfl; exact rfl; kernel_rfl; (intro hG; (exact cnvX)); exact rfl)
      | ((with_reducible apply DSat.callG1 (u2)); exact rfl; exact rfl; exact rfl; exact rfl; kernel_rfl; (intro hG; (exact cnvX)); exact rfl)
      | ((with_reducible apply DSat.callG1 (u3)); exact rfl; exact rfl; exact rfl; exact rfl; kernel_rfl; (intro hG; (exact cnvX)); exact rfl)
      | ((with_reducible apply DSat.callG1 (u4)); exact rfl; exact rfl; exact rfl; exact rfl; kernel_rfl; (intro hG; (exact cnvX)); exact rfl)
      | ((with_reducible apply DSat.callM (hM)); exact rfl; exact rfl; (first | exact rfl | assumption | (decide +kernel)); exact rfl; kernel_rfl; (exact cnvX); exact rfl)
      | ((with_reducible apply DSat.callG1 (v5)); exact rfl; exact rfl; exact rfl; exact rfl; kernel_rfl; (intro hG; (exact cnvX)); exact rfl) | fail)
    (refine Sat.fin (Sat.end1 rfl rfl rfl True.intro (.refl _ purX) (by first | exact .inl rfl | exact .inr rfl) (fun _ h => h)) ?_; (simp))
  · by_cases k1 : w.1.tmod 3 = 1
    · repeat' (first
          | ((with_reducible apply Sat.run (X := X64)); exact rfl; (first | exact True.intro | (exact phi) | skip))
          | ((with_reducible apply Sat.drawn (id := 4)); kernel_rfl)
          | ((with_reducible apply Sat.drawn (id := 8)); kernel_rfl)
          | ((with_reducible apply Sat.drawn (id := 10)); kernel_rfl)
          | ((with_reducible apply DSat.run (X := X64)); exact rfl; (first | exact True.intro | (exact phi) | skip))
          | ((with_reducible apply DSat.fin); kernel_rfl)
          | ((with_reducible apply Sat.cond_t); exact rfl)
          | ((with_reducible apply Sat.cond_f); exact rfl)
          | ((with_reducible apply Sat.cond_pt); exact rfl; (try dsimp only [V.EV.sub, V.EV.len]); first | assumption | omega)
          | ((with_reducible apply Sat.cond_pf); exact rfl; (try dsimp only [V.EV.sub, V.EV.len]); first | assumption | omega)
          | ((with_reducible apply Sat.cond_p); exact rfl; all_goals intro h)
          | ((with_reducible apply Sat.cond); exact rfl; all_goals intro h)
          | ((with_reducible refine (?_ : AllP _)); ((repeat' (first | exact AllP.nil | with_reducible refine AllP.cons ?_ ?_)) <;> (first | (intro hq; exact hq) | (dsimp only [V.EV.len]; omega) | (intro hq; dsimp only [V.EV.len]; omega) | (intro hq; exact absurd hq (by decide)))))
          | ((with_reducible apply Sat.call0 (hup)); exact rfl; exact rfl; kernel_rfl; exact rfl)
          | ((with_reducible apply DSat.call0 (hup)); exact rfl; exact rfl; kernel_rfl; exact rfl)
          | ((with_reducible apply DSat.callM0 (hup)); exact rfl; exact rfl; (first | exact rfl | assumption | (decide +kernel)); exact rfl; kernel_rfl; exact rfl)
          | ((with_reducible apply Sat.call (hM)); exact rfl; exact rfl; kernel_rfl; (exact cnvX); exact rfl)
          | ((with_reducible apply DSat.call (hM)); exact rfl; exact rfl; kernel_rfl; (exact cnvX); exact rfl) | fail)
      · (refine Sat.fin (Sat.end1 rfl rfl rfl True.intro (.refl _ purX) (by first | exact .inl rfl | exact .inr rfl) (fun _ h => h)) ?_; rfl)
      refine Sat.reC (i := 10) (.g (0 + s.kept.length + 1) 2 fun i => valP ((s.kept ++ [badV w]).getD i v00)) rfl rfl (Nat.le_refl _) rfl (fun i hi => snoc_val s.kept (badV w) i hi) ?_
      have u1 := Fun.weak (Γ := Γs a b p q) (Valid_spec (⟨s.version, s.vals, s.kept ++ [badV w]⟩ : SetL))
      have u2 := Fun.weak (Γ := Γs a b p q) (ValidR_spec (⟨s.version, s.vals, s.kept ++ [badV w]⟩ : SetL))
      have u3 := print_spec (a := a) (b := b) (p := p) (q := q) (⟨s.version, s.vals, s.kept ++ [badV w]⟩ : SetL)
      have u4 := Fun.weak (Γ := Γs a b p q) (printR_spec (⟨s.version, s.vals, s.kept ++ [badV w]⟩ : SetL))
      have e : valE (s.kept ++ [badV w]) = .g (0 + s.kept.length + 1) 2 fun i => valP ((s.kept ++ [badV w]).getD i v00) := valE_snoc _ _
      have q5 : pureE (.g (0 + s.kept.length + 1) 2 fun i => valP ((s.kept ++ [badV w]).getD i v00)) := by rw [← e]; exact pur_val _
      dsimp only [SetL.v] at u1 u2 u3 u4
      rw [e] at u1 u2 u3 u4
      have hg : (bif bif decide (validS S = validS S) then decide (validS (⟨s.version, s.vals, s.kept ++ [badV w]⟩ : SetL) = validS (⟨s.version, s.vals, s.kept ++ [badV w]⟩ : SetL)) else false then decide (printS Lib.itoa (⟨s.version, s.vals, s.kept ++ [badV w]⟩ : SetL) = printS Lib.itoa (⟨s.version, s.vals, s.kept ++ [badV w]⟩ : SetL)) else false) = true := by simp
      repeat' (first
        | ((with_reducible apply Sat.run (X := X64)); exact rfl; (first | exact True.intro | (exact phi) | skip))
        | ((with_reducible apply Sat.drawn); kernel_rfl)
        | ((with_reducible apply DSat.run (X := X64)); exact rfl; (first | exact True.intro | (exact phi) | skip))
        | ((with_reducible apply DSat.fin); kernel_rfl)
        | ((with_reducible apply DSat.callR (v1)); exact rfl; exact rfl; exact rfl; kernel_rfl; (exact cnvX); exact rfl)
        | ((with_reducible apply DSat.callR (v2)); exact rfl; exact rfl; exact rfl; kernel_rfl; (exact cnvX); exact rfl)
        | ((with_reducible apply DSat.callG1 (u1)); exact rfl; exact rfl; exact rfl; exact rfl; kernel_rfl; (intro hG; (exact cnvX)); exact rfl)
        | ((with_reducible apply DSat.callG1 (u2)); exact rfl; exact rfl; exact rfl; exact rfl; kernel_rfl; (intro hG; (exact cnvX)); exact rfl)
        | ((with_reducible apply DSat.callG1 (u3)); exact rfl; exact rfl; exact rfl; exact rfl; kernel_rfl; (intro hG; (exact cnvX)); exact rfl)
        | ((with_reducible apply DSat.callG1 (u4)); exact rfl; exact rfl; exact rfl; exact rfl; kernel_rfl; (intro hG; (exact cnvX)); exact rfl)
        | ((with_reducible apply DSat.callM (hM)); exact rfl; exact rfl; (first | exact rfl | assumption | (decide +kernel)); exact rfl; kernel_rfl; (exact cnvX); exact rfl)
        | ((with_reducible apply DSat.callG1 (v5)); exact rfl; exact rfl; exact rfl; exact rfl; kernel_rfl; (intro hG; (exact cnvX)); exact rfl) | fail)
      (refine Sat.fin (Sat.end1 rfl rfl rfl True.intro (.refl _ purX) (by first | exact .inl rfl | exact .inr rfl) (fun _ h => h)) ?_; (simp))
    · repeat' (first
          | ((with_reducible apply Sat.run (X := X64)); exact rfl; (first | exact True.intro | (exact phi) | skip))
          | ((with_reducible apply Sat.drawn (id := 4)); kernel_rfl)
          | ((with_reducible apply Sat.drawn (id := 8)); kernel_rfl)
          | ((with_reducible apply Sat.drawn (id := 10)); kernel_rfl)
          | ((with_reducible apply DSat.run (X := X64)); exact rfl; (first | exact True.intro | (exact phi) | skip))
          | ((with_reducible apply DSat.fin); kernel_rfl)
          | ((with_reducible apply Sat.cond_t); exact rfl)
          | ((with_reducible apply Sat.cond_f); exact rfl)
          | ((with_reducible apply Sat.cond_pt); exact rfl; (try dsimp only [V.EV.sub, V.EV.len]); first | assumption | omega)
          | ((with_reducible apply Sat.cond_pf); exact rfl; (try dsimp only [V.EV.sub, V.EV.len]); first | assumption | omega)
          | ((with_reducible apply Sat.cond_p); exact rfl; all_goals intro h)
          | ((with_reducible apply Sat.cond); exact rfl; all_goals intro h)
          | ((with_reducible refine (?_ : AllP _)); ((repeat' (first | exact AllP.nil | with_reducible refine AllP.cons ?_ ?_)) <;> (first | (intro hq; exact hq) | (dsimp only [V.EV.len]; omega) | (intro hq; dsimp only [V.EV.len]; omega) | (intro hq; exact absurd hq (by decide)))))
          | ((with_reducible apply Sat.call0 (hup)); exact rfl; exact rfl; kernel_rfl; exact rfl)
          | ((with_reducible apply DSat.call0 (hup)); exact rfl; exact rfl; kernel_rfl; exact rfl)
          | ((with_reducible apply DSat.callM0 (hup)); exact rfl; exact rfl; (first | exact rfl | assumption | (decide +kernel)); exact rfl; kernel_rfl; exact rfl)
          | ((with_reducible apply Sat.call (hM)); exact rfl; exact rfl; kernel_rfl; (exact cnvX); exact rfl)
          | ((with_reducible apply DSat.call (hM)); exact rfl; exact rfl; kernel_rfl; (exact cnvX); exact rfl) | fail)
      · (refine Sat.fin (Sat.end1 rfl rfl rfl True.intro (.refl _ purX) (by first | exact .inl rfl | exact .inr rfl) (fun _ h => h)) ?_; rfl)
      have u1 := Fun.weak (Γ := Γs a b p q) (Valid_spec (⟨59999 + w.2.tmod 4, s.vals, s.kept⟩ : SetL))
      have u2 := Fun.weak (Γ := Γs a b p q) (ValidR_spec (⟨59999 + w.2.tmod 4, s.vals, s.kept⟩ : SetL))
      have u3 := print_spec (a := a) (b := b) (p := p) (q := q) (⟨59999 + w.2.tmod 4, s.vals, s.kept⟩ : SetL)
      have u4 := Fun.weak (Γ := Γs a b p q) (printR_spec (⟨59999 + w.2.tmod 4, s.vals, s.kept⟩ : SetL))
      have hg : (bif bif decide (validS S = validS S) then decide (validS (⟨59999 + w.2.tmod 4, s.vals, s.kept⟩ : SetL) = validS (⟨59999 + w.2.tmod 4, s.vals, s.kept⟩ : SetL)) else false then decide (printS Lib.itoa (⟨59999 + w.2.tmod 4, s.vals, s.kept⟩ : SetL) = printS Lib.itoa (⟨59999 + w.2.tmod 4, s.vals, s.kept⟩ : SetL)) else false) = true := by simp
      repeat' (first
        | ((with_reducible apply Sat.run (X := X64)); exact rfl; (first | exact True.intro | (exact phi) | skip))
        | ((with_reducible apply Sat.drawn); kernel_rfl)
        | ((with_reducible apply DSat.run (X := X64)); exact rfl; (first | exact True.intro | (exact phi) | skip))
        | ((with_reducible apply DSat.fin); kernel_rfl)
        | ((with_reducible apply DSat.callR (v1)); exact rfl; exact rfl; exact rfl; kernel_rfl; (exact cnvX); exact rfl)
        | ((with_reducible apply DSat.callR (v2)); exact rfl; exact rfl; exact rfl; kernel_rfl; (exact cnvX); exact rfl)
        | ((with_reducible apply DSat.callG1 (u1)); exact rfl; exact rfl; exact rfl; exact rfl; kernel_rfl; (intro hG; (exact cnvX)); exact rfl)
        | ((with_reducible apply DSat.callG1 (u2)); exact rfl; exact rfl; exact rfl; exact rfl; kernel_rfl; (intro hG; (exact cnvX)); exact rfl)
        | ((with_reducible apply DSat.callG1 (u3)); exact rfl; exact rfl; exact rfl; exact rfl; kernel_rfl; (intro hG; (exact cnvX)); exact rfl)
        | ((with_reducible apply DSat.callG1 (u4)); exact rfl; exact rfl; exact rfl; exact rfl; kernel_rfl; (intro hG; (exact cnvX)); exact rfl)
        | ((with_reducible apply DSat.callM (hM)); exact rfl; exact rfl; (first | exact rfl | assumption | (decide +kernel)); exact rfl; kernel_rfl; (exact cnvX); exact rfl)
        | ((with_reducible apply DSat.callG1 (v5)); exact rfl; exact rfl; exact rfl; exact rfl; kernel_rfl; (intro hG; (exact cnvX)); exact rfl) | fail)
      (refine Sat.fin (Sat.end1 rfl rfl rfl True.intro (.refl _ purX) (by first | exact .inl rfl | exact .inr rfl) (fun _ h => h)) ?_; (simp))
end
end Go.Proofs.YtpbgihhfcdggkaaGreatDoor
end
section
namespace Go.Proofs.YtpbgihhfcdggkaaGreatDoor
open Go.RowKit Go.ChangeShapes Go.WideShapes V
set_option maxRecDepth 100000
set_option maxHeartbeats 8000000
theorem settingsValid_step (os : Os) (started : os.Started) (H : Type) (enc : TypeId × Value → H) (F : Stop.Interp) :
    ReturnsInHanded {} Tryz.checked os 5 .any ((OpenSpec.ofChange Rows.settingsValidSpec).preRow enc Tryz.prog Tryz.f5 Rows.settingsValidRow.domain false Rows.settingsValidRow.laid) (((OpenSpec.ofChange Rows.settingsValidSpec).at F).post enc Tryz.prog Tryz.f5 false true false false) := by
  refine law_step2 (C := Tryz.checked) (fn := Tryz.f5) (s := OpenSpec.ofChange Rows.settingsValidSpec) (F := F) (tb := 4) Γw own started (by kernel_rfl) Tryz.func5 laidOut (by kernel_rfl) (by kernel_rfl) (by kernel_rfl) Tryz.underlying4 rfl ?_
    (row_witness (World.laidAll Tryz.prog os tabs_laid) #[.agg #[.int .i64 0, .slice none 0 0, .slice none 0 0], .agg #[.int .u16 0, .slice none 0 0, .slice none 0 0], .agg #[.int .u8 0, .int .u8 0]] (World.laidAll_os _ _ _) (by kernel_rfl) (by kernel_rfl) (by kernel_rfl) (by kernel_rfl) (by kernel_rfl) (door_met os _)) tabs_glob ?_
  · intro ds hl
    obtain ⟨d1, d2, d3, rfl⟩ := list_len3 hl
    rfl
  · intro W vs ds hl ht hk
    obtain ⟨d1, d2, d3, rfl⟩ := list_len3 hl
    refine Fun.facts fun hf => ?_
    show Fun _ _ _ [setSV d1, rawSV d2, .agg [.int .u8 (iOf (nthD (ptsD d3) 0)), .int .u8 (iOf (nthD (ptsD d3) 1))]] _
    obtain ⟨_, ⟨h1, ⟨_, h2⟩, ⟨_, h3⟩, _⟩, ⟨k1, k2, _⟩, _⟩ := hf
    rw [setSV_eq, rawSV_eq]
    exact vlaw_spec _ _ (raw_ok _ h1 h2 h3) (pairD d3) ⟨u8_lt k1, u8_lt k2⟩
theorem settingsValid_said : Rows.SettingsValidSaid :=
  OpenClaim.holds_of_cond 5 Tryz.f5 rfl rfl rfl rfl rfl rfl rfl ⟨rfl, rfl, rfl, rfl, rfl⟩ rfl rfl rfl rfl rfl (by kernel_rfl) Tryz.func5 (by kernel_rfl)
    (of_decide_eq_true (by kernel_rfl)) (by unfold Func.isWrapper; first | (rw [if_pos (by decide +kernel)]; kernel_rfl) | (rw [if_neg (by decide +kernel)]; exact ⟨rfl, rfl⟩))
    (fun os started H enc _ F => by rw [OpenClaim.pre_eq_preRow]; exact settingsValid_step os started H enc F)
theorem settingsValid_plain (f : FuncId) (fn : Func) (hf : Tryz.pinned.checked.prog.funcNamed "inlay/inlaylaw23.SettingsValid" = some f) (hfn : Tryz.pinned.checked.prog.funcs[f]? = some fn) :
    true = Tryz.pinned.checked.prog.looks [] ∧ ∀ (j : Nat) t, fn.params[j]? = some t → Tryz.pinned.checked.prog.wantsStandIn t = false := by
  obtain rfl : f = 5 := Option.some.inj ((show Tryz.prog.funcNamed "inlay/inlaylaw23.SettingsValid" = some 5 by kernel_rfl).symm.trans hf) |>.symm
  obtain rfl : fn = Tryz.f5 := (Option.some.inj (Tryz.func5.symm.trans hfn)).symm
  refine ⟨by kernel_rfl, fun j t ht => ?_⟩
  have hall : Tryz.f5.params.all (fun t => !(Tryz.prog.wantsStandIn t)) = true := by kernel_rfl
  have := (Array.all_eq_true_iff_forall_mem.1 hall) t (Array.mem_of_getElem? ht)
  have h2 : Tryz.prog.wantsStandIn t = false := by simpa using this
  exact h2
theorem settingsValid_card : Rows.SettingsValidCardSaid :=
  Claim7.holds_tied_plain_at .later [] _ _ _ _ settingsValid_said (fun _ h => by cases h) (by kernel_rfl) (fun _ h => by cases h) settingsValid_row_tie rfl ⟨rfl, rfl⟩ (by kernel_rfl) rfl settingsValid_plain (by kernel_rfl)
end Go.Proofs.YtpbgihhfcdggkaaGreatDoor
end
