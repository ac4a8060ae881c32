/-
  Joined texts: SZd: Settings: the law Texts.
  Z2: The law inlaylaw23.SettingsTexts returns true for every input, and each argument reads behind the call as it read before: Parse reads the text of settings as the settings; a text in which a part is replaced, and any other text, is read as by the reference, and only if it is the text of the result.
  Conditions: the package variables that the row lists hold, when the call begins, what the program's text lays there (the card ties them); no other narrowing.
-/
import Derived.Test.YtpbgihhfcdggkaaGreatDoorQE
import Derived.Test.YtpbgihhfcdggkaaGreatDoorQC
import Derived.SevenTiedAt
section
namespace Go.Proofs.YtpbgihhfcdggkaaGreatDoor
open Go.RowKit V
set_option maxRecDepth 100000
set_option maxHeartbeats 4000000
set_option linter.unusedSimpArgs false
set_option linter.unusedVariables false
attribute [local irreducible] V.Sat V.DSat V.SatP V.ASat V.AOp
theorem len1 (s : SetL) (h : ValidS s) : ∀ x, x ≤ s.vals.length → (pr1 s x).length ≤ 3000 * (x + 1)
  | 0, _ => by
    have hv := h.ver
    have hl := Lib.itoa_length_le s.version (by omega) (by omega)
    simp [pr1, joinB, setW]
    omega
  | x + 1, hx => by
    have ih := len1 s h x (by omega)
    have hm : s.vals.getD x v00 ∈ s.vals := by rw [List.getD_eq_getElem?_getD, List.getElem?_eq_getElem hx]; exact List.getElem_mem hx
    obtain ⟨n1, n2⟩ := right_len (h.right _ hm)
    rw [pr1_at s x hx]
    generalize s.vals.getD x v00 = w at *
    simp only [valLn, valW, List.length_append, List.length_cons, List.length_nil]
    omega
theorem len2 (s : SetL) (h : ValidS s) : ∀ x, x ≤ s.kept.length → (pr2 s x).length ≤ 60000 + 3000 * x
  | 0, _ => by
    have := len1 s h s.vals.length (Nat.le_refl _)
    have hf := h.few
    rw [pr12] at this
    omega
  | x + 1, hx => by
    have ih := len2 s h x (by omega)
    have hm : s.kept.getD x v00 ∈ s.kept := by rw [List.getD_eq_getElem?_getD, List.getElem?_eq_getElem hx]; exact List.getElem_mem hx
    have hk := h.kept _ hm
    rw [pr2_at s x hx]
    generalize s.kept.getD x v00 = w at *
    unfold keptLn
    split
    · simp only [keptZ, List.length_append, List.length_cons, List.length_nil]; omega
    · rename_i hn
      obtain ⟨n1, n2⟩ := right_len (hk.resolve_left fun e => hn (by rw [e]))
      simp only [keptW, List.length_append, List.length_cons, List.length_nil]; omega
theorem print_len (s : SetL) (h : ValidS s) : (printS Lib.itoa s).length ≤ 200000 := by
  rw [← pr2_end s h]
  have := len2 s h s.kept.length (Nat.le_refl _)
  have := h.few
  omega
theorem res_same (u : List UInt8) : ∃ W e, resP Lib.itoa readP u = (W, e) ∧ resP Lib.itoa readR u = (W, e) ∧ (e = 0 → printS Lib.itoa W = u) := by
  have h := res_eq Lib.itoa readP readR readP_print readR_print u
  refine ⟨_, _, rfl, h.symm, fun he => res_only Lib.itoa readP u he⟩
theorem min_rng (m n : Int) (h0 : 0 ≤ m) (h1 : 0 ≤ n) : 0 ≤ minV m n ∧ minV m n ≤ n := by
  unfold minV
  split <;> omega
def cutT (t put : List UInt8) (i k : Nat) : List UInt8 := (List.take (i - 0) (List.drop 0 t) ++ put) ++ List.take (t.length - k) (List.drop k t)
section
variable {a b : TypeId} {p q : Value}
theorem txt_spec (x : Raw) (hx : RawOk x) (put : List UInt8) (w : Int × Int) (hw : (0 ≤ w.1 ∧ w.1 < 65536) ∧ (0 ≤ w.2 ∧ w.2 < 65536)) : Fun Tryz.prog (Γs a b p q) 4 [x.v, .str put, .agg [.int .u16 w.1, .int .u16 w.2]] (.bool true) := by
  have hup := sanity_spec (a := a) (b := b) (p := p) (q := q)
  have hM := Fun.weak (Γ := Γs a b p q) (made_spec x hx)
  have hs := made_ok' x hx
  have hp1 := pur_pair x.vals
  have hp2 := pur_pair x.kept
  generalize madeS x = s at hM hs
  have h1 := print_spec (a := a) (b := b) (p := p) (q := q) s
  have h2 := Fun.weak (Γ := Γs a b p q) (printR_spec s)
  have hl := print_len s hs.valid
  have h3 := parse_spec (a := a) (b := b) (p := p) (q := q) (printS Lib.itoa s) (by omega)
  rw [res_print Lib.itoa readP readP_print hs.valid] at h3
  have h4 := Fun.weak (Γ := Γs a b p q) (same_spec s s)
  rw [(sameS_iff _ _).2 rfl] at h4
  generalize printS Lib.itoa s = t at h1 h2 h3 hl
  have q1 := pur_val s.vals
  have q2 := pur_val s.kept
  obtain ⟨⟨w0, w1⟩, ⟨w2, w3⟩⟩ := hw
  have m0 : 0 ≤ w.1 % ((t.length : Int) + 1) := Int.emod_nonneg _ (by omega)
  have m1 : w.1 % ((t.length : Int) + 1) < (t.length : Int) + 1 := Int.emod_lt_of_pos _ (by omega)
  obtain ⟨n0, n1⟩ := tm w.2 w2 8 (by decide)
  refine Fun.mk 7 Tryz.func4 rfl Tryz.ntmps4 rfl rfl fun T w0 => ?_
  by_cases hput : 400 < put.length
  · repeat' (first
        | ((with_reducible apply Sat.run (X := X64)); exact rfl; (first | exact True.intro | (exact phi) | skip))
        | ((with_reducible apply Sat.drawn); kernel_rfl)
        | ((with_reducible apply DSat.run (X := X64)); exact rfl; (first | exact True.intro | (exact phi) | skip))
        | ((with_reducible apply DSat.fin); kernel_rfl)
        | ((with_reducible apply Sat.cond_t); exact rfl)
        | ((with_reducible apply Sat.cond_f); exact rfl)
        | ((with_reducible apply Sat.cond_pt); exact rfl; (try dsimp only [V.EV.sub, V.EV.len]); first | assumption | omega)
        | ((with_reducible apply Sat.cond_pf); exact rfl; (try dsimp only [V.EV.sub, V.EV.len]); first | assumption | omega)
        | ((with_reducible apply Sat.cond_p); exact rfl; all_goals intro h)
        | ((with_reducible apply Sat.cond); exact rfl; all_goals intro h)
        | ((with_reducible refine (?_ : AllP _)); ((repeat' (first | exact AllP.nil | with_reducible refine AllP.cons ?_ ?_)) <;> (first | (intro hq; exact hq) | (dsimp only [V.EV.len]; omega) | (intro hq; dsimp only [V.EV.len]; omega) | (intro hq; exact absurd hq (by decide)))))
        | ((with_reducible apply Sat.call0 (hup)); exact rfl; exact rfl; kernel_rfl; exact rfl)
        | ((with_reducible apply DSat.call0 (hup)); exact rfl; exact rfl; kernel_rfl; exact rfl)
        | ((with_reducible apply DSat.callM0 (hup)); exact rfl; exact rfl; (first | exact rfl | assumption | (decide +kernel)); exact rfl; kernel_rfl; exact rfl) | fail)
    (refine Sat.fin (Sat.end1 rfl rfl rfl True.intro (.refl _ purX) (by first | exact .inl rfl | exact .inr rfl) (fun _ h => h)) ?_; rfl)
  · repeat' (first
        | ((with_reducible apply Sat.run (X := X64)); exact rfl; (first | exact True.intro | (exact phi) | skip))
        | ((with_reducible apply Sat.drawn); kernel_rfl)
        | ((with_reducible apply DSat.run (X := X64)); exact rfl; (first | exact True.intro | (exact phi) | skip))
        | ((with_reducible apply DSat.fin); kernel_rfl)
        | ((with_reducible apply Sat.cond_t); exact rfl)
        | ((with_reducible apply Sat.cond_f); exact rfl)
        | ((with_reducible apply Sat.cond_pt); exact rfl; (try dsimp only [V.EV.sub, V.EV.len]); first | assumption | omega)
        | ((with_reducible apply Sat.cond_pf); exact rfl; (try dsimp only [V.EV.sub, V.EV.len]); first | assumption | omega)
        | ((with_reducible apply Sat.cond_p); exact rfl; all_goals intro h)
        | ((with_reducible apply Sat.cond); exact rfl; all_goals intro h)
        | ((with_reducible refine (?_ : AllP _)); ((repeat' (first | exact AllP.nil | with_reducible refine AllP.cons ?_ ?_)) <;> (first | (intro hq; exact hq) | (dsimp only [V.EV.len]; omega) | (intro hq; dsimp only [V.EV.len]; omega) | (intro hq; exact absurd hq (by decide)))))
        | ((with_reducible apply Sat.call0 (hup)); exact rfl; exact rfl; kernel_rfl; exact rfl)
        | ((with_reducible apply DSat.call0 (hup)); exact rfl; exact rfl; kernel_rfl; exact rfl)
        | ((with_reducible apply DSat.callM0 (hup)); exact rfl; exact rfl; (first | exact rfl | assumption | (decide +kernel)); exact rfl; kernel_rfl; exact rfl)
        | ((with_reducible apply Sat.call (hM)); exact rfl; exact rfl; kernel_rfl; (exact cnvX); exact rfl)
        | ((with_reducible apply DSat.call (hM)); exact rfl; exact rfl; kernel_rfl; (exact cnvX); exact rfl)
        | ((with_reducible apply Sat.callR (h1)); exact rfl; exact rfl; exact rfl; kernel_rfl; (exact cnvX); exact rfl)
        | ((with_reducible apply DSat.callR (h1)); exact rfl; exact rfl; exact rfl; kernel_rfl; (exact cnvX); exact rfl)
        | ((with_reducible apply Sat.call (h3)); exact rfl; exact rfl; kernel_rfl; (exact cnvX); exact rfl)
        | ((with_reducible apply DSat.call (h3)); exact rfl; exact rfl; kernel_rfl; (exact cnvX); exact rfl)
        | ((with_reducible apply Sat.callR (h2)); exact rfl; exact rfl; exact rfl; kernel_rfl; (exact cnvX); exact rfl)
        | ((with_reducible apply DSat.callR (h2)); exact rfl; exact rfl; exact rfl; kernel_rfl; (exact cnvX); exact rfl)
        | ((with_reducible apply Sat.callG1 (h4)); exact rfl; exact rfl; exact rfl; exact rfl; kernel_rfl; (intro hG; (exact cnvX)); exact rfl)
        | ((with_reducible apply DSat.callG1 (h4)); exact rfl; exact rfl; exact rfl; exact rfl; kernel_rfl; (intro hG; (exact cnvX)); exact rfl) | fail)
    · exfalso
      simp at h
    · obtain ⟨j0, j1⟩ := min_rng (w.1 % ((t.length : Int) + 1) + w.2.tmod 8) (t.length : Int) (by omega) (by omega)
      (repeat' (first | exact AllP.nil | with_reducible refine AllP.cons ?_ ?_)) <;> first | exact rfl | (simp only [okLen, Option.getD, List.length_append, List.length_take, List.length_drop, List.length_cons, List.length_nil]; omega) | (dsimp only [Option.getD]; omega) | exact j0 | exact m0 | assumption
    · obtain ⟨A, e, a1, a2, a3⟩ := res_same put
      obtain ⟨B, f, b1, b2, b3⟩ := res_same (cutT t put (w.1 % ((t.length : Int) + 1)).toNat (minV (w.1 % ((t.length : Int) + 1) + w.2.tmod 8) (t.length : Int)).toNat)
      have c1 := parse_spec (a := a) (b := b) (p := p) (q := q) put (by omega)
      have c2 := Fun.weak (Γ := Γs a b p q) (parseR_spec put)
      have c3 := print_spec (a := a) (b := b) (p := p) (q := q) A
      have d1 := parse_spec (a := a) (b := b) (p := p) (q := q) (cutT t put (w.1 % ((t.length : Int) + 1)).toNat (minV (w.1 % ((t.length : Int) + 1) + w.2.tmod 8) (t.length : Int)).toNat) (by unfold cutT; simp only [List.length_append, List.length_take, List.length_drop]; omega)
      have d2 := Fun.weak (Γ := Γs a b p q) (parseR_spec (cutT t put (w.1 % ((t.length : Int) + 1)).toNat (minV (w.1 % ((t.length : Int) + 1) + w.2.tmod 8) (t.length : Int)).toNat))
      have d3 := print_spec (a := a) (b := b) (p := p) (q := q) B
      rw [a1] at c1
      rw [a2] at c2
      rw [b1] at d1
      rw [b2] at d2
      have c4 := Fun.weak (Γ := Γs a b p q) (same_spec A A)
      rw [(sameS_iff _ _).2 rfl] at c4
      have d4 := Fun.weak (Γ := Γs a b p q) (same_spec B B)
      rw [(sameS_iff _ _).2 rfl] at d4
      have q3 := pur_val A.vals
      have q4 := pur_val A.kept
      have q5 := pur_val B.vals
      have q6 := pur_val B.kept
      clear h4 h3 h1 h2 hM
      repeat' (first
        | ((with_reducible apply Sat.run (X := X64)); exact rfl; (first | exact True.intro | (exact phi) | skip))
        | ((with_reducible apply Sat.drawn); kernel_rfl)
        | ((with_reducible apply DSat.run (X := X64)); exact rfl; (first | exact True.intro | (exact phi) | skip))
        | ((with_reducible apply DSat.fin); kernel_rfl)
        | ((with_reducible apply Sat.cond_t); exact rfl)
        | ((with_reducible apply Sat.cond); exact rfl; all_goals intro h)
        | (with_reducible apply Sat.unroll 40)
        | (with_reducible apply Sat.again)
        | ((with_reducible apply Sat.call (c1)); exact rfl; exact rfl; kernel_rfl; (exact cnvX); exact rfl)
        | ((with_reducible apply Sat.call (c2)); exact rfl; exact rfl; kernel_rfl; (exact cnvX); exact rfl)
        | ((with_reducible apply DSat.callR (c4)); exact rfl; exact rfl; exact rfl; kernel_rfl; (exact cnvX); exact rfl)
        | ((with_reducible apply DSat.callG1 (c3)); exact rfl; exact rfl; exact rfl; exact rfl; kernel_rfl; (intro hG; (exact cnvX)); exact rfl) | fail)
      · exfalso
        have h' : (bif bif !true then true else decide (e ≠ e) then true else bif decide (e = 0) then decide (printS Lib.itoa A ≠ put) else false) = true := h
        by_cases he : e = 0
        · rw [a3 he] at h'
          simp at h'
        · simp [he] at h'
      · repeat' (first
            | ((with_reducible apply Sat.run (X := X64)); exact rfl; (first | exact True.intro | (exact phi) | skip))
            | ((with_reducible apply Sat.drawn); kernel_rfl)
            | ((with_reducible apply DSat.run (X := X64)); exact rfl; (first | exact True.intro | (exact phi) | skip))
            | ((with_reducible apply DSat.fin); kernel_rfl)
            | ((with_reducible apply Sat.cond_t); exact rfl)
            | ((with_reducible apply Sat.cond_f); exact rfl)
            | ((with_reducible apply Sat.cond_pt); exact rfl; (try dsimp only [V.EV.sub, V.EV.len]); first | assumption | omega)
            | ((with_reducible apply Sat.cond_pf); exact rfl; (try dsimp only [V.EV.sub, V.EV.len]); first | assumption | omega)
            | ((with_reducible apply Sat.cond_p); exact rfl; all_goals intro h)
            | ((with_reducible apply Sat.cond); exact rfl; all_goals intro h)
            | ((with_reducible refine (?_ : AllP _)); ((repeat' (first | exact AllP.nil | with_reducible refine AllP.cons ?_ ?_)) <;> (first | (intro hq; exact hq) | (dsimp only [V.EV.len]; omega) | (intro hq; dsimp only [V.EV.len]; omega) | (intro hq; exact absurd hq (by decide)))))
            | (with_reducible apply Sat.unroll 40)
            | (with_reducible apply Sat.again)
            | ((with_reducible apply Sat.call (d1)); exact rfl; exact rfl; kernel_rfl; (exact cnvX); exact rfl)
            | ((with_reducible apply DSat.call (d1)); exact rfl; exact rfl; kernel_rfl; (exact cnvX); exact rfl)
            | ((with_reducible apply Sat.call (d2)); exact rfl; exact rfl; kernel_rfl; (exact cnvX); exact rfl)
            | ((with_reducible apply DSat.call (d2)); exact rfl; exact rfl; kernel_rfl; (exact cnvX); exact rfl)
            | ((with_reducible apply Sat.callR (d4)); exact rfl; exact rfl; exact rfl; kernel_rfl; (exact cnvX); exact rfl)
            | ((with_reducible apply DSat.callR (d4)); exact rfl; exact rfl; exact rfl; kernel_rfl; (exact cnvX); exact rfl)
            | ((with_reducible apply Sat.callG1 (d3)); exact rfl; exact rfl; exact rfl; exact rfl; kernel_rfl; (intro hG; (exact cnvX)); exact rfl)
            | ((with_reducible apply DSat.callG1 (d3)); exact rfl; exact rfl; exact rfl; exact rfl; kernel_rfl; (intro hG; (exact cnvX)); exact rfl) | fail)
        · exfalso
          have h' : (bif bif !true then true else decide (f ≠ f) then true else bif decide (f = 0) then decide (printS Lib.itoa B ≠ (cutT t put (w.1 % ((t.length : Int) + 1)).toNat (minV (w.1 % ((t.length : Int) + 1) + w.2.tmod 8) (t.length : Int)).toNat)) else false) = true := h
          by_cases he : f = 0
          · rw [b3 he] at h'
            simp at h'
          · simp [he] at h'
        · (refine Sat.fin (Sat.end1 rfl rfl rfl True.intro (.refl _ purX) (by first | exact .inl rfl | exact .inr rfl) (fun _ h => h)) ?_; rfl)
end
end Go.Proofs.YtpbgihhfcdggkaaGreatDoor
end
section
namespace Go.Proofs.YtpbgihhfcdggkaaGreatDoor
open Go.RowKit Go.ChangeShapes Go.WideShapes V
set_option maxRecDepth 100000
set_option maxHeartbeats 8000000
theorem settingsTexts_step (os : Os) (started : os.Started) (H : Type) (enc : TypeId × Value → H) (F : Stop.Interp) :
    ReturnsInHanded {} Tryz.checked os 4 .any ((OpenSpec.ofChange Rows.settingsTextsSpec).preRow enc Tryz.prog Tryz.f4 Rows.settingsTextsRow.domain false Rows.settingsTextsRow.laid) (((OpenSpec.ofChange Rows.settingsTextsSpec).at F).post enc Tryz.prog Tryz.f4 false true false false) := by
  refine law_step2 (C := Tryz.checked) (fn := Tryz.f4) (s := OpenSpec.ofChange Rows.settingsTextsSpec) (F := F) (tb := 4) Γw own started (by kernel_rfl) Tryz.func4 laidOut (by kernel_rfl) (by kernel_rfl) (by kernel_rfl) Tryz.underlying4 rfl ?_
    (row_witness (World.laidAll Tryz.prog os tabs_laid) #[.agg #[.int .u16 0, .slice none 0 0, .slice none 0 0], .string ⟨#[]⟩, .agg #[.int .u16 0, .int .u16 0]] (World.laidAll_os _ _ _) (by kernel_rfl) (by kernel_rfl) (by kernel_rfl) (by kernel_rfl) (by kernel_rfl) (door_met os _)) tabs_glob ?_
  · intro ds hl
    obtain ⟨d1, d2, d3, rfl⟩ := list_len3 hl
    rfl
  · intro W vs ds hl ht hk
    obtain ⟨d1, d2, d3, rfl⟩ := list_len3 hl
    refine Fun.facts fun hf => ?_
    show Fun _ _ _ [rawSV d1, .str (sOf d2), .agg [.int .u16 (iOf (nthD (ptsD d3) 0)), .int .u16 (iOf (nthD (ptsD d3) 1))]] _
    obtain ⟨⟨h1, ⟨_, h2⟩, ⟨_, h3⟩, _⟩, _, ⟨k1, k2, _⟩, _⟩ := hf
    rw [rawSV_eq]
    exact txt_spec _ (raw_ok _ h1 h2 h3) _ (pairD d3) ⟨u16_lt k1, u16_lt k2⟩
theorem settingsTexts_said : Rows.SettingsTextsSaid :=
  OpenClaim.holds_of_cond 4 Tryz.f4 rfl rfl rfl rfl rfl rfl rfl ⟨rfl, rfl, rfl, rfl, rfl⟩ rfl rfl rfl rfl rfl (by kernel_rfl) Tryz.func4 (by kernel_rfl)
    (of_decide_eq_true (by kernel_rfl)) (by unfold Func.isWrapper; first | (rw [if_pos (by decide +kernel)]; kernel_rfl) | (rw [if_neg (by decide +kernel)]; exact ⟨rfl, rfl⟩))
    (fun os started H enc _ F => by rw [OpenClaim.pre_eq_preRow]; exact settingsTexts_step os started H enc F)
theorem settingsTexts_plain (f : FuncId) (fn : Func) (hf : Tryz.pinned.checked.prog.funcNamed "inlay/inlaylaw23.SettingsTexts" = some f) (hfn : Tryz.pinned.checked.prog.funcs[f]? = some fn) :
    true = Tryz.pinned.checked.prog.looks [] ∧ ∀ (j : Nat) t, fn.params[j]? = some t → Tryz.pinned.checked.prog.wantsStandIn t = false := by
  obtain rfl : f = 4 := Option.some.inj ((show Tryz.prog.funcNamed "inlay/inlaylaw23.SettingsTexts" = some 4 by kernel_rfl).symm.trans hf) |>.symm
  obtain rfl : fn = Tryz.f4 := (Option.some.inj (Tryz.func4.symm.trans hfn)).symm
  refine ⟨by kernel_rfl, fun j t ht => ?_⟩
  have hall : Tryz.f4.params.all (fun t => !(Tryz.prog.wantsStandIn t)) = true := by kernel_rfl
  have := (Array.all_eq_true_iff_forall_mem.1 hall) t (Array.mem_of_getElem? ht)
  have h2 : Tryz.prog.wantsStandIn t = false := by simpa using this
  exact h2
theorem settingsTexts_card : Rows.SettingsTextsCardSaid :=
  Claim7.holds_tied_plain_at .later [] _ _ _ _ settingsTexts_said (fun _ h => by cases h) (by kernel_rfl) (fun _ h => by cases h) settingsTexts_row_tie rfl ⟨rfl, rfl⟩ (by kernel_rfl) rfl settingsTexts_plain (by kernel_rfl)
end Go.Proofs.YtpbgihhfcdggkaaGreatDoor
end
