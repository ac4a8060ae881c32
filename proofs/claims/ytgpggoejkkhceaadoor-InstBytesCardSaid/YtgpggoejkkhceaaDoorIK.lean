/-
  Inst: plain facts for the laws.
-/
import Derived.Test.YtgpggoejkkhceaaDoorIJ
namespace Go.Proofs.YtgpggoejkkhceaaDoor
open Go.RowKit V
set_option maxRecDepth 100000
theorem tm4 (x : Int) : x.tmod 4 = 0 ↔ x % 4 = 0 := by
  constructor
  · intro h; exact Int.emod_eq_zero_of_dvd (Int.dvd_of_tmod_eq_zero h)
  · intro h; exact Int.tmod_eq_zero_of_dvd (Int.dvd_of_emod_eq_zero h)
structure Shp (w op a b c n s : Int) : Prop where
  (o0 : 0 ≤ op) (o8 : op ≤ 8) (a0 : 0 ≤ a) (a1 : a ≤ 15) (b0 : 0 ≤ b) (b1 : b ≤ 15) (c0 : 0 ≤ c) (c1 : c ≤ 15)
  (j : op = 5 ∨ op = 6 → a = 0 ∧ b = 0 ∧ c = 0 ∧ -8388608 ≤ s ∧ s < 8388608)
  (br : op = 7 → b = 0 ∧ c = 0 ∧ -32768 ≤ s ∧ s < 32768)
  (po : op = 8 → b = 0 ∧ c = 0 ∧ 0 ≤ s ∧ s < 65536)
  (dec : ∀ at_, Dec w at_ = ⟨op, a, b, c, if 5 ≤ op then at_ + 4 * s else n⟩)
theorem dec_shape (w : Int) (h : W32 w) : ∃ op a b c n s, Shp w op a b c n s := by
  obtain ⟨h0, h1⟩ := h
  have hd : (∀ at_, Dec w at_ = dat w) → ∃ op a b c n s, Shp w op a b c n s := fun hd =>
    ⟨0, 0, 0, 0, w, 0, by decide, by decide, by decide, by decide, by decide, by decide, by decide, by decide, fun h => by omega, fun h => by omega, fun h => by omega, fun at_ => by rw [hd at_]; rfl⟩
  by_cases c1 : w / 16777216 = 1 ∨ w / 16777216 = 3 ∨ w / 16777216 = 4
  · by_cases r : w / 65536 % 256 ≤ 15 ∧ w / 256 % 256 ≤ 15 ∧ w % 256 ≤ 15
    · exact ⟨w / 16777216, w / 65536 % 256, w / 256 % 256, w % 256, 0, 0, by omega, by omega, by omega, by omega, by omega, by omega, by omega, by omega, fun h => by omega, fun h => by omega, fun h => by omega, fun at_ => by unfold Dec; rw [if_pos c1, if_pos r, if_neg (by omega)]⟩
    · exact hd fun at_ => by unfold Dec; rw [if_pos c1, if_neg r]
  by_cases c2 : w / 16777216 = 2
  · by_cases r : w / 65536 % 256 ≤ 15
    · exact ⟨2, w / 65536 % 256, 0, 0, w % 65536, 0, by omega, by omega, by omega, by omega, by omega, by omega, by omega, by omega, fun h => by omega, fun h => by omega, fun h => by omega, fun at_ => by unfold Dec; rw [if_neg c1, if_pos c2, if_pos r, if_neg (by omega)]⟩
    · exact hd fun at_ => by unfold Dec; rw [if_neg c1, if_pos c2, if_neg r]
  by_cases c3 : w / 16777216 = 5 ∨ w / 16777216 = 6
  · have r := s24_rng w
    exact ⟨w / 16777216, 0, 0, 0, 0, s24 (w % 16777216), by omega, by omega, by omega, by omega, by omega, by omega, by omega, by omega, fun h => by omega, fun h => by omega, fun h => by omega, fun at_ => by unfold Dec; rw [if_neg c1, if_neg c2, if_pos c3, if_pos (by omega)]⟩
  by_cases c4 : w / 16777216 = 7
  · by_cases r : w / 65536 % 256 ≤ 15
    · have r2 := s16_rng w
      exact ⟨7, w / 65536 % 256, 0, 0, 0, s16 (w % 65536), by omega, by omega, by omega, by omega, by omega, by omega, by omega, by omega, fun h => by omega, fun h => by omega, fun h => by omega, fun at_ => by unfold Dec; rw [if_neg c1, if_neg c2, if_neg c3, if_pos c4, if_pos r, if_pos (by omega)]⟩
    · exact hd fun at_ => by unfold Dec; rw [if_neg c1, if_neg c2, if_neg c3, if_pos c4, if_neg r]
  by_cases c5 : w / 16777216 = 8
  · by_cases r : w / 65536 % 256 ≤ 15
    · exact ⟨8, w / 65536 % 256, 0, 0, 0, w % 65536, by omega, by omega, by omega, by omega, by omega, by omega, by omega, by omega, fun h => by omega, fun h => by omega, fun h => by omega, fun at_ => by unfold Dec; rw [if_neg c1, if_neg c2, if_neg c3, if_neg c4, if_pos c5, if_pos r, if_pos (by omega)]⟩
    · exact hd fun at_ => by unfold Dec; rw [if_neg c1, if_neg c2, if_neg c3, if_neg c4, if_pos c5, if_neg r]
  · exact hd fun at_ => by unfold Dec; rw [if_neg c1, if_neg c2, if_neg c3, if_neg c4, if_neg c5]
/-- An instruction with a target within reach is that of a word. -/
theorem fit24 (op at_ n : Int) (ho : op = 5 ∨ op = 6) (d : Int) (hn : n = at_ + 4 * d) (h1 : -8388608 ≤ d) (h2 : d < 8388608) : ∃ w, W32 w ∧ Dec w at_ = ⟨op, 0, 0, 0, n⟩ := by
  refine ⟨op * 16777216 + d % 16777216, ⟨by omega, by omega⟩, ?_⟩
  have e1 : (op * 16777216 + d % 16777216) / 16777216 = op := by omega
  have e2 : (op * 16777216 + d % 16777216) % 16777216 = d % 16777216 := by omega
  unfold Dec
  rw [e1, e2, if_neg (by omega), if_neg (by omega), if_pos ho]
  have : s24 (d % 16777216) = d := by unfold s24; split <;> omega
  rw [this, hn]
theorem fit16 (a at_ n : Int) (ha : 0 ≤ a ∧ a ≤ 15) (d : Int) (hn : n = at_ + 4 * d) (h1 : -32768 ≤ d) (h2 : d < 32768) : ∃ w, W32 w ∧ Dec w at_ = ⟨7, a, 0, 0, n⟩ := by
  refine ⟨7 * 16777216 + a * 65536 + d % 65536, ⟨by omega, by omega⟩, ?_⟩
  have e1 : (7 * 16777216 + a * 65536 + d % 65536) / 16777216 = 7 := by omega
  have e2 : (7 * 16777216 + a * 65536 + d % 65536) % 65536 = d % 65536 := by omega
  have e3 : (7 * 16777216 + a * 65536 + d % 65536) / 65536 % 256 = a := by omega
  unfold Dec
  rw [e1, e2, e3, if_neg (by decide), if_neg (by decide), if_neg (by decide), if_pos rfl, if_pos ha.2]
  have : s16 (d % 65536) = d := by unfold s16; split <;> omega
  rw [this, hn]
theorem fitU (a at_ n : Int) (ha : 0 ≤ a ∧ a ≤ 15) (d : Int) (hn : n = at_ + 4 * d) (h1 : 0 ≤ d) (h2 : d < 65536) : ∃ w, W32 w ∧ Dec w at_ = ⟨8, a, 0, 0, n⟩ := by
  refine ⟨8 * 16777216 + a * 65536 + d, ⟨by omega, by omega⟩, ?_⟩
  have e1 : (8 * 16777216 + a * 65536 + d) / 16777216 = 8 := by omega
  have e2 : (8 * 16777216 + a * 65536 + d) % 65536 = d := by omega
  have e3 : (8 * 16777216 + a * 65536 + d) / 65536 % 256 = a := by omega
  unfold Dec
  rw [e1, e2, e3, if_neg (by decide), if_neg (by decide), if_neg (by decide), if_neg (by decide), if_pos rfl, if_pos ha.2, hn]
theorem enc_of {x : I5} {at_ : Int} (ha : Pl at_) (h : ∃ w, W32 w ∧ Dec w at_ = x) : (Enc x at_).2 = 0 ∧ W32 (Enc x at_).1 ∧ Dec (Enc x at_).1 at_ = x := by
  obtain ⟨w, h1, h2⟩ := h
  have := enc_dec w at_ h1 ha
  rw [h2] at this
  rw [this]
  exact ⟨rfl, h1, h2⟩
theorem enc_not {x : I5} {at_ : Int} (h : ∀ w, W32 w → Dec w at_ ≠ x) : Enc x at_ = (0, 20) := by
  refine enc_err fun h0 => ?_
  obtain ⟨h1, h2⟩ := enc_ok h0
  exact h _ h2 h1
/-- Whatever is decoded is valid. -/
theorem vd_dec (w at_ : Int) (h : W32 w) (ha : Pl at_) (h4 : at_ % 4 = 0) : Vd (Dec w at_) = true := by
  obtain ⟨op, a, b, c, n, s, S⟩ := dec_shape w h
  obtain ⟨o0, o8, a0, a1, b0, b1, c0, c1, j, br, po, dec⟩ := S
  obtain ⟨p0, p1⟩ := ha
  have hd := dec at_
  rw [hd]
  unfold Vd
  dsimp only
  rw [if_neg (by omega)]
  by_cases h5 : 5 ≤ op
  · rw [if_pos h5]
    simp only [if_pos h5]
    have hn4 : (at_ + 4 * s) % 4 = 0 := by omega
    rw [if_neg]
    · refine decide_eq_true (enc_of (pl_clamp _) ?_).1
      have hc : (clampP (at_ + 4 * s) = 0 ∧ at_ + 4 * s < 0) ∨ (clampP (at_ + 4 * s) = at_ + 4 * s) ∨ (clampP (at_ + 4 * s) = 65536 ∧ 65536 < at_ + 4 * s) := by
        unfold clampP minV maxV
        (repeat' split) <;> omega
      by_cases k : op = 5 ∨ op = 6
      · obtain ⟨rfl, rfl, rfl, k1, k2⟩ := j k
        exact fit24 op _ _ k ((at_ + 4 * s - clampP (at_ + 4 * s)) / 4) (by omega) (by omega) (by omega)
      · by_cases k7 : op = 7
        · obtain ⟨rfl, rfl, k1, k2⟩ := br k7
          subst k7
          exact fit16 a _ _ ⟨a0, a1⟩ ((at_ + 4 * s - clampP (at_ + 4 * s)) / 4) (by omega) (by omega) (by omega)
        · have k8 : op = 8 := by omega
          obtain ⟨rfl, rfl, k1, k2⟩ := po k8
          subst k8
          exact fitU a _ _ ⟨a0, a1⟩ ((at_ + 4 * s - clampP (at_ + 4 * s)) / 4) (by omega) (by omega) (by omega)
    · have ht := (tm4 _).2 hn4
      have hl : lstK op = -33554432 ∧ mstK op = 33554428 ∧ (op = 5 ∨ op = 6) ∨ lstK op = -131072 ∧ mstK op = 131068 ∧ op = 7 ∨ lstK op = 0 ∧ mstK op = 262140 ∧ op = 8 := by
        unfold lstK mstK
        (repeat' split) <;> omega
      rcases hl with ⟨e1, e2, k⟩ | ⟨e1, e2, k⟩ | ⟨e1, e2, k⟩
      · obtain ⟨_, _, _, k1, k2⟩ := j k
        rw [ht, e1, e2]; omega
      · obtain ⟨_, _, k1, k2⟩ := br k
        rw [ht, e1, e2]; omega
      · obtain ⟨_, _, k1, k2⟩ := po k
        rw [ht, e1, e2]; omega
  · rw [if_neg h5]
    simp only [if_neg h5]
    refine decide_eq_true (enc_of pl0 ⟨w, h, ?_⟩).1
    rw [dec 0, if_neg h5]
theorem dec_move (w a b : Int) (h : W32 w) : Dec w b = if 5 ≤ (Dec w a).op then ⟨(Dec w a).op, (Dec w a).a, (Dec w a).b, (Dec w a).c, (Dec w a).n + (b - a)⟩ else Dec w a := by
  obtain ⟨op, x, y, z, n, s, S⟩ := dec_shape w h
  rw [S.dec a, S.dec b]
  dsimp only
  split
  · rename_i h5
    simp only [if_pos h5, I5.mk.injEq, true_and]
    omega
  · rename_i h5
    simp only [if_neg h5]
/-- What is refused everywhere: a register out of range, a target that is no multiple of 4 away. -/
theorem enc_bad {x : I5} {at_ : Int} (h : x.a < 0 ∨ 15 < x.a ∨ x.b < 0 ∨ 15 < x.b ∨ x.c < 0 ∨ 15 < x.c ∨ x.op < 0 ∨ 8 < x.op) : Enc x at_ = (0, 20) :=
  enc_not fun w hw e => by
    obtain ⟨op, a, b, c, n, s, S⟩ := dec_shape w hw
    obtain ⟨o0, o8, a0, a1, b0, b1, c0, c1, _, _, _, dec⟩ := S
    rw [dec at_] at e
    subst e
    dsimp only at h
    omega
theorem vd_bad {x : I5} (h : x.a < 0 ∨ 15 < x.a ∨ x.b < 0 ∨ 15 < x.b ∨ x.c < 0 ∨ 15 < x.c ∨ x.op < 0 ∨ 8 < x.op) : Vd x = false := by
  unfold Vd
  rw [enc_bad h, enc_bad h]
  (repeat' split) <;> rfl
theorem enc_off {x : I5} {at_ : Int} (h5 : 5 ≤ x.op) (h : (x.n - at_) % 4 ≠ 0) : Enc x at_ = (0, 20) :=
  enc_not fun w hw e => by
    obtain ⟨op, a, b, c, n, s, S⟩ := dec_shape w hw
    rw [S.dec at_] at e
    subst e
    dsimp only at h5 h
    rw [if_pos h5] at h
    omega
theorem vd_off {x : I5} (h5 : 5 ≤ x.op) (h : x.n % 4 ≠ 0) : Vd x = false := by
  unfold Vd
  split
  · rfl
  · first | rw [if_pos (.inl fun e => h ((tm4 _).1 e))] | rw [if_pos h5, if_pos (.inl fun e => h ((tm4 _).1 e))]
end Go.Proofs.YtgpggoejkkhceaaDoor
