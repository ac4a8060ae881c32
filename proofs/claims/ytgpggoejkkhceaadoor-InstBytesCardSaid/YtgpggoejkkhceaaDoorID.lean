/-
  Inst: plain facts on words and instructions.
-/
import Derived.Test.YtgpggoejkkhceaaDoorIC
namespace Go.Proofs.YtgpggoejkkhceaaDoor
open Go.RowKit V
set_option maxRecDepth 100000
theorem wrapU {n : Int} (h : W32 n) : IntKind.u32.wrap n = n := wrap_inR (inR_u32 h.1 h.2)
theorem wrapI {n : Int} (h1 : -9223372036854775808 ≤ n) (h2 : n ≤ 9223372036854775807) : IntKind.i64.wrap n = n := wrap_inR (inR_i64 h1 h2)
theorem or_disj (h l a m s : Nat) (hl : l < 2 ^ s) (ha : a < 2 ^ m) (hs : h * 2 ^ (s + m) + a * 2 ^ s + l < 2 ^ 32) :
    IntKind.u32.wrap ↑(BitVec.ofInt IntKind.u32.bits ((h * 2 ^ (s + m) + l : Nat) : Int) ||| BitVec.ofInt IntKind.u32.bits ((a * 2 ^ s : Nat) : Int)).toNat = ((h * 2 ^ (s + m) + a * 2 ^ s + l : Nat) : Int) := by
  have e : ∀ n : Nat, n < 2 ^ 32 → (BitVec.ofInt IntKind.u32.bits (n : Int)).toNat = n := fun n hn => by
    rw [toNat_ofInt_lt, ← Int.natCast_emod, Int.toNat_natCast]
    exact Nat.mod_eq_of_lt hn
  have hl2 : l < 2 ^ (s + m) := Nat.lt_of_lt_of_le hl (Nat.pow_le_pow_right (by decide) (by omega))
  have hal : a * 2 ^ s + l < 2 ^ (s + m) := by
    have h1 : (a + 1) * 2 ^ s ≤ 2 ^ m * 2 ^ s := Nat.mul_le_mul_right _ ha
    rw [Nat.pow_add, Nat.mul_comm (2 ^ s)]
    rw [Nat.add_mul, Nat.one_mul] at h1
    omega
  have o1 : h * 2 ^ (s + m) + l = h * 2 ^ (s + m) ||| l := by
    have := Nat.two_pow_add_eq_or_of_lt hl2 h
    rw [Nat.mul_comm]; exact this
  have o2 : a * 2 ^ s + l = a * 2 ^ s ||| l := by
    have := Nat.two_pow_add_eq_or_of_lt hl a
    rw [Nat.mul_comm]; exact this
  have o3 : h * 2 ^ (s + m) + (a * 2 ^ s + l) = h * 2 ^ (s + m) ||| (a * 2 ^ s + l) := by
    have := Nat.two_pow_add_eq_or_of_lt hal h
    rw [Nat.mul_comm]; exact this
  rw [BitVec.toNat_or, e _ (by omega), e _ (by omega), o1, Nat.or_assoc, Nat.or_comm l, ← o2, ← o3, ← Nat.add_assoc]
  refine wrap_inR ?_
  generalize h * 2 ^ (s + m) + a * 2 ^ s + l = c at hs ⊢
  simp [inR, IntKind.min, IntKind.max, IntKind.bits, IntKind.signed]
  omega
theorem hi_eq (k n : Int) (m : Nat) (h0 : 0 ≤ k) (h8 : k ≤ 8) (hm : m ≤ 24) : hi k n m = k * 16777216 + n % 2 ^ m := by
  obtain ⟨kn, rfl⟩ := Int.eq_ofNat_of_zero_le h0
  have hk : kn ≤ 8 := by omega
  unfold hi
  have e1 : IntKind.u32.wrap (IntKind.u32.wrap (kn : Int) * 2 ^ min (Int.toNat 24) IntKind.u32.bits) = ((kn * 2 ^ (0 + 24) : Nat) : Int) := by
    rw [show IntKind.u32.wrap (kn : Int) = kn from wrapU ⟨by omega, by omega⟩, show (2 : Int) ^ min (Int.toNat 24) IntKind.u32.bits = 16777216 from by decide, show IntKind.u32.wrap ((kn : Int) * 16777216) = kn * 16777216 from wrapU ⟨by omega, by omega⟩]
    simp
  have e2 : IntKind.i64.wrap ((BitVec.ofInt IntKind.i64.bits n &&& BitVec.ofInt IntKind.i64.bits (IntKind.i64.wrap (IntKind.i64.wrap (1 * 2 ^ min (m : Int).toNat IntKind.i64.bits) - 1))).toNat : Int) = n % 2 ^ m := by
    have e3 : IntKind.i64.wrap (IntKind.i64.wrap (1 * 2 ^ min (m : Int).toNat IntKind.i64.bits) - 1) = 2 ^ m - 1 := by
      have hp : (2 : Int) ^ m ≤ 2 ^ 24 := by
        have := Nat.pow_le_pow_right (n := 2) (by decide) hm
        exact_mod_cast this
      have hq : (1 : Int) ≤ 2 ^ m := by have := Int.pow_pos (n := 2) (m := m) (by decide); omega
      have hmin : min (m : Int).toNat IntKind.i64.bits = m := by simp [IntKind.bits]; omega
      have h24 : (2 : Int) ^ 24 = 16777216 := by decide
      rw [hmin, Int.one_mul]
      rw [show IntKind.i64.wrap ((2 : Int) ^ m) = 2 ^ m from wrapI (by omega) (by omega)]
      exact wrapI (by omega) (by omega)
    rw [e3]
    exact band_mask .i64 n m (by simp [IntKind.bits]; omega)
  rw [e1, e2]
  have h2 : 0 ≤ n % 2 ^ m := Int.emod_nonneg _ (by have := Int.pow_pos (n := 2) (m := m) (by decide); omega)
  have h3 : n % 2 ^ m < 2 ^ m := Int.emod_lt_of_pos _ (Int.pow_pos (by decide))
  have h4 : (2 : Int) ^ m ≤ 2 ^ 24 := by
    have := Nat.pow_le_pow_right (n := 2) (by decide) hm
    exact_mod_cast this
  have h5 : (2 : Int) ^ 24 = 16777216 := by decide
  obtain ⟨r, hr⟩ := Int.eq_ofNat_of_zero_le h2
  rw [hr] at h3 ⊢
  rw [show IntKind.u32.wrap (r : Int) = r from wrapU ⟨by omega, by omega⟩]
  have hrl : r < 2 ^ 24 := by
    have : (r : Int) < 16777216 := by omega
    omega
  have := bor_add .u32 kn r 24 hrl (by simp [IntKind.bits]; omega) (by simp [IntKind.signed])
  rw [show kn * 2 ^ (0 + 24) = kn * 2 ^ 24 by simp]
  refine this.trans ?_
  simp
theorem rg_eq (e a : Int) (h l : Nat) (i : Nat) (hi2 : i ≤ 2) (he : e = ((h * 2 ^ (16 - 8 * i + 8) + l : Nat) : Int)) (hl : l < 2 ^ (16 - 8 * i)) (hh : h * 2 ^ (16 - 8 * i + 8) + 2 ^ (16 - 8 * i + 8) ≤ 2 ^ 32) : rg e a i = e + a % 256 * 2 ^ (16 - 8 * i) := by
  unfold rg
  rw [band255 .i64 a (by decide)]
  have h2 : 0 ≤ a % 256 := by omega
  have h3 : a % 256 < 256 := by omega
  obtain ⟨r, hr⟩ := Int.eq_ofNat_of_zero_le h2
  rw [hr] at h3 ⊢
  have hsh : min (IntKind.i64.wrap (16 - IntKind.i64.wrap (8 * (i : Int)))).toNat IntKind.u32.bits = 16 - 8 * i := by
    rw [show IntKind.i64.wrap (8 * (i : Int)) = 8 * i from wrapI (by omega) (by omega), show IntKind.i64.wrap (16 - 8 * (i : Int)) = 16 - 8 * i from wrapI (by omega) (by omega)]
    simp [IntKind.bits]; omega
  rw [hsh, show IntKind.u32.wrap (r : Int) = r from wrapU ⟨by omega, by omega⟩]
  have hp : 2 ^ (16 - 8 * i) ≤ 2 ^ 16 := Nat.pow_le_pow_right (by decide) (by omega)
  have hpp : 0 < 2 ^ (16 - 8 * i) := Nat.two_pow_pos _
  have hmul : r * 2 ^ (16 - 8 * i) ≤ 255 * 2 ^ 16 := Nat.mul_le_mul (by omega) hp
  have ecast : ((r : Int) * 2 ^ (16 - 8 * i)) = ((r * 2 ^ (16 - 8 * i) : Nat) : Int) := by simp
  rw [ecast, show IntKind.u32.wrap ((r * 2 ^ (16 - 8 * i) : Nat) : Int) = _ from wrapU ⟨by omega, by omega⟩, he]
  have hal : r * 2 ^ (16 - 8 * i) + l < 2 ^ (16 - 8 * i + 8) := by
    have h1 : (r + 1) * 2 ^ (16 - 8 * i) ≤ 2 ^ 8 * 2 ^ (16 - 8 * i) := Nat.mul_le_mul_right _ (by omega)
    rw [Nat.pow_add, Nat.mul_comm (2 ^ (16 - 8 * i))]
    rw [Nat.add_mul, Nat.one_mul] at h1
    omega
  refine (or_disj h l r 8 (16 - 8 * i) hl (by omega) (by omega)).trans ?_
  push_cast
  omega
theorem hi0 (k n : Int) (h0 : 0 ≤ k) (h8 : k ≤ 8) : hi k n 0 = k * 16777216 := by
  have := hi_eq k n 0 h0 h8 (by decide)
  simpa using this
theorem hi16 (k n : Int) (h0 : 0 ≤ k) (h8 : k ≤ 8) : hi k n 16 = k * 16777216 + n % 65536 := hi_eq k n 16 h0 h8 (by decide)
theorem hi24 (k n : Int) (h0 : 0 ≤ k) (h8 : k ≤ 8) : hi k n 24 = k * 16777216 + n % 16777216 := hi_eq k n 24 h0 h8 (by decide)
theorem rg0 (k l a : Int) (h0 : 0 ≤ k) (h8 : k ≤ 255) (l0 : 0 ≤ l) (l1 : l < 65536) : rg (k * 16777216 + l) a 0 = k * 16777216 + l + a % 256 * 65536 := by
  obtain ⟨kn, rfl⟩ := Int.eq_ofNat_of_zero_le h0
  obtain ⟨ln, rfl⟩ := Int.eq_ofNat_of_zero_le l0
  have := rg_eq ((kn : Int) * 16777216 + ln) a kn ln 0 (by decide) (by simp) (by simp; omega) (by simp; omega)
  simpa using this
theorem rg1 (k a : Int) (h0 : 0 ≤ k) (h8 : k ≤ 65535) : rg (k * 65536) a 1 = k * 65536 + a % 256 * 256 := by
  obtain ⟨kn, rfl⟩ := Int.eq_ofNat_of_zero_le h0
  have := rg_eq ((kn : Int) * 65536) a kn 0 1 (by decide) (by simp) (by simp) (by simp; omega)
  simpa using this
theorem rg2 (k a : Int) (h0 : 0 ≤ k) (h8 : k ≤ 16777215) : rg (k * 256) a 2 = k * 256 + a % 256 := by
  obtain ⟨kn, rfl⟩ := Int.eq_ofNat_of_zero_le h0
  have := rg_eq ((kn : Int) * 256) a kn 0 2 (by decide) (by simp) (by simp) (by simp; omega)
  simpa using this
theorem dist_eq (n at_ s : Int) (h : n = at_ + 4 * s) (h1 : -8388608 ≤ s) (h2 : s ≤ 8388607) : dist n at_ = s := by
  unfold dist
  rw [show IntKind.i64.wrap (n - at_) = 4 * s by rw [show n - at_ = 4 * s by omega]; exact wrapI (by omega) (by omega), show (2 : Int) ^ min (Int.toNat 2) IntKind.i64.bits = 4 from by decide, Int.fdiv_eq_ediv_of_nonneg _ (by decide)]
  omega
theorem rg3 (k a b c : Int) (h0 : 0 ≤ k) (h8 : k ≤ 8) (a0 : 0 ≤ a) (a1 : a ≤ 255) (b0 : 0 ≤ b) (b1 : b ≤ 255) : rg (rg (rg (hi k 0 0) a 0) b 1) c 2 = k * 16777216 + a * 65536 + b * 256 + c % 256 := by
  have e0 : hi k 0 0 = k * 16777216 + 0 := by rw [hi0 k 0 h0 h8]; omega
  rw [e0, rg0 k 0 a h0 (by omega) (by decide) (by decide)]
  have e1 : k * 16777216 + 0 + a % 256 * 65536 = (k * 256 + a) * 65536 := by omega
  rw [e1, rg1 _ b (by omega) (by omega)]
  have e2 : (k * 256 + a) * 65536 + b % 256 * 256 = ((k * 256 + a) * 256 + b) * 256 := by omega
  rw [e2, rg2 _ c (by omega) (by omega)]
  omega
/-- A word is made again. -/
theorem G_dec (w at_ : Int) (h : W32 w) (ha : Pl at_) : G (Dec w at_) at_ = w := by
  obtain ⟨h0, h1⟩ := h
  obtain ⟨a0, a1⟩ := ha
  have hd : G (dat w) at_ = w := by
    unfold G dat
    simp only
    rw [if_neg (by decide), if_neg (by decide), if_neg (by decide), if_neg (by decide)]
    exact wrapU ⟨h0, h1⟩
  unfold Dec
  split
  · rename_i ho
    split
    · rename_i hr
      obtain ⟨r1, r2, r3⟩ := hr
      unfold G
      simp only
      rw [if_pos ho]
      have hk : 0 ≤ w / 16777216 ∧ w / 16777216 ≤ 8 := by omega
      rw [rg3 _ _ _ _ hk.1 hk.2 (by omega) (by omega) (by omega) (by omega)]
      omega
    · exact hd
  · split
    · rename_i ho1 ho
      split
      · unfold G
        simp only
        rw [if_neg (by decide), if_pos trivial, hi16 2 _ (by decide) (by decide), rg0 2 _ _ (by decide) (by decide) (by omega) (by omega)]
        omega
      · exact hd
    · split
      · rename_i ho1 ho2 ho
        have r := s24_rng w
        unfold G
        simp only
        rw [if_neg (by omega), if_neg (by omega), if_pos ho, dist_eq _ _ (s24 (w % 16777216)) rfl r.1 r.2, hi24 _ _ (by omega) (by omega)]
        unfold s24
        split <;> omega
      · split
        · rename_i ho1 ho2 ho3 ho
          split
          · have r := s16_rng w
            unfold G
            simp only
            rw [if_neg (by decide), if_neg (by decide), if_neg (by decide), if_pos (by decide), dist_eq _ _ (s16 (w % 65536)) rfl (by omega) (by omega), hi16 7 _ (by decide) (by decide), rg0 7 _ _ (by decide) (by decide) (by omega) (by omega)]
            unfold s16
            split <;> omega
          · exact hd
        · split
          · rename_i ho1 ho2 ho3 ho4 ho
            split
            · unfold G
              simp only
              rw [if_neg (by decide), if_neg (by decide), if_neg (by decide), if_pos (by decide), dist_eq _ _ (w % 65536) rfl (by omega) (by omega), hi16 8 _ (by decide) (by decide), rg0 8 _ _ (by decide) (by decide) (by omega) (by omega)]
              omega
            · exact hd
          · exact hd
theorem dec_inj {w w' at_ : Int} (h : W32 w) (h' : W32 w') (ha : Pl at_) (e : Dec w at_ = Dec w' at_) : w = w' := by
  rw [← G_dec w at_ h ha, ← G_dec w' at_ h' ha, e]
theorem dec_op (w at_ : Int) (h : W32 w) : 0 ≤ (Dec w at_).op ∧ (Dec w at_).op ≤ 8 := by
  obtain ⟨h0, h1⟩ := h
  unfold Dec dat
  (repeat' split) <;> simp only <;> omega
theorem enc_dec (w at_ : Int) (h : W32 w) (ha : Pl at_) : Enc (Dec w at_) at_ = (w, 0) := by
  have := dec_op w at_ h
  unfold Enc
  rw [if_neg (by omega), G_dec w at_ h ha, if_pos rfl]
theorem W32G (x : I5) (at_ : Int) : W32 (G x at_) := by
  unfold G hi rg
  (repeat' split) <;> exact w32_wrap _
/-- What can be encoded is what is decoded. -/
theorem enc_ok {x : I5} {at_ : Int} (h : (Enc x at_).2 = 0) : Dec (Enc x at_).1 at_ = x ∧ W32 (Enc x at_).1 := by
  unfold Enc at h ⊢
  split at h
  · simp at h
  · rename_i ho
    split at h
    · rename_i e
      rw [if_neg ho, if_pos e]
      exact ⟨e, W32G x at_⟩
    · simp at h
theorem enc_err {x : I5} {at_ : Int} (h : (Enc x at_).2 ≠ 0) : Enc x at_ = (0, 20) := by
  unfold Enc at h ⊢
  split
  · rfl
  · split
    · rename_i ho e
      rw [if_neg ho, if_pos e] at h
      exact absurd rfl h
    · rfl
end Go.Proofs.YtgpggoejkkhceaaDoor
