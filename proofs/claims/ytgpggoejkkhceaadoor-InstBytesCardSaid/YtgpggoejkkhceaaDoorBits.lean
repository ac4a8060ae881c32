/-
  Numbers of some bits: masks, shifts, words put together.
-/
import Derived.Test.YtgpggoejkkhceaaDoorVx
namespace Go.Proofs.YtgpggoejkkhceaaDoor.V
open Go.RowKit

theorem wrap_id {k : IntKind} {n : Int} (h : inR k n) : k.wrap n = n := wrap_inR h
theorem wrap_nat {k : IntKind} {n : Nat} (h : n < 2 ^ (k.bits - 1)) : k.wrap (n : Int) = n := by
  refine wrap_inR ?_
  cases k <;> simp [inR, IntKind.min, IntKind.max, IntKind.bits, IntKind.signed] at h ⊢ <;> omega
theorem toNat_ofInt_lt {n : Nat} {a : Int} : (BitVec.ofInt n a).toNat = (a % (2 ^ n : Nat)).toNat := by simp
theorem band_mask (k : IntKind) (a : Int) (m : Nat) (hm : m < k.bits) : k.wrap ((BitVec.ofInt k.bits a &&& BitVec.ofInt k.bits (2 ^ m - 1)).toNat : Int) = a % 2 ^ m := by
  have hp : (2 : Nat) ^ m < 2 ^ k.bits := Nat.pow_lt_pow_right (by decide) hm
  have hpos : 0 < (2 : Nat) ^ m := Nat.two_pow_pos m
  have hposb : 0 < (2 : Nat) ^ k.bits := Nat.two_pow_pos _
  have e1 : (BitVec.ofInt k.bits (2 ^ m - 1)).toNat = 2 ^ m - 1 := by
    rw [toNat_ofInt_lt]
    have h1 : ((2 : Int) ^ m - 1) = ((2 ^ m - 1 : Nat) : Int) := by
      rw [Int.natCast_sub hpos]
      simp
    rw [h1, ← Int.natCast_emod, Int.toNat_natCast]
    exact Nat.mod_eq_of_lt (by omega)
  have e2 : (((BitVec.ofInt k.bits a &&& BitVec.ofInt k.bits (2 ^ m - 1)).toNat : Nat) : Int) = a % 2 ^ m := by
    rw [BitVec.toNat_and, e1, Nat.and_two_pow_sub_one_eq_mod, toNat_ofInt_lt]
    have h0 : 0 ≤ a % ((2 ^ k.bits : Nat) : Int) := Int.emod_nonneg _ (by omega)
    rw [Int.natCast_emod, Int.toNat_of_nonneg h0]
    have hd : (((2 ^ m : Nat) : Int)) ∣ ((2 ^ k.bits : Nat) : Int) := Int.natCast_dvd_natCast.2 (Nat.pow_dvd_pow 2 (Nat.le_of_lt hm))
    rw [Int.emod_emod_of_dvd _ hd]
    simp
  rw [e2]
  have h0 : 0 ≤ a % 2 ^ m := Int.emod_nonneg _ (by have := Int.pow_pos (n := 2) (m := m) (by decide); omega)
  have h1 : a % 2 ^ m < 2 ^ m := Int.emod_lt_of_pos _ (Int.pow_pos (by decide))
  obtain ⟨n, hn⟩ := Int.eq_ofNat_of_zero_le h0
  rw [hn] at h1 ⊢
  apply wrap_nat
  have h2 : n < 2 ^ m := by
    have : ((n : Int)) < ((2 ^ m : Nat) : Int) := by simpa using h1
    exact_mod_cast this
  exact Nat.lt_of_lt_of_le h2 (Nat.pow_le_pow_right (by decide) (by omega))
/-- Two numbers without a bit in common. -/
theorem bor_add (k : IntKind) (a b : Nat) (m : Nat) (hb : b < 2 ^ m) (h : a * 2 ^ m + b < 2 ^ k.bits) (hs : k.signed = true → a * 2 ^ m + b < 2 ^ (k.bits - 1)) : k.wrap ((BitVec.ofInt k.bits ((a * 2 ^ m : Nat) : Int) ||| BitVec.ofInt k.bits (b : Int)).toNat : Int) = ((a * 2 ^ m + b : Nat) : Int) := by
  have e : ∀ n : Nat, n < 2 ^ k.bits → (BitVec.ofInt k.bits (n : Int)).toNat = n := fun n hn => by
    rw [toNat_ofInt_lt, ← Int.natCast_emod, Int.toNat_natCast, Nat.mod_eq_of_lt hn]
  have hor : a * 2 ^ m ||| b = a * 2 ^ m + b := by
    have := Nat.two_pow_add_eq_or_of_lt hb a
    rw [Nat.mul_comm]; exact this.symm
  rw [BitVec.toNat_or, e _ (by omega), e _ (by omega), hor]
  refine wrap_inR ?_
  clear hor e
  generalize a * 2 ^ m + b = c at h hs ⊢
  cases k <;> simp [inR, IntKind.min, IntKind.max, IntKind.bits, IntKind.signed] at h hs ⊢ <;> omega
theorem band255 (k : IntKind) (a : Int) (hk : 8 < k.bits) : k.wrap ((BitVec.ofInt k.bits a &&& BitVec.ofInt k.bits 255).toNat : Int) = a % 256 := band_mask k a 8 hk
end Go.Proofs.YtgpggoejkkhceaaDoor.V
