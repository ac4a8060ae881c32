/-
  Joined texts: TN: Trust, plain: the signatures for a new root.
  TS: Trust, plain: the hash on numbers (for the kernel).
  TT: Trust, plain: the three public keys are different.
  TX: Trust, plain: rotations.
  TY: Trust: Rotates.
  Z4: The law inlaylaw27.TrustRotates returns true for every input, and each argument reads behind the call as it read before: a root is replaced exactly by the next one, if it is not expired and the first key has signed it as both.
  Conditions: the package variables that the row lists hold, when the call begins, what the program's text lays there (the card ties them); no other narrowing.
-/
import Derived.Test.YtokaegeediokoaaGreatDoorQE
import Derived.Test.YtokaegeediokoaaGreatDoorQC
import Derived.SevenTiedAt
section
namespace Go.Proofs.YtokaegeediokoaaGreatDoor
open Go.RowKit V
theorem latS_eq (l : List SigL) : ∀ x, x ≤ l.length → latS l x = ((l.take x).filter fun s => decide (8 ≤ s.key)).map fun s => (⟨s.key - 8, s.ch⟩ : SigL)
  | 0, _ => rfl
  | x + 1, h => by
    rw [latS, latS_eq l x (by omega), List.take_add_one, List.filter_append, List.map_append]
    rw [List.getElem?_eq_getElem (show x < l.length by omega), List.getD_eq_getElem?_getD, List.getElem?_eq_getElem (show x < l.length by omega)]
    simp only [Option.getD_some, Option.toList_some]
    by_cases hp : 8 ≤ (l[x]).key
    · rw [if_pos (decide_eq_true hp), List.filter_cons_of_pos (by simpa using hp)]
      rfl
    · rw [if_neg (by simpa using hp), List.filter_cons_of_neg (by simpa using hp)]
      rfl
theorem sgd_lat (b : List UInt8) (m : UInt8) : ∀ x, (sgd b m 8 x).map (fun s => (⟨s.key - 8, s.ch⟩ : SigL)) = sgd b m 0 x
  | 0 => rfl
  | x + 1 => by
    rw [sgd, sgd, List.map_append, sgd_lat b m x]
    split
    · simp only [List.map_cons, List.map_nil, Int.add_zero, Int.add_sub_cancel]
    · rfl
theorem latS_two (b : List UInt8) (m0 m1 : UInt8) : latS (sgd b m0 0 3 ++ sgd b m1 8 3) (sgd b m0 0 3 ++ sgd b m1 8 3).length = sgd b m1 0 3 := by
  rw [latS_eq _ _ (Nat.le_refl _), List.take_length, List.filter_append]
  have h1 : (sgd b m0 0 3).filter (fun s => decide (8 ≤ s.key)) = [] := by
    rw [List.filter_eq_nil_iff]
    intro s hs
    obtain ⟨i, h1, _, rfl⟩ := (sgd_mem b m0 0 s 3).1 hs
    simp only [decide_eq_true_eq]
    omega
  have h2 : (sgd b m1 8 3).filter (fun s => decide (8 ≤ s.key)) = sgd b m1 8 3 := by
    rw [List.filter_eq_self]
    intro s hs
    obtain ⟨i, h1, _, rfl⟩ := (sgd_mem b m1 8 s 3).1 hs
    simp only [decide_eq_true_eq]
    omega
  rw [h1, h2, List.nil_append]
  exact sgd_lat b m1 3
end Go.Proofs.YtokaegeediokoaaGreatDoor
end
section
namespace Go.Proofs.YtokaegeediokoaaGreatDoor
open Go.RowKit V
set_option maxRecDepth 100000
set_option maxHeartbeats 8000000
set_option linter.unusedSimpArgs false
set_option linter.unusedVariables false
def rotN (x n : Nat) : Nat := Nat.mod (Nat.shiftRight (Nat.mul x 4294967297) n) 4294967296
def t0d (d : Nat) : Nat := Nat.mod (Nat.xor (Nat.xor (Nat.shiftRight d 2) (Nat.shiftRight d 13)) (Nat.shiftRight d 22)) 4294967296
def t1d (d : Nat) : Nat := Nat.mod (Nat.xor (Nat.xor (Nat.shiftRight d 6) (Nat.shiftRight d 11)) (Nat.shiftRight d 25)) 4294967296
def s0d (x d : Nat) : Nat := Nat.xor (Nat.mod (Nat.xor (Nat.shiftRight d 7) (Nat.shiftRight d 18)) 4294967296) (Nat.shiftRight x 3)
def s1d (x d : Nat) : Nat := Nat.xor (Nat.mod (Nat.xor (Nat.shiftRight d 17) (Nat.shiftRight d 19)) 4294967296) (Nat.shiftRight x 10)
def chN (e f g : Nat) : Nat := Nat.xor (Nat.land e f) (Nat.land (Nat.xor 4294967295 e) g)
def mjN (a b c : Nat) : Nat := Nat.xor (Nat.xor (Nat.land a b) (Nat.land a c)) (Nat.land b c)
def uN (k w e f g h : Nat) : Nat := Nat.add (Nat.add (Nat.add (Nat.add h (t1d (Nat.mul e 4294967297))) (chN e f g)) k) w
def vN (a b c : Nat) : Nat := Nat.add (t0d (Nat.mul a 4294967297)) (mjN a b c)
def nxN (w x y z : Nat) : Nat := Nat.mod (Nat.add (Nat.add (Nat.add w (s0d x (Nat.mul x 4294967297))) y) (s1d z (Nat.mul z 4294967297))) 4294967296
abbrev C24 : Type := Nat → Nat → Nat → Nat → Nat → Nat → Nat → Nat → Nat → Nat → Nat → Nat → Nat → Nat → Nat → Nat → Nat → Nat → Nat → Nat → Nat → Nat → Nat → Nat → Nat
def rn (k : Nat) (C : C24) (a b c d e f g h w0 w1 w2 w3 w4 w5 w6 w7 w8 w9 w10 w11 w12 w13 w14 w15 : Nat) : Nat :=
  C (Nat.mod (Nat.add (uN k w0 e f g h) (vN a b c)) 4294967296) a b c (Nat.mod (Nat.add d (uN k w0 e f g h)) 4294967296) e f g w1 w2 w3 w4 w5 w6 w7 w8 w9 w10 w11 w12 w13 w14 w15 (nxN w0 w1 w9 w14)
def uw (x s : Nat) : Nat := Nat.mod (Nat.shiftRight x s) 4294967296
def pk (a b c d e f g h : Nat) : Nat := Nat.add (Nat.mul (Nat.add (Nat.mul (Nat.add (Nat.mul (Nat.add (Nat.mul (Nat.add (Nat.mul (Nat.add (Nat.mul (Nat.add (Nat.mul a 4294967296) b) 4294967296) c) 4294967296) d) 4294967296) e) 4294967296) f) 4294967296) g) 4294967296) h
def fin8 (H a b c d e f g h : Nat) : Nat := pk (Nat.mod (Nat.add (uw H 224) a) 4294967296) (Nat.mod (Nat.add (uw H 192) b) 4294967296) (Nat.mod (Nat.add (uw H 160) c) 4294967296) (Nat.mod (Nat.add (uw H 128) d) 4294967296) (Nat.mod (Nat.add (uw H 96) e) 4294967296) (Nat.mod (Nat.add (uw H 64) f) 4294967296) (Nat.mod (Nat.add (uw H 32) g) 4294967296) (Nat.mod (Nat.add (uw H 0) h) 4294967296)
def finN (H a b c d e f g h _w0 _w1 _w2 _w3 _w4 _w5 _w6 _w7 _w8 _w9 _w10 _w11 _w12 _w13 _w14 _w15 : Nat) : Nat := fin8 H a b c d e f g h
def blkN (H B : Nat) : Nat :=
  (rn 1116352408 <| rn 1899447441 <| rn 3049323471 <| rn 3921009573 <| rn 961987163 <| rn 1508970993 <| rn 2453635748 <| rn 2870763221 <| rn 3624381080 <| rn 310598401 <| rn 607225278 <| rn 1426881987 <| rn 1925078388 <| rn 2162078206 <| rn 2614888103 <| rn 3248222580 <| rn 3835390401 <| rn 4022224774 <| rn 264347078 <| rn 604807628 <| rn 770255983 <| rn 1249150122 <| rn 1555081692 <| rn 1996064986 <| rn 2554220882 <| rn 2821834349 <| rn 2952996808 <| rn 3210313671 <| rn 3336571891 <| rn 3584528711 <| rn 113926993 <| rn 338241895 <| rn 666307205 <| rn 773529912 <| rn 1294757372 <| rn 1396182291 <| rn 1695183700 <| rn 1986661051 <| rn 2177026350 <| rn 2456956037 <| rn 2730485921 <| rn 2820302411 <| rn 3259730800 <| rn 3345764771 <| rn 3516065817 <| rn 3600352804 <| rn 4094571909 <| rn 275423344 <| rn 430227734 <| rn 506948616 <| rn 659060556 <| rn 883997877 <| rn 958139571 <| rn 1322822218 <| rn 1537002063 <| rn 1747873779 <| rn 1955562222 <| rn 2024104815 <| rn 2227730452 <| rn 2361852424 <| rn 2428436474 <| rn 2756734187 <| rn 3204031479 <| rn 3329325298 <| finN H) (uw H 224) (uw H 192) (uw H 160) (uw H 128) (uw H 96) (uw H 64) (uw H 32) (uw H 0) (uw B 480) (uw B 448) (uw B 416) (uw B 384) (uw B 352) (uw B 320) (uw B 288) (uw B 256) (uw B 224) (uw B 192) (uw B 160) (uw B 128) (uw B 96) (uw B 64) (uw B 32) (uw B 0)
def frc (n : Nat) (f : Nat → Nat) : Nat := match n with | 0 => f 0 | Nat.succ m => f (Nat.succ m)
theorem frc_eq (n : Nat) (f : Nat → Nat) : frc n f = f n := by cases n <;> rfl
def h0N : Nat := 47962653771679561900652889051773562940742041696833059450490514104358170316057
def kN : List Nat := [1116352408, 1899447441, 3049323471, 3921009573, 961987163, 1508970993, 2453635748, 2870763221, 3624381080, 310598401, 607225278, 1426881987, 1925078388, 2162078206, 2614888103, 3248222580, 3835390401, 4022224774, 264347078, 604807628, 770255983, 1249150122, 1555081692, 1996064986, 2554220882, 2821834349, 2952996808, 3210313671, 3336571891, 3584528711, 113926993, 338241895, 666307205, 773529912, 1294757372, 1396182291, 1695183700, 1986661051, 2177026350, 2456956037, 2730485921, 2820302411, 3259730800, 3345764771, 3516065817, 3600352804, 4094571909, 275423344, 430227734, 506948616, 659060556, 883997877, 958139571, 1322822218, 1537002063, 1747873779, 1955562222, 2024104815, 2227730452, 2361852424, 2428436474, 2756734187, 3204031479, 3329325298]
def goN : List Nat → C24 → C24
  | [], C => C
  | k :: r, C => rn k (goN r C)
theorem blkN_go (H B : Nat) : blkN H B = goN kN (finN H) (uw H 224) (uw H 192) (uw H 160) (uw H 128) (uw H 96) (uw H 64) (uw H 32) (uw H 0) (uw B 480) (uw B 448) (uw B 416) (uw B 384) (uw B 352) (uw B 320) (uw B 288) (uw B 256) (uw B 224) (uw B 192) (uw B 160) (uw B 128) (uw B 96) (uw B 64) (uw B 32) (uw B 0) := by
  unfold blkN kN
  simp only [goN]
theorem wrap_u32 (x : Int) : IntKind.u32.wrap x = x % 4294967296 := by
  simp [IntKind.wrap, IntKind.bits, IntKind.signed]
theorem a32_nat (x y : Nat) : a32 (x : Int) (y : Int) = ((Nat.mod (Nat.add x y) 4294967296 : Nat) : Int) := by
  unfold a32
  rw [wrap_u32]
  show ((x : Int) + y) % 4294967296 = (((x + y) % 4294967296 : Nat) : Int)
  omega
theorem bv32 (x : Nat) (h : x < 4294967296) : (BitVec.ofInt IntKind.u32.bits (x : Int)).toNat = x := by
  rw [toNat_ofInt_lt]
  show ((x : Int) % ((2 ^ 32 : Nat) : Int)).toNat = x
  omega
theorem wrap_lt (x : Nat) (h : x < 4294967296) : IntKind.u32.wrap (x : Int) = (x : Int) := by rw [wrap_u32]; omega
theorem xor_lt (x y : Nat) (hx : x < 4294967296) (hy : y < 4294967296) : Nat.xor x y < 4294967296 := Nat.xor_lt_two_pow (n := 32) hx hy
theorem land_lt (x y : Nat) (hy : y < 4294967296) : Nat.land x y < 4294967296 := Nat.and_lt_two_pow (n := 32) x hy
theorem lor_lt (x y : Nat) (hx : x < 4294967296) (hy : y < 4294967296) : Nat.lor x y < 4294967296 := Nat.or_lt_two_pow (n := 32) hx hy
theorem x32_nat (x y : Nat) (hx : x < 4294967296) (hy : y < 4294967296) : x32 (x : Int) (y : Int) = ((Nat.xor x y : Nat) : Int) := by
  unfold x32
  rw [BitVec.toNat_xor, bv32 x hx, bv32 y hy]
  exact wrap_lt _ (xor_lt x y hx hy)
theorem n32_nat (x y : Nat) (hx : x < 4294967296) (hy : y < 4294967296) : n32 (x : Int) (y : Int) = ((Nat.land x y : Nat) : Int) := by
  unfold n32
  rw [BitVec.toNat_and, bv32 x hx, bv32 y hy]
  exact wrap_lt _ (land_lt x y hy)
theorem o32_nat (x y : Nat) (hx : x < 4294967296) (hy : y < 4294967296) : o32 (x : Int) (y : Int) = ((Nat.lor x y : Nat) : Int) := by
  unfold o32
  rw [BitVec.toNat_or, bv32 x hx, bv32 y hy]
  exact wrap_lt _ (lor_lt x y hx hy)
theorem c32_nat (x : Nat) (hx : x < 4294967296) : c32 (x : Int) = ((Nat.xor 4294967295 x : Nat) : Int) := by
  unfold c32
  rw [if_neg (by decide), show IntKind.u32.max = ((4294967295 : Nat) : Int) from rfl, BitVec.toNat_xor, bv32 _ (by decide), bv32 x hx]
  exact wrap_lt _ (xor_lt _ x (by decide) hx)
theorem sr32_nat (x n : Nat) (hn : n ≤ 32) : sr32 (x : Int) (n : Int) = ((x / 2 ^ n : Nat) : Int) := by
  unfold sr32
  rw [Int.toNat_natCast, show min n IntKind.u32.bits = n from Nat.min_eq_left hn, Int.fdiv_eq_ediv_of_nonneg _ (Int.pow_nonneg (by decide)), Int.natCast_ediv, Int.natCast_pow]
  rfl
theorem sl32_nat (x n : Nat) (hn : n ≤ 32) : sl32 (x : Int) (n : Int) = ((x * 2 ^ n % 4294967296 : Nat) : Int) := by
  unfold sl32
  rw [Int.toNat_natCast, show min n IntKind.u32.bits = n from Nat.min_eq_left hn, wrap_u32, Int.natCast_emod, Int.natCast_mul, Int.natCast_pow]
  rfl
theorem or_rot (x n : Nat) (hx : x < 4294967296) (hn2 : n ≤ 32) : Nat.lor (x / 2 ^ n) (x * 2 ^ (32 - n) % 2 ^ 32) = 2 ^ (32 - n) * (x % 2 ^ n) + x / 2 ^ n := by
  have e : 2 ^ 32 = 2 ^ n * 2 ^ (32 - n) := by rw [← Nat.pow_add]; congr 1; omega
  have h1 : x * 2 ^ (32 - n) % 2 ^ 32 = 2 ^ (32 - n) * (x % 2 ^ n) := by rw [e, Nat.mul_mod_mul_right, Nat.mul_comm]
  have h2 : x / 2 ^ n < 2 ^ (32 - n) := by
    rw [Nat.div_lt_iff_lt_mul (Nat.two_pow_pos n), Nat.mul_comm, ← e]
    exact hx
  rw [h1]
  show (x / 2 ^ n) ||| (2 ^ (32 - n) * (x % 2 ^ n)) = _
  rw [Nat.or_comm]
  exact (Nat.two_pow_add_eq_or_of_lt h2 _).symm
theorem rot_eq (x n : Nat) (hx : x < 4294967296) (hn2 : n ≤ 32) : x * 4294967297 / 2 ^ n % 4294967296 = 2 ^ (32 - n) * (x % 2 ^ n) + x / 2 ^ n := by
  have e : 2 ^ n * 2 ^ (32 - n) = 4294967296 := by rw [← Nat.pow_add, show n + (32 - n) = 32 by omega]
  have hp : 0 < 2 ^ n := Nat.two_pow_pos n
  generalize 2 ^ n = p at *
  generalize 2 ^ (32 - n) = q at *
  have h1 : x * 4294967297 = p * (q * x) + x := by
    rw [← Nat.mul_assoc, e]; omega
  have h2 : x / p < q := by
    rw [Nat.div_lt_iff_lt_mul hp, Nat.mul_comm, e]
    exact hx
  have h3 : q * (x % p) + q ≤ 4294967296 := by
    rw [← e, Nat.mul_comm p q, ← Nat.mul_succ]
    exact Nat.mul_le_mul_left _ (Nat.mod_lt _ hp)
  have h4 : q * x = 4294967296 * (x / p) + q * (x % p) := by
    rw [← e, Nat.mul_comm p q, Nat.mul_assoc, ← Nat.mul_add, Nat.div_add_mod]
  rw [h1, Nat.mul_add_div hp, h4, Nat.add_assoc, Nat.mul_add_mod, Nat.mod_eq_of_lt (by omega)]
theorem ror_nat (x n : Nat) (hx : x < 4294967296) (hn : n ∈ [2, 6, 7, 11, 13, 17, 18, 19, 22, 25]) : ror (x : Int) (n : Int) = ((rotN x n : Nat) : Int) := by
  have hn2 : n ≤ 32 := by simp only [List.mem_cons, List.mem_nil_iff, or_false] at hn; omega
  have h1 : x / 2 ^ n < 4294967296 := Nat.lt_of_le_of_lt (Nat.div_le_self _ _) hx
  unfold ror
  rw [show (32 : Int) - (n : Int) = ((32 - n : Nat) : Int) by omega, sr32_nat x n hn2, sl32_nat x (32 - n) (by omega), o32_nat _ _ h1 (Nat.mod_lt _ (by decide))]
  refine congrArg Nat.cast ?_
  have h3 := or_rot x n hx hn2
  refine h3.trans ?_
  unfold rotN
  show _ = (Nat.shiftRight (x * 4294967297) n) % 4294967296
  rw [show Nat.shiftRight (x * 4294967297) n = (x * 4294967297) / 2 ^ n from Nat.shiftRight_eq_div_pow _ _]
  clear h3 h1
  exact (rot_eq x n hx hn2).symm
theorem rotN_lt (x n : Nat) : rotN x n < 4294967296 := Nat.mod_lt _ (by decide)
theorem xor_mod (x y : Nat) : Nat.mod (Nat.xor x y) 4294967296 = Nat.xor (Nat.mod x 4294967296) (Nat.mod y 4294967296) := Nat.xor_mod_two_pow (n := 32)
theorem big0_nat (x : Nat) (hx : x < 4294967296) : big0 (x : Int) = ((t0d (Nat.mul x 4294967297) : Nat) : Int) := by
  unfold big0 t0d
  rw [xor_mod, xor_mod]
  rw [show (2 : Int) = ((2 : Nat) : Int) from rfl, show (13 : Int) = ((13 : Nat) : Int) from rfl, show (22 : Int) = ((22 : Nat) : Int) from rfl, ror_nat x 2 hx (by decide), ror_nat x 13 hx (by decide), ror_nat x 22 hx (by decide), x32_nat _ _ (rotN_lt _ _) (rotN_lt _ _), x32_nat _ _ (xor_lt _ _ (rotN_lt _ _) (rotN_lt _ _)) (rotN_lt _ _)]
  rfl
theorem big1_nat (x : Nat) (hx : x < 4294967296) : big1 (x : Int) = ((t1d (Nat.mul x 4294967297) : Nat) : Int) := by
  unfold big1 t1d
  rw [xor_mod, xor_mod]
  rw [show (6 : Int) = ((6 : Nat) : Int) from rfl, show (11 : Int) = ((11 : Nat) : Int) from rfl, show (25 : Int) = ((25 : Nat) : Int) from rfl, ror_nat x 6 hx (by decide), ror_nat x 11 hx (by decide), ror_nat x 25 hx (by decide), x32_nat _ _ (rotN_lt _ _) (rotN_lt _ _), x32_nat _ _ (xor_lt _ _ (rotN_lt _ _) (rotN_lt _ _)) (rotN_lt _ _)]
  rfl
theorem shr_lt (x n : Nat) (hx : x < 4294967296) : x / 2 ^ n < 4294967296 := Nat.lt_of_le_of_lt (Nat.div_le_self _ _) hx
theorem sg0_nat (x : Nat) (hx : x < 4294967296) : sg0 (x : Int) = ((s0d x (Nat.mul x 4294967297) : Nat) : Int) := by
  unfold sg0 s0d
  rw [xor_mod]
  rw [show (7 : Int) = ((7 : Nat) : Int) from rfl, show (18 : Int) = ((18 : Nat) : Int) from rfl, show (3 : Int) = ((3 : Nat) : Int) from rfl, ror_nat x 7 hx (by decide), ror_nat x 18 hx (by decide), sr32_nat x 3 (by decide), x32_nat _ _ (rotN_lt _ _) (rotN_lt _ _), x32_nat _ _ (xor_lt _ _ (rotN_lt _ _) (rotN_lt _ _)) (shr_lt x 3 hx), ← show Nat.shiftRight x 3 = x / 2 ^ 3 from Nat.shiftRight_eq_div_pow _ _]
  rfl
theorem sg1_nat (x : Nat) (hx : x < 4294967296) : sg1 (x : Int) = ((s1d x (Nat.mul x 4294967297) : Nat) : Int) := by
  unfold sg1 s1d
  rw [xor_mod]
  rw [show (17 : Int) = ((17 : Nat) : Int) from rfl, show (19 : Int) = ((19 : Nat) : Int) from rfl, show (10 : Int) = ((10 : Nat) : Int) from rfl, ror_nat x 17 hx (by decide), ror_nat x 19 hx (by decide), sr32_nat x 10 (by decide), x32_nat _ _ (rotN_lt _ _) (rotN_lt _ _), x32_nat _ _ (xor_lt _ _ (rotN_lt _ _) (rotN_lt _ _)) (shr_lt x 10 hx), ← show Nat.shiftRight x 10 = x / 2 ^ 10 from Nat.shiftRight_eq_div_pow _ _]
  rfl
theorem nxw_nat (w x y z : Nat) (hx : x < 4294967296) (hz : z < 4294967296) : a32 (a32 (a32 (w : Int) (sg0 (x : Int))) (y : Int)) (sg1 (z : Int)) = ((nxN w x y z : Nat) : Int) := by
  rw [sg0_nat x hx, sg1_nat z hz, a32_nat, a32_nat, a32_nat]
  refine congrArg Nat.cast ?_
  unfold nxN
  generalize s0d x (Nat.mul x 4294967297) = p
  generalize s1d z (Nat.mul z 4294967297) = q
  show (((w + p) % 4294967296 + y) % 4294967296 + q) % 4294967296 = (w + p + y + q) % 4294967296
  omega
structure N8 where
  a : Nat
  b : Nat
  c : Nat
  d : Nat
  e : Nat
  f : Nat
  g : Nat
  h : Nat
def N8.i (s : N8) : H8 := ⟨s.a, s.b, s.c, s.d, s.e, s.f, s.g, s.h⟩
structure N8.ok (s : N8) : Prop where
  a : s.a < 4294967296
  b : s.b < 4294967296
  c : s.c < 4294967296
  d : s.d < 4294967296
  e : s.e < 4294967296
  f : s.f < 4294967296
  g : s.g < 4294967296
  h : s.h < 4294967296
def N8.p (s : N8) : Nat := pk s.a s.b s.c s.d s.e s.f s.g s.h
def rndN (k w : Nat) (s : N8) : N8 := ⟨Nat.mod (Nat.add (uN k w s.e s.f s.g s.h) (vN s.a s.b s.c)) 4294967296, s.a, s.b, s.c, Nat.mod (Nat.add s.d (uN k w s.e s.f s.g s.h)) 4294967296, s.e, s.f, s.g⟩
theorem rndN_ok (k w : Nat) (s : N8) (h : s.ok) : (rndN k w s).ok := ⟨Nat.mod_lt _ (by decide), h.a, h.b, h.c, Nat.mod_lt _ (by decide), h.e, h.f, h.g⟩
theorem uOf_nat (k w : Nat) (s : N8) (h : s.ok) : uOf (k : Int) (w : Int) s.i = ((Nat.mod (uN k w s.e s.f s.g s.h) 4294967296 : Nat) : Int) := by
  unfold uOf N8.i
  dsimp only
  rw [big1_nat _ h.e, n32_nat _ _ h.e h.f, c32_nat _ h.e, n32_nat _ _ (xor_lt _ _ (by decide) h.e) h.g, x32_nat _ _ (land_lt _ _ h.f) (land_lt _ _ h.g), a32_nat, a32_nat, a32_nat, a32_nat]
  refine congrArg Nat.cast ?_
  unfold uN chN
  generalize t1d (Nat.mul s.e 4294967297) = p
  generalize Nat.xor (Nat.land s.e s.f) (Nat.land (Nat.xor 4294967295 s.e) s.g) = q
  show ((((s.h + p) % 4294967296 + q) % 4294967296 + k) % 4294967296 + w) % 4294967296 = (s.h + p + q + k + w) % 4294967296
  omega
theorem vOf_nat (s : N8) (h : s.ok) : vOf s.i = ((Nat.mod (vN s.a s.b s.c) 4294967296 : Nat) : Int) := by
  unfold vOf N8.i
  dsimp only
  rw [big0_nat _ h.a, n32_nat _ _ h.a h.b, n32_nat _ _ h.a h.c, n32_nat _ _ h.b h.c, x32_nat _ _ (land_lt _ _ h.b) (land_lt _ _ h.c), x32_nat _ _ (xor_lt _ _ (land_lt _ _ h.b) (land_lt _ _ h.c)) (land_lt _ _ h.c), a32_nat]
  rfl
theorem rnd_nat (k w : Nat) (s : N8) (h : s.ok) : rnd (k : Int) (w : Int) s.i = (rndN k w s).i := by
  have h1 := uOf_nat k w s h
  have h2 := vOf_nat s h
  unfold rnd
  rw [h1, h2, a32_nat, show s.i.d = ((s.d : Nat) : Int) from rfl, a32_nat]
  unfold rndN
  generalize uN k w s.e s.f s.g s.h = p
  generalize vN s.a s.b s.c = q
  have e1 : Nat.mod (Nat.add (Nat.mod p 4294967296) (Nat.mod q 4294967296)) 4294967296 = Nat.mod (Nat.add p q) 4294967296 := by
    show (p % 4294967296 + q % 4294967296) % 4294967296 = (p + q) % 4294967296
    omega
  have e2 : Nat.mod (Nat.add s.d (Nat.mod p 4294967296)) 4294967296 = Nat.mod (Nat.add s.d p) 4294967296 := by
    show (s.d + p % 4294967296) % 4294967296 = (s.d + p) % 4294967296
    omega
  rw [e1, e2]
  rfl
def rnN (w : Nat → Nat) (s : N8) : Nat → N8
  | 0 => s
  | n + 1 => rndN (kN.getD n 0) (w n) (rnN w s n)
theorem rnN_ok (w : Nat → Nat) (s : N8) (h : s.ok) : ∀ n, (rnN w s n).ok
  | 0 => h
  | n + 1 => rndN_ok _ _ _ (rnN_ok w s h n)
theorem kN_get : ∀ n, n < 64 → kL.getD n 0 = ((kN.getD n 0 : Nat) : Int) := by decide
theorem rnds_nat (W : List Int) (w : Nat → Nat) (s : N8) (h : s.ok) (hw : ∀ n, n < 64 → W.getD n 0 = (w n : Int)) : ∀ n, n ≤ 64 → rnds kL W s.i n = (rnN w s n).i
  | 0, _ => rfl
  | n + 1, hn => by
    rw [rnds, rnds_nat W w s h hw n (by omega), kN_get n (by omega), hw n (by omega), rnd_nat _ _ _ (rnN_ok w s h n)]
    rfl
theorem goN_rn (H : Nat) (w : Nat → Nat) (hw : ∀ j, w (j + 16) = nxN (w j) (w (j + 1)) (w (j + 9)) (w (j + 14))) (s0 : N8) : ∀ (m i : Nat), i + m = 64 → goN (kN.drop i) (finN H) (rnN w s0 i).a (rnN w s0 i).b (rnN w s0 i).c (rnN w s0 i).d (rnN w s0 i).e (rnN w s0 i).f (rnN w s0 i).g (rnN w s0 i).h (w i) (w (i + 1)) (w (i + 2)) (w (i + 3)) (w (i + 4)) (w (i + 5)) (w (i + 6)) (w (i + 7)) (w (i + 8)) (w (i + 9)) (w (i + 10)) (w (i + 11)) (w (i + 12)) (w (i + 13)) (w (i + 14)) (w (i + 15)) = fin8 H (rnN w s0 64).a (rnN w s0 64).b (rnN w s0 64).c (rnN w s0 64).d (rnN w s0 64).e (rnN w s0 64).f (rnN w s0 64).g (rnN w s0 64).h
  | 0, i, h => by
    obtain rfl : i = 64 := by omega
    rfl
  | m + 1, i, h => by
    have hi : i < kN.length := by show i < 64; omega
    rw [List.drop_eq_getElem_cons hi, goN]
    have e : kN[i] = kN.getD i 0 := by rw [List.getD_eq_getElem?_getD, List.getElem?_eq_getElem hi]; rfl
    have ih := goN_rn H w hw s0 m (i + 1) (by omega)
    rw [rn, e, ← hw i]
    exact ih
theorem uw_pk (s : N8) (h : s.ok) : uw s.p 224 = s.a ∧ uw s.p 192 = s.b ∧ uw s.p 160 = s.c ∧ uw s.p 128 = s.d ∧ uw s.p 96 = s.e ∧ uw s.p 64 = s.f ∧ uw s.p 32 = s.g ∧ uw s.p 0 = s.h := by
  obtain ⟨h1, h2, h3, h4, h5, h6, h7, h8⟩ := h
  unfold uw N8.p pk
  generalize s.a = a at *
  generalize s.b = b at *
  generalize s.c = c at *
  generalize s.d = d at *
  generalize s.e = e at *
  generalize s.f = f at *
  generalize s.g = g at *
  generalize s.h = h at *
  refine ⟨?_, ?_, ?_, ?_, ?_, ?_, ?_, ?_⟩
  · show (Nat.shiftRight (((((((a * 4294967296 + b) * 4294967296 + c) * 4294967296 + d) * 4294967296 + e) * 4294967296 + f) * 4294967296 + g) * 4294967296 + h) 224) % 4294967296 = a
    rw [show ∀ x, Nat.shiftRight x 224 = x / 2 ^ 224 from fun x => Nat.shiftRight_eq_div_pow _ _]
    omega
  · show (Nat.shiftRight (((((((a * 4294967296 + b) * 4294967296 + c) * 4294967296 + d) * 4294967296 + e) * 4294967296 + f) * 4294967296 + g) * 4294967296 + h) 192) % 4294967296 = b
    rw [show ∀ x, Nat.shiftRight x 192 = x / 2 ^ 192 from fun x => Nat.shiftRight_eq_div_pow _ _]
    omega
  · show (Nat.shiftRight (((((((a * 4294967296 + b) * 4294967296 + c) * 4294967296 + d) * 4294967296 + e) * 4294967296 + f) * 4294967296 + g) * 4294967296 + h) 160) % 4294967296 = c
    rw [show ∀ x, Nat.shiftRight x 160 = x / 2 ^ 160 from fun x => Nat.shiftRight_eq_div_pow _ _]
    omega
  · show (Nat.shiftRight (((((((a * 4294967296 + b) * 4294967296 + c) * 4294967296 + d) * 4294967296 + e) * 4294967296 + f) * 4294967296 + g) * 4294967296 + h) 128) % 4294967296 = d
    rw [show ∀ x, Nat.shiftRight x 128 = x / 2 ^ 128 from fun x => Nat.shiftRight_eq_div_pow _ _]
    omega
  · show (Nat.shiftRight (((((((a * 4294967296 + b) * 4294967296 + c) * 4294967296 + d) * 4294967296 + e) * 4294967296 + f) * 4294967296 + g) * 4294967296 + h) 96) % 4294967296 = e
    rw [show ∀ x, Nat.shiftRight x 96 = x / 2 ^ 96 from fun x => Nat.shiftRight_eq_div_pow _ _]
    omega
  · show (Nat.shiftRight (((((((a * 4294967296 + b) * 4294967296 + c) * 4294967296 + d) * 4294967296 + e) * 4294967296 + f) * 4294967296 + g) * 4294967296 + h) 64) % 4294967296 = f
    rw [show ∀ x, Nat.shiftRight x 64 = x / 2 ^ 64 from fun x => Nat.shiftRight_eq_div_pow _ _]
    omega
  · show (Nat.shiftRight (((((((a * 4294967296 + b) * 4294967296 + c) * 4294967296 + d) * 4294967296 + e) * 4294967296 + f) * 4294967296 + g) * 4294967296 + h) 32) % 4294967296 = g
    rw [show ∀ x, Nat.shiftRight x 32 = x / 2 ^ 32 from fun x => Nat.shiftRight_eq_div_pow _ _]
    omega
  · show (Nat.shiftRight (((((((a * 4294967296 + b) * 4294967296 + c) * 4294967296 + d) * 4294967296 + e) * 4294967296 + f) * 4294967296 + g) * 4294967296 + h) 0) % 4294967296 = h
    rw [show ∀ x, Nat.shiftRight x 0 = x / 2 ^ 0 from fun x => Nat.shiftRight_eq_div_pow _ _]
    omega
def be (l : List UInt8) : Nat := l.foldl (fun a b => a * 256 + b.toNat) 0
theorem be_acc : ∀ (l : List UInt8) (a : Nat), l.foldl (fun a b => a * 256 + b.toNat) a = a * 256 ^ l.length + be l
  | [], a => by simp [be]
  | x :: l, a => by
    have h1 := be_acc l (a * 256 + x.toNat)
    have h2 := be_acc l (0 * 256 + x.toNat)
    show l.foldl _ (a * 256 + x.toNat) = a * 256 ^ (l.length + 1) + l.foldl _ (0 * 256 + x.toNat)
    rw [h1, h2, Nat.pow_succ]
    generalize 256 ^ l.length = p
    simp only [Nat.zero_mul, Nat.zero_add, Nat.add_mul, Nat.mul_assoc, Nat.mul_comm 256 p, Nat.add_assoc]
theorem be_app (l m : List UInt8) : be (l ++ m) = be l * 256 ^ m.length + be m := by
  rw [be, List.foldl_append, be_acc]
  rfl
theorem be_lt : ∀ l : List UInt8, be l < 256 ^ l.length
  | [] => by decide
  | x :: l => by
    have h1 := be_lt l
    have h2 := x.toNat_lt
    rw [show x :: l = [x] ++ l from rfl, be_app, List.length_append, List.length_singleton, Nat.pow_add, Nat.pow_one]
    have e : be [x] = x.toNat := by simp [be]
    rw [e]
    have : (x.toNat + 1) * 256 ^ l.length ≤ 256 * 256 ^ l.length := Nat.mul_le_mul_right _ (by omega)
    rw [Nat.add_mul, Nat.one_mul] at this
    omega
theorem be_mid (p q r : List UInt8) : be (p ++ q ++ r) / 256 ^ r.length % 256 ^ q.length = be q := by
  rw [be_app, be_app, Nat.mul_comm _ (256 ^ r.length), Nat.mul_add_div (Nat.pow_pos (by decide)), Nat.div_eq_of_lt (be_lt r), Nat.add_zero, Nat.mul_comm (be p), Nat.mul_add_mod, Nat.mod_eq_of_lt (be_lt q)]
theorem be4 (a b c d : UInt8) : be [a, b, c, d] = ((a.toNat * 256 + b.toNat) * 256 + c.toNat) * 256 + d.toNat := by simp [be]
theorem get4 (l : List UInt8) (t : Nat) (h : t + 4 ≤ l.length) : l = l.take t ++ [l.getD t 0, l.getD (t + 1) 0, l.getD (t + 2) 0, l.getD (t + 3) 0] ++ l.drop (t + 4) := by
  have g : ∀ i (hi : i < l.length), l[i] = l.getD i 0 := fun i hi => by rw [List.getD_eq_getElem?_getD, List.getElem?_eq_getElem hi]; rfl
  have e : l.drop t = l.getD t 0 :: l.getD (t + 1) 0 :: l.getD (t + 2) 0 :: l.getD (t + 3) 0 :: l.drop (t + 4) := by
    rw [List.drop_eq_getElem_cons (show t < l.length by omega), List.drop_eq_getElem_cons (show t + 1 < l.length by omega), List.drop_eq_getElem_cons (show t + 1 + 1 < l.length by omega), List.drop_eq_getElem_cons (show t + 1 + 1 + 1 < l.length by omega), g, g, g, g]
  rw [List.append_assoc]
  refine (List.take_append_drop t l).symm.trans ?_
  rw [e]
  rfl
theorem lor_add (a b n : Nat) (h : b < 2 ^ n) : Nat.lor (a * 2 ^ n) b = a * 2 ^ n + b := by
  rw [Nat.mul_comm]
  exact (Nat.two_pow_add_eq_or_of_lt h a).symm
theorem wd_nat (b : List UInt8) (t : Nat) : wd b t = ((be [b.getD (4 * t) 0, b.getD (4 * t + 1) 0, b.getD (4 * t + 2) 0, b.getD (4 * t + 3) 0] : Nat) : Int) := by
  unfold wd
  rw [show (4 * (t : Int)).toNat = 4 * t by omega, show (4 * (t : Int) + 1).toNat = 4 * t + 1 by omega, show (4 * (t : Int) + 2).toNat = 4 * t + 2 by omega, show (4 * (t : Int) + 3).toNat = 4 * t + 3 by omega, be4]
  have h0 := (b.getD (4 * t) 0).toNat_lt
  have h1 := (b.getD (4 * t + 1) 0).toNat_lt
  have h2 := (b.getD (4 * t + 2) 0).toNat_lt
  have h3 := (b.getD (4 * t + 3) 0).toNat_lt
  generalize (b.getD (4 * t) 0).toNat = x at *
  generalize (b.getD (4 * t + 1) 0).toNat = y at *
  generalize (b.getD (4 * t + 2) 0).toNat = z at *
  generalize (b.getD (4 * t + 3) 0).toNat = u at *
  rw [show (24 : Int) = ((24 : Nat) : Int) from rfl, show (16 : Int) = ((16 : Nat) : Int) from rfl, show (8 : Int) = ((8 : Nat) : Int) from rfl, sl32_nat x 24 (by decide), sl32_nat y 16 (by decide), sl32_nat z 8 (by decide)]
  rw [show x * 2 ^ 24 % 4294967296 = x * 256 * 2 ^ 16 + 0 by omega, show y * 2 ^ 16 % 4294967296 = y * 2 ^ 16 by omega, show z * 2 ^ 8 % 4294967296 = z * 2 ^ 8 by omega]
  rw [o32_nat _ _ (by omega) (by omega), Nat.add_zero]
  rw [show Nat.lor (x * 256 * 2 ^ 16) (y * 2 ^ 16) = (x * 256 + y) * 256 * 2 ^ 8 by
    have := lor_add x (y * 2 ^ 16) 24 (by omega)
    rw [show x * 256 * 2 ^ 16 = x * 2 ^ 24 by omega, this]; omega]
  rw [o32_nat _ _ (by omega) (by omega)]
  rw [show Nat.lor ((x * 256 + y) * 256 * 2 ^ 8) (z * 2 ^ 8) = ((x * 256 + y) * 256 + z) * 2 ^ 8 by
    have := lor_add (x * 256 + y) (z * 2 ^ 8) 16 (by omega)
    rw [show (x * 256 + y) * 256 * 2 ^ 8 = (x * 256 + y) * 2 ^ 16 by omega, this]; omega]
  rw [o32_nat _ _ (by omega) (by omega), lor_add _ u 8 (by omega)]
theorem uw_be (l : List UInt8) (t : Nat) (hl : l.length = 64) (ht : t < 16) : uw (be l) (480 - 32 * t) = be [l.getD (4 * t) 0, l.getD (4 * t + 1) 0, l.getD (4 * t + 2) 0, l.getD (4 * t + 3) 0] := by
  have h1 := get4 l (4 * t) (by omega)
  have h2 := be_mid (l.take (4 * t)) [l.getD (4 * t) 0, l.getD (4 * t + 1) 0, l.getD (4 * t + 2) 0, l.getD (4 * t + 3) 0] (l.drop (4 * t + 4))
  rw [← h1, List.length_drop, hl] at h2
  unfold uw
  show (Nat.shiftRight (be l) (480 - 32 * t)) % 4294967296 = _
  rw [show Nat.shiftRight (be l) (480 - 32 * t) = be l / 2 ^ (480 - 32 * t) from Nat.shiftRight_eq_div_pow _ _]
  rw [show 256 ^ (64 - (4 * t + 4)) = 2 ^ (480 - 32 * t) by
    rw [show (480 - 32 * t) = 8 * (64 - (4 * t + 4)) by omega, Nat.pow_mul]] at h2
  have e4 : ∀ a b c d : UInt8, 256 ^ [a, b, c, d].length = 4294967296 := fun _ _ _ _ => by simp
  rw [e4] at h2
  exact h2
def WN (l : List UInt8) (i : Nat) : Nat := ((schL l i).getD i 0).toNat
theorem sch_app (l : List UInt8) (i : Nat) : ∀ n m, i < 16 + n → (schL l (n + m)).getD i 0 = (schL l n).getD i 0
  | n, 0, h => rfl
  | n, m + 1, h => by
    rw [show n + (m + 1) = (n + m) + 1 from rfl, schL, getD_app _ _ _ (by rw [schL_len]; omega)]
    exact sch_app l i n m h
theorem sch_any (l : List UInt8) (i n : Nat) (h : i < 16 + n) : (schL l n).getD i 0 = (schL l i).getD i 0 := by
  rcases Nat.le_total n i with h1 | h1
  · obtain ⟨m, rfl⟩ := Nat.exists_eq_add_of_le h1
    exact (sch_app l (n + m) n m h).symm
  · obtain ⟨m, rfl⟩ := Nat.exists_eq_add_of_le h1
    exact sch_app l i i m (by omega)
theorem getD_last (l : List Int) (x : Int) : (l ++ [x]).getD l.length 0 = x := by
  rw [List.getD_eq_getElem?_getD, List.getElem?_append_right (Nat.le_refl _), Nat.sub_self]
  rfl
theorem sch_nat (l : List UInt8) : ∀ n i, i < n → (schL l i).getD i 0 = ((WN l i : Nat) : Int) ∧ WN l i < 4294967296 ∧ (∀ j, i = j + 16 → WN l i = nxN (WN l j) (WN l (j + 1)) (WN l (j + 9)) (WN l (j + 14))) ∧ (i < 16 → WN l i = be [l.getD (4 * i) 0, l.getD (4 * i + 1) 0, l.getD (4 * i + 2) 0, l.getD (4 * i + 3) 0])
  | 0, i, h => absurd h (Nat.not_lt_zero _)
  | n + 1, i, h => by
    by_cases h16 : i < 16
    · have e : (schL l i).getD i 0 = wd l i := by
        rw [← sch_any l i 0 h16, show ((schL l 0).getD i 0) = ((List.range 16).map (wd l)).getD i 0 from rfl, List.getD_eq_getElem?_getD, List.getElem?_map, List.getElem?_range h16]
        rfl
      have h1 := wd_nat l i
      have h2 : be [l.getD (4 * i) 0, l.getD (4 * i + 1) 0, l.getD (4 * i + 2) 0, l.getD (4 * i + 3) 0] < 4294967296 := Nat.lt_of_lt_of_eq (be_lt [l.getD (4 * i) 0, l.getD (4 * i + 1) 0, l.getD (4 * i + 2) 0, l.getD (4 * i + 3) 0]) (show 256 ^ 4 = 4294967296 from rfl)
      have h3 : WN l i = be [l.getD (4 * i) 0, l.getD (4 * i + 1) 0, l.getD (4 * i + 2) 0, l.getD (4 * i + 3) 0] := by
        unfold WN
        rw [e, h1, Int.toNat_natCast]
      exact ⟨by rw [e, h1, h3], by rw [h3]; exact h2, fun j hj => by omega, fun _ => h3⟩
    · obtain ⟨j, rfl⟩ : ∃ j, i = j + 16 := ⟨i - 16, by omega⟩
      have e : (schL l (j + 16)).getD (j + 16) 0 = ((nxN (WN l j) (WN l (j + 1)) (WN l (j + 9)) (WN l (j + 14)) : Nat) : Int) := by
        rw [← sch_any l (j + 16) (j + 1) (by omega), schL]
        have hl : (schL l j).length = j + 16 := by rw [schL_len]; omega
        have h1 := getD_last (schL l j) (nxw (schL l j) j)
        rw [hl] at h1
        rw [h1]
        unfold nxw
        have g0 := sch_nat l n j (by omega)
        have g1 := sch_nat l n (j + 1) (by omega)
        have g9 := sch_nat l n (j + 9) (by omega)
        have g14 := sch_nat l n (j + 14) (by omega)
        rw [sch_any l (j + 1) j (by omega), sch_any l (j + 9) j (by omega), sch_any l (j + 14) j (by omega), g0.1, g1.1, g9.1, g14.1]
        exact nxw_nat _ _ _ _ g1.2.1 g14.2.1
      have h3 : WN l (j + 16) = nxN (WN l j) (WN l (j + 1)) (WN l (j + 9)) (WN l (j + 14)) := by
        show ((schL l (j + 16)).getD (j + 16) 0).toNat = _
        rw [e, Int.toNat_natCast]
      exact ⟨by rw [e, h3], by rw [h3]; exact Nat.mod_lt _ (by decide), fun k hk => by rw [show k = j by omega]; exact h3, fun hh => absurd hh h16⟩
theorem add8_nat (s x : N8) : add8 s.i x.i = N8.i ⟨Nat.mod (Nat.add s.a x.a) 4294967296, Nat.mod (Nat.add s.b x.b) 4294967296, Nat.mod (Nat.add s.c x.c) 4294967296, Nat.mod (Nat.add s.d x.d) 4294967296, Nat.mod (Nat.add s.e x.e) 4294967296, Nat.mod (Nat.add s.f x.f) 4294967296, Nat.mod (Nat.add s.g x.g) 4294967296, Nat.mod (Nat.add s.h x.h) 4294967296⟩ := by
  unfold add8 N8.i
  dsimp only
  simp only [a32_nat]
theorem blk_nat (s : N8) (h : s.ok) (l : List UInt8) (hl : l.length = 64) : ∃ r : N8, r.ok ∧ blk s.i l = r.i ∧ r.p = blkN s.p (be l) := by
  have hW := fun i => sch_nat l (i + 1) i (Nat.lt_succ_self i)
  have h1 := rnds_nat (schL l 48) (WN l) s h (fun n hn => by rw [sch_any l n 48 (by omega)]; exact (hW n).1) 64 (Nat.le_refl _)
  refine ⟨⟨Nat.mod (Nat.add s.a (rnN (WN l) s 64).a) 4294967296, Nat.mod (Nat.add s.b (rnN (WN l) s 64).b) 4294967296, Nat.mod (Nat.add s.c (rnN (WN l) s 64).c) 4294967296, Nat.mod (Nat.add s.d (rnN (WN l) s 64).d) 4294967296, Nat.mod (Nat.add s.e (rnN (WN l) s 64).e) 4294967296, Nat.mod (Nat.add s.f (rnN (WN l) s 64).f) 4294967296, Nat.mod (Nat.add s.g (rnN (WN l) s 64).g) 4294967296, Nat.mod (Nat.add s.h (rnN (WN l) s 64).h) 4294967296⟩, ⟨Nat.mod_lt _ (by decide), Nat.mod_lt _ (by decide), Nat.mod_lt _ (by decide), Nat.mod_lt _ (by decide), Nat.mod_lt _ (by decide), Nat.mod_lt _ (by decide), Nat.mod_lt _ (by decide), Nat.mod_lt _ (by decide)⟩, ?_, ?_⟩
  · unfold blk
    rw [h1, add8_nat]
  · obtain ⟨p1, p2, p3, p4, p5, p6, p7, p8⟩ := uw_pk s h
    have h2 := goN_rn s.p (WN l) (fun j => (hW (j + 16)).2.2.1 j rfl) s 64 0 rfl
    rw [blkN_go, p1, p2, p3, p4, p5, p6, p7, p8]
    rw [show (480 : Nat) = 480 - 32 * 0 from rfl, show (448 : Nat) = 480 - 32 * 1 from rfl, show (416 : Nat) = 480 - 32 * 2 from rfl, show (384 : Nat) = 480 - 32 * 3 from rfl, show (352 : Nat) = 480 - 32 * 4 from rfl, show (320 : Nat) = 480 - 32 * 5 from rfl, show (288 : Nat) = 480 - 32 * 6 from rfl, show (256 : Nat) = 480 - 32 * 7 from rfl, show (224 : Nat) = 480 - 32 * 8 from rfl, show (192 : Nat) = 480 - 32 * 9 from rfl, show (160 : Nat) = 480 - 32 * 10 from rfl, show (128 : Nat) = 480 - 32 * 11 from rfl, show (96 : Nat) = 480 - 32 * 12 from rfl, show (64 : Nat) = 480 - 32 * 13 from rfl, show (32 : Nat) = 480 - 32 * 14 from rfl, show (0 : Nat) = 480 - 32 * 15 from rfl]
    rw [uw_be l 0 hl (by decide), uw_be l 1 hl (by decide), uw_be l 2 hl (by decide), uw_be l 3 hl (by decide), uw_be l 4 hl (by decide), uw_be l 5 hl (by decide), uw_be l 6 hl (by decide), uw_be l 7 hl (by decide), uw_be l 8 hl (by decide), uw_be l 9 hl (by decide), uw_be l 10 hl (by decide), uw_be l 11 hl (by decide), uw_be l 12 hl (by decide), uw_be l 13 hl (by decide), uw_be l 14 hl (by decide), uw_be l 15 hl (by decide)]
    rw [← (hW 0).2.2.2 (by decide), ← (hW 1).2.2.2 (by decide), ← (hW 2).2.2.2 (by decide), ← (hW 3).2.2.2 (by decide), ← (hW 4).2.2.2 (by decide), ← (hW 5).2.2.2 (by decide), ← (hW 6).2.2.2 (by decide), ← (hW 7).2.2.2 (by decide), ← (hW 8).2.2.2 (by decide), ← (hW 9).2.2.2 (by decide), ← (hW 10).2.2.2 (by decide), ← (hW 11).2.2.2 (by decide), ← (hW 12).2.2.2 (by decide), ← (hW 13).2.2.2 (by decide), ← (hW 14).2.2.2 (by decide), ← (hW 15).2.2.2 (by decide)]
    refine Eq.symm (h2.trans ?_)
    unfold fin8 N8.p
    rw [show pk s.a s.b s.c s.d s.e s.f s.g s.h = s.p from rfl, p1, p2, p3, p4, p5, p6, p7, p8]
theorem ob_word (x : Nat) (hx : x < 4294967296) : be [UInt8.ofNat (IntKind.u8.wrap ((x : Int).fdiv (2 ^ min (Int.toNat 24) IntKind.u32.bits))).toNat, UInt8.ofNat (IntKind.u8.wrap ((x : Int).fdiv (2 ^ min (Int.toNat 16) IntKind.u32.bits))).toNat, UInt8.ofNat (IntKind.u8.wrap ((x : Int).fdiv (2 ^ min (Int.toNat 8) IntKind.u32.bits))).toNat, UInt8.ofNat (IntKind.u8.wrap ((x : Int).fdiv (2 ^ min (Int.toNat 0) IntKind.u32.bits))).toNat] = x := by
  have g : ∀ n : Nat, n ≤ 32 → (UInt8.ofNat (IntKind.u8.wrap ((x : Int).fdiv (2 ^ min (Int.toNat (n : Int)) IntKind.u32.bits))).toNat).toNat = x / 2 ^ n % 256 := fun n hn => by
    have e := sr32_nat x n hn
    unfold sr32 at e
    rw [e, show IntKind.u8.wrap ((x / 2 ^ n : Nat) : Int) = ((x / 2 ^ n : Nat) : Int) % 256 by simp [IntKind.wrap, IntKind.bits, IntKind.signed]]
    rw [show (((x / 2 ^ n : Nat) : Int) % 256).toNat = x / 2 ^ n % 256 by omega, UInt8.toNat_ofNat_of_lt' (by show _ < 256; omega)]
  have g24 := g 24 (by decide)
  have g16 := g 16 (by decide)
  have g8 := g 8 (by decide)
  have g0 := g 0 (by decide)
  rw [be4]
  rw [show (24 : Int) = ((24 : Nat) : Int) from rfl, show (16 : Int) = ((16 : Nat) : Int) from rfl, show (8 : Int) = ((8 : Nat) : Int) from rfl, show (0 : Int) = ((0 : Nat) : Int) from rfl, g24, g16, g8, g0]
  omega
theorem outB_flat (s : H8) : outB s = [ob s.l 0, ob s.l 1, ob s.l 2, ob s.l 3] ++ [ob s.l 4, ob s.l 5, ob s.l 6, ob s.l 7] ++ [ob s.l 8, ob s.l 9, ob s.l 10, ob s.l 11] ++ [ob s.l 12, ob s.l 13, ob s.l 14, ob s.l 15] ++ [ob s.l 16, ob s.l 17, ob s.l 18, ob s.l 19] ++ [ob s.l 20, ob s.l 21, ob s.l 22, ob s.l 23] ++ [ob s.l 24, ob s.l 25, ob s.l 26, ob s.l 27] ++ [ob s.l 28, ob s.l 29, ob s.l 30, ob s.l 31] := rfl
theorem outB_nat (s : N8) (h : s.ok) : be (outB s.i) = s.p := by
  rw [outB_flat]
  have e0 : be [ob s.i.l 0, ob s.i.l 1, ob s.i.l 2, ob s.i.l 3] = s.a := ob_word s.a h.a
  have e1 : be [ob s.i.l 4, ob s.i.l 5, ob s.i.l 6, ob s.i.l 7] = s.b := ob_word s.b h.b
  have e2 : be [ob s.i.l 8, ob s.i.l 9, ob s.i.l 10, ob s.i.l 11] = s.c := ob_word s.c h.c
  have e3 : be [ob s.i.l 12, ob s.i.l 13, ob s.i.l 14, ob s.i.l 15] = s.d := ob_word s.d h.d
  have e4 : be [ob s.i.l 16, ob s.i.l 17, ob s.i.l 18, ob s.i.l 19] = s.e := ob_word s.e h.e
  have e5 : be [ob s.i.l 20, ob s.i.l 21, ob s.i.l 22, ob s.i.l 23] = s.f := ob_word s.f h.f
  have e6 : be [ob s.i.l 24, ob s.i.l 25, ob s.i.l 26, ob s.i.l 27] = s.g := ob_word s.g h.g
  have e7 : be [ob s.i.l 28, ob s.i.l 29, ob s.i.l 30, ob s.i.l 31] = s.h := ob_word s.h h.h
  simp only [be_app, e0, e1, e2, e3, e4, e5, e6, e7, List.length_cons, List.length_nil, Nat.zero_add, Nat.reduceAdd, Nat.reducePow]
  rfl
def shN (l : List UInt8) : Nat → Nat
  | 0 => h0N
  | m + 1 => blkN (shN l m) (be ((l.drop (64 * m)).take 64))
theorem shaN_nat (l : List UInt8) : ∀ n, 64 * n ≤ l.length → ∃ s : N8, s.ok ∧ shaN l n = s.i ∧ s.p = shN l n
  | 0, _ => ⟨⟨0x6a09e667, 0xbb67ae85, 0x3c6ef372, 0xa54ff53a, 0x510e527f, 0x9b05688c, 0x1f83d9ab, 0x5be0cd19⟩, ⟨by decide, by decide, by decide, by decide, by decide, by decide, by decide, by decide⟩, rfl, rfl⟩
  | n + 1, h => by
    obtain ⟨s, h1, h2, h3⟩ := shaN_nat l n (by omega)
    obtain ⟨r, q1, q2, q3⟩ := blk_nat s h1 ((l.drop (64 * n)).take 64) (by rw [List.length_take, List.length_drop]; omega)
    exact ⟨r, q1, by rw [shaN, h2, q2], by rw [q3, h3]; rfl⟩
theorem sha_nat (b : List UInt8) : be (sha b) = shN (padL b) ((padL b).length / 64) := by
  obtain ⟨s, h1, h2, h3⟩ := shaN_nat (padL b) ((padL b).length / 64) (by omega)
  unfold sha
  rw [h2, outB_nat s h1, h3]
end Go.Proofs.YtokaegeediokoaaGreatDoor
end
section
namespace Go.Proofs.YtokaegeediokoaaGreatDoor
open Go.RowKit V
set_option maxRecDepth 100000
set_option maxHeartbeats 8000000
set_option linter.unusedSimpArgs false
def one33 (t x : Nat) : Nat := blkN h0N (Nat.add (Nat.mul x 452312848583266388373324160190187140051835877600158453279131187530910662656) (Nat.add (Nat.mul t 52374249726338269920211035149241586435466272736689036631732661889538140742474792878132321477214466514414186946040961136147476104734166288853256441430016) 226156424291633194186662080095093570025917938800079226639565593765455331592))
def one35 (y : Nat) : Nat := blkN h0N (Nat.add (Nat.mul y 6901746346790563787434755862277025452451108972170386555162524223799296) 3450873173395281893717377931138512726225554486085193277581262111899928)
def stN : Nat → Nat → Nat
  | 0, x => x
  | Nat.succ n, x => frc (one33 3 x) fun y => stN n y
theorem stN_snoc : ∀ n x, stN (n + 1) x = one33 3 (stN n x)
  | 0, x => frc_eq _ _
  | n + 1, x => by
    have h1 := stN_snoc n (one33 3 x)
    have e : ∀ m y, stN (m + 1) y = stN m (one33 3 y) := fun m y => frc_eq _ _
    rw [e (n + 1) x, h1, e n x]
theorem be_rep : ∀ n, be (List.replicate n 0) = 0
  | 0 => rfl
  | n + 1 => by
    rw [List.replicate_succ', be_app, be_rep n, Nat.zero_mul, Nat.zero_add]
    simp [be]
theorem be_pad (b l : List UInt8) (n k : Nat) (hk : l.length = k) : be (b ++ ([128] ++ List.replicate n 0 ++ l)) = (be b * 256 + 128) * 256 ^ (n + k) + be l := by
  have e1 : be [128] = 128 := by simp [be]
  rw [be_app, be_app, be_app, be_rep, e1]
  simp only [List.length_append, List.length_replicate, List.length_singleton, hk]
  rw [Nat.pow_add 256 (1 + n) k, Nat.pow_add 256 1 n, Nat.pow_add 256 n k, Nat.pow_one, Nat.add_zero]
  generalize 256 ^ n = p
  generalize 256 ^ k = q
  rw [Nat.add_mul (be b * 256) 128, Nat.mul_assoc 128 p q, Nat.mul_assoc (be b) 256, Nat.mul_assoc 256 p q, Nat.add_assoc]
theorem pad_be (b : List UInt8) : be (padL b) = (be b * 256 + 128) * 256 ^ (zn b.length + 8) + be (len8 b.length) := be_pad b (len8 b.length) (zn b.length) 8 rfl
theorem sha_one (b : List UInt8) (hz : (padL b).length = 64) : be (sha b) = blkN h0N (be (padL b)) := by
  rw [sha_nat, hz]
  show blkN h0N (be (((padL b).drop (64 * 0)).take 64)) = _
  rw [Nat.mul_zero, List.drop_zero, List.take_of_length_le (by omega)]
theorem padL_len (b : List UInt8) : (padL b).length = b.length + 1 + zn b.length + 8 := by
  simp only [padL, sfx, List.length_append, List.length_replicate, List.length_cons, List.length_nil, show (len8 b.length).length = 8 from rfl]
  omega
theorem sha33 (t : UInt8) (x : List UInt8) (h : x.length = 32) : be (sha (t :: x)) = one33 t.toNat (be x) := by
  have hl : (t :: x).length = 33 := by rw [List.length_cons, h]
  rw [sha_one _ (by rw [padL_len, hl]; rfl), pad_be, hl, show t :: x = [t] ++ x from rfl, be_app, h, show be (len8 33) = 264 by decide +kernel, show be [t] = t.toNat by simp [be], show zn 33 + 8 = 30 from rfl]
  unfold one33
  refine congrArg (blkN h0N) ?_
  show _ = be x * 452312848583266388373324160190187140051835877600158453279131187530910662656 + (t.toNat * 52374249726338269920211035149241586435466272736689036631732661889538140742474792878132321477214466514414186946040961136147476104734166288853256441430016 + 226156424291633194186662080095093570025917938800079226639565593765455331592)
  omega
theorem sha35 (y : List UInt8) (h : y.length = 35) : be (sha y) = one35 (be y) := by
  rw [sha_one _ (by rw [padL_len, h]; rfl), pad_be, h, show be (len8 35) = 280 by decide +kernel, show zn 35 + 8 = 28 from rfl]
  unfold one35
  refine congrArg (blkN h0N) ?_
  show _ = be y * 6901746346790563787434755862277025452451108972170386555162524223799296 + 3450873173395281893717377931138512726225554486085193277581262111899928
  omega
theorem stp_nat (x : List UInt8) (h : x.length = 32) : ∀ n, be (stp x n) = stN n (be x)
  | 0 => rfl
  | n + 1 => by
    rw [stp, sha33 3 _ (stp_len x h n), stp_nat x h n, stN_snoc]
    rfl
def ckN (sd : Nat) : Nat → Nat
  | 0 => 0
  | Nat.succ c => frc (ckN sd c) fun a => frc (stN 15 (one35 (Nat.add sd c))) fun y => Nat.add (Nat.mul a 115792089237316195423570985008687907853269984665640564039457584007913129639936) y
def sdN (n : Nat) : Nat := Nat.add 15177911265138169579926261143953802273498776319987499493728060654173245120073170944 (Nat.mul n 29642774844752946028434172162224104410437116074403984394101141506025761187823616)
theorem seed_be (n : Nat) (hn : n ≤ 2) (c : Nat) (hc : c < 256) : be (2 :: seed n ++ [0, UInt8.ofNat c]) = Nat.add (sdN n) c := by
  have e : (UInt8.ofNat c).toNat = c := UInt8.toNat_ofNat_of_lt' hc
  have e2 : be [0, UInt8.ofNat c] = c := by simp only [be, List.foldl, e, show (0 : UInt8).toNat = 0 from rfl, Nat.zero_mul, Nat.zero_add]
  rw [show 2 :: seed n ++ [0, UInt8.ofNat c] = (2 :: seed n) ++ [0, UInt8.ofNat c] from rfl, be_app, e2]
  have h3 : n = 0 ∨ n = 1 ∨ n = 2 := by omega
  rcases h3 with rfl | rfl | rfl
  · show be (2 :: seed 0) * 65536 + c = sdN 0 + c
    rw [show be (2 :: seed 0) * 65536 = sdN 0 by decide +kernel]
  · show be (2 :: seed 1) * 65536 + c = sdN 1 + c
    rw [show be (2 :: seed 1) * 65536 = sdN 1 by decide +kernel]
  · show be (2 :: seed 2) * 65536 + c = sdN 2 + c
    rw [show be (2 :: seed 2) * 65536 = sdN 2 by decide +kernel]
theorem chunk_nat (n : Nat) (hn : n ≤ 2) : ∀ x, x ≤ 67 → be (flatN (fun c => stp (strt (seed n) c) 15) x) = ckN (sdN n) x
  | 0, _ => rfl
  | x + 1, h => by
    have e := chunk_nat n hn x (by omega)
    rw [flatN, be_app, stp_len _ (strt_len _ _), e, stp_nat _ (strt_len _ _)]
    rw [show be (strt (seed n) x) = one35 (Nat.add (sdN n) x) by
      unfold strt
      rw [sha35 _ (by simp [seed_len]), seed_be n hn x (by omega)]]
    rw [ckN, frc_eq, frc_eq]
    rfl
def pubE (P : Nat) : Nat := frc (blkN h0N (Nat.mod (Nat.shiftRight P 16896) 13407807929942597099574024998205846127479365820592393377723561443721764030073546976801874298166903427690031858186486050853753882811946569946433649006084096)) fun x1 => frc (blkN x1 (Nat.mod (Nat.shiftRight P 16384) 13407807929942597099574024998205846127479365820592393377723561443721764030073546976801874298166903427690031858186486050853753882811946569946433649006084096)) fun x2 => frc (blkN x2 (Nat.mod (Nat.shiftRight P 15872) 13407807929942597099574024998205846127479365820592393377723561443721764030073546976801874298166903427690031858186486050853753882811946569946433649006084096)) fun x3 => frc (blkN x3 (Nat.mod (Nat.shiftRight P 15360) 13407807929942597099574024998205846127479365820592393377723561443721764030073546976801874298166903427690031858186486050853753882811946569946433649006084096)) fun x4 => frc (blkN x4 (Nat.mod (Nat.shiftRight P 14848) 13407807929942597099574024998205846127479365820592393377723561443721764030073546976801874298166903427690031858186486050853753882811946569946433649006084096)) fun x5 => frc (blkN x5 (Nat.mod (Nat.shiftRight P 14336) 13407807929942597099574024998205846127479365820592393377723561443721764030073546976801874298166903427690031858186486050853753882811946569946433649006084096)) fun x6 => frc (blkN x6 (Nat.mod (Nat.shiftRight P 13824) 13407807929942597099574024998205846127479365820592393377723561443721764030073546976801874298166903427690031858186486050853753882811946569946433649006084096)) fun x7 => frc (blkN x7 (Nat.mod (Nat.shiftRight P 13312) 13407807929942597099574024998205846127479365820592393377723561443721764030073546976801874298166903427690031858186486050853753882811946569946433649006084096)) fun x8 => frc (blkN x8 (Nat.mod (Nat.shiftRight P 12800) 13407807929942597099574024998205846127479365820592393377723561443721764030073546976801874298166903427690031858186486050853753882811946569946433649006084096)) fun x9 => frc (blkN x9 (Nat.mod (Nat.shiftRight P 12288) 13407807929942597099574024998205846127479365820592393377723561443721764030073546976801874298166903427690031858186486050853753882811946569946433649006084096)) fun x10 => frc (blkN x10 (Nat.mod (Nat.shiftRight P 11776) 13407807929942597099574024998205846127479365820592393377723561443721764030073546976801874298166903427690031858186486050853753882811946569946433649006084096)) fun x11 => frc (blkN x11 (Nat.mod (Nat.shiftRight P 11264) 13407807929942597099574024998205846127479365820592393377723561443721764030073546976801874298166903427690031858186486050853753882811946569946433649006084096)) fun x12 => frc (blkN x12 (Nat.mod (Nat.shiftRight P 10752) 13407807929942597099574024998205846127479365820592393377723561443721764030073546976801874298166903427690031858186486050853753882811946569946433649006084096)) fun x13 => frc (blkN x13 (Nat.mod (Nat.shiftRight P 10240) 13407807929942597099574024998205846127479365820592393377723561443721764030073546976801874298166903427690031858186486050853753882811946569946433649006084096)) fun x14 => frc (blkN x14 (Nat.mod (Nat.shiftRight P 9728) 13407807929942597099574024998205846127479365820592393377723561443721764030073546976801874298166903427690031858186486050853753882811946569946433649006084096)) fun x15 => frc (blkN x15 (Nat.mod (Nat.shiftRight P 9216) 13407807929942597099574024998205846127479365820592393377723561443721764030073546976801874298166903427690031858186486050853753882811946569946433649006084096)) fun x16 => frc (blkN x16 (Nat.mod (Nat.shiftRight P 8704) 13407807929942597099574024998205846127479365820592393377723561443721764030073546976801874298166903427690031858186486050853753882811946569946433649006084096)) fun x17 => frc (blkN x17 (Nat.mod (Nat.shiftRight P 8192) 13407807929942597099574024998205846127479365820592393377723561443721764030073546976801874298166903427690031858186486050853753882811946569946433649006084096)) fun x18 => frc (blkN x18 (Nat.mod (Nat.shiftRight P 7680) 13407807929942597099574024998205846127479365820592393377723561443721764030073546976801874298166903427690031858186486050853753882811946569946433649006084096)) fun x19 => frc (blkN x19 (Nat.mod (Nat.shiftRight P 7168) 13407807929942597099574024998205846127479365820592393377723561443721764030073546976801874298166903427690031858186486050853753882811946569946433649006084096)) fun x20 => frc (blkN x20 (Nat.mod (Nat.shiftRight P 6656) 13407807929942597099574024998205846127479365820592393377723561443721764030073546976801874298166903427690031858186486050853753882811946569946433649006084096)) fun x21 => frc (blkN x21 (Nat.mod (Nat.shiftRight P 6144) 13407807929942597099574024998205846127479365820592393377723561443721764030073546976801874298166903427690031858186486050853753882811946569946433649006084096)) fun x22 => frc (blkN x22 (Nat.mod (Nat.shiftRight P 5632) 13407807929942597099574024998205846127479365820592393377723561443721764030073546976801874298166903427690031858186486050853753882811946569946433649006084096)) fun x23 => frc (blkN x23 (Nat.mod (Nat.shiftRight P 5120) 13407807929942597099574024998205846127479365820592393377723561443721764030073546976801874298166903427690031858186486050853753882811946569946433649006084096)) fun x24 => frc (blkN x24 (Nat.mod (Nat.shiftRight P 4608) 13407807929942597099574024998205846127479365820592393377723561443721764030073546976801874298166903427690031858186486050853753882811946569946433649006084096)) fun x25 => frc (blkN x25 (Nat.mod (Nat.shiftRight P 4096) 13407807929942597099574024998205846127479365820592393377723561443721764030073546976801874298166903427690031858186486050853753882811946569946433649006084096)) fun x26 => frc (blkN x26 (Nat.mod (Nat.shiftRight P 3584) 13407807929942597099574024998205846127479365820592393377723561443721764030073546976801874298166903427690031858186486050853753882811946569946433649006084096)) fun x27 => frc (blkN x27 (Nat.mod (Nat.shiftRight P 3072) 13407807929942597099574024998205846127479365820592393377723561443721764030073546976801874298166903427690031858186486050853753882811946569946433649006084096)) fun x28 => frc (blkN x28 (Nat.mod (Nat.shiftRight P 2560) 13407807929942597099574024998205846127479365820592393377723561443721764030073546976801874298166903427690031858186486050853753882811946569946433649006084096)) fun x29 => frc (blkN x29 (Nat.mod (Nat.shiftRight P 2048) 13407807929942597099574024998205846127479365820592393377723561443721764030073546976801874298166903427690031858186486050853753882811946569946433649006084096)) fun x30 => frc (blkN x30 (Nat.mod (Nat.shiftRight P 1536) 13407807929942597099574024998205846127479365820592393377723561443721764030073546976801874298166903427690031858186486050853753882811946569946433649006084096)) fun x31 => frc (blkN x31 (Nat.mod (Nat.shiftRight P 1024) 13407807929942597099574024998205846127479365820592393377723561443721764030073546976801874298166903427690031858186486050853753882811946569946433649006084096)) fun x32 => frc (blkN x32 (Nat.mod (Nat.shiftRight P 512) 13407807929942597099574024998205846127479365820592393377723561443721764030073546976801874298166903427690031858186486050853753882811946569946433649006084096)) fun x33 => blkN x33 (Nat.mod (Nat.shiftRight P 0) 13407807929942597099574024998205846127479365820592393377723561443721764030073546976801874298166903427690031858186486050853753882811946569946433649006084096)
theorem blk_mid (l : List UInt8) (m n : Nat) (hl : l.length = 64 * n) (hm : m < n) : be ((l.drop (64 * m)).take 64) = Nat.mod (Nat.shiftRight (be l) (512 * (n - 1 - m))) (256 ^ 64) := by
  have h1 := be_mid (l.take (64 * m)) ((l.drop (64 * m)).take 64) ((l.drop (64 * m)).drop 64)
  rw [List.append_assoc, List.take_append_drop, List.take_append_drop] at h1
  simp only [List.length_take, List.length_drop] at h1
  rw [hl, show min 64 (64 * n - 64 * m) = 64 by omega, show 64 * n - 64 * m - 64 = 64 * (n - 1 - m) by omega] at h1
  rw [← h1]
  show _ = (Nat.shiftRight (be l) (512 * (n - 1 - m))) % 256 ^ 64
  rw [show Nat.shiftRight (be l) (512 * (n - 1 - m)) = be l / 2 ^ (512 * (n - 1 - m)) from Nat.shiftRight_eq_div_pow _ _]
  rw [show 512 * (n - 1 - m) = 8 * (64 * (n - 1 - m)) by omega, Nat.pow_mul 2 8]
theorem sh_step (l : List UInt8) (hl : l.length = 64 * 34) (C : Nat) (hC : 256 ^ 64 = C) (m k : Nat) (hm : m < 34) (hk : 512 * (34 - 1 - m) = k) : blkN (shN l m) (Nat.mod (Nat.shiftRight (be l) k) C) = shN l (m + 1) := by
  rw [← hk, ← hC, ← blk_mid l m 34 hl hm]
  rfl
theorem pubE_shN (l : List UInt8) (hl : l.length = 64 * 34) : pubE (be l) = shN l 34 := by
  have q0 : (256 : Nat) ^ 64 = 13407807929942597099574024998205846127479365820592393377723561443721764030073546976801874298166903427690031858186486050853753882811946569946433649006084096 := by decide +kernel
  have st := sh_step l hl _ q0
  unfold pubE
  rw [show h0N = shN l 0 from rfl]
  rw [frc_eq, st 0 16896 (by decide) (by decide)]
  rw [frc_eq, st 1 16384 (by decide) (by decide)]
  rw [frc_eq, st 2 15872 (by decide) (by decide)]
  rw [frc_eq, st 3 15360 (by decide) (by decide)]
  rw [frc_eq, st 4 14848 (by decide) (by decide)]
  rw [frc_eq, st 5 14336 (by decide) (by decide)]
  rw [frc_eq, st 6 13824 (by decide) (by decide)]
  rw [frc_eq, st 7 13312 (by decide) (by decide)]
  rw [frc_eq, st 8 12800 (by decide) (by decide)]
  rw [frc_eq, st 9 12288 (by decide) (by decide)]
  rw [frc_eq, st 10 11776 (by decide) (by decide)]
  rw [frc_eq, st 11 11264 (by decide) (by decide)]
  rw [frc_eq, st 12 10752 (by decide) (by decide)]
  rw [frc_eq, st 13 10240 (by decide) (by decide)]
  rw [frc_eq, st 14 9728 (by decide) (by decide)]
  rw [frc_eq, st 15 9216 (by decide) (by decide)]
  rw [frc_eq, st 16 8704 (by decide) (by decide)]
  rw [frc_eq, st 17 8192 (by decide) (by decide)]
  rw [frc_eq, st 18 7680 (by decide) (by decide)]
  rw [frc_eq, st 19 7168 (by decide) (by decide)]
  rw [frc_eq, st 20 6656 (by decide) (by decide)]
  rw [frc_eq, st 21 6144 (by decide) (by decide)]
  rw [frc_eq, st 22 5632 (by decide) (by decide)]
  rw [frc_eq, st 23 5120 (by decide) (by decide)]
  rw [frc_eq, st 24 4608 (by decide) (by decide)]
  rw [frc_eq, st 25 4096 (by decide) (by decide)]
  rw [frc_eq, st 26 3584 (by decide) (by decide)]
  rw [frc_eq, st 27 3072 (by decide) (by decide)]
  rw [frc_eq, st 28 2560 (by decide) (by decide)]
  rw [frc_eq, st 29 2048 (by decide) (by decide)]
  rw [frc_eq, st 30 1536 (by decide) (by decide)]
  rw [frc_eq, st 31 1024 (by decide) (by decide)]
  rw [frc_eq, st 32 512 (by decide) (by decide)]
  rw [st 33 0 (by decide) (by decide)]
def pubN (n : Nat) : Nat := frc (ckN (sdN n) 67) fun c => frc (Nat.add (Nat.mul (Nat.add (Nat.mul c 256) 128) 1766847064778384329583297500742918515827483896875618958121606201292619776) 17160) pubE
theorem be_zero (l : List UInt8) : be (0 :: l) = be l := by
  have e : be [0] = 0 := by simp [be]
  rw [show (0 : UInt8) :: l = [0] ++ l from rfl, be_app, e, Nat.zero_mul, Nat.zero_add]
theorem pub_pad (n : Nat) (hn : n ≤ 2) : be (padL (0 :: chunkL (seed n))) = Nat.add (Nat.mul (Nat.add (Nat.mul (ckN (sdN n) 67) 256) 128) 1766847064778384329583297500742918515827483896875618958121606201292619776) 17160 := by
  have h1 : be (chunkL (seed n)) = ckN (sdN n) 67 := chunk_nat n hn 67 (Nat.le_refl _)
  have hl : (0 :: chunkL (seed n)).length = 2145 := by rw [List.length_cons, chunkL_len]
  have e0 : be (0 :: chunkL (seed n)) = be (chunkL (seed n)) := be_zero _
  rw [pad_be, hl, e0, h1, show be (len8 2145) = 17160 by decide +kernel, show zn 2145 + 8 = 30 by decide]
  generalize ckN (sdN n) 67 = z
  have e1 : 256 ^ 30 = 1766847064778384329583297500742918515827483896875618958121606201292619776 := by decide +kernel
  rw [e1]
  rfl
theorem pub_nat (n : Nat) (hn : n ≤ 2) : be (pubL (seed n)) = pubN n := by
  have hl : (0 :: chunkL (seed n)).length = 2145 := by rw [List.length_cons, chunkL_len]
  have hp : (padL (0 :: chunkL (seed n))).length = 64 * 34 := by rw [padL_len, hl]; decide
  have e := pub_pad n hn
  unfold pubL
  rw [sha_nat, hp, show 64 * 34 / 64 = 34 by decide, ← pubE_shN _ hp, e]
  unfold pubN
  rw [frc_eq, frc_eq]
theorem pub0 : pubN 0 = 5674168990865793602059209391052264441299323552302833866287427941378851026661 := by
  apply Nat.eq_of_beq_eq_true
  decide +kernel
theorem pub1 : pubN 1 = 73486267246280324524226948117396580850968793877300519043569938554589047462277 := by
  apply Nat.eq_of_beq_eq_true
  decide +kernel
theorem pub2 : pubN 2 = 94038715216909099677375950377808035464724155363325563722911654005492534656436 := by
  apply Nat.eq_of_beq_eq_true
  decide +kernel
theorem pub_ne (i j : Nat) (hi : i ≤ 2) (hj : j ≤ 2) (h : i < j) : pubL (seed i) ≠ pubL (seed j) := fun e => by
  have h1 := congrArg be e
  rw [pub_nat i hi, pub_nat j hj] at h1
  have h3 : (i = 0 ∧ j = 1) ∨ (i = 0 ∧ j = 2) ∨ (i = 1 ∧ j = 2) := by omega
  rcases h3 with ⟨rfl, rfl⟩ | ⟨rfl, rfl⟩ | ⟨rfl, rfl⟩
  · rw [pub0, pub1] at h1; exact absurd h1 (by decide)
  · rw [pub0, pub2] at h1; exact absurd h1 (by decide)
  · rw [pub1, pub2] at h1; exact absurd h1 (by decide)
end Go.Proofs.YtokaegeediokoaaGreatDoor
end
section
namespace Go.Proofs.YtokaegeediokoaaGreatDoor
open Go.RowKit V
set_option maxRecDepth 100000
set_option linter.unusedSimpArgs false
def sgs (b : List UInt8) (m0 m1 : UInt8) : List SigL := sgd b m0 0 3 ++ sgd b m1 8 3
theorem sgs_mem (b : List UInt8) (m0 m1 : UInt8) (s : SigL) (h : s ∈ sgs b m0 m1) : ChOk s.ch ∧ s.key ≤ 10 := by
  rcases List.mem_append.1 h with h | h
  · obtain ⟨i, h1, _, rfl⟩ := (sgd_mem b m0 0 s 3).1 h
    exact ⟨chn_ok _ _, by dsimp only; omega⟩
  · obtain ⟨i, h1, _, rfl⟩ := (sgd_mem b m1 8 s 3).1 h
    exact ⟨chn_ok _ _, by dsimp only; omega⟩
theorem sgs_len (b : List UInt8) (m0 m1 : UInt8) : (sgs b m0 m1).length ≤ 6 := by
  have h1 := sgd_len b m0 0 3
  have h2 := sgd_len b m1 8 3
  unfold sgs
  rw [List.length_append]
  omega
theorem sgs_at (b : List UInt8) (m0 m1 : UInt8) (i : Nat) (hi : i < (sgs b m0 m1).length) : ChOk ((sgs b m0 m1).getD i sig0).ch ∧ ((sgs b m0 m1).getD i sig0).key ≤ 10 := by
  refine sgs_mem b m0 m1 _ ?_
  rw [List.getD_eq_getElem?_getD, List.getElem?_eq_getElem hi]
  exact List.getElem_mem _
theorem sgs_sgnB (b : List UInt8) (m0 m1 : UInt8) : sgnB keys3 b (sgs b m0 m1) 0 = bitU m0 0 := by
  have h1 := sgnB_sgd b m0 0 (by omega)
  have h2 : (sgd b m1 8 3).any (sgnP keys3 b 0) = false := by
    rw [List.any_eq_false]
    intro s hs hp
    obtain ⟨i, _, _, rfl⟩ := (sgd_mem b m1 8 s 3).1 hs
    unfold sgnP at hp
    dsimp only at hp
    rw [decide_eq_false (by omega)] at hp
    cases hp
  unfold sgnB at h1 ⊢
  unfold sgs
  rw [List.any_append, h2, Bool.or_false]
  exact h1
theorem enB_root (g : Int) (m nd : UInt8) (b : List UInt8) (l : List SigL) : enB (rootM g m nd) nmRoot b l = sgnB keys3 b l 0 := by
  unfold enB
  rw [fnd_root, if_neg (by decide)]
  show decide ((1 : Int) ≤ ((cntS keys3 [0] b l l.length).length : Int)) = _
  rw [cntS_eq _ _ _ _ (List.nodup_cons.2 ⟨List.not_mem_nil, .nil⟩)]
  cases h : sgnB keys3 b l 0 <;> simp [h]
theorem cntOk_root (b : List UInt8) (l : List SigL) (hb : b.length ≤ 1000000) (hl : l.length ≤ 1000000) (hs : ∀ i, i < l.length → ChOk (l.getD i sig0).ch) : CntOk keys3 [0] b l where
  body := hb
  keys := fun k h => by
    have h2 : k = 0 := by simpa using h
    subst h2
    exact ⟨Int.le_refl _, Int.natCast_pos.2 (Nat.zero_lt_succ 2)⟩
  sigs := hs
  many := hl
theorem roleOk_root (g : Int) (m nd : UInt8) (b : List UInt8) (l : List SigL) (hb : b.length ≤ 1000000) (hl : l.length ≤ 1000000) (hs : ∀ i, i < l.length → ChOk (l.getD i sig0).ch) : RoleOk (rootM g m nd) nmRoot b l := .inr ⟨1, fnd_root g m nd, Nat.lt_succ_self 1, by omega, cntOk_root b l hb hl hs⟩
theorem rootM_w (g : Int) (m nd : UInt8) : RootW (rootM g m nd) := ⟨fun k hk => by
  have hk2 : k ∈ [pubL (seed 0), pubL (seed 1), pubL (seed 2)] := hk
  simp only [List.mem_cons, List.mem_nil_iff, or_false] at hk2
  rcases hk2 with rfl | rfl | rfl <;> exact sha_len _⟩
def rk3 (b0 b1 b2 : Bool) : List Int := (if b0 = true then [0] else []) ++ (if b1 = true then [1] else []) ++ (if b2 = true ∨ ((if b0 = true then [(0 : Int)] else []) ++ (if b1 = true then [1] else [])).length = 0 then [2] else [])
theorem rolK_eq (m : UInt8) : rolK m 3 = rk3 (bitU m 0) (bitU m 1) (bitU m 2) := by
  cases h0 : bitU m 0 <;> cases h1 : bitU m 1 <;> cases h2 : bitU m 2 <;> simp [rolK, rk3, h0, h1, h2]
theorem rolK_ris (m : UInt8) : risB (rolK m 3) 0 2 = true := by
  rw [rolK_eq]
  generalize bitU m 0 = b0
  generalize bitU m 1 = b1
  generalize bitU m 2 = b2
  revert b0 b1 b2
  decide
theorem rootM_ok (g : Int) (m nd : UInt8) (h0 : 1 ≤ g) (h1 : g ≤ 1000000) : rootB (rootM g m nd) = true := by
  have hp := rolK_pos m
  unfold rootB
  rw [Bool.and_eq_true, Bool.and_eq_true]
  refine ⟨?_, ?_, ?_⟩
  · show (inB g 1 1000000 && (inB 100 0 1000000000 && (inB 3 1 8 && inB 2 1 8))) = true
    unfold inB
    rw [decide_eq_true h0, decide_eq_true h1]
    rfl
  · refine decide_eq_true fun i hi k hk => ?_
    have hi3 : i < 3 := hi
    show keys3.getD k [] ≠ keys3.getD i []
    rw [keys3_at k (by omega), keys3_at i hi3]
    exact pub_ne k i (by omega) (by omega) hk
  · refine decide_eq_true fun i hi => ?_
    have hi2 : i < 2 := hi
    rcases i with _ | _ | i
    · refine ⟨show plainB nmRel = true by decide, fun h => absurd h (Nat.lt_irrefl _), ?_, ?_, ?_⟩
      · show (rolK m 3).length ≠ 0
        omega
      · exact rolK_ris m
      · show inB (1 + (nd.toNat : Int) % ((rolK m 3).length : Int)) 1 ((rolK m 3).length : Int) = true
        have h2 : 0 ≤ (nd.toNat : Int) % ((rolK m 3).length : Int) := Int.emod_nonneg _ (by omega)
        have h3 : (nd.toNat : Int) % ((rolK m 3).length : Int) < ((rolK m 3).length : Int) := Int.emod_lt_of_pos _ (by omega)
        unfold inB
        rw [decide_eq_true (by omega), decide_eq_true (by omega)]
        rfl
    · refine ⟨show plainB nmRoot = true by decide, fun _ => ?_, ?_, ?_, ?_⟩
      · show Op.bytesLess nmRel nmRoot = true
        decide
      · show ([0] : List Int).length ≠ 0
        decide
      · show risB [0] 0 2 = true
        decide
      · show inB 1 1 1 = true
        decide
    · omega
theorem rot_law (G now : Int) (x y m0 m1 : UInt8) (h0 : 1 ≤ G) (h1 : G ≤ 1000000) : rotE ⟨rootM 5 7 1, 1, [], now⟩ (bytesQ (rootM G x y)) (sgs (bytesQ (rootM G x y)) m0 m1) =
    if ¬ G = 6 then 274 else if ¬ now ≤ 100 then 271 else if bitU m0 0 = false then 270 else if bitU m1 0 = false then 270 else 0 := by
  obtain ⟨q1, q2⟩ := okQ_of (rootM G x y) (rootM_ok G x y h0 h1) (rootM_w G x y)
  have e1 : latS (sgs (bytesQ (rootM G x y)) m0 m1) (sgs (bytesQ (rootM G x y)) m0 m1).length = sgd (bytesQ (rootM G x y)) m1 0 3 := latS_two _ m0 m1
  have e2 : sgnB keys3 (bytesQ (rootM G x y)) (sgd (bytesQ (rootM G x y)) m1 0 3) 0 = bitU m1 0 := sgnB_sgd (bytesQ (rootM G x y)) m1 0 (by omega)
  unfold rotE
  rw [q1, q2, e1]
  dsimp only
  rw [enB_root, sgs_sgnB, enB_root, e2, if_neg (by decide)]
  rfl
theorem rot_ok (G : Int) (x y m0 m1 : UInt8) (h0 : 1 ≤ G) (h1 : G ≤ 1000000) : let b := bytesQ (rootM G x y); RoleOk (rootM 5 7 1) nmRoot b (sgs b m0 m1) ∧ RoleOk (parseQ b) nmRoot b (latS (sgs b m0 m1) (sgs b m0 m1).length) := by
  obtain ⟨q1, q2⟩ := okQ_of (rootM G x y) (rootM_ok G x y h0 h1) (rootM_w G x y)
  have hb : (bytesQ (rootM G x y)).length ≤ 1000000 := by
    have := (bytesQ_le (rootM G x y) (rootM_ok G x y h0 h1) (rootM_w G x y)).2
    omega
  have hl := sgs_len (bytesQ (rootM G x y)) m0 m1
  have e1 : latS (sgs (bytesQ (rootM G x y)) m0 m1) (sgs (bytesQ (rootM G x y)) m0 m1).length = sgd (bytesQ (rootM G x y)) m1 0 3 := latS_two _ m0 m1
  dsimp only
  rw [q2, e1]
  have hl2 := sgd_len (bytesQ (rootM G x y)) m1 0 3
  exact ⟨roleOk_root _ _ _ _ _ hb (by omega) fun i hi => (sgs_at _ m0 m1 i hi).1, roleOk_root _ _ _ _ _ hb (by omega) fun i hi => sgd_ok _ m1 0 3 i hi⟩
end Go.Proofs.YtokaegeediokoaaGreatDoor
end
section
namespace Go.Proofs.YtokaegeediokoaaGreatDoor
open Go.RowKit V
set_option maxRecDepth 100000
set_option maxHeartbeats 8000000
set_option linter.unusedSimpArgs false
theorem tmod3 (g : Int) : -2 ≤ g.tmod 3 ∧ g.tmod 3 ≤ 2 := by
  rcases Int.lt_or_le g 0 with h | h
  · obtain ⟨n, rfl⟩ : ∃ n : Nat, g = -(n : Int) := ⟨g.natAbs, by omega⟩
    rw [Int.neg_tmod, Int.tmod_eq_emod_of_nonneg (by omega)]
    omega
  · rw [Int.tmod_eq_emod_of_nonneg h]
    omega
def V.dropK {α : Type} (l : List Nat) : V.Mem → (V.Mem → Option α) → Option α
  | [], K => K []
  | (i, B) :: r, K => match l.any (Nat.beq i) with
    | true => V.dropK l r K
    | false => V.dropK l r fun r' => K ((i, B) :: r')
def V.drp (wide : Bool) (pins ids ks l : List Nat) (F : V.Tr) (M : V.Mem) : Option V.Frz :=
  match killF ks F some with
  | some F' => V.dropK l M fun M' => match intoF wide pins [] F M F' M' ids with
    | some φ => some ⟨F', M', φ⟩
    | none => none
  | none => none
section
variable {C : V.Ctx} {Q0 : Exit → Act → World → Prop} {F F' : V.Tr} {M M' : V.Mem} {ids : List Nat} {k : List V.Kont}
theorem V.dropK_inv {α : Type} (l : List Nat) : ∀ {M : V.Mem} {K : V.Mem → Option α} {x : α}, V.dropK l M K = some x → ∃ M', K M' = some x
  | [], K, x, h => ⟨_, h⟩
  | (i, B) :: r, K, x, h => by
    unfold V.dropK at h
    split at h
    · exact V.dropK_inv l h
    · obtain ⟨M', h'⟩ := V.dropK_inv l h
      exact ⟨_, h'⟩
theorem V.Sat.dropR {full rest : List Oper} {φ : List Prop} (ks l : List Nat) (hz : V.drp C.wide C.pins ids ks l F M = some ⟨F', M', φ⟩) (hφ : AllP φ) (hn : Sat C Q0 (.reg full rest F' M' ids k)) : Sat C Q0 (.reg full rest F M ids k) := by
  intro U E a w _ hst
  unfold V.drp at hz
  split at hz
  · obtain ⟨M2, hM⟩ := V.dropK_inv l hz
    split at hM
    · rename_i ψ hi
      simp only [Option.some.injEq, Frz.mk.injEq] at hM
      obtain ⟨rfl, rfl, rfl⟩ := hM
      obtain ⟨U', E', h1, h2⟩ := into_ok hst hi hφ
      exact hn U' E' a w h1 h2
    · cases hM
  · cases hz
end
theorem app_at (l m : List SigL) (i : Nat) : (if i < l.length then (fun i => (l.getD i sig0).v) i else (fun i => (m.getD i sig0).v) (i - l.length)) = ((l ++ m).getD i sig0).v := by
  by_cases h : i < l.length
  · rw [if_pos h, List.getD_eq_getElem?_getD (l := l ++ m), List.getElem?_append_left h, ← List.getD_eq_getElem?_getD]
  · rw [if_neg h, List.getD_eq_getElem?_getD (l := l ++ m), List.getElem?_append_right (by omega), ← List.getD_eq_getElem?_getD]
theorem bit_zero (m : UInt8) : decide (IntKind.u8.wrap ((BitVec.ofInt IntKind.u8.bits (m.toNat : Int) &&& BitVec.ofInt IntKind.u8.bits 1).toNat : Nat) = 0) = !bitU m 0 := by
  have h1 := band_mask .u8 (m.toNat : Int) 1 (by decide)
  rw [show ((2 : Int) ^ 1 - 1) = 1 from rfl] at h1
  rw [h1]
  unfold bitU
  rw [Nat.pow_zero, Nat.div_one]
  by_cases h : m.toNat % 2 = 1
  · rw [decide_eq_true h, decide_eq_false (by omega)]; rfl
  · rw [decide_eq_false h, decide_eq_true (by omega)]; rfl
attribute [local irreducible] V.Sat V.DSat
theorem rotates_core (a b c d : UInt8) (gen : Int) (m0 m1 : UInt8) (tm : Int) (htm : gen.tmod 3 = tm) (ht0 : -2 ≤ tm) (ht1 : tm ≤ 2) (hg0 : -128 ≤ gen) (hg1 : gen ≤ 127) : Fun Tryz.prog Γh 6 [w4 a b c d, .int .i8 gen, .agg [.int .u8 (m0.toNat : Int), .int .u8 (m1.toNat : Int)]] (.bool true) := by
  have c0 := sanity_law
  have c1 := rroot_spec 5 7 1
  have hG0 : 1 ≤ maxV 1 (6 + tm) := by unfold maxV; split <;> omega
  have hG1 : maxV 1 (6 + tm) ≤ 8 := by unfold maxV; split <;> omega
  have c2 := rroot_spec (maxV 1 (6 + tm)) a b
  have hv := rootM_ok (maxV 1 (6 + tm)) a b hG0 (by omega)
  have c3 := (rootBytes_spec (rootM (maxV 1 (6 + tm)) a b) hv).weak (Γ := Γh)
  obtain ⟨q1, q2⟩ := rot_ok (maxV 1 (6 + tm)) a b m0 m1 hG0 (by omega)
  have hE := rot_law (maxV 1 (6 + tm)) (95 + (d.toNat : Int) % 8) a b m0 m1 hG0 (by omega)
  have hq := (okQ_of _ hv (rootM_w (maxV 1 (6 + tm)) a b)).2
  have hbl : (bytesQ (rootM (maxV 1 (6 + tm)) a b)).length ≤ 1000000 := by have := (bytesQ_le _ hv (rootM_w _ a b)).2; omega
  have c5 := signed_spec (bytesQ (rootM (maxV 1 (6 + tm)) a b)) hbl m1 8 (by omega) (by omega)
  have c6 := rotate_spec ⟨rootM 5 7 1, 1, [], 95 + (d.toNat : Int) % 8⟩ (bytesQ (rootM (maxV 1 (6 + tm)) a b)) (sgs (bytesQ (rootM (maxV 1 (6 + tm)) a b)) m0 m1) (show (5 : Int) ≤ 1000000 by decide) (show (0 : Int) ≤ 5 by decide) (by have := sgs_len (bytesQ (rootM (maxV 1 (6 + tm)) a b)) m0 m1; omega) (fun i hi => by have := (sgs_at (bytesQ (rootM (maxV 1 (6 + tm)) a b)) m0 m1 i hi).2; omega) (fun _ => q1) (fun _ => q2)
  clear q1 q2
  generalize bytesQ (rootM (maxV 1 (6 + tm)) a b) = bz at c3 c5 c6 hE hq hbl
  have hwr : IntKind.i64.wrap (6 + gen.tmod 3) = 6 + tm := by rw [htm]; exact wrap_inR (inR_i64 (by omega) (by omega))
  refine Fun.mk 7 Tryz.func6 rfl Tryz.ntmps6 rfl rfl fun T w0 => ?_
  repeat' (first
    | (rw [hwr])
    | ((with_reducible apply Sat.run (X := fun _ => false)); exact rfl; exact AllP.cons ⟨by decide, by decide⟩ (AllP.cons ⟨by decide, by decide⟩ (AllP.cons (show (3 : Int) ≠ 0 by decide) AllP.nil)))
    | ((with_reducible apply Sat.run (X := X64)); exact rfl; (first | exact True.intro | (exact phi) | skip))
    | ((with_reducible apply Sat.drawn); kernel_rfl)
    | ((with_reducible apply DSat.run (X := X64)); exact rfl; (first | exact True.intro | (exact phi) | skip))
    | ((with_reducible apply DSat.fin); kernel_rfl)
    | ((with_reducible apply Sat.call0 (c0)); exact rfl; exact rfl; kernel_rfl; exact rfl)
    | ((with_reducible apply DSat.call (c1)); exact rfl; exact rfl; kernel_rfl; (exact cnvX); exact rfl)
    | ((with_reducible apply Sat.call (c2)); exact rfl; exact rfl; kernel_rfl; (exact cnvX); exact rfl)
    | ((with_reducible apply Sat.call (c3)); exact rfl; exact rfl; kernel_rfl; (exact cnvX); exact rfl) | fail)
  repeat' (first
    | ((with_reducible apply Sat.run (X := X64)); exact rfl; (first | exact True.intro | (exact phi) | skip))
    | ((with_reducible apply Sat.inl 7 [] Tryz.func12 Tryz.ntmps12); exact rfl; exact rfl; kernel_rfl; exact rfl; exact rfl; exact rfl; exact rfl; ((repeat' (first | exact AllP.nil | with_reducible refine AllP.cons ?_ ?_)) <;> (first | exact True.intro | exact purX)); intro _ _) | fail)
  apply Sat.loop (α := Nat) (fun x => x ≤ 3) (fun x => 3 - x) 0 (fun x => [(8, .int .i64 (x : Int))]) (fun x => [(5, .cells 36 [.ro (.u8 bz), .row 6 0 4 0 (sgd bz m0 0 x).length]), (6, .row 66 (sigsE (sgd bz m0 0 x)))]) [] [(6, none)] 1
  · intro x; exact rfl
  · intro x; exact rfl
  · exact rfl
  · exact rfl
  · ((repeat' (first | exact AllP.nil | with_reducible refine AllP.cons ?_ ?_)) <;> first | exact rfl | exact trivial | exact Int.natCast_add_one _ | (intro j _; simp [pureL, pureS, pureE]; done) | exact ⟨rfl, rfl, rfl, rfl⟩)
  · omega
  intro x hx
  have hle := sgd_len bz m0 0 x
  by_cases hx2 : x < 3
  · have hc : (x : Int) < 3 := by omega
    have hbit := u8_bit m0 x (by omega)
    have h1 := secret_spec x (by omega)
    have h2 := sign_spec (seed x) bz (seed_len x) hbl
    have es : sgd bz m0 0 (x + 1) = sgd bz m0 0 x ++ if bitU m0 x = true then [⟨(x : Int) + 0, chnL (seed x) bz 67⟩] else [] := rfl
    cases hB : bitU m0 x with
    | true =>
      rw [hB, if_pos rfl] at es
      rw [hB] at hbit
      generalize sgd bz m0 0 x = L at hle es ⊢
      repeat' (first
        | ((with_reducible apply Sat.cond_pt); exact rfl; exact of_decide_eq_true hbit)
        | ((with_reducible apply Sat.run (X := X64)); exact rfl; (first | exact True.intro | (exact phi) | skip))
        | ((with_reducible apply Sat.cond_pt); exact rfl; (try dsimp only [V.EV.sub, V.EV.len]); first | assumption | omega)
        | ((with_reducible apply Sat.callR (h1)); exact rfl; exact rfl; exact rfl; kernel_rfl; (exact cnvX); exact rfl)
        | ((with_reducible apply Sat.call (h2)); exact rfl; exact rfl; kernel_rfl; (exact cnvX); exact rfl) | fail)
      refine Sat.back (x + 1) [(6, some 9)] rfl ?_ (by omega) (by omega)
      rw [es]
      ((repeat' (first | exact AllP.nil | with_reducible refine AllP.cons ?_ ?_)) <;> first | exact rfl | exact trivial | exact Int.natCast_add_one _ | (intro j _; simp [pureL, pureS, pureE]; done) | exact ⟨rfl, rfl, rfl, rfl⟩ | exact snocE (fun s : SigL => s.v) sig0 L ⟨(x : Int) + 0, chnL (seed x) bz 67⟩ | exact snocP (fun s : SigL => s.v) sig_pure sig0 L ⟨(x : Int) + 0, chnL (seed x) bz 67⟩ | (simp; done) | exact ⟨rfl, rfl, rfl, (by simp [EV.len, EV.sub])⟩)
    | false =>
      rw [hB] at es
      simp only [Bool.false_eq_true, if_false, List.append_nil] at es
      rw [hB] at hbit
      generalize sgd bz m0 0 x = L at hle es ⊢
      repeat' (first
        | ((with_reducible apply Sat.cond_pf); exact rfl; exact of_decide_eq_false hbit)
        | ((with_reducible apply Sat.run (X := X64)); exact rfl; (first | exact True.intro | (exact phi) | skip))
        | ((with_reducible apply Sat.cond_pt); exact rfl; (try dsimp only [V.EV.sub, V.EV.len]); first | assumption | omega) | fail)
      refine Sat.back (x + 1) [(6, some 6)] rfl ?_ (by omega) (by omega)
      rw [es]
      ((repeat' (first | exact AllP.nil | with_reducible refine AllP.cons ?_ ?_)) <;> first | exact rfl | exact trivial | exact Int.natCast_add_one _ | (intro j _; simp [pureL, pureS, pureE]; done) | exact ⟨rfl, rfl, rfl, rfl⟩)
  · obtain rfl : x = 3 := by omega
    have hl2 := sgd_len bz m1 8 3
    have hl3 : ((sgd bz m0 0 3).length + (EV.g (sgd bz m1 8 3).length 4 fun i => ((sgd bz m1 8 3).getD i sig0).v).len) * (63 + 1) ≤ 140737488355328 := by
      show ((sgd bz m0 0 3).length + (sgd bz m1 8 3).length) * 64 ≤ _
      omega
    repeat' (first
      | ((with_reducible apply Sat.run (X := X64)); exact rfl; (first | exact True.intro | (exact phi) | skip))
      | ((with_reducible apply Sat.drawn); kernel_rfl)
      | ((with_reducible apply DSat.run (X := X64)); exact rfl; (first | exact True.intro | (exact phi) | skip))
      | ((with_reducible apply DSat.fin); kernel_rfl)
      | ((with_reducible apply Sat.cond_f); exact rfl)
      | ((with_reducible apply Sat.out1 (C := ⟨_, _, _, _, _, _, _, _, _⟩)); exact rfl; (first | exact .inl rfl | exact .inr rfl); exact rfl; (exact phi); exact rfl)
      | ((with_reducible apply DSat.call (c5)); exact rfl; exact rfl; kernel_rfl; (exact cnvX); exact rfl) | fail)
    refine Sat.rerow (pos := .reg _ _ _) (id := 8) (ty := 66) (ev' := sigsE (sgs bz m0 m1)) rfl (by rw [sgs]; exact List.length_append) rfl (fun E T w i cs hi h => ?_) rfl ?_
    · refine Eq.mp (congrArg (fun z => Items E T w z cs) ?_) h
      exact app_at _ _ i
    have b0 := bit_zero m0
    have b1 := bit_zero m1
    have c7 := same27 ⟨rootM 5 7 1, 1, [], 95 + (d.toNat : Int) % 8⟩ ⟨rootM 5 7 1, 1, [], 95 + (d.toNat : Int) % 8⟩
    rw [(trustEq_iff _ _).2 rfl] at c7
    have c8 := (same_root (rootM (maxV 1 (6 + tm)) a b) (rootM (maxV 1 (6 + tm)) a b)).weak (Γ := Γh)
    rw [(rootEq_iff _ _).2 rfl] at c8
    have c9 := (same_root (rootM 5 7 1) (rootM (maxV 1 (6 + tm)) a b)).weak (Γ := Γh)
    generalize rootEq (rootM 5 7 1) _ = rq at c9
    have c10 := same27 ⟨rootM (maxV 1 (6 + tm)) a b, 1, [], 95 + (d.toNat : Int) % 8⟩ ⟨rootM 5 7 1, 1, [], 95 + (d.toNat : Int) % 8⟩
    generalize trustEq _ _ = tq at c10
    unfold rotT at c6
    rw [hE, hq] at c6
    have hpe : pureE (sigsE (sgs bz m0 m1)) := fun _ _ => sig_pure _
    have hlen : (sgd bz m0 0 3).length + (EV.g (sgd bz m1 8 3).length 4 fun i => ((sgd bz m1 8 3).getD i sig0).v).len = (sigsE (sgs bz m0 m1)).len := by
      show _ = (sgs bz m0 m1).length
      rw [sgs, List.length_append]
      rfl
    generalize bitU m0 0 = B0 at b0 c6
    generalize bitU m1 0 = B1 at b1 c6
    clear hE hq
    have hcase : ∃ (T' : TrustL) (e' : Int), Fun Tryz.prog Γh 28 [(⟨rootM 5 7 1, 1, [], 95 + (d.toNat : Int) % 8⟩ : TrustL).v, .agg (sgdC bz (sgs bz m0 m1))] (.tup [T'.v, .int .i64 e']) ∧
        (((rootM (maxV 1 (6 + tm)) a b).gen ≠ 6 ∧ e' = 274 ∧ T' = ⟨rootM 5 7 1, 1, [], 95 + (d.toNat : Int) % 8⟩) ∨
        ((rootM (maxV 1 (6 + tm)) a b).gen = 6 ∧ (rootM (maxV 1 (6 + tm)) a b).expiry < 95 + (d.toNat : Int) % 8 ∧ e' = 271 ∧ T' = ⟨rootM 5 7 1, 1, [], 95 + (d.toNat : Int) % 8⟩) ∨
        ((rootM (maxV 1 (6 + tm)) a b).gen = 6 ∧ ¬ (rootM (maxV 1 (6 + tm)) a b).expiry < 95 + (d.toNat : Int) % 8 ∧ B0 = false ∧ e' = 270 ∧ T' = ⟨rootM 5 7 1, 1, [], 95 + (d.toNat : Int) % 8⟩) ∨
        ((rootM (maxV 1 (6 + tm)) a b).gen = 6 ∧ ¬ (rootM (maxV 1 (6 + tm)) a b).expiry < 95 + (d.toNat : Int) % 8 ∧ B0 = true ∧ B1 = false ∧ e' = 270 ∧ T' = ⟨rootM 5 7 1, 1, [], 95 + (d.toNat : Int) % 8⟩) ∨
        ((rootM (maxV 1 (6 + tm)) a b).gen = 6 ∧ ¬ (rootM (maxV 1 (6 + tm)) a b).expiry < 95 + (d.toNat : Int) % 8 ∧ B0 = true ∧ B1 = true ∧ e' = 0 ∧ T' = ⟨rootM (maxV 1 (6 + tm)) a b, 1, [], 95 + (d.toNat : Int) % 8⟩)) := by
      by_cases g1 : (rootM (maxV 1 (6 + tm)) a b).gen = 6
      · rw [if_neg (not_not_intro (show maxV 1 (6 + tm) = 6 from g1))] at c6
        by_cases g2 : (rootM (maxV 1 (6 + tm)) a b).expiry < 95 + (d.toNat : Int) % 8
        · rw [if_pos (show ¬ 95 + (d.toNat : Int) % 8 ≤ 100 from Int.not_le.2 g2)] at c6
          exact ⟨_, _, c6, .inr (.inl ⟨g1, g2, rfl, rfl⟩)⟩
        · rw [if_neg (not_not_intro (show 95 + (d.toNat : Int) % 8 ≤ 100 from Int.not_lt.1 g2))] at c6
          cases B0 with
          | false => exact ⟨_, _, c6, .inr (.inr (.inl ⟨g1, g2, rfl, rfl, rfl⟩))⟩
          | true => cases B1 with
            | false => exact ⟨_, _, c6, .inr (.inr (.inr (.inl ⟨g1, g2, rfl, rfl, rfl, rfl⟩)))⟩
            | true => exact ⟨_, _, c6, .inr (.inr (.inr (.inr ⟨g1, g2, rfl, rfl, rfl, rfl⟩)))⟩
      · rw [if_pos (show ¬ maxV 1 (6 + tm) = 6 from g1)] at c6
        exact ⟨_, _, c6, .inl ⟨g1, rfl, rfl⟩⟩
    clear c6
    obtain ⟨T', e', c6, hcase⟩ := hcase
    dsimp only [Pos.at]
    refine Sat.dropR [38, 40, 47] [4, 5] rfl ?_ ?_
    · (repeat' (first | exact AllP.nil | with_reducible refine AllP.cons ?_ ?_)) <;> first | exact rfl | exact trivial | exact .inl ⟨rfl, rfl, rfl⟩ | (intro _ _; exact sig_pure _) | (intro _ _; simp [pureL, pureS, pureE]; done) | exact ⟨rfl, rfl, rfl, rfl⟩
    refine Sat.freezeR true 8 rfl ?_ ?_
    · (repeat' (first | exact AllP.nil | with_reducible refine AllP.cons ?_ ?_)) <;> first | exact rfl | exact trivial | exact .inl ⟨rfl, hlen, rfl⟩ | exact .inl ⟨rfl, rfl, rfl⟩ | (intro _ _; exact sig_pure _) | (intro _ _; simp [pureL, pureS, pureE]; done) | exact ⟨rfl, rfl, rfl, rfl⟩
    repeat' (first
      | ((with_reducible apply Sat.run (X := X64)); exact rfl; (first | exact True.intro | (exact phi) | skip))
      | ((with_reducible apply Sat.call (c6)); exact rfl; exact rfl; kernel_rfl; (exact cnvX); exact rfl) | fail)
    rcases hcase with ⟨g1, rfl, rfl⟩ | ⟨g1, g2, rfl, rfl⟩ | ⟨g1, g2, rfl, rfl, rfl⟩ | ⟨g1, g2, rfl, rfl, rfl, rfl⟩ | ⟨g1, g2, rfl, rfl, rfl, rfl⟩
    · repeat' (first
          | (rw [b1])
          | (rw [b0])
          | ((with_reducible apply Sat.run (X := X64)); exact rfl; (first | exact True.intro | (exact phi) | skip))
          | ((with_reducible apply Sat.drawn); kernel_rfl)
          | ((with_reducible apply DSat.run (X := X64)); exact rfl; (first | exact True.intro | (exact phi) | skip))
          | ((with_reducible apply DSat.fin); kernel_rfl)
          | ((with_reducible apply Sat.cond_t); exact rfl)
          | ((with_reducible apply Sat.cond_f); exact rfl)
          | ((with_reducible apply Sat.cond_pt); exact rfl; (try dsimp only [V.EV.sub, V.EV.len]); first | assumption | omega)
          | ((with_reducible apply Sat.cond_pf); exact rfl; (try dsimp only [V.EV.sub, V.EV.len]); first | assumption | omega)
          | ((with_reducible apply Sat.cond_p); exact rfl; all_goals intro h)
          | ((with_reducible apply Sat.cond); exact rfl; all_goals intro h)
          | ((with_reducible apply Sat.callG1 (c7)); exact rfl; exact rfl; exact rfl; exact rfl; kernel_rfl; (intro hG; (exact cnvX)); exact rfl)
          | ((with_reducible apply DSat.callG1 (c7)); exact rfl; exact rfl; exact rfl; exact rfl; kernel_rfl; (intro hG; (exact cnvX)); exact rfl)
          | ((with_reducible apply Sat.callG1 (c8)); exact rfl; exact rfl; exact rfl; exact rfl; kernel_rfl; (intro hG; (exact cnvX)); exact rfl)
          | ((with_reducible apply DSat.callG1 (c8)); exact rfl; exact rfl; exact rfl; exact rfl; kernel_rfl; (intro hG; (exact cnvX)); exact rfl)
          | ((with_reducible apply Sat.callG1 (c9)); exact rfl; exact rfl; exact rfl; exact rfl; kernel_rfl; (intro hG; (exact cnvX)); exact rfl)
          | ((with_reducible apply DSat.callG1 (c9)); exact rfl; exact rfl; exact rfl; exact rfl; kernel_rfl; (intro hG; (exact cnvX)); exact rfl)
          | ((with_reducible apply Sat.callG1 (c10)); exact rfl; exact rfl; exact rfl; exact rfl; kernel_rfl; (intro hG; (exact cnvX)); exact rfl)
          | ((with_reducible apply DSat.callG1 (c10)); exact rfl; exact rfl; exact rfl; exact rfl; kernel_rfl; (intro hG; (exact cnvX)); exact rfl) | fail)
      all_goals (refine Sat.fin (Sat.end1 rfl rfl rfl True.intro (.refl _ purX) (by first | exact .inl rfl | exact .inr rfl) (fun _ h => h)) ?_; (first | rfl | (simp; done)))
    · repeat' (first
          | (rw [b1])
          | (rw [b0])
          | ((with_reducible apply Sat.run (X := X64)); exact rfl; (first | exact True.intro | (exact phi) | skip))
          | ((with_reducible apply Sat.drawn); kernel_rfl)
          | ((with_reducible apply DSat.run (X := X64)); exact rfl; (first | exact True.intro | (exact phi) | skip))
          | ((with_reducible apply DSat.fin); kernel_rfl)
          | ((with_reducible apply Sat.cond_t); exact rfl)
          | ((with_reducible apply Sat.cond_f); exact rfl)
          | ((with_reducible apply Sat.cond_pt); exact rfl; (try dsimp only [V.EV.sub, V.EV.len]); first | assumption | omega)
          | ((with_reducible apply Sat.cond_pf); exact rfl; (try dsimp only [V.EV.sub, V.EV.len]); first | assumption | omega)
          | ((with_reducible apply Sat.cond_p); exact rfl; all_goals intro h)
          | ((with_reducible apply Sat.cond); exact rfl; all_goals intro h)
          | ((with_reducible apply Sat.callG1 (c7)); exact rfl; exact rfl; exact rfl; exact rfl; kernel_rfl; (intro hG; (exact cnvX)); exact rfl)
          | ((with_reducible apply DSat.callG1 (c7)); exact rfl; exact rfl; exact rfl; exact rfl; kernel_rfl; (intro hG; (exact cnvX)); exact rfl)
          | ((with_reducible apply Sat.callG1 (c8)); exact rfl; exact rfl; exact rfl; exact rfl; kernel_rfl; (intro hG; (exact cnvX)); exact rfl)
          | ((with_reducible apply DSat.callG1 (c8)); exact rfl; exact rfl; exact rfl; exact rfl; kernel_rfl; (intro hG; (exact cnvX)); exact rfl)
          | ((with_reducible apply Sat.callG1 (c9)); exact rfl; exact rfl; exact rfl; exact rfl; kernel_rfl; (intro hG; (exact cnvX)); exact rfl)
          | ((with_reducible apply DSat.callG1 (c9)); exact rfl; exact rfl; exact rfl; exact rfl; kernel_rfl; (intro hG; (exact cnvX)); exact rfl)
          | ((with_reducible apply Sat.callG1 (c10)); exact rfl; exact rfl; exact rfl; exact rfl; kernel_rfl; (intro hG; (exact cnvX)); exact rfl)
          | ((with_reducible apply DSat.callG1 (c10)); exact rfl; exact rfl; exact rfl; exact rfl; kernel_rfl; (intro hG; (exact cnvX)); exact rfl) | fail)
      all_goals (refine Sat.fin (Sat.end1 rfl rfl rfl True.intro (.refl _ purX) (by first | exact .inl rfl | exact .inr rfl) (fun _ h => h)) ?_; (first | rfl | (simp; done)))
    · repeat' (first
          | (rw [b1])
          | (rw [b0])
          | ((with_reducible apply Sat.run (X := X64)); exact rfl; (first | exact True.intro | (exact phi) | skip))
          | ((with_reducible apply Sat.drawn); kernel_rfl)
          | ((with_reducible apply DSat.run (X := X64)); exact rfl; (first | exact True.intro | (exact phi) | skip))
          | ((with_reducible apply DSat.fin); kernel_rfl)
          | ((with_reducible apply Sat.cond_t); exact rfl)
          | ((with_reducible apply Sat.cond_f); exact rfl)
          | ((with_reducible apply Sat.cond_pt); exact rfl; (try dsimp only [V.EV.sub, V.EV.len]); first | assumption | omega)
          | ((with_reducible apply Sat.cond_pf); exact rfl; (try dsimp only [V.EV.sub, V.EV.len]); first | assumption | omega)
          | ((with_reducible apply Sat.cond_p); exact rfl; all_goals intro h)
          | ((with_reducible apply Sat.cond); exact rfl; all_goals intro h)
          | ((with_reducible apply Sat.callG1 (c7)); exact rfl; exact rfl; exact rfl; exact rfl; kernel_rfl; (intro hG; (exact cnvX)); exact rfl)
          | ((with_reducible apply DSat.callG1 (c7)); exact rfl; exact rfl; exact rfl; exact rfl; kernel_rfl; (intro hG; (exact cnvX)); exact rfl)
          | ((with_reducible apply Sat.callG1 (c8)); exact rfl; exact rfl; exact rfl; exact rfl; kernel_rfl; (intro hG; (exact cnvX)); exact rfl)
          | ((with_reducible apply DSat.callG1 (c8)); exact rfl; exact rfl; exact rfl; exact rfl; kernel_rfl; (intro hG; (exact cnvX)); exact rfl)
          | ((with_reducible apply Sat.callG1 (c9)); exact rfl; exact rfl; exact rfl; exact rfl; kernel_rfl; (intro hG; (exact cnvX)); exact rfl)
          | ((with_reducible apply DSat.callG1 (c9)); exact rfl; exact rfl; exact rfl; exact rfl; kernel_rfl; (intro hG; (exact cnvX)); exact rfl)
          | ((with_reducible apply Sat.callG1 (c10)); exact rfl; exact rfl; exact rfl; exact rfl; kernel_rfl; (intro hG; (exact cnvX)); exact rfl)
          | ((with_reducible apply DSat.callG1 (c10)); exact rfl; exact rfl; exact rfl; exact rfl; kernel_rfl; (intro hG; (exact cnvX)); exact rfl) | fail)
      all_goals (refine Sat.fin (Sat.end1 rfl rfl rfl True.intro (.refl _ purX) (by first | exact .inl rfl | exact .inr rfl) (fun _ h => h)) ?_; (first | rfl | (simp; done)))
    · repeat' (first
          | (rw [b1])
          | (rw [b0])
          | ((with_reducible apply Sat.run (X := X64)); exact rfl; (first | exact True.intro | (exact phi) | skip))
          | ((with_reducible apply Sat.drawn); kernel_rfl)
          | ((with_reducible apply DSat.run (X := X64)); exact rfl; (first | exact True.intro | (exact phi) | skip))
          | ((with_reducible apply DSat.fin); kernel_rfl)
          | ((with_reducible apply Sat.cond_t); exact rfl)
          | ((with_reducible apply Sat.cond_f); exact rfl)
          | ((with_reducible apply Sat.cond_pt); exact rfl; (try dsimp only [V.EV.sub, V.EV.len]); first | assumption | omega)
          | ((with_reducible apply Sat.cond_pf); exact rfl; (try dsimp only [V.EV.sub, V.EV.len]); first | assumption | omega)
          | ((with_reducible apply Sat.cond_p); exact rfl; all_goals intro h)
          | ((with_reducible apply Sat.cond); exact rfl; all_goals intro h)
          | ((with_reducible apply Sat.callG1 (c7)); exact rfl; exact rfl; exact rfl; exact rfl; kernel_rfl; (intro hG; (exact cnvX)); exact rfl)
          | ((with_reducible apply DSat.callG1 (c7)); exact rfl; exact rfl; exact rfl; exact rfl; kernel_rfl; (intro hG; (exact cnvX)); exact rfl)
          | ((with_reducible apply Sat.callG1 (c8)); exact rfl; exact rfl; exact rfl; exact rfl; kernel_rfl; (intro hG; (exact cnvX)); exact rfl)
          | ((with_reducible apply DSat.callG1 (c8)); exact rfl; exact rfl; exact rfl; exact rfl; kernel_rfl; (intro hG; (exact cnvX)); exact rfl)
          | ((with_reducible apply Sat.callG1 (c9)); exact rfl; exact rfl; exact rfl; exact rfl; kernel_rfl; (intro hG; (exact cnvX)); exact rfl)
          | ((with_reducible apply DSat.callG1 (c9)); exact rfl; exact rfl; exact rfl; exact rfl; kernel_rfl; (intro hG; (exact cnvX)); exact rfl)
          | ((with_reducible apply Sat.callG1 (c10)); exact rfl; exact rfl; exact rfl; exact rfl; kernel_rfl; (intro hG; (exact cnvX)); exact rfl)
          | ((with_reducible apply DSat.callG1 (c10)); exact rfl; exact rfl; exact rfl; exact rfl; kernel_rfl; (intro hG; (exact cnvX)); exact rfl) | fail)
      all_goals (refine Sat.fin (Sat.end1 rfl rfl rfl True.intro (.refl _ purX) (by first | exact .inl rfl | exact .inr rfl) (fun _ h => h)) ?_; (first | rfl | (simp; done)))
    · repeat' (first
          | (rw [b1])
          | (rw [b0])
          | ((with_reducible apply Sat.run (X := X64)); exact rfl; (first | exact True.intro | (exact phi) | skip))
          | ((with_reducible apply Sat.drawn); kernel_rfl)
          | ((with_reducible apply DSat.run (X := X64)); exact rfl; (first | exact True.intro | (exact phi) | skip))
          | ((with_reducible apply DSat.fin); kernel_rfl)
          | ((with_reducible apply Sat.cond_t); exact rfl)
          | ((with_reducible apply Sat.cond_f); exact rfl)
          | ((with_reducible apply Sat.cond_pt); exact rfl; (try dsimp only [V.EV.sub, V.EV.len]); first | assumption | omega)
          | ((with_reducible apply Sat.cond_pf); exact rfl; (try dsimp only [V.EV.sub, V.EV.len]); first | assumption | omega)
          | ((with_reducible apply Sat.cond_p); exact rfl; all_goals intro h)
          | ((with_reducible apply Sat.cond); exact rfl; all_goals intro h)
          | ((with_reducible apply Sat.callG1 (c7)); exact rfl; exact rfl; exact rfl; exact rfl; kernel_rfl; (intro hG; (exact cnvX)); exact rfl)
          | ((with_reducible apply DSat.callG1 (c7)); exact rfl; exact rfl; exact rfl; exact rfl; kernel_rfl; (intro hG; (exact cnvX)); exact rfl)
          | ((with_reducible apply Sat.callG1 (c8)); exact rfl; exact rfl; exact rfl; exact rfl; kernel_rfl; (intro hG; (exact cnvX)); exact rfl)
          | ((with_reducible apply DSat.callG1 (c8)); exact rfl; exact rfl; exact rfl; exact rfl; kernel_rfl; (intro hG; (exact cnvX)); exact rfl)
          | ((with_reducible apply Sat.callG1 (c9)); exact rfl; exact rfl; exact rfl; exact rfl; kernel_rfl; (intro hG; (exact cnvX)); exact rfl)
          | ((with_reducible apply DSat.callG1 (c9)); exact rfl; exact rfl; exact rfl; exact rfl; kernel_rfl; (intro hG; (exact cnvX)); exact rfl)
          | ((with_reducible apply Sat.callG1 (c10)); exact rfl; exact rfl; exact rfl; exact rfl; kernel_rfl; (intro hG; (exact cnvX)); exact rfl)
          | ((with_reducible apply DSat.callG1 (c10)); exact rfl; exact rfl; exact rfl; exact rfl; kernel_rfl; (intro hG; (exact cnvX)); exact rfl) | fail)
      all_goals (refine Sat.fin (Sat.end1 rfl rfl rfl True.intro (.refl _ purX) (by first | exact .inl rfl | exact .inr rfl) (fun _ h => h)) ?_; (first | rfl | (simp; done)))
end Go.Proofs.YtokaegeediokoaaGreatDoor
end
section
namespace Go.Proofs.YtokaegeediokoaaGreatDoor
open Go.RowKit Go.ChangeShapes Go.WideShapes V
set_option maxRecDepth 100000
set_option maxHeartbeats 8000000
theorem trustRotates_step (os : Os) (started : os.Started) (H : Type) (enc : TypeId × Value → H) (F : Stop.Interp) :
    ReturnsInHanded {} Tryz.checked os 6 .any ((OpenSpec.ofChange Rows.trustRotatesSpec).preRow enc Tryz.prog Tryz.f6 Rows.trustRotatesRow.domain false Rows.trustRotatesRow.laid) (((OpenSpec.ofChange Rows.trustRotatesSpec).at F).post enc Tryz.prog Tryz.f6 false true false false) := by
  refine law_step (C := Tryz.checked) (fn := Tryz.f6) (s := OpenSpec.ofChange Rows.trustRotatesSpec) (F := F) (tb := 4) Γh own started (by kernel_rfl) Tryz.func6 laidOut (by kernel_rfl) (by kernel_rfl) (by kernel_rfl) Tryz.underlying4 rfl ?_
    (row_witness (World.laidAll Tryz.prog os tabs_laid) #[.agg #[.int .u8 0, .int .u8 0, .int .u8 0, .int .u8 0], .int .i8 0, .agg #[.int .u8 0, .int .u8 0]] (World.laidAll_os _ _ _) (by kernel_rfl) (by kernel_rfl) (by kernel_rfl) (by kernel_rfl) (by kernel_rfl) (door_met os _)) tabs_glob ?_
  · intro ds hl
    obtain ⟨d1, d2, d3, rfl⟩ := list_len3 hl
    rfl
  · intro W vs ds hl ht hk
    obtain ⟨d1, d2, d3, rfl⟩ := list_len3 hl
    refine Fun.facts fun hf => ?_
    show Fun _ _ _ [.agg [.int .u8 (iOf (nthD (ptsD d1) 0)), .int .u8 (iOf (nthD (ptsD d1) 1)), .int .u8 (iOf (nthD (ptsD d1) 2)), .int .u8 (iOf (nthD (ptsD d1) 3))], .int .i8 (iOf d2), .agg [.int .u8 (iOf (nthD (ptsD d3) 0)), .int .u8 (iOf (nthD (ptsD d3) 1))]] _
    obtain ⟨⟨h1, h2, h3, h4, _⟩, h5, ⟨h6, h7, _⟩, _⟩ := hf
    rw [u8Of_i _ h1, u8Of_i _ h2, u8Of_i _ h3, u8Of_i _ h4, u8Of_i _ h6, u8Of_i _ h7]
    have h8 := i8_iff h5
    exact rotates_core _ _ _ _ (iOf d2) _ _ _ rfl (tmod3 _).1 (tmod3 _).2 h8.1 h8.2
theorem trustRotates_said : Rows.TrustRotatesSaid :=
  OpenClaim.holds_of_cond 6 Tryz.f6 rfl rfl rfl rfl rfl rfl rfl ⟨rfl, rfl, rfl, rfl, rfl⟩ rfl rfl rfl rfl rfl (by kernel_rfl) Tryz.func6 (by kernel_rfl)
    (of_decide_eq_true (by kernel_rfl)) (by unfold Func.isWrapper; first | (rw [if_pos (by decide +kernel)]; kernel_rfl) | (rw [if_neg (by decide +kernel)]; exact ⟨rfl, rfl⟩))
    (fun os started H enc _ F => by rw [OpenClaim.pre_eq_preRow]; exact trustRotates_step os started H enc F)
theorem trustRotates_plain (f : FuncId) (fn : Func) (hf : Tryz.pinned.checked.prog.funcNamed "inlay/inlaylaw27.TrustRotates" = some f) (hfn : Tryz.pinned.checked.prog.funcs[f]? = some fn) :
    false = Tryz.pinned.checked.prog.looks [] ∧ ∀ (j : Nat) t, fn.params[j]? = some t → Tryz.pinned.checked.prog.wantsStandIn t = false := by
  obtain rfl : f = 6 := Option.some.inj ((show Tryz.prog.funcNamed "inlay/inlaylaw27.TrustRotates" = some 6 by kernel_rfl).symm.trans hf) |>.symm
  obtain rfl : fn = Tryz.f6 := (Option.some.inj (Tryz.func6.symm.trans hfn)).symm
  refine ⟨by kernel_rfl, fun j t ht => ?_⟩
  have hall : Tryz.f6.params.all (fun t => !(Tryz.prog.wantsStandIn t)) = true := by kernel_rfl
  have := (Array.all_eq_true_iff_forall_mem.1 hall) t (Array.mem_of_getElem? ht)
  have h2 : Tryz.prog.wantsStandIn t = false := by simpa using this
  exact h2
theorem trustRotates_card : Rows.TrustRotatesCardSaid :=
  Claim7.holds_tied_plain_at .later [] _ _ _ _ trustRotates_said (fun _ h => by cases h) (by kernel_rfl) (fun _ h => by cases h) trustRotates_row_tie rfl ⟨rfl, rfl⟩ (by kernel_rfl) rfl trustRotates_plain (by kernel_rfl)
end Go.Proofs.YtokaegeediokoaaGreatDoor
end
