/- Whole numbers as doubles. -/
import GoSem.Core.Float
namespace Go.Proofs.YtknchhnibjfocaaDoor.Abs
open Go Ieee
noncomputable section

/-- The word of a whole number below 2^53, without its sign. -/
def nd (n : Nat) : Nat := if n = 0 then 0 else (n.log2 + 1022) * 2 ^ 52 + n * 2 ^ (52 - n.log2)

theorem log2_mul_pow {k : Nat} (hk : k ≠ 0) (s : Nat) : (k * 2 ^ s).log2 = k.log2 + s := by
  induction s with
  | zero => simp
  | succ s ih =>
    have : k * 2 ^ (s + 1) = 2 * (k * 2 ^ s) := by rw [Nat.pow_succ]; rw [← Nat.mul_assoc, Nat.mul_comm]
    rw [this, Nat.log2_two_mul (by have := Nat.two_pow_pos s; exact Nat.mul_ne_zero hk (by omega)), ih]
    omega

theorem log2_le_52 {k : Nat} (h : k < 2 ^ 53) : k.log2 ≤ 52 := by
  by_cases hk : k = 0
  · subst hk; decide
  · have := (Nat.log2_lt hk).2 h; omega

theorem double_least : double.leastPlace = -1074 := by decide
theorem double_binade : double.binade = 2 ^ 52 := rfl
theorem double_inf : double.infRung = 2047 * 2 ^ 52 := by decide

theorem cut_zero (neg : Bool) (n : Nat) : Toward.even.cut neg n 0 = n := by
  unfold Toward.cut
  simp [Nat.mod_one]
theorem cut_pow (neg : Bool) (m d : Nat) (hm : m ≠ 0) : Toward.even.cut neg (m * 2 ^ d) d = m := by
  have hmin : min d ((m * 2 ^ d).log2 + 2) = d := by rw [log2_mul_pow hm]; omega
  unfold Toward.cut
  simp only [hmin, Nat.one_shiftLeft]
  have h1 : m * 2 ^ d / 2 ^ d = m := Nat.mul_div_cancel _ (Nat.two_pow_pos d)
  have h2 : m * 2 ^ d % 2 ^ d = 0 := Nat.mul_mod_left _ _
  rw [h1, h2]
  simp

theorem nearest_nd (neg : Bool) (k s : Nat) (hk : k < 2 ^ 53) : double.nearest neg (k * 2 ^ s) (-(s : Int)) = double.word neg (nd k) := by
  by_cases h0 : k = 0
  · subst h0; simp [Format.nearest, nd]
  have hl := log2_le_52 hk
  have hne : k * 2 ^ s ≠ 0 := Nat.mul_ne_zero h0 (by have := Nat.two_pow_pos s; omega)
  have hlast : max (-(s : Int) + ((k * 2 ^ s).log2 : Nat) - (double.fractionBits : Nat)) (-1074) = (k.log2 : Int) - 52 := by
    rw [log2_mul_pow h0]
    show max (-(s : Int) + ((k.log2 + s : Nat) : Int) - 52) (-1074) = _
    omega
  unfold Format.nearest
  simp only [double_least, if_neg hne, double_binade, double_inf]
  simp only [hlast]
  have hkept : Toward.even.cut neg ((k * 2 ^ s) <<< (-(s : Int) - ((k.log2 : Int) - 52)).toNat) ((k.log2 : Int) - 52 - -(s : Int)).toNat = k * 2 ^ (52 - k.log2) := by
    by_cases hs : s ≤ 52 - k.log2
    · rw [show ((k.log2 : Int) - 52 - -(s : Int)).toNat = 0 from by omega, show (-(s : Int) - ((k.log2 : Int) - 52)).toNat = 52 - k.log2 - s from by omega, cut_zero, Nat.shiftLeft_eq, Nat.mul_assoc, ← Nat.pow_add]
      congr 2; omega
    · rw [show (-(s : Int) - ((k.log2 : Int) - 52)).toNat = 0 from by omega, show ((k.log2 : Int) - 52 - -(s : Int)).toNat = s - (52 - k.log2) from by omega, Nat.shiftLeft_zero]
      have : k * 2 ^ s = (k * 2 ^ (52 - k.log2)) * 2 ^ (s - (52 - k.log2)) := by rw [Nat.mul_assoc, ← Nat.pow_add]; congr 2; omega
      rw [this]
      exact cut_pow _ _ _ (Nat.mul_ne_zero h0 (by have := Nat.two_pow_pos (52 - k.log2); omega))
  rw [hkept]
  have hbound : k * 2 ^ (52 - k.log2) < 2 ^ 53 := by
    have h1 : k < 2 ^ (k.log2 + 1) := Nat.lt_log2_self
    have h2 : k * 2 ^ (52 - k.log2) < 2 ^ (k.log2 + 1) * 2 ^ (52 - k.log2) := Nat.mul_lt_mul_of_pos_right h1 (Nat.two_pow_pos _)
    rw [← Nat.pow_add] at h2
    have : k.log2 + 1 + (52 - k.log2) = 53 := by omega
    rw [this] at h2; exact h2
  have hmin : min (((k.log2 : Int) - 52 - -1074).toNat * 2 ^ 52 + k * 2 ^ (52 - k.log2)) (2047 * 2 ^ 52) = nd k := by
    unfold nd
    rw [if_neg h0, show ((k.log2 : Int) - 52 - -1074).toNat = k.log2 + 1022 from by omega]
    have : (k.log2 + 1022) * 2 ^ 52 ≤ 1074 * 2 ^ 52 := Nat.mul_le_mul_right _ (by omega)
    have hle : (k.log2 + 1022) * 2 ^ 52 + k * 2 ^ (52 - k.log2) ≤ 2047 * 2 ^ 52 := by
      refine Nat.le_trans (Nat.add_le_add this (Nat.le_of_lt hbound)) (by decide)
    rw [Nat.min_eq_left hle]
  rw [hmin]

theorem double_sign : double.signWeight = 2 ^ 63 := rfl
theorem nd_lt {k : Nat} (hk : k < 2 ^ 53) : nd k < 2 ^ 63 := by
  unfold nd
  by_cases h0 : k = 0
  · simp [h0]
  rw [if_neg h0]
  have hl := log2_le_52 hk
  have h1 : k < 2 ^ (k.log2 + 1) := Nat.lt_log2_self
  have h2 : k * 2 ^ (52 - k.log2) < 2 ^ (k.log2 + 1) * 2 ^ (52 - k.log2) := Nat.mul_lt_mul_of_pos_right h1 (Nat.two_pow_pos _)
  rw [← Nat.pow_add, show k.log2 + 1 + (52 - k.log2) = 53 from by omega] at h2
  have : (k.log2 + 1022) * 2 ^ 52 ≤ 1074 * 2 ^ 52 := Nat.mul_le_mul_right _ (by omega)
  omega

/-- The place of the last digit. -/
def ndP (k : Nat) : Nat := if k = 0 then 1074 else 52 - k.log2
theorem read_nd (neg : Bool) {k : Nat} (hk : k < 2 ^ 53) : double.read (double.word neg (nd k)) = .number neg (k * 2 ^ ndP k) (-(ndP k : Int)) := by
  have hlt := nd_lt hk
  have hneg : (double.word neg (nd k) / 2 ^ 63 % 2 == 1) = neg := by
    unfold Format.word
    rw [double_sign]
    cases neg with
    | true =>
      have : (2 ^ 63 + nd k) / 2 ^ 63 = 1 := by omega
      simp [this]
    | false =>
      have : nd k / 2 ^ 63 = 0 := by omega
      simp [this]
  have hmod : double.word neg (nd k) % 2 ^ 63 = nd k := by
    unfold Format.word
    rw [double_sign]
    cases neg with
    | true => simp only [if_true]; omega
    | false => simp only [Bool.false_eq_true, if_false]; omega
  unfold Format.read
  simp only [double_sign, hneg, hmod, double_binade, double_least, double_inf]
  by_cases h0 : k = 0
  · subst h0
    rw [show nd 0 = 0 from rfl, Nat.zero_mul, show ndP 0 = 1074 from rfl, if_pos (by decide)]
    rfl
  have hl := log2_le_52 hk
  have h1 : k < 2 ^ (k.log2 + 1) := Nat.lt_log2_self
  have h3 : 2 ^ k.log2 ≤ k := Nat.log2_self_le h0
  have h2 : k * 2 ^ (52 - k.log2) < 2 ^ 53 := by
    have := Nat.mul_lt_mul_of_pos_right h1 (Nat.two_pow_pos (52 - k.log2))
    rw [← Nat.pow_add, show k.log2 + 1 + (52 - k.log2) = 53 from by omega] at this
    exact this
  have h4 : 2 ^ 52 ≤ k * 2 ^ (52 - k.log2) := by
    have := Nat.mul_le_mul_right (2 ^ (52 - k.log2)) h3
    rw [← Nat.pow_add, show k.log2 + (52 - k.log2) = 52 from by omega] at this
    exact this
  have hP : ndP k = 52 - k.log2 := by unfold ndP; rw [if_neg h0]
  have hN : nd k = (k.log2 + 1022) * 2 ^ 52 + k * 2 ^ (52 - k.log2) := by unfold nd; rw [if_neg h0]
  rw [hP, hN]
  generalize k * 2 ^ (52 - k.log2) = m at *
  rw [if_neg (by omega), if_pos (by omega)]
  have hm : ((k.log2 + 1022) * 2 ^ 52 + m) % 2 ^ 52 = m - 2 ^ 52 := by omega
  have hd : ((k.log2 + 1022) * 2 ^ 52 + m) / 2 ^ 52 = k.log2 + 1023 := by omega
  rw [hm, hd, show 2 ^ 52 + (m - 2 ^ 52) = m from by omega, show (-1074 : Int) + ((k.log2 + 1023 - 1 : Nat) : Int) = -((52 - k.log2 : Nat) : Int) from by omega]

/-- The word of a whole number. -/
def zd (z : Int) : Nat := double.word (decide (z < 0)) (nd z.natAbs)

theorem signed_zd (z : Int) (p q : Nat) : signed (decide (z < 0)) (z.natAbs * 2 ^ p) q = z * 2 ^ (p + q) := by
  unfold signed
  rw [Nat.shiftLeft_eq, Nat.mul_assoc, ← Nat.pow_add]
  by_cases h : z < 0
  · simp only [h, decide_true, if_true]
    rw [Int.natCast_mul, show ((z.natAbs : Nat) : Int) = -z from by omega]
    simp [Int.neg_mul]
  · simp only [h, decide_false, Bool.false_eq_true, if_false]
    rw [Int.natCast_mul, show ((z.natAbs : Nat) : Int) = z from by omega]
    simp
end
end Go.Proofs.YtknchhnibjfocaaDoor.Abs
