/- Whole numbers as doubles: what is reckoned with them. -/
import Derived.Test.YtknchhnibjfocaaDoorAbsHA
namespace Go.Proofs.YtknchhnibjfocaaDoor.Abs
open Go Ieee
noncomputable section

def zsmall (z : Int) : Prop := z.natAbs < 2 ^ 53
theorem read_zd {z : Int} (h : zsmall z) : double.read (zd z) = .number (decide (z < 0)) (z.natAbs * 2 ^ ndP z.natAbs) (-(ndP z.natAbs : Int)) := read_nd _ h
theorem pow_pos' (n : Nat) : (0 : Int) < 2 ^ n := by exact_mod_cast Nat.two_pow_pos n
theorem natAbs_pow (z : Int) (n : Nat) : (z * 2 ^ n).natAbs = z.natAbs * 2 ^ n := by
  rw [Int.natAbs_mul]; congr 1
theorem write_zd {z : Int} (h : zsmall z) (M : Nat) (s t : Bool) (hst : z = 0 → (s && t) = false) :
    double.write (.number (if z * 2 ^ M = 0 then s && t else decide (z * 2 ^ M < 0)) (z * 2 ^ M).natAbs (-(M : Int))) = zd z := by
  show double.nearest _ _ _ = _
  rw [natAbs_pow, nearest_nd _ _ _ h]
  unfold zd
  congr 1
  by_cases h0 : z = 0
  · subst h0; simp [hst rfl]
  · have hp := pow_pos' M
    have : ¬ z * 2 ^ M = 0 := fun hh => by rcases Int.mul_eq_zero.1 hh with h | h <;> omega
    rw [if_neg this]
    by_cases hz : z < 0
    · simp [hz, Int.mul_neg_of_neg_of_pos hz hp]
    · have h1 : 0 ≤ z * 2 ^ M := Int.mul_nonneg (by omega) (by omega)
      simp [hz]; omega

theorem sum_zd {a b : Int} (_ha : zsmall a) (_hb : zsmall b) (hab : zsmall (a + b)) (s t : Bool) (x y : Datum)
    (hx : x = .number s (a.natAbs * 2 ^ ndP a.natAbs) (-(ndP a.natAbs : Int))) (hy : y = .number t (b.natAbs * 2 ^ ndP b.natAbs) (-(ndP b.natAbs : Int)))
    (hs : ∀ q, signed s (a.natAbs * 2 ^ ndP a.natAbs) q = a * 2 ^ (ndP a.natAbs + q)) (ht : ∀ q, signed t (b.natAbs * 2 ^ ndP b.natAbs) q = b * 2 ^ (ndP b.natAbs + q))
    (hst : a + b = 0 → (s && t) = false) : (x.sum y).map double.write = some (zd (a + b)) := by
  subst hx hy
  generalize ndP a.natAbs = p at *
  generalize ndP b.natAbs = q at *
  simp only [Datum.sum, Option.map_some, hs, ht]
  have hmin : min (-(p : Int)) (-(q : Int)) = -((max p q : Nat) : Int) := by omega
  rw [hmin, show (-(p : Int) - -((max p q : Nat) : Int)).toNat = max p q - p from by omega, show (-(q : Int) - -((max p q : Nat) : Int)).toNat = max p q - q from by omega,
    show p + (max p q - p) = max p q from by omega, show q + (max p q - q) = max p q from by omega, ← Int.add_mul]
  rw [write_zd hab _ _ _ hst]

theorem add_zd {a b : Int} (ha : zsmall a) (hb : zsmall b) (hab : zsmall (a + b)) : double.add (zd a) (zd b) = some (zd (a + b)) := by
  unfold Format.add
  exact sum_zd ha hb hab _ _ _ _ (read_zd ha) (read_zd hb) (fun q => signed_zd a _ q) (fun q => signed_zd b _ q) (fun h => by
    by_cases h1 : a < 0
    · have : ¬ b < 0 := by omega
      simp [this]
    · simp [h1])
theorem signed_not (z : Int) (_h : z ≠ 0 ∨ True) (p q : Nat) (b : Int) (hb : b = -z) : signed (!decide (z < 0)) (b.natAbs * 2 ^ p) q = b * 2 ^ (p + q) := by
  subst hb
  unfold signed
  rw [Nat.shiftLeft_eq, Nat.mul_assoc, ← Nat.pow_add]
  by_cases h : z < 0
  · simp only [h, decide_true, Bool.not_true, Bool.false_eq_true, if_false]
    rw [Int.natCast_mul, show (((-z).natAbs : Nat) : Int) = -z from by omega]
    simp
  · simp only [h, decide_false, Bool.not_false, if_true]
    rw [Int.natCast_mul, show (((-z).natAbs : Nat) : Int) = z from by omega]
    simp [Int.neg_mul]
theorem sub_zd {a b : Int} (ha : zsmall a) (hb : zsmall b) (hab : zsmall (a - b)) : double.sub (zd a) (zd b) = some (zd (a - b)) := by
  unfold Format.sub
  have hn : (-b).natAbs = b.natAbs := Int.natAbs_neg b
  rw [Int.sub_eq_add_neg] at *
  refine sum_zd (b := -b) ha (by unfold zsmall at *; rw [hn]; exact hb) hab (decide (a < 0)) (!decide (b < 0)) _ _ (read_zd ha) ?_ (fun q => signed_zd a _ q) (fun q => signed_not b (.inr trivial) _ q _ rfl) ?_
  · rw [read_zd hb, hn]; rfl
  · intro h
    by_cases h1 : a < 0
    · have : b < 0 := by omega
      simp [this]
    · simp [h1]
theorem mul_zd {a b : Int} (ha : zsmall a) (hb : zsmall b) (hab : zsmall (a * b)) (hs : (0 ≤ a ∧ 0 ≤ b) ∨ (a ≠ 0 ∧ b ≠ 0)) : double.mul (zd a) (zd b) = some (zd (a * b)) := by
  unfold Format.mul
  rw [read_zd ha, read_zd hb]
  simp only [Datum.product, Option.map_some]
  congr 1
  show double.nearest _ _ _ = _
  have h1 : a.natAbs * 2 ^ ndP a.natAbs * (b.natAbs * 2 ^ ndP b.natAbs) = (a * b).natAbs * 2 ^ (ndP a.natAbs + ndP b.natAbs) := by
    rw [Int.natAbs_mul, Nat.pow_add]
    simp only [Nat.mul_assoc, Nat.mul_left_comm]
  rw [h1, show -(ndP a.natAbs : Int) + -(ndP b.natAbs : Int) = -((ndP a.natAbs + ndP b.natAbs : Nat) : Int) from by omega, nearest_nd _ _ _ hab]
  unfold zd
  congr 1
  rcases hs with ⟨h2, h3⟩ | ⟨h2, h3⟩
  · have := Int.mul_nonneg h2 h3
    have e1 : ¬ a < 0 := by omega
    have e2 : ¬ b < 0 := by omega
    have e3 : ¬ a * b < 0 := by omega
    simp [e1, e2, e3]
  · rcases Int.lt_or_gt_of_ne h2 with h4 | h4 <;> rcases Int.lt_or_gt_of_ne h3 with h5 | h5
    · have := Int.mul_pos_of_neg_of_neg h4 h5
      simp [h4, h5]; omega
    · have := Int.mul_neg_of_neg_of_pos h4 h5
      have e : ¬ b < 0 := by omega
      simp [h4, e, this]
    · have := Int.mul_neg_of_pos_of_neg h4 h5
      have e : ¬ a < 0 := by omega
      simp [h5, e, this]
    · have := Int.mul_pos h4 h5
      have e : ¬ a < 0 := by omega
      have e2 : ¬ b < 0 := by omega
      simp [e, e2]; omega
end
end Go.Proofs.YtknchhnibjfocaaDoor.Abs
