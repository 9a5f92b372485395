/- Whole numbers as doubles: read fast; the operators of floats and complex numbers on them. -/
import Derived.Test.YtknchhnibjfocaaDoorAbsHB
import GoSem.Op.Complex
import GoSem.Conv.FloatToInt
import GoSem.Conv.IntToFloat
import GoSem.Dispatch
import Derived.Laws.Sem
namespace Go.Proofs.YtknchhnibjfocaaDoor.Abs
open Go Ieee
noncomputable section

def zok (z : Int) : Bool := Nat.blt z.natAbs 9007199254740992
theorem zok_small {z : Int} (h : zok z = true) : zsmall z := by
  have := Nat.le_of_ble_eq_true h
  unfold zsmall
  exact this
/-- The whole number that a word is. -/
def dzN (r : Nat) : Nat := match r with
  | 0 => 0
  | r => (4503599627370496 + r % 4503599627370496) / 2 ^ (1075 - r / 4503599627370496)
def dz (x : Nat) : Option Int :=
  let n := dzN (x % 9223372036854775808)
  let z : Int := match Nat.ble 9223372036854775808 x with
    | true => -(n : Int)
    | false => (n : Int)
  match zok z && Nat.beq (zd z) x with
  | true => some z
  | false => none
theorem dz_spec {x : Nat} {z : Int} (h : dz x = some z) : x = zd z ∧ zsmall z := by
  unfold dz at h
  simp only at h
  generalize (match Nat.ble 9223372036854775808 x with | true => -((dzN (x % 9223372036854775808) : Nat) : Int) | false => ((dzN (x % 9223372036854775808) : Nat) : Int)) = u at h
  split at h
  · rename_i hc
    cases h
    rw [Bool.and_eq_true] at hc
    exact ⟨(Nat.eq_of_beq_eq_true hc.2).symm, zok_small hc.1⟩
  · cases h

def addz (a b : Int) : Option Int := match zok (a + b) with
  | true => some (a + b)
  | false => none
def subz (a b : Int) : Option Int := match zok (a - b) with
  | true => some (a - b)
  | false => none
def signs (a b : Int) : Bool := match a, b with
  | .ofNat _, .ofNat _ => true
  | a, b => !Nat.beq a.natAbs 0 && !Nat.beq b.natAbs 0
def mulz (a b : Int) : Option Int := match zok (a * b) && signs a b with
  | true => some (a * b)
  | false => none

section
variable {P : Program} {w : World} {a b c : Int}
theorem run_add (ha : zsmall a) (hb : zsmall b) (h : addz a b = some c) : (Op.floatArith .add .f64 (zd a) (zd b)).run P w = .ok (.float .f64 (zd c)) w ∧ zsmall c := by
  unfold addz at h
  split at h
  · rename_i hc; cases h
    have := add_zd ha hb (zok_small hc)
    have h2 : (FloatKind.format .f64).add (zd a) (zd b) = some (zd (a + b)) := this
    exact ⟨by simp only [Op.floatArith, h2]; rfl, zok_small hc⟩
  · cases h
theorem run_sub (ha : zsmall a) (hb : zsmall b) (h : subz a b = some c) : (Op.floatArith .sub .f64 (zd a) (zd b)).run P w = .ok (.float .f64 (zd c)) w ∧ zsmall c := by
  unfold subz at h
  split at h
  · rename_i hc; cases h
    have := sub_zd ha hb (zok_small hc)
    have h2 : (FloatKind.format .f64).sub (zd a) (zd b) = some (zd (a - b)) := this
    exact ⟨by simp only [Op.floatArith, h2]; rfl, zok_small hc⟩
  · cases h
theorem signs_spec (h : signs a b = true) : (0 ≤ a ∧ 0 ≤ b) ∨ (a ≠ 0 ∧ b ≠ 0) := by
  unfold signs at h
  split at h
  · exact .inl ⟨Int.natCast_nonneg _, Int.natCast_nonneg _⟩
  · rw [Bool.and_eq_true] at h
    refine .inr ⟨fun h0 => ?_, fun h0 => ?_⟩
    · rw [h0] at h; exact absurd h.1 (by decide)
    · rw [h0] at h; exact absurd h.2 (by decide)
theorem run_mul (ha : zsmall a) (hb : zsmall b) (h : mulz a b = some c) : (Op.floatArith .mul .f64 (zd a) (zd b)).run P w = .ok (.float .f64 (zd c)) w ∧ zsmall c := by
  unfold mulz at h
  split at h
  · rename_i hc; cases h
    rw [Bool.and_eq_true] at hc
    have := mul_zd ha hb (zok_small hc.1) (signs_spec hc.2)
    have h2 : (FloatKind.format .f64).mul (zd a) (zd b) = some (zd (a * b)) := this
    exact ⟨by simp only [Op.floatArith, h2]; rfl, zok_small hc.1⟩
  · cases h

/-- A product of complex whole numbers. -/
def mulC (a b c d : Int) : Option (Int × Int) :=
  match mulz a c, mulz b d, mulz a d, mulz b c with
  | some p, some q, some r, some s => match subz p q, addz r s with
    | some e, some f => some (e, f)
    | _, _ => none
  | _, _, _, _ => none
theorem run_mulC {d e f : Int} (ha : zsmall a) (hb : zsmall b) (hc : zsmall c) (hd : zsmall d) (h : mulC a b c d = some (e, f)) :
    (Op.complexOp .mul .f64 (zd a) (zd b) (zd c) (zd d)).run P w = .ok (.complex .f64 (zd e) (zd f)) w := by
  unfold mulC at h
  split at h
  · rename_i p q r s h1 h2 h3 h4
    split at h
    · rename_i e' f' h5 h6
      cases h
      obtain ⟨k1, z1⟩ := run_mul (P := P) (w := w) ha hc h1
      obtain ⟨k2, z2⟩ := run_mul (P := P) (w := w) hb hd h2
      obtain ⟨k3, z3⟩ := run_mul (P := P) (w := w) ha hd h3
      obtain ⟨k4, z4⟩ := run_mul (P := P) (w := w) hb hc h4
      obtain ⟨k5, _⟩ := run_sub (P := P) (w := w) z1 z2 h5
      obtain ⟨k6, _⟩ := run_add (P := P) (w := w) z3 z4 h6
      have ar : ∀ {op : BinOp} {x y v : Nat}, (Op.floatArith op .f64 x y).run P w = .ok (.float .f64 v) w → (Op.Complex.arith op .f64 x y).run P w = .ok v w := fun h => by
        unfold Op.Complex.arith
        simp only [Sem.run_bind, h, Result.andThen_ok, Sem.run_pure]
      have hp : (Op.Complex.product (zd a) (zd b) (zd c) (zd d)).run P w = .ok (zd e, zd f) w := by
        unfold Op.Complex.product Op.Complex.mul Op.Complex.sub Op.Complex.add
        simp only [Sem.run_bind, ar k1, ar k2, ar k3, ar k4, ar k5, ar k6, Result.andThen_ok, Sem.run_pure]
      show ((do let a' ← Op.Complex.conv .f64 (zd a) .f64; let b' ← Op.Complex.conv .f64 (zd b) .f64; let c' ← Op.Complex.conv .f64 (zd c) .f64; let d' ← Op.Complex.conv .f64 (zd d) .f64
                let q ← Op.Complex.product a' b' c' d'; let x ← Op.Complex.conv .f64 q.1 .f64; let y ← Op.Complex.conv .f64 q.2 .f64; pure (.complex .f64 x y)) : Sem Value).run P w = _
      have cv : ∀ x, (Op.Complex.conv .f64 x .f64).run P w = .ok x w := fun x => rfl
      simp only [Sem.run_bind, cv, hp, Result.andThen_ok, Sem.run_pure]
    · cases h
  · cases h
theorem run_addC {d e f : Int} (ha : zsmall a) (hb : zsmall b) (hc : zsmall c) (hd : zsmall d) (h1 : addz a c = some e) (h2 : addz b d = some f) :
    (Op.complexOp .add .f64 (zd a) (zd b) (zd c) (zd d)).run P w = .ok (.complex .f64 (zd e) (zd f)) w := by
  obtain ⟨k1, _⟩ := run_add (P := P) (w := w) ha hc h1
  obtain ⟨k2, _⟩ := run_add (P := P) (w := w) hb hd h2
  have ar : ∀ {op : BinOp} {x y v : Nat}, (Op.floatArith op .f64 x y).run P w = .ok (.float .f64 v) w → (Op.Complex.arith op .f64 x y).run P w = .ok v w := fun h => by
    unfold Op.Complex.arith
    simp only [Sem.run_bind, h, Result.andThen_ok, Sem.run_pure]
  unfold Op.complexOp
  simp only [Sem.run_bind, ar k1, ar k2, Result.andThen_ok, Sem.run_pure]
end

theorem nearest_zd {n : Int} (h : zsmall n) : FloatKind.f64.nearest n = zd n := by
  have := nearest_nd (decide (n < 0)) n.natAbs 0 h
  simp only [Nat.pow_zero, Nat.mul_one] at this
  exact this
theorem cut_zero_way (neg : Bool) (m d : Nat) (hm : m ≠ 0) : Toward.zero.cut neg (m * 2 ^ d) d = m := by
  have hmin : min d ((m * 2 ^ d).log2 + 2) = d := by rw [log2_mul_pow hm]; omega
  unfold Toward.cut
  simp only [hmin, Nat.one_shiftLeft]
  rw [Nat.mul_div_cancel _ (Nat.two_pow_pos d)]
  rfl
theorem toInt_zd {z : Int} (h : zsmall z) : (FloatKind.f64.decode (zd z)).toInt .zero = some z := by
  show (double.read (zd z)).toInt .zero = some z
  rw [read_zd h]
  unfold Datum.toInt Datum.integral
  generalize ndP z.natAbs = p
  have h1 : (z.natAbs * 2 ^ p) <<< (-(p : Int)).toNat = z.natAbs * 2 ^ p := by rw [show (-(p : Int)).toNat = 0 from by omega, Nat.shiftLeft_zero]
  have h2 : (- -(p : Int)).toNat = p := by omega
  simp only [h1, h2]
  by_cases h0 : z.natAbs = 0
  · have : z = 0 := by omega
    subst this
    simp [Toward.cut, signed]
  · rw [cut_zero_way _ _ _ h0]
    have := signed_zd z 0 0
    simp only [Nat.pow_zero, Nat.mul_one, Nat.add_zero, Int.pow_zero, Int.mul_one] at this
    rw [this]
end
end Go.Proofs.YtknchhnibjfocaaDoor.Abs
