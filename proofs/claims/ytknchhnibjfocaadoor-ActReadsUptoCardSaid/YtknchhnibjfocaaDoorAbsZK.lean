/- An abstract machine: whole numbers as doubles, compared and cut. -/
import Derived.Test.YtknchhnibjfocaaDoorAbsZJ
import Derived.IntWalk
namespace Go.Proofs.YtknchhnibjfocaaDoor.Abs
open Go Ieee
noncomputable section

theorem order_zd {a b : Int} (ha : zok a = true) (hb : zok b = true) : double.order (zd a) (zd b) = some (compare a b) := by
  unfold Format.order
  rw [read_zd (zok_small ha), read_zd (zok_small hb)]
  unfold Datum.order
  simp only
  generalize ndP a.natAbs = p
  generalize ndP b.natAbs = q
  rw [signed_zd, signed_zd]
  have e1 : p + (-(p : Int) - min (-(p : Int)) (-(q : Int))).toNat = max p q := by omega
  have e2 : q + (-(q : Int) - min (-(p : Int)) (-(q : Int))).toNat = max p q := by omega
  rw [e1, e2]
  have hp : (0 : Int) < 2 ^ (max p q) := pow_pos' _
  congr 1
  rw [Int.compare_eq_ite_lt, Int.compare_eq_ite_lt]
  have h1 : (a * 2 ^ max p q < b * 2 ^ max p q) ↔ a < b := ⟨fun h => Int.lt_of_mul_lt_mul_right h (Int.le_of_lt hp), fun h => Int.mul_lt_mul_of_pos_right h hp⟩
  have h2 : (b * 2 ^ max p q < a * 2 ^ max p q) ↔ b < a := ⟨fun h => Int.lt_of_mul_lt_mul_right h (Int.le_of_lt hp), fun h => Int.mul_lt_mul_of_pos_right h hp⟩
  simp only [h1, h2]
theorem slow_of {T : Tab} {op : BinOp} {t : TypeId} {a b : Operand} {x y v : Value} (h : (do eqGuard op t a b x y; binOp op t x y : Sem Value) = Sem.pure v) (hf : flat v = true) : slowBin T op t a b x y = some v := by
  unfold slowBin
  rw [h]
  show ifB (flat v) (some v) none = _
  rw [hf]; rfl
section
variable {T : Tab} {t : TypeId} {p q : Operand} {h : AH} {x y u v : Int} (hx : zok x = true) (hy : zok y = true)
include hx hy
theorem fcmp_none {op : BinOp} (ho : op = .lss ∨ op = .leq ∨ op = .gtr ∨ op = .geq ∨ op = .eql ∨ op = .neq) : fastD op (zd x) (zd y) = none := by
  unfold fastD
  rw [dz_zd hx, dz_zd hy]
  rcases ho with rfl | rfl | rfl | rfl | rfl | rfl <;> rfl
theorem fcmp_bin {op : BinOp} {b : Bool} (ho : op = .lss ∨ op = .leq ∨ op = .gtr ∨ op = .geq ∨ op = .eql ∨ op = .neq) (e : Op.floatCmp op .f64 (zd x) (zd y) = Sem.pure (.bool b)) :
    evBin T op t p q (.float .f64 (zd x)) (.float .f64 (zd y)) h = some (.bool b) := by
  show orV (fastD op (zd x) (zd y)) (slowBin T op t p q (.float .f64 (zd x)) (.float .f64 (zd y))) = _
  rw [fcmp_none hx hy ho, slow_of (v := .bool b) ?_ rfl]; · rfl
  rw [← e]
  rcases ho with rfl | rfl | rfl | rfl | rfl | rfl <;> rfl
theorem f_lss : evBin T .lss t p q (.float .f64 (zd x)) (.float .f64 (zd y)) h = some (.bool (decide (x < y))) := by
  refine fcmp_bin hx hy (by simp) ?_
  have ho : (FloatKind.format .f64).order (zd x) (zd y) = some (compare x y) := order_zd hx hy
  simp only [Op.floatCmp, ho, Int.compare_eq_ite_lt]
  rcases Int.lt_trichotomy x y with h1 | h1 | h1
  · have h2 : ¬ y < x := by omega
    have h3 : ¬ x = y := by omega
    have h4 : x ≤ y := by omega
    have h5 : ¬ y ≤ x := by omega
    simp only [h1, h2, if_true, if_false, decide_true]; rfl
  · subst h1
    have h2 : ¬ x < x := by omega
    have h4 : x ≤ x := by omega
    simp only [h2, if_false, decide_false]; rfl
  · have h2 : ¬ x < y := by omega
    have h3 : ¬ x = y := by omega
    have h4 : ¬ x ≤ y := by omega
    have h5 : y ≤ x := by omega
    simp only [h1, h2, if_true, if_false, decide_false]; rfl
theorem f_leq : evBin T .leq t p q (.float .f64 (zd x)) (.float .f64 (zd y)) h = some (.bool (decide (x ≤ y))) := by
  refine fcmp_bin hx hy (by simp) ?_
  have ho : (FloatKind.format .f64).order (zd x) (zd y) = some (compare x y) := order_zd hx hy
  simp only [Op.floatCmp, ho, Int.compare_eq_ite_lt]
  rcases Int.lt_trichotomy x y with h1 | h1 | h1
  · have h2 : ¬ y < x := by omega
    have h3 : ¬ x = y := by omega
    have h4 : x ≤ y := by omega
    have h5 : ¬ y ≤ x := by omega
    simp only [h1, h2, h4, if_true, if_false, decide_true]; rfl
  · subst h1
    have h2 : ¬ x < x := by omega
    have h4 : x ≤ x := by omega
    simp only [h2, h4, if_false, decide_true]; rfl
  · have h2 : ¬ x < y := by omega
    have h3 : ¬ x = y := by omega
    have h4 : ¬ x ≤ y := by omega
    have h5 : y ≤ x := by omega
    simp only [h1, h2, h4, if_true, if_false, decide_false]; rfl
theorem f_gtr : evBin T .gtr t p q (.float .f64 (zd x)) (.float .f64 (zd y)) h = some (.bool (decide (y < x))) := by
  refine fcmp_bin hx hy (by simp) ?_
  have ho : (FloatKind.format .f64).order (zd x) (zd y) = some (compare x y) := order_zd hx hy
  simp only [Op.floatCmp, ho, Int.compare_eq_ite_lt]
  rcases Int.lt_trichotomy x y with h1 | h1 | h1
  · have h2 : ¬ y < x := by omega
    have h3 : ¬ x = y := by omega
    have h4 : x ≤ y := by omega
    have h5 : ¬ y ≤ x := by omega
    simp only [h1, h2, if_true, if_false, decide_false]; rfl
  · subst h1
    have h2 : ¬ x < x := by omega
    have h4 : x ≤ x := by omega
    simp only [h2, if_false, decide_false]; rfl
  · have h2 : ¬ x < y := by omega
    have h3 : ¬ x = y := by omega
    have h4 : ¬ x ≤ y := by omega
    have h5 : y ≤ x := by omega
    simp only [h1, h2, if_true, if_false, decide_true]; rfl
theorem f_geq : evBin T .geq t p q (.float .f64 (zd x)) (.float .f64 (zd y)) h = some (.bool (decide (y ≤ x))) := by
  refine fcmp_bin hx hy (by simp) ?_
  have ho : (FloatKind.format .f64).order (zd x) (zd y) = some (compare x y) := order_zd hx hy
  simp only [Op.floatCmp, ho, Int.compare_eq_ite_lt]
  rcases Int.lt_trichotomy x y with h1 | h1 | h1
  · have h2 : ¬ y < x := by omega
    have h3 : ¬ x = y := by omega
    have h4 : x ≤ y := by omega
    have h5 : ¬ y ≤ x := by omega
    simp only [h1, h2, h5, if_true, if_false, decide_false]; rfl
  · subst h1
    have h2 : ¬ x < x := by omega
    have h4 : x ≤ x := by omega
    simp only [h2, h4, if_false, decide_true]; rfl
  · have h2 : ¬ x < y := by omega
    have h3 : ¬ x = y := by omega
    have h4 : ¬ x ≤ y := by omega
    have h5 : y ≤ x := by omega
    simp only [h1, h2, h5, if_true, if_false, decide_true]; rfl
theorem f_eql : evBin T .eql t p q (.float .f64 (zd x)) (.float .f64 (zd y)) h = some (.bool (decide (x = y))) := by
  refine fcmp_bin hx hy (by simp) ?_
  have ho : (FloatKind.format .f64).order (zd x) (zd y) = some (compare x y) := order_zd hx hy
  simp only [Op.floatCmp, ho, Int.compare_eq_ite_lt]
  rcases Int.lt_trichotomy x y with h1 | h1 | h1
  · have h2 : ¬ y < x := by omega
    have h3 : ¬ x = y := by omega
    have h4 : x ≤ y := by omega
    have h5 : ¬ y ≤ x := by omega
    simp only [h1, h2, h3, if_true, if_false, decide_false]; rfl
  · subst h1
    have h2 : ¬ x < x := by omega
    have h4 : x ≤ x := by omega
    simp only [h2, if_false, decide_true]; rfl
  · have h2 : ¬ x < y := by omega
    have h3 : ¬ x = y := by omega
    have h4 : ¬ x ≤ y := by omega
    have h5 : y ≤ x := by omega
    simp only [h1, h2, h3, if_true, if_false, decide_false]; rfl
theorem f_neq : evBin T .neq t p q (.float .f64 (zd x)) (.float .f64 (zd y)) h = some (.bool (!decide (x = y))) := by
  refine fcmp_bin hx hy (by simp) ?_
  have ho : (FloatKind.format .f64).order (zd x) (zd y) = some (compare x y) := order_zd hx hy
  simp only [Op.floatCmp, ho, Int.compare_eq_ite_lt]
  rcases Int.lt_trichotomy x y with h1 | h1 | h1
  · have h2 : ¬ y < x := by omega
    have h3 : ¬ x = y := by omega
    have h4 : x ≤ y := by omega
    have h5 : ¬ y ≤ x := by omega
    simp only [h1, h2, h3, if_true, if_false, decide_false]; rfl
  · subst h1
    have h2 : ¬ x < x := by omega
    have h4 : x ≤ x := by omega
    simp only [h2, if_false, decide_true]; rfl
  · have h2 : ¬ x < y := by omega
    have h3 : ¬ x = y := by omega
    have h4 : ¬ x ≤ y := by omega
    have h5 : y ≤ x := by omega
    simp only [h1, h2, h3, if_true, if_false, decide_false]; rfl
theorem f_add (h1 : zok (x + y) = true) : evBin T .add t p q (.float .f64 (zd x)) (.float .f64 (zd y)) h = some (.float .f64 (zd (x + y))) := by
  simp only [evBin, fastD, dz_zd hx, dz_zd hy, addz, h1, orV]
theorem f_sub (h1 : zok (x - y) = true) : evBin T .sub t p q (.float .f64 (zd x)) (.float .f64 (zd y)) h = some (.float .f64 (zd (x - y))) := by
  simp only [evBin, fastD, dz_zd hx, dz_zd hy, subz, h1, orV]
end
theorem trunc_zd {P : Program} {x : Int} (hx : zok x = true) : prun P (Extern.MathFloor.toIntegral "math.archTrunc" .zero #[.float .f64 (zd x)]) = some (.float .f64 (zd x)) := by
  have hs := zok_small hx
  have hd : FloatKind.f64.decode (zd x) = .number (decide (x < 0)) (x.natAbs * 2 ^ ndP x.natAbs) (-(ndP x.natAbs : Int)) := read_zd hs
  have hw : FloatKind.f64.encode ((FloatKind.f64.decode (zd x)).integral .zero) = zd x := by
    rw [hd]
    unfold Datum.integral
    simp only
    generalize ndP x.natAbs = p
    have h1 : (x.natAbs * 2 ^ p) <<< (-(p : Int)).toNat = x.natAbs * 2 ^ p := by rw [show (-(p : Int)).toNat = 0 from by omega, Nat.shiftLeft_zero]
    have h2 : (- -(p : Int)).toNat = p := by omega
    simp only [h1, h2]
    have hc : Toward.zero.cut (decide (x < 0)) (x.natAbs * 2 ^ p) p = x.natAbs := by
      by_cases h0 : x.natAbs = 0
      · rw [h0]; simp [Toward.cut]
      · exact cut_zero_way _ _ _ h0
    rw [hc]
    exact nearest_zd hs
  show prun P (match FloatKind.f64.decode (zd x) with
    | .nan s t =>
      if FloatKind.f64.format.quiet t = t then pure (.float .f64 (zd x)) else do
      let kept ← choose (.extern "math.Floor,Ceil,Trunc,RoundToEven.signallingNaN kept" 2)
      pure (.float .f64 (if kept == 1 then zd x else FloatKind.f64.encode (.nan s (FloatKind.f64.format.quiet t))))
    | d => (pure (.float .f64 (FloatKind.f64.encode (d.integral .zero))) : Sem Value)) = _
  rw [hd] at hw ⊢
  simp only
  rw [hw]; rfl
theorem zd_nn {n : Nat} (hn : n < 9007199254740992) : zd (n : Int) = nd n := by
  unfold zd Format.word
  have : ¬ ((n : Int) < 0) := by omega
  simp [this]
theorem zd_nn_lt {n : Nat} (hn : n < 9007199254740992) : zd (n : Int) < 9223372036854775808 := by
  rw [zd_nn hn]; exact nd_lt hn
/-- The bit of the sign struck off. -/
theorem andNot_sign {T : Tab} {t : TypeId} {p q : Operand} {h : AH} {m : Nat} (hm : m < 9223372036854775808) :
    evBin T .andNot t p q (.int .u64 (m : Int)) (.int .u64 9223372036854775808) h = some (.int .u64 (m : Int)) := by
  have hk : decide (IntKind.u64 = IntKind.u64) = true := by decide
  show orV (ifB (decide (IntKind.u64 = IntKind.u64)) (fastInt .andNot .u64 (m : Int) 9223372036854775808) none) (slowBin T .andNot t p q (.int .u64 (m : Int)) (.int .u64 9223372036854775808)) = _
  have hf : fastInt .andNot .u64 (m : Int) 9223372036854775808 = none := rfl
  rw [hk, ifB_true, hf, slow_of (v := .int .u64 (m : Int)) ?_ rfl]; · rfl
  show Op.intBits .andNot .u64 (m : Int) 9223372036854775808 = _
  unfold Op.intBits
  simp only
  have : (BitVec.ofInt 64 (m : Int) &&& ~~~(BitVec.ofInt 64 9223372036854775808)).toNat = m := by
    have h1 : BitVec.ofInt 64 (m : Int) = BitVec.ofNat 64 m := by apply BitVec.eq_of_toNat_eq; simp
    have h2 : (~~~(BitVec.ofInt 64 9223372036854775808) : BitVec 64) = BitVec.ofNat 64 (2 ^ 63 - 1) := by decide
    rw [h1, h2, BitVec.toNat_and, BitVec.toNat_ofNat, BitVec.toNat_ofNat]
    rw [Nat.mod_eq_of_lt (by omega), Nat.mod_eq_of_lt (by decide), Nat.and_two_pow_sub_one_eq_mod]
    exact Nat.mod_eq_of_lt hm
  have h3 : (BitVec.ofInt IntKind.u64.bits (m : Int) &&& ~~~(BitVec.ofInt IntKind.u64.bits 9223372036854775808)).toNat = m := this
  rw [h3, IntWalk.u64_in _ (by omega)]
  rfl
end
end Go.Proofs.YtknchhnibjfocaaDoor.Abs
