/- An abstract machine: operators. -/
import Derived.Test.YtknchhnibjfocaaDoorAbsG
import Derived.IntWalk
namespace Go.Proofs.YtknchhnibjfocaaDoor.Abs
open Go
noncomputable section

/- Whole numbers, quickly. -/
def topOf : IntKind → Nat
  | .i8 => 128 | .i16 => 32768 | .i32 => 2147483648 | .i64 => 9223372036854775808
  | .u8 => 256 | .u16 => 65536 | .u32 => 4294967296 | .u64 => 18446744073709551616
def bitsOf : IntKind → Nat
  | .i8 | .u8 => 256 | .i16 | .u16 => 65536 | .i32 | .u32 => 4294967296 | .i64 | .u64 => 18446744073709551616
def wrapF (k : IntKind) (n : Int) : Int :=
  match n with
  | .ofNat m => ifB (Nat.blt m (topOf k)) (.ofNat m) (k.wrap (.ofNat m))
  | .negSucc m => ifB (k.signed && Nat.blt m (topOf k)) (.negSucc m) (k.wrap (.negSucc m))
theorem wrapF_eq (k : IntKind) (n : Int) : wrapF k n = k.wrap n := by
  cases n with
  | ofNat m =>
    simp only [wrapF]
    cases e : Nat.blt m (topOf k) with
    | false => rfl
    | true =>
      have := blt_lt e
      rw [ifB_true]
      have hm : (Int.ofNat m) = (m : Int) := rfl
      rw [hm]
      cases k <;> simp only [topOf] at this
      · rw [IntWalk.i8_in _ (by omega)]
      · rw [IntWalk.i16_in _ (by omega)]
      · rw [IntWalk.i32_in _ (by omega)]
      · rw [IntWalk.i64_in _ (by omega)]
      · rw [IntWalk.u8_in _ (by omega)]
      · rw [IntWalk.u16_in _ (by omega)]
      · rw [IntWalk.u32_in _ (by omega)]
      · rw [IntWalk.u64_in _ (by omega)]
  | negSucc m =>
    simp only [wrapF]
    cases e : (k.signed && Nat.blt m (topOf k)) with
    | false => rfl
    | true =>
      rw [Bool.and_eq_true] at e
      have := blt_lt e.2
      have h1 := e.1
      rw [ifB_true]
      cases k <;> simp only [topOf] at this <;> simp [IntKind.signed] at h1
      · rw [IntWalk.i8_in _ (by omega)]
      · rw [IntWalk.i16_in _ (by omega)]
      · rw [IntWalk.i32_in _ (by omega)]
      · rw [IntWalk.i64_in _ (by omega)]
def eqI (a b : Int) : Bool := match a, b with
  | .ofNat a, .ofNat b => Nat.beq a b
  | .negSucc a, .negSucc b => Nat.beq a b
  | .ofNat _, .negSucc _ => false
  | .negSucc _, .ofNat _ => false
def ltI (a b : Int) : Bool := match a, b with
  | .ofNat a, .ofNat b => Nat.blt a b
  | .negSucc a, .negSucc b => Nat.blt b a
  | .negSucc _, .ofNat _ => true
  | .ofNat _, .negSucc _ => false
def addI (a b : Int) : Int := match a, b with
  | .ofNat a, .ofNat b => .ofNat (a + b)
  | .negSucc a, .negSucc b => .negSucc (a + b + 1)
  | .ofNat a, .negSucc b => ifB (Nat.blt b a) (.ofNat (a - (b + 1))) (.negSucc (b - a))
  | .negSucc b, .ofNat a => ifB (Nat.blt b a) (.ofNat (a - (b + 1))) (.negSucc (b - a))
def negI (a : Int) : Int := match a with
  | .ofNat n => (match n with | 0 => .ofNat 0 | m + 1 => .negSucc m)
  | .negSucc n => .ofNat (n + 1)
theorem beq_decide (a b : Nat) : Nat.beq a b = decide (a = b) := by
  cases e : Nat.beq a b with
  | true => have := Nat.eq_of_beq_eq_true e; simp [this]
  | false => have := Nat.ne_of_beq_eq_false e; simp [this]
theorem blt_decide (a b : Nat) : Nat.blt a b = decide (a < b) := by
  by_cases h : a < b
  · rw [decide_eq_true h]; exact Nat.ble_eq_true_of_le h
  · rw [decide_eq_false h]
    cases e : Nat.blt a b with
    | false => rfl
    | true => exact absurd (blt_lt e) h
theorem eqI_eq (a b : Int) : eqI a b = (a == b) := by
  cases a <;> cases b <;> simp only [eqI, beq_decide]
  · rename_i a b; by_cases h : a = b
    · subst h; simp
    · rw [decide_eq_false h]; symm; rw [beq_eq_false_iff_ne]; intro hh; exact h (Int.ofNat.inj hh)
  · symm; rw [beq_eq_false_iff_ne]; intro hh; cases hh
  · symm; rw [beq_eq_false_iff_ne]; intro hh; cases hh
  · rename_i a b; by_cases h : a = b
    · subst h; simp
    · rw [decide_eq_false h]; symm; rw [beq_eq_false_iff_ne]; intro hh; exact h (by simpa using hh)
theorem ltI_eq (a b : Int) : ltI a b = decide (a < b) := by
  cases a <;> cases b <;> simp only [ltI, blt_decide]
  · rename_i a b; congr 1; simp
  · rename_i a b; symm; rw [decide_eq_false_iff_not]; have : Int.negSucc b = -((b : Int) + 1) := Int.negSucc_eq b; have : Int.ofNat a = (a : Int) := rfl; omega
  · rename_i a b; symm; rw [decide_eq_true_iff]; have : Int.negSucc a = -((a : Int) + 1) := Int.negSucc_eq a; have : Int.ofNat b = (b : Int) := rfl; omega
  · rename_i a b; congr 1; have h1 := Int.negSucc_eq a; have h2 := Int.negSucc_eq b; rw [h1, h2]; apply propext; omega
theorem addI_eq (a b : Int) : addI a b = a + b := by
  cases a <;> cases b <;> simp only [addI]
  · rfl
  · rename_i a b; rw [blt_decide]
    have h1 := Int.negSucc_eq b
    by_cases h : b < a
    · rw [decide_eq_true h, ifB_true, h1]; simp only [Int.ofNat_eq_natCast]; omega
    · rw [decide_eq_false h, ifB_false, h1, Int.negSucc_eq]; simp only [Int.ofNat_eq_natCast]; omega
  · rename_i a b; rw [blt_decide]
    have h1 := Int.negSucc_eq a
    by_cases h : a < b
    · rw [decide_eq_true h, ifB_true, h1]; simp only [Int.ofNat_eq_natCast]; omega
    · rw [decide_eq_false h, ifB_false, h1, Int.negSucc_eq]; simp only [Int.ofNat_eq_natCast]; omega
  · rename_i a b; rw [Int.negSucc_eq, Int.negSucc_eq, Int.negSucc_eq]; omega
theorem negI_eq (a : Int) : negI a = -a := by
  cases a with
  | ofNat n => cases n with
    | zero => rfl
    | succ m => rfl
  | negSucc n => rfl

def fastInt (op : BinOp) (k : IntKind) (x y : Int) : Option Value :=
  match op with
  | .add => some (.int k (wrapF k (addI x y)))
  | .sub => some (.int k (wrapF k (addI x (negI y))))
  | .mul => some (.int k (wrapF k (x * y)))
  | .eql => some (.bool (eqI x y))
  | .neq => some (.bool (!eqI x y))
  | .lss => some (.bool (ltI x y))
  | .leq => some (.bool (!ltI y x))
  | .gtr => some (.bool (ltI y x))
  | .geq => some (.bool (!ltI x y))
  | _ => (match x, y with
    | .ofNat m, .ofNat n => (match op with
      | .quo => ifB (Nat.beq n 0) none (some (.int k (wrapF k (.ofNat (m / n)))))
      | .rem => ifB (Nat.beq n 0) none (some (.int k (.ofNat (m % n))))
      | .and => ifB (Nat.blt m (bitsOf k) && Nat.blt n (bitsOf k)) (some (.int k (wrapF k (.ofNat (Nat.land m n))))) none
      | .or => ifB (Nat.blt m (bitsOf k) && Nat.blt n (bitsOf k)) (some (.int k (wrapF k (.ofNat (Nat.lor m n))))) none
      | .xor => ifB (Nat.blt m (bitsOf k) && Nat.blt n (bitsOf k)) (some (.int k (wrapF k (.ofNat (Nat.xor m n))))) none
      | _ => none)
    | _, _ => none)

theorem bits_pow (k : IntKind) : 2 ^ k.bits = bitsOf k := by cases k <;> rfl
theorem ofInt_nat (k : IntKind) {m : Nat} (h : m < bitsOf k) : (BitVec.ofInt k.bits (m : Int)).toNat = m := by
  rw [BitVec.toNat_ofInt, bits_pow, ← Int.natCast_emod, Nat.mod_eq_of_lt h, Int.toNat_natCast]

theorem fastInt_ok {P : Program} {op : BinOp} {k : IntKind} {x y : Int} {v : Value} (t : TypeId) (a b : Operand) (e : fastInt op k x y = some v) (w : World) :
    (do eqGuard op t a b (.int k x) (.int k y); binOp op t (.int k x) (.int k y) : Sem Value).run P w = .ok v w := by
  cases op with
  | add => simp only [fastInt, Option.some.injEq] at e; subst e; simp [eqGuard, binOp, Op.intArith, wrapF_eq, addI_eq]
  | sub => simp only [fastInt, Option.some.injEq] at e; subst e; simp [eqGuard, binOp, Op.intArith, wrapF_eq, addI_eq, negI_eq, Int.sub_eq_add_neg]
  | mul => simp only [fastInt, Option.some.injEq] at e; subst e; simp [eqGuard, binOp, Op.intArith, wrapF_eq]
  | eql => simp only [fastInt, Option.some.injEq] at e; subst e; simp [eqGuard, binOp, Op.intCmp, eqI_eq]
  | neq => simp only [fastInt, Option.some.injEq] at e; subst e; simp [eqGuard, binOp, Op.intCmp, eqI_eq, bne]
  | lss => simp only [fastInt, Option.some.injEq] at e; subst e; simp [eqGuard, binOp, Op.intCmp, ltI_eq]
  | leq => simp only [fastInt, Option.some.injEq] at e; subst e; simp [eqGuard, binOp, Op.intCmp, ltI_eq]; congr 2; simp [← decide_not]
  | gtr => simp only [fastInt, Option.some.injEq] at e; subst e; simp [eqGuard, binOp, Op.intCmp, ltI_eq]
  | geq => simp only [fastInt, Option.some.injEq] at e; subst e; simp [eqGuard, binOp, Op.intCmp, ltI_eq]; congr 2; simp [← decide_not]
  | quo =>
    cases x with
    | negSucc _ => simp [fastInt] at e
    | ofNat m => cases y with
      | negSucc _ => simp [fastInt] at e
      | ofNat n =>
        simp only [fastInt] at e
        cases h0 : Nat.beq n 0 with
        | true => rw [h0] at e; cases e
        | false =>
          rw [h0, ifB_false] at e; cases e
          have hn : ¬ (n = 0) := Nat.ne_of_beq_eq_false h0
          simp only [Int.ofNat_eq_natCast]
          simp [eqGuard, binOp, Op.intDiv, hn, wrapF_eq]
  | rem =>
    cases x with
    | negSucc _ => simp [fastInt] at e
    | ofNat m => cases y with
      | negSucc _ => simp [fastInt] at e
      | ofNat n =>
        simp only [fastInt] at e
        cases h0 : Nat.beq n 0 with
        | true => rw [h0] at e; cases e
        | false =>
          rw [h0, ifB_false] at e; cases e
          have hn : ¬ (n = 0) := Nat.ne_of_beq_eq_false h0
          simp only [Int.ofNat_eq_natCast]
          simp [eqGuard, binOp, Op.intDiv, hn]
          rfl
  | and =>
    cases x with
    | negSucc _ => simp [fastInt] at e
    | ofNat m => cases y with
      | negSucc _ => simp [fastInt] at e
      | ofNat n =>
        simp only [fastInt] at e
        obtain ⟨e1, e2⟩ := ifB_some e
        rw [Bool.and_eq_true] at e1
        cases e2
        simp only [Int.ofNat_eq_natCast]
        have b1 : m < 2 ^ k.bits := by rw [bits_pow]; exact blt_lt e1.1
        have b2 : n < 2 ^ k.bits := by rw [bits_pow]; exact blt_lt e1.2
        simp [eqGuard, binOp, Op.intBits, wrapF_eq, Nat.mod_eq_of_lt b1, Nat.mod_eq_of_lt b2]
  | or =>
    cases x with
    | negSucc _ => simp [fastInt] at e
    | ofNat m => cases y with
      | negSucc _ => simp [fastInt] at e
      | ofNat n =>
        simp only [fastInt] at e
        obtain ⟨e1, e2⟩ := ifB_some e
        rw [Bool.and_eq_true] at e1
        cases e2
        simp only [Int.ofNat_eq_natCast]
        have b1 : m < 2 ^ k.bits := by rw [bits_pow]; exact blt_lt e1.1
        have b2 : n < 2 ^ k.bits := by rw [bits_pow]; exact blt_lt e1.2
        simp [eqGuard, binOp, Op.intBits, wrapF_eq, Nat.mod_eq_of_lt b1, Nat.mod_eq_of_lt b2]
  | xor =>
    cases x with
    | negSucc _ => simp [fastInt] at e
    | ofNat m => cases y with
      | negSucc _ => simp [fastInt] at e
      | ofNat n =>
        simp only [fastInt] at e
        obtain ⟨e1, e2⟩ := ifB_some e
        rw [Bool.and_eq_true] at e1
        cases e2
        simp only [Int.ofNat_eq_natCast]
        have b1 : m < 2 ^ k.bits := by rw [bits_pow]; exact blt_lt e1.1
        have b2 : n < 2 ^ k.bits := by rw [bits_pow]; exact blt_lt e1.2
        simp [eqGuard, binOp, Op.intBits, wrapF_eq, Nat.mod_eq_of_lt b1, Nat.mod_eq_of_lt b2]
  | shl => cases x <;> cases y <;> simp [fastInt] at e
  | shr => cases x <;> cases y <;> simp [fastInt] at e
  | andNot => cases x <;> cases y <;> simp [fastInt] at e

/- Shifts of numbers that are not below 0. -/
def fastShift (op : BinOp) (k : IntKind) (x y : Int) : Option Value :=
  match x, y with
  | .ofNat m, .ofNat n => (match op with
    | .shl => ifB (Nat.blt n k.bits) (some (.int k (wrapF k (.ofNat (m <<< n))))) none
    | .shr => ifB (Nat.blt n k.bits) (some (.int k (.ofNat (m >>> n)))) none
    | _ => none)
  | _, _ => none
theorem fastShift_ok {P : Program} {op : BinOp} {k yk : IntKind} {x y : Int} {v : Value} (t : TypeId) (a b : Operand) (e : fastShift op k x y = some v) (w : World) :
    (do eqGuard op t a b (.int k x) (.int yk y); binOp op t (.int k x) (.int yk y) : Sem Value).run P w = .ok v w := by
  cases x with
  | negSucc _ => simp [fastShift] at e
  | ofNat m => cases y with
    | negSucc _ => simp [fastShift] at e
    | ofNat n =>
      cases op <;> simp only [fastShift] at e <;> try (cases e; done)
      · obtain ⟨e1, e2⟩ := ifB_some e
        cases e2
        have hn := blt_lt e1
        have h0 : ¬ ((n : Int) < 0) := by omega
        have hmin : min n k.bits = n := Nat.min_eq_left (by omega)
        simp only [Int.ofNat_eq_natCast]
        simp [eqGuard, binOp, Op.shift, h0, hmin, wrapF_eq, Nat.shiftLeft_eq]
      · obtain ⟨e1, e2⟩ := ifB_some e
        cases e2
        have hn := blt_lt e1
        have h0 : ¬ ((n : Int) < 0) := by omega
        have hmin : min n k.bits = n := Nat.min_eq_left (by omega)
        simp only [Int.ofNat_eq_natCast]
        simp [eqGuard, binOp, Op.shift, h0, hmin, Nat.shiftRight_eq_div_pow]
        rw [Int.fdiv_eq_ediv_of_nonneg _ (by have : (0:Int) ≤ 2 ^ n := Int.pow_nonneg (by decide); exact this)]
end
end Go.Proofs.YtknchhnibjfocaaDoor.Abs
