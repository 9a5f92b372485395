/- An abstract machine: what operations give, with unknown values. -/
import Derived.Test.YtknchhnibjfocaaDoorAbsZF
namespace Go.Proofs.YtknchhnibjfocaaDoor.Abs
open Go
noncomputable section

section
variable {T : Tab} {t : TypeId} {a b : Operand} {h : AH} {k : IntKind} {m n : Int}
theorem bin_add : evBin T .add t a b (.int k m) (.int k n) h = some (.int k (k.wrap (m + n))) := by simp [evBin, fastInt, orV, wrapF_eq, addI_eq, ifB]
theorem bin_sub : evBin T .sub t a b (.int k m) (.int k n) h = some (.int k (k.wrap (m - n))) := by simp [evBin, fastInt, orV, wrapF_eq, addI_eq, negI_eq, ifB, Int.sub_eq_add_neg]
theorem bin_mul : evBin T .mul t a b (.int k m) (.int k n) h = some (.int k (k.wrap (m * n))) := by simp [evBin, fastInt, orV, wrapF_eq, ifB]
theorem bin_eql : evBin T .eql t a b (.int k m) (.int k n) h = some (.bool (m == n)) := by simp [evBin, fastInt, orV, eqI_eq, ifB]
theorem bin_neq : evBin T .neq t a b (.int k m) (.int k n) h = some (.bool (!(m == n))) := by simp [evBin, fastInt, orV, eqI_eq, ifB]
theorem bin_lss : evBin T .lss t a b (.int k m) (.int k n) h = some (.bool (decide (m < n))) := by simp [evBin, fastInt, orV, ltI_eq, ifB]
theorem bin_leq : evBin T .leq t a b (.int k m) (.int k n) h = some (.bool (decide (m ≤ n))) := by
  have : (!decide (n < m)) = decide (m ≤ n) := by rw [← decide_not]; congr 1; simp
  simp only [evBin, fastInt, orV, ltI_eq, ifB, this, decide_true]
theorem bin_gtr : evBin T .gtr t a b (.int k m) (.int k n) h = some (.bool (decide (n < m))) := by simp [evBin, fastInt, orV, ltI_eq, ifB]
theorem bin_geq : evBin T .geq t a b (.int k m) (.int k n) h = some (.bool (decide (n ≤ m))) := by
  have : (!decide (m < n)) = decide (n ≤ m) := by rw [← decide_not]; congr 1; simp
  simp only [evBin, fastInt, orV, ltI_eq, ifB, this, decide_true]
theorem bin_quo {m n : Nat} (hn : n ≠ 0) : evBin T .quo t a b (.int k (m : Int)) (.int k (n : Int)) h = some (.int k (k.wrap ((m / n : Nat) : Int))) := by
  have : Nat.beq n 0 = false := by cases n with | zero => exact absurd rfl hn | succ n => rfl
  show orV (ifB (decide (k = k)) (ifB (Nat.beq n 0) none (some (.int k (wrapF k (.ofNat (m / n)))))) none) _ = _
  rw [this]; simp [ifB, orV, wrapF_eq]
theorem bin_rem {m n : Nat} (hn : n ≠ 0) : evBin T .rem t a b (.int k (m : Int)) (.int k (n : Int)) h = some (.int k ((m % n : Nat) : Int)) := by
  have : Nat.beq n 0 = false := by cases n with | zero => exact absurd rfl hn | succ n => rfl
  show orV (ifB (decide (k = k)) (ifB (Nat.beq n 0) none (some (.int k (.ofNat (m % n))))) none) _ = _
  rw [this]; simp [ifB, orV]
theorem slow_rem {n : Int} (hn : n ≠ 0) : slowBin T .rem t a b (.int k m) (.int k n) = some (.int k (m.tmod n)) := by
  simp only [slowBin, eqGuard, binOp, Op.intDiv, if_neg hn, ne_eq, not_true_eq_false, if_false]
  rfl
theorem slow_quo {n : Int} (hn : n ≠ 0) : slowBin T .quo t a b (.int k m) (.int k n) = some (.int k (k.wrap (m.tdiv n))) := by
  simp only [slowBin, eqGuard, binOp, Op.intDiv, if_neg hn, ne_eq, not_true_eq_false, if_false]
  rfl
theorem bin_tmod {n : Int} (hn : n ≠ 0) : evBin T .rem t a b (.int k m) (.int k n) h = some (.int k (m.tmod n)) := by
  have hk : decide (k = k) = true := by simp
  show orV (ifB (decide (k = k)) (fastInt .rem k m n) none) (slowBin T .rem t a b (.int k m) (.int k n)) = _
  rw [hk, ifB_true, slow_rem hn]
  cases m with
  | ofNat m => cases n with
    | ofNat n =>
      have hb : Nat.beq n 0 = false := by cases n with | zero => exact absurd rfl hn | succ n => rfl
      simp only [fastInt, hb, ifB_false, orV]; rfl
    | negSucc n => rfl
  | negSucc m => cases n <;> rfl
theorem bin_tdiv {n : Int} (hn : n ≠ 0) : evBin T .quo t a b (.int k m) (.int k n) h = some (.int k (k.wrap (m.tdiv n))) := by
  have hk : decide (k = k) = true := by simp
  show orV (ifB (decide (k = k)) (fastInt .quo k m n) none) (slowBin T .quo t a b (.int k m) (.int k n)) = _
  rw [hk, ifB_true, slow_quo hn]
  cases m with
  | ofNat m => cases n with
    | ofNat n =>
      have hb : Nat.beq n 0 = false := by cases n with | zero => exact absurd rfl hn | succ n => rfl
      simp only [fastInt, hb, ifB_false, orV, wrapF_eq]; rfl
    | negSucc n => rfl
  | negSucc m => cases n <;> rfl
theorem bin_shr {k' : IntKind} {m n : Nat} (hn : n < k.bits) : evBin T .shr t a b (.int k (m : Int)) (.int k' (n : Int)) h = some (.int k ((m >>> n : Nat) : Int)) := by
  have : Nat.blt n k.bits = true := by simpa [Nat.blt] using Nat.ble_eq_true_of_le hn
  show orV (ifB (Nat.blt n k.bits) (some (.int k (.ofNat (m >>> n)))) none) _ = _
  rw [this]; rfl
theorem bin_shl {k' : IntKind} {m n : Nat} (hn : n < k.bits) : evBin T .shl t a b (.int k (m : Int)) (.int k' (n : Int)) h = some (.int k (k.wrap ((m <<< n : Nat) : Int))) := by
  have : Nat.blt n k.bits = true := by simpa [Nat.blt] using Nat.ble_eq_true_of_le hn
  show orV (ifB (Nat.blt n k.bits) (some (.int k (wrapF k (.ofNat (m <<< n))))) none) _ = _
  rw [this, wrapF_eq]; rfl
theorem bits_blt {m : Nat} (hm : m < bitsOf k) : Nat.blt m (bitsOf k) = true := by simpa [Nat.blt] using Nat.ble_eq_true_of_le hm
theorem bin_and {m n : Nat} (hm : m < bitsOf k) (hn : n < bitsOf k) : evBin T .and t a b (.int k (m : Int)) (.int k (n : Int)) h = some (.int k (k.wrap ((m &&& n : Nat) : Int))) := by
  show orV (ifB (decide (k = k)) (ifB (Nat.blt m (bitsOf k) && Nat.blt n (bitsOf k)) (some (.int k (wrapF k (.ofNat (Nat.land m n))))) none) none) _ = _
  rw [bits_blt hm, bits_blt hn, wrapF_eq]; simp [ifB, orV]
theorem bin_or {m n : Nat} (hm : m < bitsOf k) (hn : n < bitsOf k) : evBin T .or t a b (.int k (m : Int)) (.int k (n : Int)) h = some (.int k (k.wrap ((m ||| n : Nat) : Int))) := by
  show orV (ifB (decide (k = k)) (ifB (Nat.blt m (bitsOf k) && Nat.blt n (bitsOf k)) (some (.int k (wrapF k (.ofNat (Nat.lor m n))))) none) none) _ = _
  rw [bits_blt hm, bits_blt hn, wrapF_eq]; simp [ifB, orV]
end

/- Whole numbers as doubles. -/
theorem dzN_nd {k : Nat} (hk : k < 2 ^ 53) : dzN (nd k) = k := by
  by_cases h0 : k = 0
  · subst h0; rfl
  have hl := log2_le_52 hk
  have h1 : k < 2 ^ (k.log2 + 1) := Nat.lt_log2_self
  have h2 : 2 ^ k.log2 ≤ k := Nat.log2_self_le h0
  have hp : 2 ^ k.log2 * 2 ^ (52 - k.log2) = 2 ^ 52 := by rw [← Nat.pow_add]; congr 1; omega
  have hp1 : 2 ^ (k.log2 + 1) * 2 ^ (52 - k.log2) = 2 ^ 53 := by rw [← Nat.pow_add]; congr 1; omega
  have h3 : 2 ^ 52 ≤ k * 2 ^ (52 - k.log2) := by rw [← hp]; exact Nat.mul_le_mul_right _ h2
  have h4 : k * 2 ^ (52 - k.log2) < 2 ^ 53 := by rw [← hp1]; exact Nat.mul_lt_mul_of_pos_right h1 (Nat.two_pow_pos _)
  have hnd : nd k = (k.log2 + 1023) * 2 ^ 52 + (k * 2 ^ (52 - k.log2) - 2 ^ 52) := by
    unfold nd; rw [if_neg h0]; omega
  have hne : nd k ≠ 0 := by rw [hnd]; omega
  have hq : nd k / 4503599627370496 = k.log2 + 1023 := by rw [hnd]; omega
  have hr : nd k % 4503599627370496 = k * 2 ^ (52 - k.log2) - 2 ^ 52 := by rw [hnd]; omega
  unfold dzN
  split
  · contradiction
  · rw [hq, hr, show 1075 - (k.log2 + 1023) = 52 - k.log2 from by omega, show 4503599627370496 + (k * 2 ^ (52 - k.log2) - 2 ^ 52) = k * 2 ^ (52 - k.log2) from by omega]
    exact Nat.mul_div_cancel _ (Nat.two_pow_pos _)
theorem dz_zd {x : Int} (h : zok x = true) : dz (zd x) = some x := by
  have hs := zok_small h
  have hlt := nd_lt hs
  unfold dz
  have hw : zd x = (if x < 0 then 2 ^ 63 else 0) + nd x.natAbs := by
    unfold zd Ieee.Format.word
    simp only [double_sign]
    by_cases hx : x < 0 <;> simp [hx]
  have h1 : zd x % 9223372036854775808 = nd x.natAbs := by rw [hw]; split <;> omega
  simp only [h1, dzN_nd hs]
  by_cases hx : x < 0
  · have h2 : Nat.ble 9223372036854775808 (zd x) = true := Nat.ble_eq_true_of_le (by rw [hw, if_pos hx]; omega)
    rw [h2]
    simp only
    rw [show -(x.natAbs : Int) = x from by omega, h, Nat.beq_refl]; rfl
  · have h2 : Nat.ble 9223372036854775808 (zd x) = false := by
      cases e : Nat.ble 9223372036854775808 (zd x) with
      | false => rfl
      | true => have := Nat.le_of_ble_eq_true e; rw [hw, if_neg hx] at this; omega
    rw [h2]
    simp only
    rw [show (x.natAbs : Int) = x from by omega, h, Nat.beq_refl]; rfl
theorem zok_of {x : Int} (h : x.natAbs < 9007199254740992) : zok x = true := by
  show Nat.ble (x.natAbs + 1) _ = true
  exact Nat.ble_eq_true_of_le h
section
variable {T : Tab} {s d t : TypeId} {h : AH} {x y u v : Int} {p q : Operand}
theorem conv_i2f {k : IntKind} {n : Int} {ds : TypeDesc} (hs : und T s = some ds) (hd : und T d = some (.float .f64)) (hz : zok n = true) : evConvert T s d (.int k n) h = some (.float .f64 (zd n), h) := by
  simp only [evConvert, hs, hd, hz]
theorem conv_i2i {k k' : IntKind} {n : Int} {ds : TypeDesc} (hs : und T s = some ds) (hd : und T d = some (.int k')) : evConvert T s d (.int k n) h = some (.int k' (k'.wrap n), h) := by
  simp only [evConvert, hs, hd, wrapF_eq]
theorem conv_f2i {k' : IntKind} {ds : TypeDesc} (hs : und T s = some ds) (hd : und T d = some (.int k')) (hz : zok x = true) (hr : k'.min ≤ x ∧ x ≤ k'.max) : evConvert T s d (.float .f64 (zd x)) h = some (.int k' x, h) := by
  simp only [evConvert, hs, hd, dz_zd hz, decide_eq_true hr]
theorem cplx_mul (hx : zok x = true) (hy : zok y = true) (hu : zok u = true) (hv : zok v = true) (h1 : zok (x * u) = true) (h2 : zok (y * v) = true) (h3 : zok (x * v) = true) (h4 : zok (y * u) = true)
    (s1 : signs x u = true) (s2 : signs y v = true) (s3 : signs x v = true) (s4 : signs y u = true) (h5 : zok (x * u - y * v) = true) (h6 : zok (x * v + y * u) = true) :
    evBin T .mul t p q (.complex .f64 (zd x) (zd y)) (.complex .f64 (zd u) (zd v)) h = some (.complex .f64 (zd (x * u - y * v)) (zd (x * v + y * u))) := by
  simp only [evBin, fastC, dz_zd hx, dz_zd hy, dz_zd hu, dz_zd hv, mulC, mulz, h1, h2, h3, h4, s1, s2, s3, s4, subz, addz, h5, h6, Bool.and_self, orV]
theorem cplx_add (hx : zok x = true) (hy : zok y = true) (hu : zok u = true) (hv : zok v = true) (h5 : zok (x + u) = true) (h6 : zok (y + v) = true) :
    evBin T .add t p q (.complex .f64 (zd x) (zd y)) (.complex .f64 (zd u) (zd v)) h = some (.complex .f64 (zd (x + u)) (zd (y + v))) := by
  simp only [evBin, fastC, dz_zd hx, dz_zd hy, dz_zd hu, dz_zd hv, addz, h5, h6, orV]
theorem signs_nn {x y : Nat} : signs (x : Int) (y : Int) = true := rfl
end

/- Calls. -/
def consV (x : Option Value) (l : Option (List Value)) : Option (List Value) := match x with
  | some v => (match l with
    | some r => some (v :: r)
    | none => none)
  | none => none
theorem consV_some {v : Value} {l : List Value} : consV (some v) (some l) = some (v :: l) := rfl
section
variable {T : Tab} {X : Exts} {tm : PM Value} {h : AH} {ty : TypeId} {ts : Array TypeId} {k : FloatKind} {x y : Nat}
theorem evals_nil : evals T tm [] = some [] := rfl
theorem evals_cons {x : Operand} {l : List Operand} : evals T tm (x :: l) = consV (ev T tm x) (evals T tm l) := rfl
def goV (T : Tab) (X : Exts) (h : AH) (f : Option Value) (args : Option (List Value)) : Res := match args with
  | some args => w1 f fun f => evCall T X f args h
  | none => none
theorem callOp_value {f : Operand} {l : List Operand} : evCallOp T X tm ⟨.value f, l.toArray, ts⟩ ty h = goV T X h (ev T tm f) (evals T tm l) := by
  unfold evCallOp goV; rfl
theorem goV_some {f : Value} {args : List Value} : goV T X h (some f) (some args) = evCall T X f args h := rfl
theorem evCall_fn {g : Nat} {args : List Value} {fd : Func} {c : Code} (hf : T.ft.get g = some fd) (hb : fd.body = some c) : evCall T X (.func (.func g) #[] #[]) args h = some (.enter g args, h) := by
  simp only [evCall, hf, hb]
  simp
def goBu (T : Tab) (b : Builtin) (ts : Array TypeId) (ty : TypeId) (h : AH) (args : Option (List Value)) : Res := match args with
  | some xs => evBuiltin T b ts ty xs h
  | none => none
theorem callOp_builtin {b : Builtin} {l : List Operand} : evCallOp T X tm ⟨.builtin b, l.toArray, ts⟩ ty h = goBu T b ts ty h (evals T tm l) := by
  unfold evCallOp goBu; rfl
theorem goBu_some {b : Builtin} {xs : List Value} : goBu T b ts ty h (some xs) = evBuiltin T b ts ty xs h := rfl
theorem b_real : evBuiltin T .real ts ty [.complex k x y] h = some (.value (.float k x), h) := rfl
theorem b_imag : evBuiltin T .imag ts ty [.complex k x y] h = some (.value (.float k y), h) := rfl
theorem b_complex : evBuiltin T .complex ts ty [.float k x, .float k y] h = some (.value (.complex k x y), h) := by
  show ifB (decide (k = k)) (some (Out.value (.complex k x y), h)) none = _
  rw [show decide (k = k) = true by simp]; rfl
end
theorem zd_two : zd 2 = 4611686018427387904 := by decide
theorem zd_one : zd 1 = 4607182418800017408 := by decide
theorem zd_zero : zd 0 = 0 := by decide

/- Memory. -/
theorem len_slice {T : Tab} {t e : TypeId} {ty : TypeId} {a : Option Addr} {n c : Nat} {h : AH} (ht : und T t = some (.slice e)) : evBuiltin T .len #[t] ty [.slice a n c] h = some (.value (.int .i64 (n : Int)), h) := by
  show (match evLen T #[t] (.slice a n c) h with | some v => some (Out.value v, h) | none => none) = _
  have : evLen T #[t] (.slice a n c) h = some (.int .i64 (n : Int)) := by
    show (match und T t with | some d => _ | none => none) = _
    rw [ht]
  rw [this]
theorem idx_slice {T : Tab} {t e : TypeId} {s b o l c i : Nat} {k : IntKind} (ht : und T t = some (.slice e)) (hs : szOf T e = some s) (hi : i < l) :
    evIndexAddr T t (.slice (some ⟨b, o, none⟩) l c) (.int k (i : Int)) = some (.pointer (some ⟨b, o + i * s, none⟩)) := by
  have : Nat.blt i l = true := by simpa [Nat.blt] using Nat.ble_eq_true_of_le hi
  have hn : natOf (.int k (i : Int)) = some i := rfl
  simp only [evIndexAddr, ht, hn, hs, this, ifB_true]
theorem load_one {T : Tab} {t : TypeId} {b o n lo hi : Nat} {h : AH} {c : PM Value} {e : TypeId} {kd : BKind} {v : Value} (ht : aggT T t = some false) (hb : h.get b = some (.cells c n e lo hi kd)) (ho : o < n) (hc : c.get o = some v) :
    evLoad T t (.pointer (some ⟨b, o, none⟩)) h = some v := by
  have : Nat.blt o n = true := by simpa [Nat.blt] using Nat.ble_eq_true_of_le ho
  simp only [evLoad, loadVarA, ht, load1, hb, this, ifB_true, hc]
theorem loop_same {T : Tab} {X : Exts} {call : Abs.Callee} {n : Nat} {E : Env} {b : Code} {tm : PM Value} {h : AH} {df : List Nat} : codeB T X call (n + 1) E (.code (.loop b)) tm h df = codeB T X call (n + 1) E (.loop b) tm h df := by rw [codeB_loop0, codeB_loop]
theorem after_loop {T : Tab} {X : Exts} {call : Abs.Callee} {n f : Nat} {E : Env} {b : Code} {tm : PM Value} {h : AH} {df : List Nat} {i : Nat} {Q : PM Value → Prop} {k : PM Value → AH → List Nat → CO} {r : Option (Value × AH)}
    (H : ∃ tm', codeB T X call (n + 1) E (.loop b) tm h df = .jump (.exit i) tm' h df ∧ Q tm') (K : ∀ tm', Q tm' → endF T f (k tm' h df) = r) :
    endF T f (CO.bind (CO.unblock i (codeB T X call (n + 1) E (.code (.loop b)) tm h df)) k) = r := by
  obtain ⟨tm', e, q⟩ := H
  rw [loop_same, e, unblock_exit, Nat.beq_refl, ifB_true, bind_fall]
  exact K tm' q
/-- A part of a function's code. -/
def sub : List Nat → Code → Code
  | [], c => c
  | i :: p, .seq a b => (match i with | 0 => sub p a | _ => sub p b)
  | i :: p, .cond _ a b => (match i with | 0 => sub p a | _ => sub p b)
  | _ :: p, .block _ b => sub p b
  | _ :: p, .loop b => sub p b
  | _ :: p, .scope b => sub p b
  | _ :: p, .rangeFunc _ _ _ b => sub p b
  | _ :: _, c => c
def part (f : Func) (p : List Nat) : Code := match f.body with
  | some c => sub p c
  | none => .skip

/- Known answers. -/
def callS (S : Sums) : Abs.Callee := fun f args h => match S f with
  | some g => g args h
  | none => none
theorem callS_ok {T : Tab} {S : Sums} (hS : SumOK T S) : RecOK T (callS S) := by
  intro f args h v h' e
  unfold callS at e
  split at e
  · rename_i g hg; exact hS f g hg args h v h' e
  · cases e
def addS (f : Nat) (g : List Value → AH → Option (Value × AH)) (S : Sums) : Sums := fun k => ifB (Nat.beq k f) (some g) (S k)
theorem addS_ok {T : Tab} {S : Sums} (hS : SumOK T S) {f : Nat} {g : List Value → AH → Option (Value × AH)} (hg : ∀ args h v h', g args h = some (v, h') → CallOK T f args h v h') : SumOK T (addS f g S) := by
  intro k g' e
  unfold addS at e
  cases hb : Nat.beq k f with
  | true => rw [hb] at e; cases e; have := Nat.eq_of_beq_eq_true hb; subst this; exact hg
  | false => rw [hb] at e; exact hS k g' e
theorem callS_same {f : Nat} {g : List Value → AH → Option (Value × AH)} {S : Sums} {args : List Value} {h : AH} : callS (addS f g S) f args h = g args h := by
  unfold callS addS; rw [Nat.beq_refl, ifB_true]
theorem callS_skip {k f : Nat} {g : List Value → AH → Option (Value × AH)} {S : Sums} {args : List Value} {h : AH} (hk : (k == f) = false) : callS (addS f g S) k args h = callS S k args h := by
  have : Nat.beq k f = false := by cases e : Nat.beq k f with
    | false => rfl
    | true => have := Nat.eq_of_beq_eq_true e; subst this; simp at hk
  unfold callS addS; rw [this, ifB_false]
/-- The bytes of a row of cells. -/
def readB (c : PM Value) : Nat → Nat → Option (List Nat)
  | 0, _ => some []
  | k + 1, o => match c.get o with
    | some (.int .u8 (.ofNat x)) => ifB (Nat.blt x 256) (match readB c k (Nat.add o 1) with
      | some r => some (x :: r)
      | none => none) none
    | _ => none
theorem readB_spec {c : PM Value} : ∀ {k o : Nat} {l : List Nat}, readB c k o = some l → l.length = k ∧ ∀ (j x : Nat), l[j]? = some x → x < 256 ∧ c.get (o + j) = some (.int .u8 (x : Nat)) := by
  intro k
  induction k with
  | zero => intro o l e; cases e; exact ⟨rfl, fun j x e => by simp at e⟩
  | succ k ih =>
    intro o l e
    rw [readB] at e
    split at e
    · rename_i x hx
      obtain ⟨e1, e2⟩ := ifB_some e
      split at e2
      · rename_i r hr
        cases e2
        obtain ⟨g1, g2⟩ := ih hr
        refine ⟨by simp [g1], ?_⟩
        intro j y hj
        cases j with
        | zero => simp at hj; subst hj; exact ⟨blt_lt e1, hx⟩
        | succ j => have := g2 j y (by simpa using hj); rw [show o + (j + 1) = Nat.add o 1 + j by show _ = o + 1 + j; omega]; exact this
      · cases e2
    · cases e
end
end Go.Proofs.YtknchhnibjfocaaDoor.Abs
