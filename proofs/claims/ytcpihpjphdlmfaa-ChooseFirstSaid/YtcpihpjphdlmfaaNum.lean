/- Numbers and runs: what the functions of packages gauss and run answer at whole numbers, for every memory. -/
import Derived.Test.YtcpihpjphdlmfaaAbsZM
import Derived.Test.YtcpihpjphdlmfaaRows
import Derived.KernelRfl
import Derived.IntWalk
namespace Go.Proofs.Ytcpihpjphdlmfaa.Abs
open Go Go.Proofs
noncomputable section
noncomputable def T0 : Tab := mkTab Try.prog
noncomputable def X0 : Exts := xMath Try.prog 77 78 79
theorem und_f64 : und T0 38 = some (.float .f64) := by kernel_rfl
theorem und_int : und T0 3 = some (.int .i64) := by kernel_rfl

theorem ft75 : T0.ft.get 75 = some Try.f75 := by kernel_rfl
theorem ft76 : T0.ft.get 76 = some Try.f76 := by kernel_rfl
theorem ft78 : T0.ft.get 78 = some Try.f78 := by kernel_rfl
theorem ft77 : T0.ft.get 77 = some Try.f77 := by kernel_rfl
theorem ft79 : T0.ft.get 79 = some Try.f79 := by kernel_rfl
theorem ft74 : T0.ft.get 74 = some Try.f74 := by kernel_rfl
theorem ft71 : T0.ft.get 71 = some Try.f71 := by kernel_rfl
theorem ft63 : T0.ft.get 63 = some Try.f63 := by kernel_rfl
theorem ft64 : T0.ft.get 64 = some Try.f64 := by kernel_rfl
theorem ft50 : T0.ft.get 50 = some Try.f50 := by kernel_rfl
theorem ft51 : T0.ft.get 51 = some Try.f51 := by kernel_rfl
theorem ft49 : T0.ft.get 49 = some Try.f49 := by kernel_rfl
theorem ft41 : T0.ft.get 41 = some Try.f41 := by kernel_rfl

abbrev fl (x : Int) : Value := .float .f64 (zd x)
abbrev cx (x y : Int) : Value := .complex .f64 (zd x) (zd y)
abbrev iv (x : Int) : Value := .int .i64 x

theorem zok_nat {x : Nat} (hx : zok (x : Int) = true) : x < 9007199254740992 := by
  have h : ((x : Int)).natAbs < 9007199254740992 := zok_small hx
  omega
theorem zok_k {x : Int} (h : x.natAbs < 9007199254740992) : zok x = true := zok_of h
theorem zd_1m : zd 1048576 = 4697254411347427328 := by decide
theorem zd_480 : zd 480 = 4647151865492930560 := by decide
variable {call : Abs.Callee}
set_option maxRecDepth 10000
theorem xb {b : Nat} {h : AH} : evCall T0 X0 (.func (.func 78) #[] #[]) [.float .f64 b] h = some (.value (.int .u64 (b : Int)), h) := evCall_ext ft78 rfl rfl x_bits
theorem xfb {b : Nat} {h : AH} : evCall T0 X0 (.func (.func 77) #[] #[]) [.int .u64 (b : Int)] h = some (.value (.float .f64 b), h) := evCall_ext ft77 rfl rfl x_frombits
theorem xtr {x : Int} (hx : zok x = true) {h : AH} : evCall T0 X0 (.func (.func 79) #[] #[]) [fl x] h = some (.value (fl x), h) := evCall_ext ft79 rfl rfl (x_trunc hx)

/-- The size of a number that is not below 0. -/
theorem Abs_S (x : Nat) (hx : zok x = true) (h : AH) : frameB T0 X0 call 3000 75 [fl x] h = some (fl x, h) := by
  have hn : x < 9007199254740992 := zok_nat hx
  rw [frameB_eq ft75 rfl rfl]
  simp only [Try.f75, symM, opFn, Nat.reduceLT, Nat.reduceBEq, xb, xfb, andNot_sign (zd_nn_lt hn)]
  exact retB_one ft75 rfl get_same
theorem Trunc_S (x : Int) (hx : zok x = true) (h : AH) : frameB T0 X0 call 3000 76 [fl x] h = some (fl x, h) := by
  rw [frameB_eq ft76 rfl rfl]
  simp only [Try.f76, symM, opFn, Nat.reduceLT, Nat.reduceBEq, xtr hx]
  exact retB_one ft76 rfl get_same

/-- At the natural numbers up to 2^20. -/
theorem whole_S (habs : ∀ (x : Nat) h, zok x = true → call 75 [fl x] h = some (fl x, h)) (htr : ∀ (x : Int) h, zok x = true → call 76 [fl x] h = some (fl x, h))
    (x : Nat) (hx : x ≤ 1048576) (h : AH) : frameB T0 X0 call 3000 74 [fl x] h = some (.bool true, h) := by
  have zx : zok (x : Int) = true := zok_k (by omega)
  have hle : ∀ p q, evBin T0 .leq 38 p q (fl x) (.float .f64 4697254411347427328) h = some (.bool true) := fun p q => by
    rw [← zd_1m, f_leq zx (by decide), decide_eq_true (by omega)]
  have heq : ∀ p q, evBin T0 .eql 38 p q (fl x) (fl x) h = some (.bool true) := fun p q => by rw [f_eql zx zx, decide_eq_true rfl]
  rw [frameB_eq ft74 rfl rfl]
  simp only [Try.f74, symM, opFn, Nat.reduceLT, Nat.reduceBEq, evCall_fn ft75 rfl, evCall_fn ft76 rfl, habs x _ zx, htr x _ zx, hle, heq]
  exact retB_one ft74 rfl get_same
theorem Whole_S (hw : ∀ (x : Nat) h, x ≤ 1048576 → call 74 [fl x] h = some (.bool true, h)) (x y : Nat) (hx : x ≤ 1048576) (hy : y ≤ 1048576) (h : AH) :
    frameB T0 X0 call 3000 71 [cx x y] h = some (.bool true, h) := by
  rw [frameB_eq ft71 rfl rfl]
  simp only [Try.f71, symM, opFn, Nat.reduceLT, Nat.reduceBEq, evCall_fn ft74 rfl, hw x _ hx, hw y _ hy]
  exact retB_one ft71 rfl get_same
/-- Is it a run? -/
def runOK (x y : Nat) : Bool := decide (1 ≤ y ∧ x + y ≤ 480)
theorem Sound_S (hW : ∀ (x y : Nat) h, x ≤ 1048576 → y ≤ 1048576 → call 71 [cx x y] h = some (.bool true, h)) (x y : Nat) (hx : x ≤ 1048576) (hy : y ≤ 1048576) (h : AH) :
    frameB T0 X0 call 3000 63 [cx x y] h = some (.bool (runOK x y), h) := by
  have zx : zok (x : Int) = true := zok_k (by omega)
  have zy : zok (y : Int) = true := zok_k (by omega)
  have zxy : zok ((x : Int) + y) = true := zok_k (by omega)
  have hge0 : ∀ p q, evBin T0 .geq 38 p q (fl x) (.float .f64 0) h = some (.bool true) := fun p q => by
    rw [← zd_zero, f_geq zx (by decide), decide_eq_true (by omega)]
  have hge1 : ∀ p q, evBin T0 .geq 38 p q (fl y) (.float .f64 4607182418800017408) h = some (.bool (decide (1 ≤ y))) := fun p q => by
    rw [← zd_one, f_geq zy (by decide)]; congr 2; exact decide_eq_decide.2 (by omega)
  have hadd : ∀ p q, evBin T0 .add 38 p q (fl x) (fl y) h = some (fl ((x : Int) + y)) := fun p q => f_add zx zy zxy
  have hle : ∀ p q, evBin T0 .leq 38 p q (fl ((x : Int) + y)) (.float .f64 4647151865492930560) h = some (.bool (decide (x + y ≤ 480))) := fun p q => by
    rw [← zd_480, f_leq zxy (by decide)]; congr 2; exact decide_eq_decide.2 (by omega)
  rw [frameB_eq ft63 rfl rfl]
  unfold runOK
  by_cases h1 : 1 ≤ y
  · by_cases h2 : x + y ≤ 480
    · simp only [Try.f63, symM, opFn, Nat.reduceLT, Nat.reduceBEq, evCall_fn ft71 rfl, hW x y _ hx hy, hge0, hge1, hadd, hle, decide_eq_true h1, decide_eq_true h2, decide_eq_true (And.intro h1 h2)]
      exact retB_one ft63 rfl get_same
    · simp only [Try.f63, symM, opFn, Nat.reduceLT, Nat.reduceBEq, evCall_fn ft71 rfl, hW x y _ hx hy, hge0, hge1, hadd, hle, decide_eq_true h1, decide_eq_false h2, decide_eq_false (fun k : 1 ≤ y ∧ x + y ≤ 480 => h2 k.2)]
      exact retB_one ft63 rfl get_same
  · simp only [Try.f63, symM, opFn, Nat.reduceLT, Nat.reduceBEq, evCall_fn ft71 rfl, hW x y _ hx hy, hge0, hge1, hadd, hle, decide_eq_false h1, decide_eq_false (fun k : 1 ≤ y ∧ x + y ≤ 480 => h1 k.1)]
    exact retB_one ft63 rfl get_same
theorem i64_range {x : Nat} (hx : x ≤ 1048576) : IntKind.i64.min ≤ (x : Int) ∧ (x : Int) ≤ IntKind.i64.max := ⟨by show (-9223372036854775808 : Int) ≤ _; omega, by show _ ≤ (9223372036854775807 : Int); omega⟩
theorem parts_S (x y : Nat) (hx : x ≤ 1048576) (hy : y ≤ 1048576) (h : AH) : frameB T0 X0 call 3000 64 [cx x y] h = some (.tuple #[iv x, iv y], h) := by
  rw [frameB_eq ft64 rfl rfl]
  simp only [Try.f64, symM, opFn, Nat.reduceLT, Nat.reduceBEq, conv_f2i und_f64 und_int (zok_k (x := (x : Int)) (by omega)) (i64_range hx), conv_f2i und_f64 und_int (zok_k (x := (y : Int)) (by omega)) (i64_range hy)]
  exact retB_two ft64 rfl (by simp only [symM, Nat.reduceBEq]) get_same
def partsV (x y : Nat) : Value := bif runOK x y then .tuple #[iv x, iv y, iv 0] else .tuple #[iv 0, iv 0, iv 2]
theorem Parts_S (hS : ∀ (x y : Nat) h, x ≤ 1048576 → y ≤ 1048576 → call 63 [cx x y] h = some (.bool (runOK x y), h)) (hp : ∀ (x y : Nat) h, x ≤ 1048576 → y ≤ 1048576 → call 64 [cx x y] h = some (.tuple #[iv x, iv y], h))
    (x y : Nat) (hx : x ≤ 1048576) (hy : y ≤ 1048576) (h : AH) : frameB T0 X0 call 3000 50 [cx x y] h = some (partsV x y, h) := by
  rw [frameB_eq ft50 rfl rfl]
  unfold partsV
  cases hr : runOK x y with
  | true =>
    simp only [Try.f50, symM, opFn, Nat.reduceLT, Nat.reduceBEq, evCall_fn ft63 rfl, evCall_fn ft64 rfl, hS x y _ hx hy, hp x y _ hx hy, hr, Bool.not_true]
    exact retB_three ft50 rfl (by simp only [symM, Nat.reduceBEq]) (by simp only [symM, Nat.reduceBEq]) get_same
  | false =>
    simp only [Try.f50, symM, opFn, Nat.reduceLT, Nat.reduceBEq, evCall_fn ft63 rfl, hS x y _ hx hy, hr, Bool.not_false]
    exact retB_three ft50 rfl (by simp only [symM, Nat.reduceBEq]) (by simp only [symM, Nat.reduceBEq]) get_same
/-- The run of a first block and so many. -/
def make1V (x y : Int) : Value := if y ≤ 0 then .complex .f64 0 0 else cx x y
theorem make1_S (x y : Int) (hx : zok x = true) (hy : zok y = true) (h : AH) : frameB T0 X0 call 3000 51 [iv x, iv y] h = some (make1V x y, h) := by
  rw [frameB_eq ft51 rfl rfl]
  unfold make1V
  by_cases h0 : y ≤ 0
  · simp only [Try.f51, symM, opFn, Nat.reduceLT, Nat.reduceBEq, bin_leq, decide_eq_true h0, if_pos h0]
    exact retB_one ft51 rfl get_same
  · simp only [Try.f51, symM, opFn, Nat.reduceLT, Nat.reduceBEq, bin_leq, decide_eq_false h0, if_neg h0, conv_i2f und_int und_f64 hx, conv_i2f und_int und_f64 hy]
    exact retB_one ft51 rfl get_same
end
end Go.Proofs.Ytcpihpjphdlmfaa.Abs
