
/- Numbers and runs: what the functions of packages gauss and run answer at whole numbers, for every memory. -/
import Derived.Test.YthpfgiabdpeiaaaAbsZM
import Derived.Test.YthpfgiabdpeiaaaRows
import Derived.KernelRfl
import Derived.IntWalk
namespace Go.Proofs.Ythpfgiabdpeiaaa.Abs
open Go Go.Proofs
noncomputable section
noncomputable def T0 : Tab := mkTab Try.prog
noncomputable def X0 : Exts := xMath Try.prog 62 63 64
theorem und_f64 : und T0 48 = some (.float .f64) := by kernel_rfl
theorem und_int : und T0 3 = some (.int .i64) := by kernel_rfl

theorem ft60 : T0.ft.get 60 = some Try.f60 := by kernel_rfl
theorem ft61 : T0.ft.get 61 = some Try.f61 := by kernel_rfl
theorem ft63 : T0.ft.get 63 = some Try.f63 := by kernel_rfl
theorem ft62 : T0.ft.get 62 = some Try.f62 := by kernel_rfl
theorem ft64 : T0.ft.get 64 = some Try.f64 := by kernel_rfl
theorem ft59 : T0.ft.get 59 = some Try.f59 := by kernel_rfl
theorem ft57 : T0.ft.get 57 = some Try.f57 := by kernel_rfl
theorem ft51 : T0.ft.get 51 = some Try.f51 := by kernel_rfl
theorem ft52 : T0.ft.get 52 = some Try.f52 := by kernel_rfl
theorem ft43 : T0.ft.get 43 = some Try.f43 := by kernel_rfl
theorem ft54 : T0.ft.get 54 = some Try.f54 := by kernel_rfl
abbrev fl (x : Int) : Value := .float .f64 (zd x)
abbrev cx (x y : Int) : Value := .complex .f64 (zd x) (zd y)
abbrev iv (x : Int) : Value := .int .i64 x

theorem zok_nat {x : Nat} (hx : zok (x : Int) = true) : x < 9007199254740992 := by
  have h : ((x : Int)).natAbs < 9007199254740992 := zok_small hx
  omega
theorem zok_k {x : Int} (h : x.natAbs < 9007199254740992) : zok x = true := zok_of h
theorem zd_1m : zd 1048576 = 4697254411347427328 := by decide
theorem zd_480 : zd 480 = 4647151865492930560 := by decide
variable {call : Abs.Callee}
set_option maxRecDepth 10000
theorem xb {b : Nat} {h : AH} : evCall T0 X0 (.func (.func 63) #[] #[]) [.float .f64 b] h = some (.value (.int .u64 (b : Int)), h) := evCall_ext ft63 rfl rfl x_bits
theorem xfb {b : Nat} {h : AH} : evCall T0 X0 (.func (.func 62) #[] #[]) [.int .u64 (b : Int)] h = some (.value (.float .f64 b), h) := evCall_ext ft62 rfl rfl x_frombits
theorem xtr {x : Int} (hx : zok x = true) {h : AH} : evCall T0 X0 (.func (.func 64) #[] #[]) [fl x] h = some (.value (fl x), h) := evCall_ext ft64 rfl rfl (x_trunc hx)

/-- The size of a number that is not below 0. -/
theorem Abs_S (x : Nat) (hx : zok x = true) (h : AH) : frameB T0 X0 call 3000 60 [fl x] h = some (fl x, h) := by
  have hn : x < 9007199254740992 := zok_nat hx
  rw [frameB_eq ft60 rfl rfl]
  simp only [Try.f60, symM, opFn, Nat.reduceLT, Nat.reduceBEq, xb, xfb, andNot_sign (zd_nn_lt hn)]
  exact retB_one ft60 rfl get_same
theorem Trunc_S (x : Int) (hx : zok x = true) (h : AH) : frameB T0 X0 call 3000 61 [fl x] h = some (fl x, h) := by
  rw [frameB_eq ft61 rfl rfl]
  simp only [Try.f61, symM, opFn, Nat.reduceLT, Nat.reduceBEq, xtr hx]
  exact retB_one ft61 rfl get_same

/-- At the natural numbers up to 2^20. -/
theorem whole_S (habs : ∀ (x : Nat) h, zok x = true → call 60 [fl x] h = some (fl x, h)) (htr : ∀ (x : Int) h, zok x = true → call 61 [fl x] h = some (fl x, h))
    (x : Nat) (hx : x ≤ 1048576) (h : AH) : frameB T0 X0 call 3000 59 [fl x] h = some (.bool true, h) := by
  have zx : zok (x : Int) = true := zok_k (by omega)
  have hle : ∀ p q, evBin T0 .leq 48 p q (fl x) (.float .f64 4697254411347427328) h = some (.bool true) := fun p q => by
    rw [← zd_1m, f_leq zx (by decide), decide_eq_true (by omega)]
  have heq : ∀ p q, evBin T0 .eql 48 p q (fl x) (fl x) h = some (.bool true) := fun p q => by rw [f_eql zx zx, decide_eq_true rfl]
  rw [frameB_eq ft59 rfl rfl]
  simp only [Try.f59, symM, opFn, Nat.reduceLT, Nat.reduceBEq, evCall_fn ft60 rfl, evCall_fn ft61 rfl, habs x _ zx, htr x _ zx, hle, heq]
  exact retB_one ft59 rfl get_same
theorem Whole_S (hw : ∀ (x : Nat) h, x ≤ 1048576 → call 59 [fl x] h = some (.bool true, h)) (x y : Nat) (hx : x ≤ 1048576) (hy : y ≤ 1048576) (h : AH) :
    frameB T0 X0 call 3000 57 [cx x y] h = some (.bool true, h) := by
  rw [frameB_eq ft57 rfl rfl]
  simp only [Try.f57, symM, opFn, Nat.reduceLT, Nat.reduceBEq, evCall_fn ft59 rfl, hw x _ hx, hw y _ hy]
  exact retB_one ft57 rfl get_same
/-- Is it a run? -/
def runOK (x y : Nat) : Bool := decide (1 ≤ y ∧ x + y ≤ 480)
theorem Sound_S (hW : ∀ (x y : Nat) h, x ≤ 1048576 → y ≤ 1048576 → call 57 [cx x y] h = some (.bool true, h)) (x y : Nat) (hx : x ≤ 1048576) (hy : y ≤ 1048576) (h : AH) :
    frameB T0 X0 call 3000 51 [cx x y] h = some (.bool (runOK x y), h) := by
  have zx : zok (x : Int) = true := zok_k (by omega)
  have zy : zok (y : Int) = true := zok_k (by omega)
  have zxy : zok ((x : Int) + y) = true := zok_k (by omega)
  have hge0 : ∀ p q, evBin T0 .geq 48 p q (fl x) (.float .f64 0) h = some (.bool true) := fun p q => by
    rw [← zd_zero, f_geq zx (by decide), decide_eq_true (by omega)]
  have hge1 : ∀ p q, evBin T0 .geq 48 p q (fl y) (.float .f64 4607182418800017408) h = some (.bool (decide (1 ≤ y))) := fun p q => by
    rw [← zd_one, f_geq zy (by decide)]; congr 2; exact decide_eq_decide.2 (by omega)
  have hadd : ∀ p q, evBin T0 .add 48 p q (fl x) (fl y) h = some (fl ((x : Int) + y)) := fun p q => f_add zx zy zxy
  have hle : ∀ p q, evBin T0 .leq 48 p q (fl ((x : Int) + y)) (.float .f64 4647151865492930560) h = some (.bool (decide (x + y ≤ 480))) := fun p q => by
    rw [← zd_480, f_leq zxy (by decide)]; congr 2; exact decide_eq_decide.2 (by omega)
  rw [frameB_eq ft51 rfl rfl]
  unfold runOK
  by_cases h1 : 1 ≤ y
  · by_cases h2 : x + y ≤ 480
    · simp only [Try.f51, symM, opFn, Nat.reduceLT, Nat.reduceBEq, evCall_fn ft57 rfl, hW x y _ hx hy, hge0, hge1, hadd, hle, decide_eq_true h1, decide_eq_true h2, decide_eq_true (And.intro h1 h2)]
      exact retB_one ft51 rfl get_same
    · simp only [Try.f51, symM, opFn, Nat.reduceLT, Nat.reduceBEq, evCall_fn ft57 rfl, hW x y _ hx hy, hge0, hge1, hadd, hle, decide_eq_true h1, decide_eq_false h2, decide_eq_false (fun k : 1 ≤ y ∧ x + y ≤ 480 => h2 k.2)]
      exact retB_one ft51 rfl get_same
  · simp only [Try.f51, symM, opFn, Nat.reduceLT, Nat.reduceBEq, evCall_fn ft57 rfl, hW x y _ hx hy, hge0, hge1, decide_eq_false h1, decide_eq_false (fun k : 1 ≤ y ∧ x + y ≤ 480 => h1 k.1)]
    exact retB_one ft51 rfl get_same
theorem i64_range {x : Nat} (hx : x ≤ 1048576) : IntKind.i64.min ≤ (x : Int) ∧ (x : Int) ≤ IntKind.i64.max := ⟨by show (-9223372036854775808 : Int) ≤ _; omega, by show _ ≤ (9223372036854775807 : Int); omega⟩
theorem parts_S (x y : Nat) (hx : x ≤ 1048576) (hy : y ≤ 1048576) (h : AH) : frameB T0 X0 call 3000 52 [cx x y] h = some (.tuple #[iv x, iv y], h) := by
  rw [frameB_eq ft52 rfl rfl]
  simp only [Try.f52, symM, opFn, Nat.reduceLT, Nat.reduceBEq, conv_f2i und_f64 und_int (zok_k (x := (x : Int)) (by omega)) (i64_range hx), conv_f2i und_f64 und_int (zok_k (x := (y : Int)) (by omega)) (i64_range hy)]
  exact retB_two ft52 rfl (by simp only [symM, Nat.reduceBEq]) get_same
def partsV (x y : Nat) : Value := bif runOK x y then .tuple #[iv x, iv y, iv 0] else .tuple #[iv 0, iv 0, iv 2]
theorem Parts_S (hS : ∀ (x y : Nat) h, x ≤ 1048576 → y ≤ 1048576 → call 51 [cx x y] h = some (.bool (runOK x y), h)) (hp : ∀ (x y : Nat) h, x ≤ 1048576 → y ≤ 1048576 → call 52 [cx x y] h = some (.tuple #[iv x, iv y], h))
    (x y : Nat) (hx : x ≤ 1048576) (hy : y ≤ 1048576) (h : AH) : frameB T0 X0 call 3000 43 [cx x y] h = some (partsV x y, h) := by
  rw [frameB_eq ft43 rfl rfl]
  unfold partsV
  cases hr : runOK x y with
  | true =>
    simp only [Try.f43, symM, opFn, Nat.reduceLT, Nat.reduceBEq, evCall_fn ft51 rfl, evCall_fn ft52 rfl, hS x y _ hx hy, hp x y _ hx hy, hr]
    exact retB_three ft43 rfl (by simp only [symM, Nat.reduceBEq]) (by simp only [symM, Nat.reduceBEq]) get_same
  | false =>
    simp only [Try.f43, symM, opFn, Nat.reduceLT, Nat.reduceBEq, evCall_fn ft51 rfl, hS x y _ hx hy, hr]
    exact retB_three ft43 rfl (by simp only [symM, Nat.reduceBEq]) (by simp only [symM, Nat.reduceBEq]) get_same
/-- The run of a first block and so many. -/
def make1V (x y : Int) : Value := if y ≤ 0 then .complex .f64 0 0 else cx x y
theorem make1_S (x y : Int) (hx : zok x = true) (hy : zok y = true) (h : AH) : frameB T0 X0 call 3000 54 [iv x, iv y] h = some (make1V x y, h) := by
  rw [frameB_eq ft54 rfl rfl]
  unfold make1V
  by_cases h0 : y ≤ 0
  · simp only [Try.f54, symM, opFn, Nat.reduceLT, Nat.reduceBEq, bin_leq, decide_eq_true h0, if_pos h0]
    exact retB_one ft54 rfl get_same
  · simp only [Try.f54, symM, opFn, Nat.reduceLT, Nat.reduceBEq, bin_leq, decide_eq_false h0, if_neg h0, conv_i2f und_int und_f64 hx, conv_i2f und_int und_f64 hy]
    exact retB_one ft54 rfl get_same
end
end Go.Proofs.Ythpfgiabdpeiaaa.Abs
