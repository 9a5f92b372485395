/- Numbers and runs: what the functions of packages gauss and run answer at whole numbers, for every memory. -/
import Derived.Test.YtcpihpjphdlmfaaAbsZM
import Derived.Test.YtcpihpjphdlmfaaRows
import Derived.KernelRfl
import Derived.IntWalk
namespace Go.Proofs.Ytcpihpjphdlmfaa.Abs
open Go Go.Proofs
noncomputable section
noncomputable def T0 : Tab := mkTab Try.prog
noncomputable def X0 : Exts := xMath Try.prog 77 78 79
theorem und_f64 : und T0 38 = some (.float .f64) := by kernel_rfl
theorem und_int : und T0 3 = some (.int .i64) := by kernel_rfl

theorem ft75 : T0.ft.get 75 = some Try.f75 := by kernel_rfl
theorem ft76 : T0.ft.get 76 = some Try.f76 := by kernel_rfl
theorem ft78 : T0.ft.get 78 = some Try.f78 := by kernel_rfl
theorem ft77 : T0.ft.get 77 = some Try.f77 := by kernel_rfl
theorem ft79 : T0.ft.get 79 = some Try.f79 := by kernel_rfl
theorem ft74 : T0.ft.get 74 = some Try.f74 := by kernel_rfl
theorem ft71 : T0.ft.get 71 = some Try.f71 := by kernel_rfl
theorem ft63 : T0.ft.get 63 = some Try.f63 := by kernel_rfl
theorem ft64 : T0.ft.get 64 = some Try.f64 := by kernel_rfl
theorem ft50 : T0.ft.get 50 = some Try.f50 := by kernel_rfl
theorem ft51 : T0.ft.get 51 = some Try.f51 := by kernel_rfl
theorem ft49 : T0.ft.get 49 = some Try.f49 := by kernel_rfl
theorem ft41 : T0.ft.get 41 = some Try.f41 := by kernel_rfl

abbrev fl (x : Int) : Value := .float .f64 (zd x)
abbrev cx (x y : Int) : Value := .complex .f64 (zd x) (zd y)
abbrev iv (x : Int) : Value := .int .i64 x

theorem zok_nat {x : Nat} (hx : zok (x : Int) = true) : x < 9007199254740992 := by
  have h : ((x : Int)).natAbs < 9007199254740992 := zok_small hx
  omega
theorem zok_k {x : Int} (h : x.natAbs < 9007199254740992) : zok x = true := zok_of h
theorem zd_1m : zd 1048576 = 4697254411347427328 := by decide
theorem zd_480 : zd 480 = 4647151865492930560 := by decide
variable {call : Abs.Callee}
set_option maxRecDepth 10000
theorem xb {b : Nat} {h : AH} : evCall T0 X0 (.func (.func 78) #[] #[]) [.float .f64 b] h = some (.value (.int .u64 (b : Int)), h) := evCall_ext ft78 rfl rfl x_bits
theorem xfb {b : Nat} {h : AH} : evCall T0 X0 (.func (.func 77) #[] #[]) [.int .u64 (b : Int)] h = some (.value (.float .f64 b), h) := evCall_ext ft77 rfl rfl x_frombits
theorem xtr {x : Int} (hx : zok x = true) {h : AH} : evCall T0 X0 (.func (.func 79) #[] #[]) [fl x] h = some (.value (fl x), h) := evCall_ext ft79 rfl rfl (x_trunc hx)

/-- The size of a number that is not below 0. -/
theorem Abs_S (x : Nat) (hx : zok x = true) (h : AH) : frameB T0 X0 call 3000 75 [fl x] h = some (fl x, h) := by
  have hn : x < 9007199254740992 := zok_nat hx
  rw [frameB_eq ft75 rfl rfl]
  simp only [Try.f75, symM, opFn, Nat.reduceLT, Nat.reduceBEq, xb, xfb, andNot_sign (zd_nn_lt hn)]
  exact retB_one ft75 rfl get_same
theorem Trunc_S (x : Int) (hx : zok x = true) (h : AH) : frameB T0 X0 call 3000 76 [fl x] h = some (fl x, h) := by
  rw [frameB_eq ft76 rfl rfl]
  simp only [Try.f76, symM, opFn, Nat.reduceLT, Nat.reduceBEq, xtr hx]
  exact retB_one ft76 rfl get_same

/-- At the natural numbers up to 2^20. -/
theorem whole_S (habs : ∀ (x : Nat) h, zok x = true → call 75 [fl x] h = some (fl x, h)) (htr : ∀ (x : Int) h, zok x = true → call 76 [fl x] h = some (fl x, h))
    (x : Nat) (hx : x ≤ 1048576) (h : AH) : frameB T0 X0 call 3000 74 [fl x] h = some (.bool true, h) := by
  have zx : zok (x : Int) = true := zok_k (by omega)
  have hle : ∀ p q, evBin T0 .leq 38 p q (fl x) (.float .f64 4697254411347427328) h = some (.bool true) := fun p q => by
    rw [← zd_1m, f_leq zx (by decide), decide_eq_true (by omega)]
  have heq : ∀ p q, evBin T0 .eql 38 p q (fl x) (fl x) h = some (.bool true) := fun p q => by rw [f_eql zx zx, decide_eq_true rfl]
  rw [frameB_eq ft74 rfl rfl]
  simp only [Try.f74, symM, opFn, Nat.reduceLT, Nat.reduceBEq, evCall_fn ft75 rfl, evCall_fn ft76 rfl, habs x _ zx, htr x _ zx, hle, heq]
  exact retB_one ft74 rfl get_same
theorem Whole_S (hw : ∀ (x : Nat) h, x ≤ 1048576 → call 74 [fl x] h = some (.bool true, h)) (x y : Nat) (hx : x ≤ 1048576) (hy : y ≤ 1048576) (h : AH) :
    frameB T0 X0 call 3000 71 [cx x y] h = some (.bool true, h) := by
  rw [frameB_eq ft71 rfl rfl]
  simp only [Try.f71, symM, opFn, Nat.reduceLT, Nat.reduceBEq, evCall_fn ft74 rfl, hw x _ hx, hw y _ hy]
  exact retB_one ft71 rfl get_same
/-- Is it a run? -/
def runOK (x y : Nat) : Bool := decide (1 ≤ y ∧ x + y ≤ 480)
theorem Sound_S (hW : ∀ (x y : Nat) h, x ≤ 1048576 → y ≤ 1048576 → call 71 [cx x y] h = some (.bool true, h)) (x y : Nat) (hx : x ≤ 1048576) (hy : y ≤ 1048576) (h : AH) :
    frameB T0 X0 call 3000 63 [cx x y] h = some (.bool (runOK x y), h) := by
  have zx : zok (x : Int) = true := zok_k (by omega)
  have zy : zok (y : Int) = true := zok_k (by omega)
  have zxy : zok ((x : Int) + y) = true := zok_k (by omega)
  have hge0 : ∀ p q, evBin T0 .geq 38 p q (fl x) (.float .f64 0) h = some (.bool true) := fun p q => by
    rw [← zd_zero, f_geq zx (by decide), decide_eq_true (by omega)]
  have hge1 : ∀ p q, evBin T0 .geq 38 p q (fl y) (.float .f64 4607182418800017408) h = some (.bool (decide (1 ≤ y))) := fun p q => by
    rw [← zd_one, f_geq zy (by decide)]; congr 2; exact decide_eq_decide.2 (by omega)
  have hadd : ∀ p q, evBin T0 .add 38 p q (fl x) (fl y) h = some (fl ((x : Int) + y)) := fun p q => f_add zx zy zxy
  have hle : ∀ p q, evBin T0 .leq 38 p q (fl ((x : Int) + y)) (.float .f64 4647151865492930560) h = some (.bool (decide (x + y ≤ 480))) := fun p q => by
    rw [← zd_480, f_leq zxy (by decide)]; congr 2; exact decide_eq_decide.2 (by omega)
  rw [frameB_eq ft63 rfl rfl]
  unfold runOK
  by_cases h1 : 1 ≤ y
  · by_cases h2 : x + y ≤ 480
    · simp only [Try.f63, symM, opFn, Nat.reduceLT, Nat.reduceBEq, evCall_fn ft71 rfl, hW x y _ hx hy, hge0, hge1, hadd, hle, decide_eq_true h1, decide_eq_true h2, decide_eq_true (And.intro h1 h2)]
      exact retB_one ft63 rfl get_same
    · simp only [Try.f63, symM, opFn, Nat.reduceLT, Nat.reduceBEq, evCall_fn ft71 rfl, hW x y _ hx hy, hge0, hge1, hadd, hle, decide_eq_true h1, decide_eq_false h2, decide_eq_false (fun k : 1 ≤ y ∧ x + y ≤ 480 => h2 k.2)]
      exact retB_one ft63 rfl get_same
  · simp only [Try.f63, symM, opFn, Nat.reduceLT, Nat.reduceBEq, evCall_fn ft71 rfl, hW x y _ hx hy, hge0, hge1, decide_eq_false h1, decide_eq_false (fun k : 1 ≤ y ∧ x + y ≤ 480 => h1 k.1)]
    exact retB_one ft63 rfl get_same
theorem i64_range {x : Nat} (hx : x ≤ 1048576) : IntKind.i64.min ≤ (x : Int) ∧ (x : Int) ≤ IntKind.i64.max := ⟨by show (-9223372036854775808 : Int) ≤ _; omega, by show _ ≤ (9223372036854775807 : Int); omega⟩
theorem parts_S (x y : Nat) (hx : x ≤ 1048576) (hy : y ≤ 1048576) (h : AH) : frameB T0 X0 call 3000 64 [cx x y] h = some (.tuple #[iv x, iv y], h) := by
  rw [frameB_eq ft64 rfl rfl]
  simp only [Try.f64, symM, opFn, Nat.reduceLT, Nat.reduceBEq, conv_f2i und_f64 und_int (zok_k (x := (x : Int)) (by omega)) (i64_range hx), conv_f2i und_f64 und_int (zok_k (x := (y : Int)) (by omega)) (i64_range hy)]
  exact retB_two ft64 rfl (by simp only [symM, Nat.reduceBEq]) get_same
def partsV (x y : Nat) : Value := bif runOK x y then .tuple #[iv x, iv y, iv 0] else .tuple #[iv 0, iv 0, iv 2]
theorem Parts_S (hS : ∀ (x y : Nat) h, x ≤ 1048576 → y ≤ 1048576 → call 63 [cx x y] h = some (.bool (runOK x y), h)) (hp : ∀ (x y : Nat) h, x ≤ 1048576 → y ≤ 1048576 → call 64 [cx x y] h = some (.tuple #[iv x, iv y], h))
    (x y : Nat) (hx : x ≤ 1048576) (hy : y ≤ 1048576) (h : AH) : frameB T0 X0 call 3000 50 [cx x y] h = some (partsV x y, h) := by
  rw [frameB_eq ft50 rfl rfl]
  unfold partsV
  cases hr : runOK x y with
  | true =>
    simp only [Try.f50, symM, opFn, Nat.reduceLT, Nat.reduceBEq, evCall_fn ft63 rfl, evCall_fn ft64 rfl, hS x y _ hx hy, hp x y _ hx hy, hr]
    exact retB_three ft50 rfl (by simp only [symM, Nat.reduceBEq]) (by simp only [symM, Nat.reduceBEq]) get_same
  | false =>
    simp only [Try.f50, symM, opFn, Nat.reduceLT, Nat.reduceBEq, evCall_fn ft63 rfl, hS x y _ hx hy, hr]
    exact retB_three ft50 rfl (by simp only [symM, Nat.reduceBEq]) (by simp only [symM, Nat.reduceBEq]) get_same
/-- The run of a first block and so many. -/
def make1V (x y : Int) : Value := if y ≤ 0 then .complex .f64 0 0 else cx x y
theorem make1_S (x y : Int) (hx : zok x = true) (hy : zok y = true) (h : AH) : frameB T0 X0 call 3000 51 [iv x, iv y] h = some (make1V x y, h) := by
  rw [frameB_eq ft51 rfl rfl]
  unfold make1V
  by_cases h0 : y ≤ 0
  · simp only [Try.f51, symM, opFn, Nat.reduceLT, Nat.reduceBEq, bin_leq, decide_eq_true h0, if_pos h0]
    exact retB_one ft51 rfl get_same
  · simp only [Try.f51, symM, opFn, Nat.reduceLT, Nat.reduceBEq, bin_leq, decide_eq_false h0, if_neg h0, conv_i2f und_int und_f64 hx, conv_i2f und_int und_f64 hy]
    exact retB_one ft51 rfl get_same
end
end Go.Proofs.Ytcpihpjphdlmfaa.Abs
namespace Go.Proofs.Ytcpihpjphdlmfaa.Abs
open Go Go.Proofs
noncomputable section
theorem ft48 : T0.ft.get 48 = some Try.f48 := by kernel_rfl
theorem ft40 : T0.ft.get 40 = some Try.f40 := by kernel_rfl
theorem und_u8 : und T0 5 = some (.int .u8) := by kernel_rfl
theorem und_bytes : und T0 22 = some (.slice 5) := by kernel_rfl
theorem und_c128s : und T0 29 = some (.slice 23) := by kernel_rfl
theorem sz_u8 : szOf T0 5 = some 1 := by kernel_rfl
theorem sz_c128 : szOf T0 23 = some 1 := by kernel_rfl
theorem agg_u8 : aggT T0 5 = some false := by kernel_rfl
theorem agg_c128 : aggT T0 23 = some false := by kernel_rfl
theorem zero_c128 : zeroOf T0 23 = some (.complex .f64 0 0) := by kernel_rfl
def infoOf (t : Nat) : TypeInfo := (Try.prog.types[t]?).getD default
theorem tt_c128 : T0.tt.get 23 = some (infoOf 23) := by kernel_rfl
theorem ti_c128 : (infoOf 23).zero = some (.complex .f64 0 0) ∧ (infoOf 23).size = 1 ∧ (infoOf 23).bytes ≤ 64 := ⟨by kernel_rfl, by kernel_rfl, Nat.le_of_ble_eq_true (by kernel_rfl)⟩

def bytesV (bs : List Nat) : List Value := bs.map fun (x : Nat) => .int .u8 (x : Int)
def bitB (bs : List Nat) (n : Nat) : Bool := ((bs.getD (n / 8) 0 >>> (n % 8)) &&& 1) == 1
variable {call : Abs.Callee}
set_option maxRecDepth 10000
theorem up_S (bs : List Nat) (hbs : ∀ x ∈ bs, x < 256) (m : Value) (k n : Nat) (h : AH) (hm : Row k h m (bytesV bs) 5) (hn : n / 8 < bs.length) (hn2 : n < 9000) :
    frameB T0 X0 call 3000 48 [m, iv n] h = some (.bool (bitB bs n), h) := by
  obtain ⟨x, hx⟩ : ∃ x, bs[n / 8]? = some x := ⟨_, List.getElem?_eq_getElem hn⟩
  have hx2 : x < 256 := hbs x (List.mem_of_getElem? hx)
  obtain ⟨p, e1, e2⟩ := hm.at und_bytes sz_u8 agg_u8 (i := n / 8) (x := .int .u8 (x : Int)) (by simp [bytesV, hx])
  have hq : ∀ a b, evBin T0 .quo 3 a b (iv n) (iv 8) h = some (iv (n / 8 : Nat)) := fun a b => by
    show evBin T0 .quo 3 a b (iv n) (iv ((8 : Nat) : Int)) h = _
    rw [bin_quo (by decide), IntWalk.i64_in _ (by omega)]
  have hr : ∀ a b, evBin T0 .rem 3 a b (iv n) (iv 8) h = some (iv (n % 8 : Nat)) := fun a b => by
    show evBin T0 .rem 3 a b (iv n) (iv ((8 : Nat) : Int)) h = _
    rw [bin_rem (by decide)]
  have hs : ∀ a b, evBin T0 .shr 5 a b (.int .u8 (x : Int)) (iv (n % 8 : Nat)) h = some (.int .u8 ((x >>> (n % 8) : Nat) : Int)) := fun a b => bin_shr (by have : n % 8 < 8 := Nat.mod_lt _ (by decide); exact this)
  have hlt : x >>> (n % 8) < 256 := by rw [Nat.shiftRight_eq_div_pow]; exact Nat.lt_of_le_of_lt (Nat.div_le_self _ _) hx2
  have ha : ∀ a b, evBin T0 .and 5 a b (.int .u8 ((x >>> (n % 8) : Nat) : Int)) (.int .u8 1) h = some (.int .u8 ((x >>> (n % 8) &&& 1 : Nat) : Int)) := fun a b => by
    show evBin T0 .and 5 a b (.int .u8 ((x >>> (n % 8) : Nat) : Int)) (.int .u8 ((1 : Nat) : Int)) h = _
    have h3 : x >>> (n % 8) &&& 1 ≤ 1 := by rw [Nat.and_one_is_mod]; omega
    rw [bin_and (by exact hlt) (by decide), IntWalk.u8_in _ (by omega)]
  have he : ∀ a b, evBin T0 .eql 5 a b (.int .u8 ((x >>> (n % 8) &&& 1 : Nat) : Int)) (.int .u8 1) h = some (.bool (bitB bs n)) := fun a b => by
    rw [bin_eql]
    have h3 : bs.getD (n / 8) 0 = x := by rw [List.getD_eq_getElem?_getD, hx]; rfl
    unfold bitB
    rw [h3]
    congr 2
    rw [Bool.eq_iff_iff]
    simp only [beq_iff_eq]
    omega
  rw [frameB_eq ft48 rfl rfl]
  simp only [Try.f48, symM, opFn, Nat.reduceLT, Nat.reduceBEq, hq, e1, e2, hr, hs, ha, he]
  exact retB_one ft48 rfl get_same

theorem Of_S (hm : ∀ (x y : Int) h, zok x = true → zok y = true → call 51 [iv x, iv y] h = some (make1V x y, h)) (x y : Nat) (hy : 1 ≤ y) (hxy : x + y ≤ 480) (h : AH) :
    frameB T0 X0 call 3000 49 [iv x, iv y] h = some (.tuple #[cx x y, iv 0], h) := by
  have h1 : decide ((x : Int) < 0) = false := decide_eq_false (by omega)
  have h2 : decide ((480 : Int) ≤ x) = false := decide_eq_false (by omega)
  have h3 : decide ((y : Int) < 1) = false := decide_eq_false (by omega)
  have h4 : IntKind.i64.wrap (480 - (x : Int)) = 480 - (x : Int) := IntWalk.i64_in _ (by omega)
  have h5 : decide (480 - (x : Int) < y) = false := decide_eq_false (by omega)
  have h6 : make1V x y = cx x y := if_neg (by omega)
  rw [frameB_eq ft49 rfl rfl]
  simp only [Try.f49, symM, opFn, Nat.reduceLT, Nat.reduceBEq, bin_lss, bin_geq, bin_sub, bin_gtr, h1, h2, h3, h4, h5, evCall_fn ft51 rfl, hm x y _ (zok_k (by omega)) (zok_k (by omega)), h6]
  exact retB_two ft49 rfl (by simp only [symM, Nat.reduceBEq]) get_same

/-- From n on, while it holds, at most so often. -/
def scan (p : Nat → Bool) : Nat → Nat → Nat
  | 0, n => n
  | k + 1, n => bif p n then scan p k (n + 1) else n
theorem scan_spec (p : Nat → Bool) : ∀ (k n : Nat), n ≤ scan p k n ∧ scan p k n ≤ n + k ∧ (∀ j, n ≤ j → j < scan p k n → p j = true) ∧ (scan p k n < n + k → p (scan p k n) = false) := by
  intro k
  induction k with
  | zero => intro n; exact ⟨Nat.le_refl _, Nat.le_refl _, fun j h1 h2 => by simp only [scan] at h2; omega, fun h => by simp only [scan] at h; omega⟩
  | succ k ih =>
    intro n
    rw [scan]
    cases hp : p n with
    | false => exact ⟨Nat.le_refl _, by simp, fun j h1 h2 => by simp at h2; omega, fun _ => hp⟩
    | true =>
      obtain ⟨i1, i2, i3, i4⟩ := ih (n + 1)
      simp only [cond_true]
      refine ⟨by omega, by omega, fun j h1 h2 => ?_, fun h => i4 (by omega)⟩
      by_cases hj : j = n
      · subst hj; exact hp
      · exact i3 j (by omega) h2
/-- The gaps of a map: d tells what is in a gap; so many are left behind n; the gap before n began at first. -/
def gapsG (d : Nat → Bool) : Nat → Nat → Nat → List (Nat × Nat)
  | 0, n, first => bif Nat.blt first n then [(first, n - first)] else []
  | k + 1, n, first => bif d n then gapsG d k (n + 1) first else (bif Nat.blt first n then [(first, n - first)] else []) ++ gapsG d k (n + 1) (n + 1)
theorem gapsG_in (d : Nat → Bool) (first : Nat) : ∀ (j k n : Nat), j ≤ k → (∀ i, n ≤ i → i < n + j → d i = true) → gapsG d k n first = gapsG d (k - j) (n + j) first := by
  intro j
  induction j with
  | zero => intro k n _ _; rfl
  | succ j ih =>
    intro k n hk hd
    cases k with
    | zero => omega
    | succ k =>
      rw [gapsG, hd n (Nat.le_refl _) (by omega), cond_true, ih k (n + 1) (by omega) (fun i h1 h2 => hd i (by omega) (by omega))]
      congr 1 <;> omega
theorem gapsG_out (d : Nat → Bool) : ∀ (j k n : Nat), j ≤ k → (∀ i, n ≤ i → i < n + j → d i = false) → gapsG d k n n = gapsG d (k - j) (n + j) (n + j) := by
  intro j
  induction j with
  | zero => intro k n _ _; rfl
  | succ j ih =>
    intro k n hk hd
    cases k with
    | zero => omega
    | succ k =>
      have hb : Nat.blt n n = false := by rw [Nat.blt]; exact ble_no (Nat.lt_succ_self _)
      rw [gapsG, hd n (Nat.le_refl _) (by omega), cond_false, hb, cond_false, List.nil_append, ih k (n + 1) (by omega) (fun i h1 h2 => hd i (by omega) (by omega))]
      congr 1 <;> omega
theorem gapsG_self (d : Nat → Bool) (n : Nat) : gapsG d 0 n n = [] := by
  have hb : Nat.blt n n = false := by rw [Nat.blt]; exact ble_no (Nat.lt_succ_self _)
  rw [gapsG, hb]; rfl
theorem gapsG_end (d : Nat → Bool) (k n first : Nat) (hf : first < n) (hd : k ≠ 0 → d n = false) : gapsG d k n first = (first, n - first) :: gapsG d k n n := by
  have hb : Nat.blt n n = false := by rw [Nat.blt]; exact ble_no (Nat.lt_succ_self _)
  have hf2 : Nat.blt first n = true := by simpa [Nat.blt] using Nat.ble_eq_true_of_le hf
  cases k with
  | zero => rw [gapsG, gapsG, hf2, hb]; rfl
  | succ k => rw [gapsG, gapsG, hd (by simp), hf2, hb]; rfl

noncomputable def bodyU : Code := part Try.f40 [1, 0, 1, 1, 1, 1, 0, 0, 0]
noncomputable def bodyD : Code := part Try.f40 [1, 0, 1, 1, 1, 1, 1, 1, 1, 0, 0, 0]
abbrev EDown : Env := ⟨40, 68, none⟩
theorem und3 : und T0 3 = some (.int .i64) := und_int
theorem loopU (bs : List Nat) (m : Value) (h : AH) (tw : Nat) (hto : tw ≤ 480) (hup : ∀ n : Nat, n < 480 → call 48 [m, iv n] h = some (.bool (bitB bs n), h)) :
    ∀ (k n : Nat) (tm : PM Value) (N : Nat), n + k = tw → k + 20 ≤ N → tm.get 0 = some m → tm.get 2 = some (iv tw) → tm.get 9 = some (iv n) →
      ∃ tm', codeB T0 X0 call N EDown (.loop bodyU) tm h [] = .jump (.exit 1) tm' h [] ∧ tm'.get 0 = some m ∧ tm'.get 2 = some (iv tw) ∧ tm'.get 9 = some (iv (scan (bitB bs) k n)) ∧ tm'.get 8 = tm.get 8 := by
  intro k
  induction k with
  | zero =>
    intro n tm N hn hN h0 h2 h9
    obtain ⟨N, rfl⟩ : ∃ a, N = a + 20 := ⟨N - 20, by omega⟩
    have hlt : decide ((n : Int) < (tw : Int)) = false := decide_eq_false (by omega)
    apply Exists.intro
    apply And.intro
    · rw [codeB_loop]
      simp only [bodyU, part, Try.f40, sub, symM, opFn, Nat.reduceLT, Nat.reduceBEq, h2, h9, bin_lss, hlt]
      rfl
    · refine ⟨?_, ?_, ?_, ?_⟩ <;> simp only [symM, Nat.reduceBEq, h0, h2, h9, scan]
  | succ k ih =>
    intro n tm N hn hN h0 h2 h9
    obtain ⟨N, rfl⟩ : ∃ a, N = a + 20 := ⟨N - 20, by omega⟩
    have hlt : decide ((n : Int) < (tw : Int)) = true := decide_eq_true (by omega)
    have hw : IntKind.i64.wrap ((n : Int) + 1) = ((n + 1 : Nat) : Int) := by rw [IntWalk.i64_in _ (by omega)]; simp
    cases hb : bitB bs n with
    | false =>
      apply Exists.intro
      apply And.intro
      · rw [codeB_loop]
        simp only [bodyU, part, Try.f40, sub, symM, opFn, Nat.reduceLT, Nat.reduceBEq, h0, h2, h9, bin_lss, hlt, evCall_fn ft48 rfl, hup n (by omega), hb]
        rfl
      · refine ⟨?_, ?_, ?_, ?_⟩ <;> simp only [symM, Nat.reduceBEq, h0, h2, h9, scan, hb, cond_false]
    | true =>
      rw [show N + 20 = (N + 19) + 1 from rfl, codeB_loop]
      simp only [bodyU, part, Try.f40, sub, symM, opFn, Nat.reduceLT, Nat.reduceBEq, h0, h2, h9, bin_lss, hlt, evCall_fn ft48 rfl, hup n (by omega), hb, bin_add, hw]
      refine (ih (n + 1) _ (N + 19) (by omega) (by omega) (by simp only [symM, Nat.reduceBEq, h0]) (by simp only [symM, Nat.reduceBEq, h2]) get_same).imp fun tm' q => ⟨q.1, q.2.1, q.2.2.1, ?_, ?_⟩
      · rw [q.2.2.2.1, scan, hb]; rfl
      · rw [q.2.2.2.2]; simp only [symM, Nat.reduceBEq]
theorem loopD (bs : List Nat) (m : Value) (h : AH) (tw : Nat) (hto : tw ≤ 480) (hup : ∀ n : Nat, n < 480 → call 48 [m, iv n] h = some (.bool (bitB bs n), h)) :
    ∀ (k n : Nat) (tm : PM Value) (N : Nat), n + k = tw → k + 20 ≤ N → tm.get 0 = some m → tm.get 2 = some (iv tw) → tm.get 9 = some (iv n) →
      ∃ tm', codeB T0 X0 call N EDown (.loop bodyD) tm h [] = .jump (.exit 3) tm' h [] ∧ tm'.get 0 = some m ∧ tm'.get 2 = some (iv tw) ∧ tm'.get 9 = some (iv (scan (fun i => !bitB bs i) k n)) ∧ tm'.get 8 = tm.get 8 ∧ tm'.get 10 = tm.get 10 := by
  intro k
  induction k with
  | zero =>
    intro n tm N hn hN h0 h2 h9
    obtain ⟨N, rfl⟩ : ∃ a, N = a + 20 := ⟨N - 20, by omega⟩
    have hlt : decide ((n : Int) < (tw : Int)) = false := decide_eq_false (by omega)
    apply Exists.intro
    apply And.intro
    · rw [codeB_loop]
      simp only [bodyD, part, Try.f40, sub, symM, opFn, Nat.reduceLT, Nat.reduceBEq, h2, h9, bin_lss, hlt]
      rfl
    · refine ⟨?_, ?_, ?_, ?_, ?_⟩ <;> simp only [symM, Nat.reduceBEq, h0, h2, h9, scan]
  | succ k ih =>
    intro n tm N hn hN h0 h2 h9
    obtain ⟨N, rfl⟩ : ∃ a, N = a + 20 := ⟨N - 20, by omega⟩
    have hlt : decide ((n : Int) < (tw : Int)) = true := decide_eq_true (by omega)
    have hw : IntKind.i64.wrap ((n : Int) + 1) = ((n + 1 : Nat) : Int) := by rw [IntWalk.i64_in _ (by omega)]; simp
    cases hb : bitB bs n with
    | true =>
      apply Exists.intro
      apply And.intro
      · rw [codeB_loop]
        simp only [bodyD, part, Try.f40, sub, symM, opFn, Nat.reduceLT, Nat.reduceBEq, h0, h2, h9, bin_lss, hlt, evCall_fn ft48 rfl, hup n (by omega), hb]
        rfl
      · refine ⟨?_, ?_, ?_, ?_, ?_⟩ <;> simp only [symM, Nat.reduceBEq, h0, h2, h9, scan, hb, cond_false]
    | false =>
      rw [show N + 20 = (N + 19) + 1 from rfl, codeB_loop]
      simp only [bodyD, part, Try.f40, sub, symM, opFn, Nat.reduceLT, Nat.reduceBEq, h0, h2, h9, bin_lss, hlt, evCall_fn ft48 rfl, hup n (by omega), hb, bin_add, hw]
      refine (ih (n + 1) _ (N + 19) (by omega) (by omega) (by simp only [symM, Nat.reduceBEq, h0]) (by simp only [symM, Nat.reduceBEq, h2]) get_same).imp fun tm' q => ⟨q.1, q.2.1, q.2.2.1, ?_, ?_, ?_⟩
      · rw [q.2.2.2.1, scan, hb]; rfl
      · rw [q.2.2.2.2.1]; simp only [symM, Nat.reduceBEq]
      · rw [q.2.2.2.2.2]; simp only [symM, Nat.reduceBEq]

def runsV (l : List (Nat × Nat)) : List Value := l.map fun p => cx p.1 p.2
noncomputable def scopeDown : Code := part Try.f40 [1, 0]
noncomputable def restDown : Code := part Try.f40 [1, 0, 1, 1, 1, 1]
theorem label_Down : findLabel scopeDown 0 = some (.seq .skip restDown) := by kernel_rfl
theorem gapsG_len (d : Nat → Bool) : ∀ (k n first : Nat), (gapsG d k n first).length ≤ k + 1 := by
  intro k
  induction k with
  | zero => intro n first; rw [gapsG]; cases Nat.blt first n <;> simp
  | succ k ih =>
    intro n first
    rw [gapsG]
    cases d n with
    | true => have := ih (n + 1) first; simp only [cond_true]; omega
    | false => have := ih (n + 1) (n + 1); cases Nat.blt first n <;> simp <;> omega
theorem bs_cx {a b : Int} {h : AH} : evBuildSlice T0 29 1 [(0, cx a b)] h = some (.slice (some ⟨h.next, 0, none⟩) 1 1, h.new (.cells (PM.ofList [cx a b]) 1 23 0 0 .ex)) := bs_one und_c128s sz_c128 zero_c128 rfl rfl
/-- It looked for gaps and came back with these. -/
def DownP (call : Abs.Callee) (N n0 : Nat) (h0 : AH) (l : List (Nat × Nat)) (x : CO) : Prop :=
  ∃ tm' h' v', CO.unscope (codeB T0 X0 call N) EDown scopeDown x = .jump .ret tm' h' [] ∧ tm'.get 6 = some v' ∧ tm'.get 7 = some (iv 0) ∧ Own n0 h' v' (runsV l) 23 ∧ Grow n0 h0 h'
/-- Looking for gaps from n on. -/
theorem downL (bs : List Nat) (m : Value) (n0 tw : Nat) (hto : tw ≤ 480) (hup : ∀ (n : Nat) (h : AH), n < 480 → Row n0 h m (bytesV bs) 5 → call 48 [m, iv n] h = some (.bool (bitB bs n), h))
    (hOf : ∀ (x y : Nat) h, 1 ≤ y → x + y ≤ 480 → call 49 [iv x, iv y] h = some (.tuple #[cx x y, iv 0], h)) (h0 : AH) (hm0 : Row n0 h0 m (bytesV bs) 5) (hn0 : n0 ≤ h0.next) :
    ∀ (c k n : Nat) (tm : PM Value) (h : AH) (v : Value) (acc : List (Nat × Nat)) (N M : Nat), k < c → n + k = tw → 2 * c + 700 ≤ N → 600 ≤ M → acc.length ≤ n → tm.get 0 = some m → tm.get 2 = some (iv tw) → tm.get 9 = some (iv n) → tm.get 8 = some v →
      Own n0 h v (runsV acc) 23 → Grow n0 h0 h → DownP call N n0 h0 (acc ++ gapsG (fun i => !bitB bs i) k n n) (codeB T0 X0 call M EDown (.code restDown) tm h []) := by
  intro c
  induction c with
  | zero => intros; omega
  | succ c ih =>
    intro k n tm h v acc N M hk hn hN hM hacc h0 h2 h9 h8 hv hg
    obtain ⟨M, rfl⟩ : ∃ a, M = a + 600 := ⟨M - 600, by omega⟩
    have hm : Row n0 h m (bytesV bs) 5 := hm0.grow hg (Nat.le_refl _)
    obtain ⟨s1, s2, s3, s4⟩ := scan_spec (bitB bs) k n
    simp only [restDown, part, Try.f40, sub, symM]
    refine bind_loop1 (b := bodyU) (loopU bs m h tw hto (fun i hi => hup i h hi hm) k n tm (M + 598) hn (by omega) h0 h2 h9) ?_
    intro tm1 ⟨q0, q2, q9, q8⟩
    generalize hn1 : scan (bitB bs) k n = n1 at *
    have hout : gapsG (fun i => !bitB bs i) k n n = gapsG (fun i => !bitB bs i) (k - (n1 - n)) n1 n1 := by
      rw [gapsG_out (fun i => !bitB bs i) (n1 - n) k n (by omega) (fun i h1 h2 => by simp only [s3 i h1 (by omega), Bool.not_true]), show n + (n1 - n) = n1 by omega]
    rw [hout]
    rw [h8] at q8
    by_cases hend : n1 = tw
    · have heq : ((n1 : Int) == (tw : Int)) = true := by simp [hend]
      have hnil : gapsG (fun i => !bitB bs i) (k - (n1 - n)) n1 n1 = [] := by rw [show k - (n1 - n) = 0 by omega]; exact gapsG_self _ _
      simp only [symM, opFn, Nat.reduceLT, Nat.reduceBEq, q2, q9, q8, bin_eql, heq]
      rw [hnil, List.append_nil]
      exact ⟨_, h, v, rfl, by simp only [symM, Nat.reduceBEq], by simp only [symM], hv, hg⟩
    · have heq : ((n1 : Int) == (tw : Int)) = false := by simp; omega
      have hlt1 : n1 < n + k := by omega
      have hd1 := s4 hlt1
      simp only [symM, opFn, Nat.reduceLT, Nat.reduceBEq, q2, q9, bin_eql, heq]
      obtain ⟨r1, r2, r3, r4⟩ := scan_spec (fun i => !bitB bs i) (tw - n1) n1
      refine bind_loop1 (b := bodyD) (loopD bs m h tw hto (fun i hi => hup i h hi hm) (tw - n1) n1 _ _ (by omega) (by omega) (by simp only [symM, Nat.reduceBEq, q0]) (by simp only [symM, Nat.reduceBEq, q2]) (by simp only [symM, Nat.reduceBEq, q9])) ?_
      intro tm2 ⟨p0, p2, p9, p8, p10⟩
      generalize hn2 : scan (fun i => !bitB bs i) (tw - n1) n1 = n2 at *
      have h12 : n1 < n2 := by
        rcases Nat.lt_or_ge n1 n2 with hh | hh
        · exact hh
        · have := r4 (by omega); rw [show n2 = n1 by omega, hd1] at this; cases this
      have p8' : tm2.get 8 = some v := by rw [p8]; simp only [symM, Nat.reduceBEq, q8]
      have p10' : tm2.get 10 = some (iv n1) := by rw [p10]; simp only [symM]
      have hsub : IntKind.i64.wrap ((n2 : Int) - (n1 : Int)) = ((n2 - n1 : Nat) : Int) := by rw [IntWalk.i64_in _ (by omega)]; omega
      have hlen : (runsV acc).length < 1000000 := by simp [runsV]; omega
      obtain ⟨v2, h2', ea, eo, eg⟩ := append_one und_c128s tt_c128 ti_c128.1 ti_c128.2.1 ti_c128.2.2 hv (x := cx n1 (n2 - n1 : Nat)) rfl hlen (Nat.le_trans hn0 hg.next) 29
      simp only [symM, opFn, Nat.reduceLT, Nat.reduceBEq, p9, p10', p8', bin_sub, hsub, evCall_fn ft49 rfl, hOf n1 (n2 - n1) _ (by omega) (by omega), bs_cx, ea]
      have hin : gapsG (fun i => !bitB bs i) (k - (n1 - n)) n1 n1 = (n1, n2 - n1) :: gapsG (fun i => !bitB bs i) (tw - n2) n2 n2 := by
        rw [gapsG_in (fun i => !bitB bs i) n1 (n2 - n1) (k - (n1 - n)) n1 (by omega) (fun i h1 h2 => r3 i h1 (by omega)), show n1 + (n2 - n1) = n2 by omega, show k - (n1 - n) - (n2 - n1) = tw - n2 by omega]
        exact gapsG_end _ _ _ _ h12 (fun hh => r4 (by omega))
      rw [hin]
      obtain ⟨N, rfl⟩ : ∃ a, N = a + 3 := ⟨N - 3, by omega⟩
      have hrec := fun tm t0 t2 t9 t8 => ih (tw - n2) n2 tm h2' v2 (acc ++ [(n1, n2 - n1)]) (N + 2) (N + 1) (by omega) (by omega) (by omega) (by omega) (by simp; omega) t0 t2 t9 t8 (by simpa [runsV] using eo) (hg.trans eg (Nat.le_refl _))
      unfold DownP at hrec ⊢
      rw [codeB_goto, unscope_goto label_Down, codeB_scope, codeB_seq, codeB_skip, bind_fall]
      rw [List.append_assoc, List.singleton_append] at hrec
      exact hrec _ (by simp only [symM, Nat.reduceBEq, p0]) (by simp only [symM, Nat.reduceBEq, p2]) (by simp only [symM, Nat.reduceBEq, p9]) (by simp only [symM])

/-- The errors of flags.Down, and its answer. -/
def downE (len : Nat) (a b : Int) : Int := if len ≠ 60 then 2 else if a < 0 ∨ a > b ∨ b > 480 then 1 else 0
def downG (bs : List Nat) (a b : Int) : List (Nat × Nat) := if downE bs.length a b = 0 then gapsG (fun i => !bitB bs i) (b.toNat - a.toNat) a.toNat a.toNat else []
theorem Down_S (bs : List Nat) (m : Value) (h : AH) (a b : Int) (hm : Row h.next h m (bytesV bs) 5) (hup : ∀ (n : Nat) (h' : AH), n < 480 → bs.length = 60 → Row h.next h' m (bytesV bs) 5 → call 48 [m, iv n] h' = some (.bool (bitB bs n), h'))
    (hOf : ∀ (x y : Nat) h, 1 ≤ y → x + y ≤ 480 → call 49 [iv x, iv y] h = some (.tuple #[cx x y, iv 0], h)) :
    ∃ v h', frameB T0 X0 call 3000 40 [m, iv a, iv b] h = some (.tuple #[v, iv (downE bs.length a b)], h') ∧ Own h.next h' v (runsV (downG bs a b)) 23 ∧ Grow h.next h h' := by
  have hlen := fun (ty : TypeId) (h' : AH) => hm.len (T := T0) (ty := ty) (h' := h') und_bytes
  have hl : (bytesV bs).length = bs.length := by simp [bytesV]
  rw [hl] at hlen
  rw [frameB_eq ft40 rfl rfl]
  by_cases h60 : bs.length = 60
  · have e60 : ((bs.length : Int) == 60) = true := by rw [h60]; rfl
    by_cases herr : a < 0 ∨ a > b ∨ b > 480
    · have hE : downE bs.length a b = 1 := by unfold downE; rw [if_neg (fun hh => hh h60), if_pos herr]
      have hG : downG bs a b = [] := by unfold downG; rw [hE]; rfl
      rw [hE, hG]
      refine ⟨.slice none 0 0, h, ?_, Own.nil _ _ _, Grow.refl _ _⟩
      by_cases h1 : a < 0
      · simp only [Try.f40, symM, opFn, Nat.reduceLT, Nat.reduceBEq, codeB_scope0, codeB_scope, unscope_ret, hlen, bin_neq, e60, bin_lss, decide_eq_true h1]
        exact retB_two ft40 rfl (by simp only [symM, Nat.reduceBEq]) get_same
      · by_cases h2 : b < a
        · simp only [Try.f40, symM, opFn, Nat.reduceLT, Nat.reduceBEq, codeB_scope0, codeB_scope, unscope_ret, hlen, bin_neq, e60, bin_lss, decide_eq_false h1, bin_gtr, decide_eq_true h2]
          exact retB_two ft40 rfl (by simp only [symM, Nat.reduceBEq]) get_same
        · have h3 : 480 < b := by omega
          simp only [Try.f40, symM, opFn, Nat.reduceLT, Nat.reduceBEq, codeB_scope0, codeB_scope, unscope_ret, hlen, bin_neq, e60, bin_lss, decide_eq_false h1, bin_gtr, decide_eq_false h2, decide_eq_true h3]
          exact retB_two ft40 rfl (by simp only [symM, Nat.reduceBEq]) get_same
    · have hE : downE bs.length a b = 0 := by unfold downE; rw [if_neg (fun hh => hh h60), if_neg herr]
      obtain ⟨a, rfl⟩ : ∃ n : Nat, a = n := ⟨a.toNat, by omega⟩
      obtain ⟨b, rfl⟩ : ∃ n : Nat, b = n := ⟨b.toNat, by omega⟩
      have hG : downG bs (a : Int) b = gapsG (fun i => !bitB bs i) (b - a) a a := by unfold downG; rw [hE, if_pos rfl]; rfl
      rw [hE, hG]
      have hL := fun tm t0 t2 t9 t8 => downL bs m h.next b (by omega) (fun n h' hn hr => hup n h' hn h60 hr) hOf h hm (Nat.le_refl _) 481 (b - a) a tm h (.slice none 0 0) [] 2997 2993 (by omega) (by omega) (by omega) (by omega) (by simp) t0 t2 t9 t8 (Own.nil _ _ _) (Grow.refl _ _)
      simp only [Try.f40, symM, opFn, Nat.reduceLT, Nat.reduceBEq, codeB_scope0, codeB_scope, hlen, bin_neq, e60, bin_lss, decide_eq_false (show ¬ (a : Int) < 0 by omega), bin_gtr, decide_eq_false (show ¬ (b : Int) < a by omega), decide_eq_false (show ¬ (480 : Int) < b by omega)]
      have fin : ∀ x, DownP call 2997 h.next h (gapsG (fun i => !bitB bs i) (b - a) a a) x → ∃ v h', endF T0 40 (CO.unscope (codeB T0 X0 call 2997) EDown scopeDown x) = some (.tuple #[v, iv 0], h') ∧ Own h.next h' v (runsV (gapsG (fun i => !bitB bs i) (b - a) a a)) 23 ∧ Grow h.next h h' := by
        intro x ⟨tm', h', v', e1, e2, e3, e4, e5⟩
        refine ⟨v', h', ?_, e4, e5⟩
        rw [e1, endF_ret]
        exact retB_two ft40 rfl e2 e3
      refine fin _ ?_
      simp only [restDown, part, Try.f40, sub, symM] at hL
      exact hL _ (by simp only [symM, Nat.reduceBEq]) (by simp only [symM, Nat.reduceBEq]) (by simp only [symM]) (by simp only [symM, Nat.reduceBEq])
  · have e60 : ((bs.length : Int) == 60) = false := by simp; omega
    have hE : downE bs.length a b = 2 := by unfold downE; rw [if_pos h60]
    have hG : downG bs a b = [] := by unfold downG; rw [hE]; rfl
    rw [hE, hG]
    refine ⟨.slice none 0 0, h, ?_, Own.nil _ _ _, Grow.refl _ _⟩
    simp only [Try.f40, symM, opFn, Nat.reduceLT, Nat.reduceBEq, codeB_scope0, codeB_scope, unscope_ret, hlen, bin_neq, e60]
    exact retB_two ft40 rfl (by simp only [symM, Nat.reduceBEq]) get_same
end
end Go.Proofs.Ytcpihpjphdlmfaa.Abs
namespace Go.Proofs.Ytcpihpjphdlmfaa.Abs
open Go Go.Proofs
noncomputable section
theorem ft21 : T0.ft.get 21 = some Try.f21 := by kernel_rfl
theorem ft24 : T0.ft.get 24 = some Try.f24 := by kernel_rfl
theorem ft9 : T0.ft.get 9 = some Try.f9 := by kernel_rfl
theorem ft23 : T0.ft.get 23 = some Try.f23 := by kernel_rfl
theorem ft22 : T0.ft.get 22 = some Try.f22 := by kernel_rfl
variable {call : Abs.Callee}
set_option maxRecDepth 10000
/-- The first so many blocks of a run. -/
theorem Cut_S (hP : ∀ (x y : Nat) h, x ≤ 1048576 → y ≤ 1048576 → call 50 [cx x y] h = some (partsV x y, h)) (hm : ∀ (x y : Int) h, zok x = true → zok y = true → call 51 [iv x, iv y] h = some (make1V x y, h))
    (x y n : Nat) (hr : runOK x y = true) (hn : n ≤ y) (h : AH) : frameB T0 X0 call 3000 41 [cx x y, iv n] h = some (.tuple #[make1V x n, make1V (x + n : Nat) (y - n : Nat), iv 0], h) := by
  have hxy : 1 ≤ y ∧ x + y ≤ 480 := by simpa [runOK] using hr
  have hp : partsV x y = .tuple #[iv x, iv y, iv 0] := by unfold partsV; rw [hr]; rfl
  have hw1 : IntKind.i64.wrap ((x : Int) + n) = ((x + n : Nat) : Int) := by rw [IntWalk.i64_in _ (by omega)]; omega
  have hw2 : IntKind.i64.wrap ((y : Int) - n) = ((y - n : Nat) : Int) := by rw [IntWalk.i64_in _ (by omega)]; omega
  rw [frameB_eq ft41 rfl rfl]
  simp only [Try.f41, symM, opFn, Nat.reduceLT, Nat.reduceBEq, evCall_fn ft50 rfl, evCall_fn ft51 rfl, hP x y _ (by omega) (by omega), hp, bin_neq, bin_lss, bin_gtr, bin_add, bin_sub, hw1, hw2, decide_eq_false (show ¬ (n : Int) < 0 by omega), decide_eq_false (show ¬ (y : Int) < n by omega),
    hm x n _ (zok_k (by omega)) (zok_k (by omega)), hm (x + n : Nat) (y - n : Nat) _ (zok_k (by omega)) (zok_k (by omega)), show ((0 : Int) == 0) = true from rfl]
  exact retB_three ft41 rfl (by simp only [symM, Nat.reduceBEq]) (by simp only [symM, Nat.reduceBEq]) get_same
theorem begin_S (hC : ∀ (x y n : Nat) h, runOK x y = true → n ≤ y → call 41 [cx x y, iv n] h = some (.tuple #[make1V x n, make1V (x + n : Nat) (y - n : Nat), iv 0], h))
    (x y n : Nat) (hr : runOK x y = true) (hn : n ≤ y) (h1 : 1 ≤ n) (h : AH) : frameB T0 X0 call 3000 24 [cx x y, iv n] h = some (cx x n, h) := by
  have hm : make1V x n = cx x n := if_neg (by omega)
  rw [frameB_eq ft24 rfl rfl]
  simp only [Try.f24, symM, opFn, Nat.reduceLT, Nat.reduceBEq, evCall_fn ft41 rfl, hC x y n _ hr hn, hm]
  exact retB_one ft24 rfl get_same

def gapE (len : Nat) (n a b : Int) : Int := if downE len a b = 0 then (if n < 1 ∨ n > 480 then 1 else 0) else downE len a b
def gapG (bs : List Nat) (n a b : Int) : List (Nat × Nat) := if gapE bs.length n a b = 0 then downG bs a b else []
theorem gaps_S (bs : List Nat) (m : Value) (h : AH) (n a b : Int)
    (hD : ∃ v h', call 40 [m, iv a, iv b] h = some (.tuple #[v, iv (downE bs.length a b)], h') ∧ Own h.next h' v (runsV (downG bs a b)) 23 ∧ Grow h.next h h') :
    ∃ v h', frameB T0 X0 call 3000 21 [m, iv n, iv a, iv b] h = some (.tuple #[v, iv (gapE bs.length n a b)], h') ∧ Own h.next h' v (runsV (gapG bs n a b)) 23 ∧ Grow h.next h h' := by
  obtain ⟨v, h', e1, e2, e3⟩ := hD
  rw [frameB_eq ft21 rfl rfl]
  by_cases h0 : downE bs.length a b = 0
  · by_cases hn : n < 1 ∨ n > 480
    · have hE : gapE bs.length n a b = 1 := by unfold gapE; rw [if_pos h0, if_pos hn]
      have hG : gapG bs n a b = [] := by unfold gapG; rw [hE]; rfl
      rw [hE, hG]
      refine ⟨.slice none 0 0, h', ?_, Own.nil _ _ _, e3⟩
      by_cases h1 : n < 1
      · simp only [Try.f21, symM, opFn, Nat.reduceLT, Nat.reduceBEq, evCall_fn ft40 rfl, e1, h0, bin_eql, show ((0 : Int) == 0) = true from rfl, bin_lss, decide_eq_true h1]
        exact retB_two ft21 rfl (by simp only [symM, Nat.reduceBEq]) get_same
      · have h2 : 480 < n := by omega
        simp only [Try.f21, symM, opFn, Nat.reduceLT, Nat.reduceBEq, evCall_fn ft40 rfl, e1, h0, bin_eql, show ((0 : Int) == 0) = true from rfl, bin_lss, decide_eq_false h1, bin_gtr, decide_eq_true h2]
        exact retB_two ft21 rfl (by simp only [symM, Nat.reduceBEq]) get_same
    · have hE : gapE bs.length n a b = 0 := by unfold gapE; rw [if_pos h0, if_neg hn]
      have hG : gapG bs n a b = downG bs a b := by unfold gapG; rw [hE]; rfl
      rw [hE, hG]
      refine ⟨v, h', ?_, e2, e3⟩
      simp only [Try.f21, symM, opFn, Nat.reduceLT, Nat.reduceBEq, evCall_fn ft40 rfl, e1, h0, bin_eql, show ((0 : Int) == 0) = true from rfl, bin_lss, bin_gtr, decide_eq_false (show ¬ n < 1 by omega), decide_eq_false (show ¬ 480 < n by omega)]
      exact retB_two ft21 rfl (by simp only [symM, Nat.reduceBEq]) get_same
  · have hE : gapE bs.length n a b = downE bs.length a b := by unfold gapE; rw [if_neg h0]
    have hG : gapG bs n a b = [] := by unfold gapG; rw [hE, if_neg h0]
    have hG2 : downG bs a b = [] := by unfold downG; rw [if_neg h0]
    have hb : (downE bs.length a b == 0) = false := by simpa using h0
    rw [hE, hG]
    rw [hG2] at e2
    refine ⟨v, h', ?_, e2, e3⟩
    simp only [Try.f21, symM, opFn, Nat.reduceLT, Nat.reduceBEq, evCall_fn ft40 rfl, e1, bin_eql, hb]
    exact retB_two ft21 rfl (by simp only [symM, Nat.reduceBEq]) get_same
theorem agg_int : aggT T0 3 = some false := by kernel_rfl
/-- A box that bears a number. -/
def Box (h : AH) (p v : Value) : Prop := ∃ b c el, p = .pointer (some ⟨b, 0, none⟩) ∧ h.get b = some (.cells c 1 el 0 0 .ex) ∧ c.get 0 = some v
theorem Box.load {h : AH} {p v : Value} (hb : Box h p v) : evLoad T0 3 p h = some v := by
  obtain ⟨b, c, el, rfl, h1, h2⟩ := hb
  exact load_one agg_int h1 (by omega) h2
theorem First1_S (x y n : Nat) (hx : x ≤ 1048576) (hy : y ≤ 1048576) (p : Value) (h : AH) (hb : Box h p (iv n)) : frameB T0 X0 call 3000 23 [cx x y, p] h = some (.bool (decide (n ≤ y)), h) := by
  rw [frameB_eq ft23 rfl rfl]
  simp only [Try.f23, symM, opFn, Nat.reduceLT, Nat.reduceBEq, conv_f2i und_f64 und_int (zok_k (x := (y : Int)) (by omega)) (i64_range hy), hb.load, bin_geq]
  rw [show decide (n ≤ y) = decide ((n : Int) ≤ y) from decide_eq_decide.2 (by omega)]
  exact retB_one ft23 rfl get_same

/-- Where it holds first; -1: nowhere. -/
def idxF (p : Value → Bool) : List Value → Nat → Int
  | [], _ => -1
  | x :: l, i => bif p x then (i : Int) else idxF p l (i + 1)
noncomputable def bodyI : Code := part Try.f22 [1, 0, 1, 0, 0]
abbrev EIdx : Env := ⟨22, 19, none⟩
theorem loopI (s : Value) (L : List Value) (n0 : Nat) (h : AH) (g : Nat) (cap : List Value) (fd : Func) (c : Code) (hg : T0.ft.get g = some fd) (hgb : fd.body = some c) (p : Value → Bool) (hs : Row n0 h s L 23) (hL : L.length < 1000000)
    (hp : ∀ x ∈ L, call g (x :: cap) h = some (.bool (p x), h)) :
    ∀ (l : List Value) (i : Nat) (tm : PM Value) (N : Nat), L.drop i = l → i + l.length = L.length → l.length + 20 ≤ N → tm.get 0 = some s → tm.get 1 = some (.func (.func g) #[] cap.toArray) → tm.get 7 = some (iv L.length) → tm.get 8 = some (iv i) →
      ∃ tm', (codeB T0 X0 call N EIdx (.loop bodyI) tm h [] = .jump .ret tm' h [] ∧ tm'.get 4 = some (iv (idxF p l i))) ∨ (codeB T0 X0 call N EIdx (.loop bodyI) tm h [] = .jump (.exit 0) tm' h [] ∧ idxF p l i = -1) := by
  intro l
  induction l with
  | nil =>
    intro i tm N hd hi hN h0 h1 h7 h8
    obtain ⟨N, rfl⟩ : ∃ a, N = a + 20 := ⟨N - 20, by simp at hN; omega⟩
    have hlt : decide ((i : Int) < (L.length : Nat)) = false := decide_eq_false (by simp at hi; omega)
    apply Exists.intro
    right
    refine ⟨?_, rfl⟩
    rw [codeB_loop]
    simp only [bodyI, part, Try.f22, sub, symM, opFn, Nat.reduceLT, h7, h8, bin_lss, hlt]
    rfl
  | cons x l ih =>
    intro i tm N hd hi hN h0 h1 h7 h8
    obtain ⟨N, rfl⟩ : ∃ a, N = a + 20 := ⟨N - 20, by simp at hN; omega⟩
    have hlt : decide ((i : Int) < (L.length : Nat)) = true := decide_eq_true (by simp at hi; omega)
    have hx : L[i]? = some x := by have := congrArg (fun l => l[0]?) hd; simpa using this
    obtain ⟨q, e1, e2⟩ := hs.at und_c128s sz_c128 agg_c128 hx
    have hcall := hp x (List.mem_of_getElem? hx)
    have hw : IntKind.i64.wrap ((i : Int) + 1) = ((i + 1 : Nat) : Int) := by rw [IntWalk.i64_in _ (by simp at hi; omega)]; simp
    cases hb : p x with
    | true =>
      apply Exists.intro
      left
      apply And.intro
      · rw [codeB_loop]
        simp only [bodyI, part, Try.f22, sub, symM, opFn, Nat.reduceLT, Nat.reduceBEq, h0, h1, h7, h8, bin_lss, hlt, e1, e2, evCall_clo hg hgb, List.cons_append, List.nil_append, hcall, hb]
        rfl
      · simp only [symM, idxF, hb, cond_true]
    | false =>
      rw [show N + 20 = (N + 19) + 1 from rfl, codeB_loop]
      simp only [bodyI, part, Try.f22, sub, symM, opFn, Nat.reduceLT, Nat.reduceBEq, h0, h1, h7, h8, bin_lss, hlt, e1, e2, evCall_clo hg hgb, List.cons_append, List.nil_append, hcall, hb, bin_add, hw]
      rw [show idxF p (x :: l) i = idxF p l (i + 1) from by rw [idxF, hb]; rfl]
      exact ih (i + 1) _ (N + 19) (by rw [← List.drop_drop, hd]; rfl) (by simp at hi ⊢; omega) (by simp at hN ⊢; omega) (by simp only [symM, Nat.reduceBEq, h0]) (by simp only [symM, Nat.reduceBEq, h1]) (by simp only [symM, Nat.reduceBEq, h7]) get_same
theorem Index_S (s : Value) (L : List Value) (n0 : Nat) (h : AH) (g : Nat) (cap : List Value) (fd : Func) (c : Code) (hg : T0.ft.get g = some fd) (hgb : fd.body = some c) (p : Value → Bool) (hs : Row n0 h s L 23) (hL : L.length < 900)
    (hp : ∀ x ∈ L, call g (x :: cap) h = some (.bool (p x), h)) : frameB T0 X0 call 3000 22 [s, .func (.func g) #[] cap.toArray] h = some (iv (idxF p L 0), h) := by
  rw [frameB_eq ft22 rfl rfl]
  have hL2 := fun tm N => loopI s L n0 h g cap fd c hg hgb p hs (by omega) hp L 0 tm N rfl (by simp)
  simp only [Try.f22, symM, opFn, Nat.reduceLT, Nat.reduceBEq, hs.len und_c128s]
  refine bind_loopJ (b := bodyI) (Q := fun x => ∃ tm', (x = .jump .ret tm' h [] ∧ tm'.get 4 = some (iv (idxF p L 0))) ∨ (x = .jump (.exit 0) tm' h [] ∧ idxF p L 0 = -1)) (P := fun x => endF T0 22 x = some (iv (idxF p L 0), h)) ?_ ?_
  · exact hL2 _ _ (by omega) (by simp only [symM, Nat.reduceBEq]) (by simp only [symM, Nat.reduceBEq]) (by simp only [symM, Nat.reduceBEq]) (by simp only [symM]; rfl)
  · intro x ⟨tm', hx⟩
    rcases hx with ⟨rfl, h4⟩ | ⟨rfl, h4⟩
    · simp only [symM]
      exact retB_one ft22 rfl h4
    · rw [h4]
      simp only [symM]
      exact retB_one ft22 rfl get_same
end
end Go.Proofs.Ytcpihpjphdlmfaa.Abs
namespace Go.Proofs.Ytcpihpjphdlmfaa.Abs
open Go Go.Proofs
noncomputable section
variable {call : Abs.Callee}
set_option maxRecDepth 10000
/-- The first gap that is long enough: so many blocks of it. -/
def firstV (l : List (Nat × Nat)) (n : Nat) : Value := match l.find? (fun p => decide (n ≤ p.2)) with
  | some p => .tuple #[cx p.1 n, iv 0]
  | none => .tuple #[.complex .f64 0 0, iv 6]
def firstR (bs : List Nat) (n a b : Int) : Value := if gapE bs.length n a b = 0 then firstV (gapG bs n a b) n.toNat else .tuple #[.complex .f64 0 0, iv (gapE bs.length n a b)]
/-- All are runs. -/
def AllRuns (l : List (Nat × Nat)) : Prop := ∀ p ∈ l, runOK p.1 p.2 = true
theorem gapsG_runs (d : Nat → Bool) : ∀ (k n first : Nat), first ≤ n → n + k ≤ 480 → AllRuns (gapsG d k n first) := by
  intro k
  induction k with
  | zero =>
    intro n first hf hn
    rw [gapsG]
    cases hb : Nat.blt first n with
    | false => intro p hp; simp at hp
    | true =>
      have := blt_lt hb
      intro p hp
      simp at hp
      subst hp
      simp [runOK]; omega
  | succ k ih =>
    intro n first hf hn
    rw [gapsG]
    cases d n with
    | true => simp only [cond_true]; exact ih _ _ (by omega) (by omega)
    | false =>
      simp only [cond_false]
      intro p hp
      rw [List.mem_append] at hp
      rcases hp with hp | hp
      · cases hb : Nat.blt first n with
        | false => rw [hb] at hp; simp at hp
        | true =>
          have := blt_lt hb
          rw [hb] at hp
          simp at hp
          subst hp
          simp [runOK]; omega
      · exact ih _ _ (by omega) (by omega) p hp
theorem downG_runs (bs : List Nat) (a b : Int) : AllRuns (downG bs a b) := by
  unfold downG
  by_cases h : downE bs.length a b = 0
  · rw [if_pos h]
    unfold downE at h
    by_cases h1 : bs.length ≠ 60
    · rw [if_pos h1] at h; cases h
    · rw [if_neg h1] at h
      by_cases h2 : a < 0 ∨ a > b ∨ b > 480
      · rw [if_pos h2] at h; cases h
      · exact gapsG_runs _ _ _ _ (Nat.le_refl _) (by omega)
  · rw [if_neg h]; intro p hp; simp at hp
theorem gapG_runs (bs : List Nat) (n a b : Int) : AllRuns (gapG bs n a b) := by
  unfold gapG
  split
  · exact downG_runs _ _ _
  · intro p hp; simp at hp
theorem gapG_len (bs : List Nat) (n a b : Int) : (gapG bs n a b).length ≤ 481 := by
  unfold gapG
  split
  · unfold downG
    split
    · rename_i h
      have := gapsG_len (fun i => !bitB bs i) (b.toNat - a.toNat) a.toNat a.toNat
      have h3 : b.toNat ≤ 480 := by
        unfold downE at h
        split at h
        · cases h
        · split at h
          · cases h
          · omega
      omega
    · simp
  · simp
/-- What the callback asks. -/
def geP (n : Nat) : Value → Bool
  | .complex _ _ y => (match dz y with
    | some z => decide ((n : Int) ≤ z)
    | none => false)
  | _ => false
theorem geP_cx (n x y : Nat) (hy : y ≤ 1048576) : geP n (cx x y) = decide (n ≤ y) := by
  show (match dz (zd (y : Int)) with | some z => decide ((n : Int) ≤ z) | none => false) = _
  rw [dz_zd (zok_k (by omega))]
  exact decide_eq_decide.2 (by omega)
theorem idxF_find (n : Nat) : ∀ (l : List (Nat × Nat)) (i : Nat), AllRuns l → (l.find? (fun p => decide (n ≤ p.2)) = none ∧ idxF (geP n) (runsV l) i = -1) ∨
    ∃ j p, l.find? (fun p => decide (n ≤ p.2)) = some p ∧ l[j]? = some p ∧ n ≤ p.2 ∧ idxF (geP n) (runsV l) i = ((i + j : Nat) : Int) := by
  intro l
  induction l with
  | nil => intro i _; exact .inl ⟨rfl, rfl⟩
  | cons q l ih =>
    intro i hl
    have hq := hl q (List.mem_cons_self ..)
    have hq2 : 1 ≤ q.2 ∧ q.1 + q.2 ≤ 480 := by simpa [runOK] using hq
    have hg : geP n (cx q.1 q.2) = decide (n ≤ q.2) := geP_cx n q.1 q.2 (by omega)
    by_cases h : n ≤ q.2
    · right
      refine ⟨0, q, by simp [h], rfl, h, ?_⟩
      show idxF (geP n) (cx q.1 q.2 :: runsV l) i = _
      rw [idxF, hg, decide_eq_true h]
      rfl
    · have hi : idxF (geP n) (runsV (q :: l)) i = idxF (geP n) (runsV l) (i + 1) := by
        show idxF (geP n) (cx q.1 q.2 :: runsV l) i = _
        rw [idxF, hg, decide_eq_false h]; rfl
      rw [hi]
      have hf : (q :: l).find? (fun p => decide (n ≤ p.2)) = l.find? (fun p => decide (n ≤ p.2)) := by simp [h]
      rw [hf]
      rcases ih (i + 1) (fun p hp => hl p (List.mem_cons_of_mem _ hp)) with ⟨e1, e2⟩ | ⟨j, p, e1, e2, e3, e4⟩
      · exact .inl ⟨e1, e2⟩
      · exact .inr ⟨j + 1, p, e1, by simpa using e2, e3, by rw [e4]; congr 1; omega⟩
def regOps (f : Func) (p : List Nat) : Array Oper := match part f p with
  | .region _ ops _ => ops
  | _ => #[]
theorem plan_First : planB (regOps Try.f9 [1, 1, 1, 1, 1, 0]) 35 = some ([.one 0, .one 1, .one 2, .one 3, .one 4, .eff [] 5 [], .one 6, .one 7], []) := by kernel_rfl
theorem First_S (bs : List Nat) (m : Value) (h : AH) (n a b : Int) (hm : Row h.next h m (bytesV bs) 5)
    (hG : ∀ h2, Row h2.next h2 m (bytesV bs) 5 → ∃ v h', call 21 [m, iv n, iv a, iv b] h2 = some (.tuple #[v, iv (gapE bs.length n a b)], h') ∧ Own h2.next h' v (runsV (gapG bs n a b)) 23 ∧ Grow h2.next h2 h')
    (hI : ∀ (s : Value) (l : List (Nat × Nat)) (n0 : Nat) (h : AH) (n : Nat) (q : Value), Row n0 h s (runsV l) 23 → l.length < 900 → AllRuns l → Box h q (iv n) → call 22 [s, .func (.func 23) #[] #[q]] h = some (iv (idxF (geP n) (runsV l) 0), h))
    (hb : ∀ (x y n : Nat) (h : AH), runOK x y = true → n ≤ y → 1 ≤ n → call 24 [cx x y, iv n] h = some (cx x n, h)) :
    ∃ h', frameB T0 X0 call 3000 9 [m, iv n, iv a, iv b] h = some (firstR bs n a b, h') ∧ Grow h.next h h' := by
  generalize hh1 : h.new (.cells (PM.ofList [iv n]) 1 3 0 0 .ex) = h1
  have g1 : Grow h.next h h1 := by rw [← hh1]; exact Grow.new _ _
  have hnx : h.next < h1.next := by rw [← hh1]; exact Nat.lt_succ_self _
  have hm1 : Row h1.next h1 m (bytesV bs) 5 := by
    rcases hm.grow g1 (Nat.le_refl _) with q | ⟨b, o, cap, c, k, lo, hi, kd, el, q1, q2, q3⟩
    · exact .inl q
    · exact .inr ⟨b, o, cap, c, k, lo, hi, kd, el, q1, Nat.lt_trans q2 hnx, q3⟩
  obtain ⟨v, h2, e1, e2, e3⟩ := hG h1 hm1
  have hbox : Box h2 (.pointer (some ⟨h.next, 0, none⟩)) (iv n) := ⟨h.next, PM.ofList [iv n], 3, rfl, by rw [e3.keep _ hnx, ← hh1]; exact get_new_same _ _, by rw [PM.get_ofList]; rfl⟩
  have g2 : Grow h.next h h2 := g1.trans e3 (Nat.le_of_lt hnx)
  refine ⟨h2, ?_, g2⟩
  rw [frameB_eq ft9 rfl rfl]
  have hbx : Box h1 (.pointer (some ⟨h.next, 0, none⟩)) (iv n) := ⟨h.next, PM.ofList [iv n], 3, rfl, by rw [← hh1]; exact get_new_same _ _, by rw [PM.get_ofList]; rfl⟩
  unfold firstR
  by_cases hE : gapE bs.length n a b = 0
  · have hn : 1 ≤ n ∧ n ≤ 480 := by
      unfold gapE at hE
      split at hE
      · split at hE
        · cases hE
        · omega
      · rename_i q; exact absurd hE q
    obtain ⟨n, rfl⟩ : ∃ k : Nat, n = k := ⟨n.toNat, by omega⟩
    rw [hE, if_pos rfl]
    have hruns := gapG_runs bs (n : Int) a b
    have hidx := hI v _ h2.next h2 n (.pointer (some ⟨h.next, 0, none⟩)) e2.row (by have := gapG_len bs (n : Int) a b; omega) hruns hbox
    have hv : evCall T0 X0 (.func (.func 22) #[] #[]) [v, .func (.func 23) #[] [.pointer (some ⟨h.next, 0, none⟩)].toArray] h2 = some (.enter 22 [v, .func (.func 23) #[] #[.pointer (some ⟨h.next, 0, none⟩)]], h2) := evCall_fn ft22 rfl
    have ht : ((n : Int)).toNat = n := rfl
    unfold firstV
    rw [ht]
    rcases idxF_find n (gapG bs (n : Int) a b) 0 hruns with ⟨f1, f2⟩ | ⟨j, p, f1, f2, f3, f4⟩
    · rw [f1]
      rw [f2] at hidx
      simp only [Try.f9, symM, opFn, Nat.reduceLT, Nat.reduceBEq, box_one (v := iv (n : Int)) rfl, hh1, hbx.load, evCall_fn ft21 rfl, e1, hE, bin_neq, show ((0 : Int) == 0) = true from rfl, hv, hidx, bin_lss, show decide ((-1 : Int) < 0) = true from rfl]
      exact retB_two ft9 rfl (by simp only [symM, Nat.reduceBEq]) get_same
    · rw [f1]
      rw [f4, Nat.zero_add] at hidx
      have hjs : decide ((j : Int) < 0) = false := decide_eq_false (by omega)
      obtain ⟨q, i1, i2⟩ := e2.row.at und_c128s sz_c128 agg_c128 (i := j) (x := cx p.1 p.2) (by simp [runsV, f2])
      have hbg := hb p.1 p.2 n h2 (hruns p (List.mem_of_getElem? f2)) f3 (by omega)
      simp only [Try.f9, symM, opFn, Nat.reduceLT, Nat.reduceBEq, box_one (v := iv (n : Int)) rfl, hh1, hbx.load, evCall_fn ft21 rfl, e1, hE, bin_neq, show ((0 : Int) == 0) = true from rfl, hv, hidx, bin_lss, hjs, codeB_draw]
      have hp := plan_First
      simp only [regOps, part, Try.f9, sub] at hp
      rw [draw_plan hp rfl]
      simp only [drawAll, opFn, Nat.reduceBEq, i1, i2, hbox.load, evCall_fn ft24 rfl, hbg]
      exact retB_two ft9 rfl (by simp only [symM, Nat.reduceBEq]) get_same
  · rw [if_neg hE]
    have hb0 : (gapE bs.length n a b == 0) = false := by simpa using hE
    simp only [Try.f9, symM, opFn, Nat.reduceLT, Nat.reduceBEq, box_one (v := iv n) rfl, hh1, hbx.load, evCall_fn ft21 rfl, e1, bin_neq, hb0]
    exact retB_two ft9 rfl (by simp only [symM, Nat.reduceBEq]) get_same
end
end Go.Proofs.Ytcpihpjphdlmfaa.Abs
