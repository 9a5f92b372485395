
/- Numbers and runs: what the functions of packages gauss and run answer at whole numbers, for every memory. -/
import Derived.Test.YtglmahefcdhmgaaAbsZM
import Derived.Test.YtglmahefcdhmgaaRows
import Derived.KernelRfl
import Derived.IntWalk
namespace Go.Proofs.Ytglmahefcdhmgaa.Abs
open Go Go.Proofs
noncomputable section
noncomputable def T0 : Tab := mkTab Try.prog
noncomputable def X0 : Exts := xMath Try.prog 65 66 67
theorem und_f64 : und T0 31 = some (.float .f64) := by kernel_rfl
theorem und_int : und T0 3 = some (.int .i64) := by kernel_rfl

theorem ft62 : T0.ft.get 62 = some Try.f62 := by kernel_rfl
theorem ft63 : T0.ft.get 63 = some Try.f63 := by kernel_rfl
theorem ft66 : T0.ft.get 66 = some Try.f66 := by kernel_rfl
theorem ft65 : T0.ft.get 65 = some Try.f65 := by kernel_rfl
theorem ft67 : T0.ft.get 67 = some Try.f67 := by kernel_rfl
theorem ft58 : T0.ft.get 58 = some Try.f58 := by kernel_rfl
theorem ft56 : T0.ft.get 56 = some Try.f56 := by kernel_rfl
theorem ft48 : T0.ft.get 48 = some Try.f48 := by kernel_rfl
theorem ft49 : T0.ft.get 49 = some Try.f49 := by kernel_rfl
theorem ft30 : T0.ft.get 30 = some Try.f30 := by kernel_rfl
theorem ft51 : T0.ft.get 51 = some Try.f51 := by kernel_rfl
abbrev fl (x : Int) : Value := .float .f64 (zd x)
abbrev cx (x y : Int) : Value := .complex .f64 (zd x) (zd y)
abbrev iv (x : Int) : Value := .int .i64 x

theorem zok_nat {x : Nat} (hx : zok (x : Int) = true) : x < 9007199254740992 := by
  have h : ((x : Int)).natAbs < 9007199254740992 := zok_small hx
  omega
theorem zok_k {x : Int} (h : x.natAbs < 9007199254740992) : zok x = true := zok_of h
theorem zd_1m : zd 1048576 = 4697254411347427328 := by decide
theorem zd_480 : zd 480 = 4647151865492930560 := by decide
variable {call : Abs.Callee}
set_option maxRecDepth 10000
theorem xb {b : Nat} {h : AH} : evCall T0 X0 (.func (.func 66) #[] #[]) [.float .f64 b] h = some (.value (.int .u64 (b : Int)), h) := evCall_ext ft66 rfl rfl x_bits
theorem xfb {b : Nat} {h : AH} : evCall T0 X0 (.func (.func 65) #[] #[]) [.int .u64 (b : Int)] h = some (.value (.float .f64 b), h) := evCall_ext ft65 rfl rfl x_frombits
theorem xtr {x : Int} (hx : zok x = true) {h : AH} : evCall T0 X0 (.func (.func 67) #[] #[]) [fl x] h = some (.value (fl x), h) := evCall_ext ft67 rfl rfl (x_trunc hx)

/-- The size of a number that is not below 0. -/
theorem Abs_S (x : Nat) (hx : zok x = true) (h : AH) : frameB T0 X0 call 3000 62 [fl x] h = some (fl x, h) := by
  have hn : x < 9007199254740992 := zok_nat hx
  rw [frameB_eq ft62 rfl rfl]
  simp only [Try.f62, symM, opFn, Nat.reduceLT, Nat.reduceBEq, xb, xfb, andNot_sign (zd_nn_lt hn)]
  exact retB_one ft62 rfl get_same
theorem Trunc_S (x : Int) (hx : zok x = true) (h : AH) : frameB T0 X0 call 3000 63 [fl x] h = some (fl x, h) := by
  rw [frameB_eq ft63 rfl rfl]
  simp only [Try.f63, symM, opFn, Nat.reduceLT, Nat.reduceBEq, xtr hx]
  exact retB_one ft63 rfl get_same

/-- At the natural numbers up to 2^20. -/
theorem whole_S (habs : ∀ (x : Nat) h, zok x = true → call 62 [fl x] h = some (fl x, h)) (htr : ∀ (x : Int) h, zok x = true → call 63 [fl x] h = some (fl x, h))
    (x : Nat) (hx : x ≤ 1048576) (h : AH) : frameB T0 X0 call 3000 58 [fl x] h = some (.bool true, h) := by
  have zx : zok (x : Int) = true := zok_k (by omega)
  have hle : ∀ p q, evBin T0 .leq 31 p q (fl x) (.float .f64 4697254411347427328) h = some (.bool true) := fun p q => by
    rw [← zd_1m, f_leq zx (by decide), decide_eq_true (by omega)]
  have heq : ∀ p q, evBin T0 .eql 31 p q (fl x) (fl x) h = some (.bool true) := fun p q => by rw [f_eql zx zx, decide_eq_true rfl]
  rw [frameB_eq ft58 rfl rfl]
  simp only [Try.f58, symM, opFn, Nat.reduceLT, Nat.reduceBEq, evCall_fn ft62 rfl, evCall_fn ft63 rfl, habs x _ zx, htr x _ zx, hle, heq]
  exact retB_one ft58 rfl get_same
theorem Whole_S (hw : ∀ (x : Nat) h, x ≤ 1048576 → call 58 [fl x] h = some (.bool true, h)) (x y : Nat) (hx : x ≤ 1048576) (hy : y ≤ 1048576) (h : AH) :
    frameB T0 X0 call 3000 56 [cx x y] h = some (.bool true, h) := by
  rw [frameB_eq ft56 rfl rfl]
  simp only [Try.f56, symM, opFn, Nat.reduceLT, Nat.reduceBEq, evCall_fn ft58 rfl, hw x _ hx, hw y _ hy]
  exact retB_one ft56 rfl get_same
/-- Is it a run? -/
def runOK (x y : Nat) : Bool := decide (1 ≤ y ∧ x + y ≤ 480)
theorem Sound_S (hW : ∀ (x y : Nat) h, x ≤ 1048576 → y ≤ 1048576 → call 56 [cx x y] h = some (.bool true, h)) (x y : Nat) (hx : x ≤ 1048576) (hy : y ≤ 1048576) (h : AH) :
    frameB T0 X0 call 3000 48 [cx x y] h = some (.bool (runOK x y), h) := by
  have zx : zok (x : Int) = true := zok_k (by omega)
  have zy : zok (y : Int) = true := zok_k (by omega)
  have zxy : zok ((x : Int) + y) = true := zok_k (by omega)
  have hge0 : ∀ p q, evBin T0 .geq 31 p q (fl x) (.float .f64 0) h = some (.bool true) := fun p q => by
    rw [← zd_zero, f_geq zx (by decide), decide_eq_true (by omega)]
  have hge1 : ∀ p q, evBin T0 .geq 31 p q (fl y) (.float .f64 4607182418800017408) h = some (.bool (decide (1 ≤ y))) := fun p q => by
    rw [← zd_one, f_geq zy (by decide)]; congr 2; exact decide_eq_decide.2 (by omega)
  have hadd : ∀ p q, evBin T0 .add 31 p q (fl x) (fl y) h = some (fl ((x : Int) + y)) := fun p q => f_add zx zy zxy
  have hle : ∀ p q, evBin T0 .leq 31 p q (fl ((x : Int) + y)) (.float .f64 4647151865492930560) h = some (.bool (decide (x + y ≤ 480))) := fun p q => by
    rw [← zd_480, f_leq zxy (by decide)]; congr 2; exact decide_eq_decide.2 (by omega)
  rw [frameB_eq ft48 rfl rfl]
  unfold runOK
  by_cases h1 : 1 ≤ y
  · by_cases h2 : x + y ≤ 480
    · simp only [Try.f48, symM, opFn, Nat.reduceLT, Nat.reduceBEq, evCall_fn ft56 rfl, hW x y _ hx hy, hge0, hge1, hadd, hle, decide_eq_true h1, decide_eq_true h2, decide_eq_true (And.intro h1 h2)]
      exact retB_one ft48 rfl get_same
    · simp only [Try.f48, symM, opFn, Nat.reduceLT, Nat.reduceBEq, evCall_fn ft56 rfl, hW x y _ hx hy, hge0, hge1, hadd, hle, decide_eq_true h1, decide_eq_false h2, decide_eq_false (fun k : 1 ≤ y ∧ x + y ≤ 480 => h2 k.2)]
      exact retB_one ft48 rfl get_same
  · simp only [Try.f48, symM, opFn, Nat.reduceLT, Nat.reduceBEq, evCall_fn ft56 rfl, hW x y _ hx hy, hge0, hge1, decide_eq_false h1, decide_eq_false (fun k : 1 ≤ y ∧ x + y ≤ 480 => h1 k.1)]
    exact retB_one ft48 rfl get_same
theorem i64_range {x : Nat} (hx : x ≤ 1048576) : IntKind.i64.min ≤ (x : Int) ∧ (x : Int) ≤ IntKind.i64.max := ⟨by show (-9223372036854775808 : Int) ≤ _; omega, by show _ ≤ (9223372036854775807 : Int); omega⟩
theorem parts_S (x y : Nat) (hx : x ≤ 1048576) (hy : y ≤ 1048576) (h : AH) : frameB T0 X0 call 3000 49 [cx x y] h = some (.tuple #[iv x, iv y], h) := by
  rw [frameB_eq ft49 rfl rfl]
  simp only [Try.f49, symM, opFn, Nat.reduceLT, Nat.reduceBEq, conv_f2i und_f64 und_int (zok_k (x := (x : Int)) (by omega)) (i64_range hx), conv_f2i und_f64 und_int (zok_k (x := (y : Int)) (by omega)) (i64_range hy)]
  exact retB_two ft49 rfl (by simp only [symM, Nat.reduceBEq]) get_same
def partsV (x y : Nat) : Value := bif runOK x y then .tuple #[iv x, iv y, iv 0] else .tuple #[iv 0, iv 0, iv 2]
theorem Parts_S (hS : ∀ (x y : Nat) h, x ≤ 1048576 → y ≤ 1048576 → call 48 [cx x y] h = some (.bool (runOK x y), h)) (hp : ∀ (x y : Nat) h, x ≤ 1048576 → y ≤ 1048576 → call 49 [cx x y] h = some (.tuple #[iv x, iv y], h))
    (x y : Nat) (hx : x ≤ 1048576) (hy : y ≤ 1048576) (h : AH) : frameB T0 X0 call 3000 30 [cx x y] h = some (partsV x y, h) := by
  rw [frameB_eq ft30 rfl rfl]
  unfold partsV
  cases hr : runOK x y with
  | true =>
    simp only [Try.f30, symM, opFn, Nat.reduceLT, Nat.reduceBEq, evCall_fn ft48 rfl, evCall_fn ft49 rfl, hS x y _ hx hy, hp x y _ hx hy, hr]
    exact retB_three ft30 rfl (by simp only [symM, Nat.reduceBEq]) (by simp only [symM, Nat.reduceBEq]) get_same
  | false =>
    simp only [Try.f30, symM, opFn, Nat.reduceLT, Nat.reduceBEq, evCall_fn ft48 rfl, hS x y _ hx hy, hr]
    exact retB_three ft30 rfl (by simp only [symM, Nat.reduceBEq]) (by simp only [symM, Nat.reduceBEq]) get_same
/-- The run of a first block and so many. -/
def make1V (x y : Int) : Value := if y ≤ 0 then .complex .f64 0 0 else cx x y
theorem make1_S (x y : Int) (hx : zok x = true) (hy : zok y = true) (h : AH) : frameB T0 X0 call 3000 51 [iv x, iv y] h = some (make1V x y, h) := by
  rw [frameB_eq ft51 rfl rfl]
  unfold make1V
  by_cases h0 : y ≤ 0
  · simp only [Try.f51, symM, opFn, Nat.reduceLT, Nat.reduceBEq, bin_leq, decide_eq_true h0, if_pos h0]
    exact retB_one ft51 rfl get_same
  · simp only [Try.f51, symM, opFn, Nat.reduceLT, Nat.reduceBEq, bin_leq, decide_eq_false h0, if_neg h0, conv_i2f und_int und_f64 hx, conv_i2f und_int und_f64 hy]
    exact retB_one ft51 rfl get_same
end
end Go.Proofs.Ytglmahefcdhmgaa.Abs
namespace Go.Proofs.Ytglmahefcdhmgaa.Abs
open Go Go.Proofs
noncomputable section
variable {call : Abs.Callee}
set_option maxRecDepth 10000
theorem und_u8 : und T0 5 = some (.int .u8) := by kernel_rfl
theorem und_bytes : und T0 60 = some (.slice 5) := by kernel_rfl
theorem und_c128s : und T0 72 = some (.slice 30) := by kernel_rfl
theorem sz_u8 : szOf T0 5 = some 1 := by kernel_rfl
theorem sz_c128 : szOf T0 30 = some 1 := by kernel_rfl
theorem agg_u8 : aggT T0 5 = some false := by kernel_rfl
theorem agg_c128 : aggT T0 30 = some false := by kernel_rfl
theorem zero_c128 : zeroOf T0 30 = some (.complex .f64 0 0) := by kernel_rfl
def infoOf (t : Nat) : TypeInfo := (Try.prog.types[t]?).getD default
theorem tt_c128 : T0.tt.get 30 = some (infoOf 30) := by kernel_rfl
theorem ti_c128 : (infoOf 30).zero = some (.complex .f64 0 0) ∧ (infoOf 30).size = 1 ∧ (infoOf 30).bytes ≤ 64 := ⟨by kernel_rfl, by kernel_rfl, Nat.le_of_ble_eq_true (by kernel_rfl)⟩
def bytesV (bs : List Nat) : List Value := bs.map fun (x : Nat) => .int .u8 (x : Int)
theorem bs_cx {a b : Int} {h : AH} : evBuildSlice T0 72 1 [(0, cx a b)] h = some (.slice (some ⟨h.next, 0, none⟩) 1 1, h.new (.cells (PM.ofList [cx a b]) 1 30 0 0 .ex)) := bs_one und_c128s sz_c128 zero_c128 rfl rfl
theorem ft50 : T0.ft.get 50 = some Try.f50 := by kernel_rfl
theorem agg_int : aggT T0 3 = some false := by kernel_rfl
/-- A box that bears a number. -/
def Box (h : AH) (p v : Value) : Prop := ∃ b c el, p = .pointer (some ⟨b, 0, none⟩) ∧ h.get b = some (.cells c 1 el 0 0 .ex) ∧ c.get 0 = some v
/-- Where it holds first; -1: nowhere. -/
def idxF (p : Value → Bool) : List Value → Nat → Int
  | [], _ => -1
  | x :: l, i => bif p x then (i : Int) else idxF p l (i + 1)
noncomputable def bodyI : Code := part Try.f50 [1, 0, 1, 0, 0]
abbrev EIdx : Env := ⟨50, 19, none⟩
theorem loopI (s : Value) (L : List Value) (n0 : Nat) (h : AH) (g : Nat) (cap : List Value) (fd : Func) (c : Code) (hg : T0.ft.get g = some fd) (hgb : fd.body = some c) (p : Value → Bool) (hs : Row n0 h s L 30) (hL : L.length < 1000000)
    (hp : ∀ x ∈ L, call g (x :: cap) h = some (.bool (p x), h)) :
    ∀ (l : List Value) (i : Nat) (tm : PM Value) (N : Nat), L.drop i = l → i + l.length = L.length → l.length + 20 ≤ N → tm.get 0 = some s → tm.get 1 = some (.func (.func g) #[] cap.toArray) → tm.get 7 = some (iv L.length) → tm.get 8 = some (iv i) →
      ∃ tm', (codeB T0 X0 call N EIdx (.loop bodyI) tm h [] = .jump .ret tm' h [] ∧ tm'.get 4 = some (iv (idxF p l i))) ∨ (codeB T0 X0 call N EIdx (.loop bodyI) tm h [] = .jump (.exit 0) tm' h [] ∧ idxF p l i = -1) := by
  intro l
  induction l with
  | nil =>
    intro i tm N hd hi hN h0 h1 h7 h8
    obtain ⟨N, rfl⟩ : ∃ a, N = a + 20 := ⟨N - 20, by simp at hN; omega⟩
    have hlt : decide ((i : Int) < (L.length : Nat)) = false := decide_eq_false (by simp at hi; omega)
    apply Exists.intro
    right
    refine ⟨?_, rfl⟩
    rw [codeB_loop]
    simp only [bodyI, part, Try.f50, sub, symM, opFn, Nat.reduceLT, h7, h8, bin_lss, hlt]
    rfl
  | cons x l ih =>
    intro i tm N hd hi hN h0 h1 h7 h8
    obtain ⟨N, rfl⟩ : ∃ a, N = a + 20 := ⟨N - 20, by simp at hN; omega⟩
    have hlt : decide ((i : Int) < (L.length : Nat)) = true := decide_eq_true (by simp at hi; omega)
    have hx : L[i]? = some x := by have := congrArg (fun l => l[0]?) hd; simpa using this
    obtain ⟨q, e1, e2⟩ := hs.at und_c128s sz_c128 agg_c128 hx
    have hcall := hp x (List.mem_of_getElem? hx)
    have hw : IntKind.i64.wrap ((i : Int) + 1) = ((i + 1 : Nat) : Int) := by rw [IntWalk.i64_in _ (by simp at hi; omega)]; simp
    cases hb : p x with
    | true =>
      apply Exists.intro
      left
      apply And.intro
      · rw [codeB_loop]
        simp only [bodyI, part, Try.f50, sub, symM, opFn, Nat.reduceLT, Nat.reduceBEq, h0, h1, h7, h8, bin_lss, hlt, e1, e2, evCall_clo hg hgb, List.cons_append, List.nil_append, hcall, hb]
        rfl
      · simp only [symM, idxF, hb, cond_true]
    | false =>
      rw [show N + 20 = (N + 19) + 1 from rfl, codeB_loop]
      simp only [bodyI, part, Try.f50, sub, symM, opFn, Nat.reduceLT, Nat.reduceBEq, h0, h1, h7, h8, bin_lss, hlt, e1, e2, evCall_clo hg hgb, List.cons_append, List.nil_append, hcall, hb, bin_add, hw]
      rw [show idxF p (x :: l) i = idxF p l (i + 1) from by rw [idxF, hb]; rfl]
      exact ih (i + 1) _ (N + 19) (by rw [← List.drop_drop, hd]; rfl) (by simp at hi ⊢; omega) (by simp at hN ⊢; omega) (by simp only [symM, Nat.reduceBEq, h0]) (by simp only [symM, Nat.reduceBEq, h1]) (by simp only [symM, Nat.reduceBEq, h7]) get_same
theorem Index_S (s : Value) (L : List Value) (n0 : Nat) (h : AH) (g : Nat) (cap : List Value) (fd : Func) (c : Code) (hg : T0.ft.get g = some fd) (hgb : fd.body = some c) (p : Value → Bool) (hs : Row n0 h s L 30) (hL : L.length < 900)
    (hp : ∀ x ∈ L, call g (x :: cap) h = some (.bool (p x), h)) : frameB T0 X0 call 3000 50 [s, .func (.func g) #[] cap.toArray] h = some (iv (idxF p L 0), h) := by
  rw [frameB_eq ft50 rfl rfl]
  have hL2 := fun tm N => loopI s L n0 h g cap fd c hg hgb p hs (by omega) hp L 0 tm N rfl (by simp)
  simp only [Try.f50, symM, opFn, Nat.reduceLT, Nat.reduceBEq, hs.len und_c128s]
  refine bind_loopJ (b := bodyI) (Q := fun x => ∃ tm', (x = .jump .ret tm' h [] ∧ tm'.get 4 = some (iv (idxF p L 0))) ∨ (x = .jump (.exit 0) tm' h [] ∧ idxF p L 0 = -1)) (P := fun x => endF T0 50 x = some (iv (idxF p L 0), h)) ?_ ?_
  · exact hL2 _ _ (by omega) (by simp only [symM, Nat.reduceBEq]) (by simp only [symM, Nat.reduceBEq]) (by simp only [symM, Nat.reduceBEq]) (by simp only [symM]; rfl)
  · intro x ⟨tm', hx⟩
    rcases hx with ⟨rfl, h4⟩ | ⟨rfl, h4⟩
    · simp only [symM]
      exact retB_one ft50 rfl h4
    · rw [h4]
      simp only [symM]
      exact retB_one ft50 rfl get_same
theorem zd_m1m : zd (-1048576) = 13920626448202203136 := by decide
abbrev zv (x y : Int) : Value := .agg #[iv x, iv y]
theorem sz_bool : szOf T0 4 = some 1 := by kernel_rfl
theorem agg_bool : aggT T0 4 = some false := by kernel_rfl
theorem zero_bool : zeroOf T0 4 = some (.bool false) := by kernel_rfl
theorem tt_bool : T0.tt.get 4 = some (infoOf 4) := by kernel_rfl
theorem ti_bool : (infoOf 4).zero = some (.bool false) ∧ (infoOf 4).size = 1 ∧ (infoOf 4).bytes ≤ 64 := ⟨by kernel_rfl, by kernel_rfl, Nat.le_of_ble_eq_true (by kernel_rfl)⟩
def boolsV (f : Nat → Bool) (a k : Nat) : List Value := (List.range' a k).map fun i => .bool (f i)
theorem boolsV_at (f : Nat → Bool) {k i : Nat} (h : i < k) : (boolsV f 0 k)[i]? = some (.bool (f i)) := by
  simp [boolsV, h]
theorem boolsV_snoc (f : Nat → Bool) (k : Nat) : boolsV f 0 k ++ [.bool (f k)] = boolsV f 0 (k + 1) := by
  simp [boolsV, List.range'_concat]
theorem boolsV_len (f : Nat → Bool) (a k : Nat) : (boolsV f a k).length = k := by simp [boolsV]
theorem boolsV_set (f : Nat → Bool) (k i : Nat) (x : Bool) : (boolsV f 0 k).set i (.bool x) = boolsV (fun j => if j = i then x else f j) 0 k := by
  apply List.ext_getElem?
  intro j
  rw [List.getElem?_set]
  by_cases hj : j < k
  · rw [boolsV_at _ hj]
    by_cases hij : i = j
    · subst hij; rw [if_pos rfl, if_pos (by rw [boolsV_len]; exact hj), boolsV_at _ hj, if_pos rfl]
    · rw [if_neg hij, boolsV_at _ hj, if_neg (fun q => hij q.symm)]
  · have h1 : (boolsV f 0 k)[j]? = none := List.getElem?_eq_none (by rw [boolsV_len]; omega)
    have h2 : (boolsV (fun j => if j = i then x else f j) 0 k)[j]? = none := List.getElem?_eq_none (by rw [boolsV_len]; omega)
    rw [h1, h2]
    by_cases hij : i = j
    · rw [if_pos hij, if_neg (by rw [boolsV_len]; omega)]
    · rw [if_neg hij]
theorem boolsV_congr (f g : Nat → Bool) (k : Nat) (h : ∀ j, j < k → f j = g j) : boolsV f 0 k = boolsV g 0 k := by
  unfold boolsV
  apply List.map_congr_left
  intro j hj
  rw [List.mem_range'_1] at hj
  rw [h j (by omega)]
theorem Row.more {n k : Nat} {h : AH} {v : Value} {l : List Value} {e : TypeId} (hr : Row n h v l e) (hn : n ≤ k) : Row k h v l e := by
  rcases hr with h1 | ⟨b, o, cap, c, m, lo, hi, kd, el, h1, h2, h3⟩
  · exact .inl h1
  · exact .inr ⟨b, o, cap, c, m, lo, hi, kd, el, h1, Nat.lt_of_lt_of_le h2 hn, h3⟩
def againU : Option Value → Bool
  | some u => eqV u undef
  | none => false
theorem againU_undef : againU (some undef) = true := rfl
theorem againW_false {T : Tab} {X : Exts} {d : Nat} {op : Op} {ty : TypeId} {tm : PM Value} {h : AH} : againW T X d op ty tm h (some false) = againU (tm.get d) := by
  unfold againW againU
  cases tm.get d <;> rfl
theorem wz {z : Int} (h : -4000000 ≤ z ∧ z ≤ 4000000) : IntKind.i64.wrap z = z := by rw [IntWalk.i64_in _ (by omega)]
theorem wadd {a b : Nat} (h : a + b ≤ 4000000) : IntKind.i64.wrap ((a : Int) + b) = ((a + b : Nat) : Int) := by rw [wz (by omega)]; omega
theorem wadd1 {a : Nat} (h : a ≤ 400000) : IntKind.i64.wrap ((a : Int) + 1) = ((a + 1 : Nat) : Int) := by rw [wz (by omega)]; omega
theorem wsub {a b : Nat} (h : a ≤ 4000000) (hb : b ≤ a) : IntKind.i64.wrap ((a : Int) - b) = ((a - b : Nat) : Int) := by rw [wz (by omega)]; omega
theorem wsub1 {a : Nat} (h : a ≤ 400000) : IntKind.i64.wrap (((a + 1 : Nat) : Int) - 1) = (a : Int) := by rw [wz (by omega)]; omega
theorem retB_zero {f : Nat} {tm : PM Value} {h : AH} {fd : Func} (hf : T0.ft.get f = some fd) (hr : fd.results = #[]) : retB T0 f tm h [] = some (.tuple #[], h) := by
  unfold retB undef1
  simp only [resultA, hf, hr]
  rfl
/-- An inner loop that was left. -/
theorem use_loop {N : Nat} {E : Env} {b : Code} {tm : PM Value} {h : AH} {df : List Nat} {X : CO} {P : CO → Prop} (hX : codeB T0 X0 call N E (.loop b) tm h df = X)
    (H : P (codeB T0 X0 call N E (.loop b) tm h df)) : P X := hX ▸ H
theorem use_exit {N : Nat} {E : Env} {b : Code} {tm : PM Value} {h : AH} {df : List Nat} {i : Nat} {X : CO} {Q : PM Value → AH → Prop} (hX : codeB T0 X0 call N E (.loop b) tm h df = X)
    (H : ∃ tm' h', codeB T0 X0 call N E (.loop b) tm h df = .jump (.exit i) tm' h' df ∧ Q tm' h') : ∃ tm' h', X = .jump (.exit i) tm' h' df ∧ Q tm' h' := hX ▸ H
theorem nbF {a b : Nat} (h : (a == b) = false) : Nat.beq a b = false := by
  cases hb : Nat.beq a b with
  | false => rfl
  | true => have := Nat.eq_of_beq_eq_true hb; subst this; simp at h
theorem symL : type_of% (And.intro @loop_same (And.intro @unblock_exit (And.intro @Nat.beq_refl @nbF))) := And.intro @loop_same (And.intro @unblock_exit (And.intro @Nat.beq_refl @nbF))
theorem quo2 {T : Tab} {t : TypeId} {a b : Operand} {k : IntKind} {m : Nat} {h : AH} : evBin T .quo t a b (.int k (m : Int)) (.int k 2) h = some (.int k (k.wrap ((m / 2 : Nat) : Int))) := bin_quo (n := 2) (by decide)
theorem quo4 {T : Tab} {t : TypeId} {a b : Operand} {k : IntKind} {m : Nat} {h : AH} : evBin T .quo t a b (.int k (m : Int)) (.int k 4) h = some (.int k (k.wrap ((m / 4 : Nat) : Int))) := bin_quo (n := 4) (by decide)
theorem quo8 {T : Tab} {t : TypeId} {a b : Operand} {k : IntKind} {m : Nat} {h : AH} : evBin T .quo t a b (.int k (m : Int)) (.int k 8) h = some (.int k (k.wrap ((m / 8 : Nat) : Int))) := bin_quo (n := 8) (by decide)
theorem und_uint : und T0 86 = some (.int .u64) := by kernel_rfl
theorem und_u64 : und T0 114 = some (.int .u64) := by kernel_rfl
abbrev uv (n : Int) : Value := .int .u64 n
theorem wu8 {n : Nat} (h : n < 256) : IntKind.u8.wrap (n : Int) = (n : Int) := by rw [IntKind.wrap]; simp [IntKind.bits, IntKind.signed]; omega
theorem shr8 {T : Tab} {t : TypeId} {a b : Operand} {m : Nat} {h : AH} : evBin T .shr t a b (uv (m : Int)) (uv 8) h = some (uv ((m >>> 8 : Nat) : Int)) := bin_shr (n := 8) (by decide)
theorem wu64 {n : Nat} (h : n < 18446744073709551616) : IntKind.u64.wrap (n : Int) = (n : Int) := by rw [IntKind.wrap]; simp [IntKind.bits, IntKind.signed]; omega
/-- A variable of its own that holds one value. -/
def BoxT (h : AH) (b : Nat) (ty : TypeId) (x : Value) : Prop := b < h.next ∧ ∃ c, h.get b = some (.cells c 1 ty 0 0 .ex) ∧ c.get 0 = some x
abbrev ptr (b : Nat) : Value := .pointer (some ⟨b, 0, none⟩)
theorem BoxT.load {h : AH} {b : Nat} {ty : TypeId} {x : Value} (hb : BoxT h b ty x) (ha : aggT T0 ty = some false) : evLoad T0 ty (ptr b) h = some x := by
  obtain ⟨_, c, h1, h2⟩ := hb
  exact load_one ha h1 (by omega) h2
theorem BoxT.store {h : AH} {b : Nat} {ty : TypeId} {x y : Value} (hb : BoxT h b ty x) (hs : szOf T0 ty = some 1) (hy : oneCell y = true) :
    ∃ h', evStore T0 ty (ptr b) y h = some h' ∧ BoxT h' b ty y ∧ h'.next = h.next ∧ ∀ k, k ≠ b → h'.get k = h.get k := by
  obtain ⟨h0, c, h1, h2⟩ := hb
  refine ⟨h.set b (.cells (storeN c 0 [y]) 1 ty 0 0 .ex), ?_, ⟨h0, _, by rw [AH.get_set, if_pos rfl], by rw [storeN_get]; rfl⟩, rfl, fun k hk => by rw [AH.get_set, if_neg hk]⟩
  simp only [evStore, storeVarA, hs, cells_one hy]
  rw [show Nat.beq [y].length 1 = true from rfl, ifB_true]
  simp only [storeRow, h1]
  have hw : writable 0 [y].length 1 0 0 = true := rfl
  have hall : ([y].all oneCell) = true := by simp [hy]
  simp only [hw, hall, Bool.and_self, ifB_true]
theorem BoxT.keep {h h' : AH} {b : Nat} {ty : TypeId} {x : Value} (hb : BoxT h b ty x) (hn : h.next ≤ h'.next) (hg : h'.get b = h.get b) : BoxT h' b ty x := by
  obtain ⟨h0, c, h1, h2⟩ := hb
  exact ⟨Nat.lt_of_lt_of_le h0 hn, c, hg.trans h1, h2⟩
theorem alloc_one {h : AH} {ty : TypeId} {z : Value} (hz : zeroOf T0 ty = some z) (h1 : oneCell z = true) : evAlloc T0 ty h = some (ptr h.next, h.new (.cells (PM.ofList [z]) 1 ty 0 0 .ex)) := by
  unfold evAlloc evNewVar newCells
  rw [hz]
  simp only [cells_one h1]
  rfl
theorem BoxT.new {h : AH} {ty : TypeId} {z : Value} : BoxT (h.new (.cells (PM.ofList [z]) 1 ty 0 0 .ex)) h.next ty z := ⟨Nat.lt_succ_self _, _, get_new_same _ _, by rw [PM.get_ofList]; rfl⟩
/-- The slice does not lie in this block. -/
def Off (v : Value) (k : Nat) : Prop := ∀ o l c, v ≠ .slice (some ⟨k, o, none⟩) l c
theorem Own.apart {n : Nat} {h : AH} {v : Value} {l : List Value} {e : TypeId} (ho : Own n h v l e) {k : Nat} (hk : h.next ≤ k) : Off v k := by
  intro o l' c' hv
  rcases ho with ⟨rfl, _⟩ | ⟨b, c, kd, cap, _, q2, rfl, _⟩
  · cases hv
  · cases hv; omega
theorem Own.but {n : Nat} {h h' : AH} {v : Value} {l : List Value} {e : TypeId} (ho : Own n h v l e) {b : Nat} (hb : Off v b) (hn : h.next ≤ h'.next) (hg : ∀ k, k ≠ b → h'.get k = h.get k) : Own n h' v l e := by
  rcases ho with h1 | ⟨k, c, kd, cap, h1, h2, rfl, h4, h5⟩
  · exact .inl h1
  · exact .inr ⟨k, c, kd, cap, h1, Nat.lt_of_lt_of_le h2 hn, rfl, (hg k (fun e => by subst e; exact hb _ _ _ rfl)).trans h4, h5⟩
theorem Own.store2 {T : Tab} {t e : TypeId} (ht : und T t = some (.slice e)) (hs : szOf T e = some 1) {n : Nat} {h : AH} {v x y : Value} {l : List Value} (hv : Own n h v l e) (hx : oneCell x = true) {i : Nat} (hi : l[i]? = some y) :
    ∃ p h', evIndexAddr T t v (.int .i64 (i : Nat)) = some p ∧ evStore T e p x h = some h' ∧ Own n h' v (l.set i x) e ∧ Grow n h h' ∧ h'.next = h.next ∧ ∀ k, Off v k → h'.get k = h.get k := by
  obtain ⟨p, h', e1, e2, e3, e4, e5⟩ := hv.store ht hs hx hi
  refine ⟨p, h', e1, e2, e3, e4, e5, fun k hk => ?_⟩
  rcases hv with ⟨rfl, rfl⟩ | ⟨b, c, kd, cap, q1, q2, rfl, q4, q5, q6⟩
  · simp at hi
  · have hl := (List.getElem?_eq_some_iff.1 hi).1
    rw [idx_slice ht hs hl] at e1
    cases e1
    simp only [evStore, storeVarA, hs, cells_one hx] at e2
    rw [show Nat.beq [x].length 1 = true from rfl, ifB_true] at e2
    simp only [storeRow, q4] at e2
    have hkb : k ≠ b := fun e => by subst e; exact hk _ _ _ rfl
    have hkd : kd ≠ .ro := by rcases q6 with ⟨rfl, _⟩ | ⟨rfl, _⟩ <;> simp
    cases kd with
    | ro => exact absurd rfl hkd
    | _ =>
      obtain ⟨_, e2⟩ := ifB_some e2
      rw [← Option.some.inj e2, AH.get_set, if_neg hkb]
theorem nilCheck_ptr {b : Nat} : evNilCheck (ptr b) = some (ptr b) := rfl
theorem bi_min {T : Tab} {ts : Array TypeId} {ty : TypeId} {k : IntKind} {x y : Int} {h : AH} : evBuiltin T .min ts ty [.int k x, .int k y] h = some (.value (.int k (if y < x then y else x)), h) := by
  simp only [evBuiltin, flatOp]
  rfl
/-- One element put behind a slice of our own: in a new block; all other blocks are as they were. -/
theorem append_one2 {T : Tab} {sT e : TypeId} {i : TypeInfo} {z : Value} (hs : und T sT = some (.slice e)) (hi : T.tt.get e = some i) (hz : i.zero = some z) (h1 : i.size = 1) (hb : i.bytes ≤ 64)
    {n : Nat} {h : AH} {v x : Value} {l : List Value} (hv : Own n h v l e) (hx : oneCell x = true) (hl : l.length < 1000000) (hn : n ≤ h.next) (ty : TypeId) :
    ∃ v' h', evBuiltin T .append #[sT, sT] ty [v, .slice (some ⟨h.next, 0, none⟩) 1 1] (h.new (.cells (PM.ofList [x]) 1 e 0 0 .ex)) = some (.value v', h') ∧ Own h.next h' v' (l ++ [x]) e ∧ Grow n h h' ∧ ∀ k, k < h.next → Off v k → h'.get k = h.get k := by
  have happ : appendedA T sT i z (.slice (some ⟨h.next, 0, none⟩) 1 1) (h.new (.cells (PM.ofList [x]) 1 e 0 0 .ex)) = some (1, [x]) := by
    unfold appendedA
    simp only [hs, lenOfA, firstA, h1]
    rw [show loadRow (h.new (.cells (PM.ofList [x]) 1 e 0 0 .ex)) h.next 0 (1 * 1) = some [x] from loadRow_of (l := [x]) (get_new_same _ _) (by simp) (fun i y hy => by rw [Nat.zero_add, PM.get_ofList]; exact hy)]
    rfl
  have hbnd : (Nat.ble ((l.length + 1) * i.bytes) 17592186044416 && Nat.ble (l.length + 1) 17592186044416) = true := by
    have h2 : (l.length + 1) * i.bytes ≤ 1000000 * 64 := Nat.mul_le_mul (by omega) hb
    rw [Nat.ble_eq_true_of_le (by omega), Nat.ble_eq_true_of_le (by omega)]
    rfl
  have key : ∀ (hh : AH), Grow n h hh → n ≤ hh.next → h.next ≤ hh.next → (∀ k, k < h.next → Off v k → hh.get k = h.get k) → ∃ v' h', (some (Out.value (grown hh e (l.length + 1) ((l.length + 1) * i.size) (l ++ [x])).1, (grown hh e (l.length + 1) ((l.length + 1) * i.size) (l ++ [x])).2) : Res) = some (.value v', h') ∧ Own h.next h' v' (l ++ [x]) e ∧ Grow n h h' ∧ ∀ k, k < h.next → Off v k → h'.get k = h.get k := by
    intro hh g hnn hnx hkp
    refine ⟨_, _, rfl, ?_, ?_, ?_⟩
    · refine .inr ⟨hh.next, PM.ofList (l ++ [x]), .loose, XB + (l.length + 1), hnx, Nat.lt_succ_self _, ?_, ?_, fun i y hy => by rw [PM.get_ofList]; exact hy, .inr ⟨rfl, by simp⟩⟩
      · simp [grown]
      · simp only [grown, h1]; rw [get_new_same]; simp
    · exact g.trans ((Grow.new hh _).less hnn) (Nat.le_refl _)
    · intro k hk hoff
      rw [← hkp k hk hoff]
      simp only [grown, AH.get_new]
      rw [if_neg (by omega)]
  have knew : ∀ k, k < h.next → Off v k → (h.new (.cells (PM.ofList [x]) 1 e 0 0 .ex)).get k = h.get k := fun k hk _ => by rw [AH.get_new, if_neg (by omega)]
  have gnew : Grow n h (h.new (.cells (PM.ofList [x]) 1 e 0 0 .ex)) := (Grow.new h _).less hn
  have hev : ∀ {p : Value × AH}, evAppend T sT sT v (.slice (some ⟨h.next, 0, none⟩) 1 1) (h.new (.cells (PM.ofList [x]) 1 e 0 0 .ex)) = some p →
      evBuiltin T .append #[sT, sT] ty [v, .slice (some ⟨h.next, 0, none⟩) 1 1] (h.new (.cells (PM.ofList [x]) 1 e 0 0 .ex)) = some (.value p.1, p.2) := by
    intro p hp
    show (match evAppend T sT sT v (.slice (some ⟨h.next, 0, none⟩) 1 1) (h.new (.cells (PM.ofList [x]) 1 e 0 0 .ex)) with
      | some p => (some (Out.value p.1, p.2) : Res)
      | none => none) = _
    rw [hp]
  rcases hv with ⟨rfl, rfl⟩ | ⟨b, c, kd, cap, q1, q2, rfl, q4, q5, q6⟩
  · obtain ⟨v', h', k1, k2⟩ := key _ gnew (Nat.le_succ_of_le hn) (Nat.le_succ _) knew
    refine ⟨v', h', ?_, k2⟩
    rw [← k1]
    apply hev
    unfold evAppend
    simp only [hs, hi, hz, happ, appendTo]
    rw [show Nat.ble (0 + 1) (capOf 0) = false from rfl, ifB_false]
    rw [show (Nat.ble ((0 + 1) * i.bytes) 17592186044416 && Nat.ble (0 + 1) 17592186044416) = true from hbnd]
    rfl
  · have hold : firstA i.size l.length (h.new (.cells (PM.ofList [x]) 1 e 0 0 .ex)) (.slice (some ⟨b, 0, none⟩) l.length cap) = some l := by
      unfold firstA
      cases hl0 : l with
      | nil => rfl
      | cons y r =>
        rw [← hl0]
        show ifB (Nat.beq l.length 0) (some []) (ifB (Nat.ble l.length l.length) (loadRow (h.new (.cells (PM.ofList [x]) 1 e 0 0 .ex)) b 0 (l.length * i.size)) none) = some l
        rw [show Nat.beq l.length 0 = false from by rw [hl0]; rfl, ifB_false, Nat.ble_eq_true_of_le (Nat.le_refl _), ifB_true, h1, Nat.mul_one]
        refine loadRow_of (m := l.length) (c := c) (by rw [AH.get_new, if_neg (by omega)]; exact q4) (by simp) (fun i y hy => by rw [Nat.zero_add]; exact q5 i y hy)
    rcases q6 with ⟨rfl, rfl⟩ | ⟨rfl, rfl⟩
    · obtain ⟨v', h', k1, k2⟩ := key _ gnew (Nat.le_succ_of_le hn) (Nat.le_succ _) knew
      refine ⟨v', h', ?_, k2⟩
      rw [← k1]
      apply hev
      have hc : capOf l.length = l.length := by unfold capOf; rw [ble_no (by rw [XB_val]; omega)]; rfl
      unfold evAppend
      simp only [hs, hi, hz, happ, appendTo, hc]
      rw [ble_no (Nat.lt_succ_self l.length), ifB_false, hbnd, ifB_true, hold]
      simp only
      rw [ble_no (by rw [XB_val]; omega : l.length < XB)]
      rfl
    · have gdel : Grow n h ((h.new (.cells (PM.ofList [x]) 1 e 0 0 .ex)).del b) := by
        refine ⟨Nat.le_succ _, fun k hk => ?_⟩
        rw [AH.get_del, if_neg (by omega), AH.get_new, if_neg (by omega)]
      have kdel : ∀ k, k < h.next → Off (.slice (some ⟨b, 0, none⟩) l.length (XB + l.length)) k → ((h.new (.cells (PM.ofList [x]) 1 e 0 0 .ex)).del b).get k = h.get k := by
        intro k hk hoff
        rw [AH.get_del, if_neg (fun e => by subst e; exact hoff _ _ _ rfl), AH.get_new, if_neg (by omega)]
      obtain ⟨v', h', k1, k2⟩ := key _ gdel (Nat.le_succ_of_le hn) (Nat.le_succ _) kdel
      refine ⟨v', h', ?_, k2⟩
      rw [← k1]
      apply hev
      have hc : capOf (XB + l.length) = l.length := by unfold capOf; rw [Nat.ble_eq_true_of_le (by omega), ifB_true]; omega
      unfold evAppend
      simp only [hs, hi, hz, happ, appendTo, hc]
      rw [ble_no (Nat.lt_succ_self l.length), ifB_false, hbnd, ifB_true, hold]
      simp only
      rw [Nat.ble_eq_true_of_le (by omega : XB ≤ XB + l.length), ifB_true]
      have hl : looseEl (h.new (.cells (PM.ofList [x]) 1 e 0 0 .ex)) b e = true := by
        unfold looseEl
        rw [AH.get_new, if_neg (by omega), q4]
        show (Nat.beq e e && Nat.ble 0 0) = true
        rw [Nat.beq_refl]; rfl
      rw [hl]
      simp [hx, ifB]
theorem Own.off {n : Nat} {h : AH} {v : Value} {l : List Value} {e : TypeId} (ho : Own n h v l e) {k : Nat} (hk : k < n) : Off v k := by
  intro o l' c' hv
  rcases ho with ⟨rfl, _⟩ | ⟨b, c, kd, cap, q1, q2, rfl, _⟩
  · cases hv
  · cases hv; omega
theorem c_neq {T : Tab} {t : TypeId} {p q : Operand} {h : AH} {x y u v : Int} (hx : Abs.zok x = true) (hy : Abs.zok y = true) (hu : Abs.zok u = true) (hv : Abs.zok v = true) :
    evBin T .neq t p q (.complex .f64 (zd x) (zd y)) (.complex .f64 (zd u) (zd v)) h = some (.bool (!(decide (x = u) && decide (y = v)))) := by
  show orV (fastC .neq (zd x) (zd y) (zd u) (zd v)) (slowBin T .neq t p q (.complex .f64 (zd x) (zd y)) (.complex .f64 (zd u) (zd v))) = _
  have hn : fastC .neq (zd x) (zd y) (zd u) (zd v) = none := by unfold fastC; rw [dz_zd hx, dz_zd hy, dz_zd hu, dz_zd hv]
  rw [hn, slow_of (v := .bool (!(decide (x = u) && decide (y = v)))) ?_ rfl]; · rfl
  show Op.complexOp .neq .f64 (zd x) (zd y) (zd u) (zd v) = _
  simp only [Op.complexOp, Op.Complex.cmp, cmp_eql hx hu, cmp_eql hy hv]
  rfl
end
end Go.Proofs.Ytglmahefcdhmgaa.Abs
namespace Go.Proofs.Ytglmahefcdhmgaa.Abs
open Go Go.Proofs
noncomputable section
variable {call : Abs.Callee}
set_option maxRecDepth 10000
theorem ft54 : T0.ft.get 54 = some Try.f54 := by kernel_rfl
theorem ft57 : T0.ft.get 57 = some Try.f57 := by kernel_rfl
theorem ft59 : T0.ft.get 59 = some Try.f59 := by kernel_rfl
theorem ft60 : T0.ft.get 60 = some Try.f60 := by kernel_rfl
theorem ft61 : T0.ft.get 61 = some Try.f61 := by kernel_rfl
theorem ft64 : T0.ft.get 64 = some Try.f64 := by kernel_rfl
theorem ft69 : T0.ft.get 69 = some Try.f69 := by kernel_rfl
theorem und_u32 : und T0 85 = some (.int .u32) := by kernel_rfl
theorem zd_2 : zd 2 = 4611686018427387904 := by decide
theorem zd_1 : zd 1 = 4607182418800017408 := by decide
theorem c_mul21 {T : Tab} {t : TypeId} {p q : Operand} {h : AH} {x y : Nat} (hx : x < 65536) (hy : y < 65536) :
    evBin T .mul t p q (.complex .f64 (zd (x : Int)) (zd (y : Int))) (.complex .f64 4611686018427387904 4607182418800017408) h = some (.complex .f64 (zd ((x : Int) * 2 - (y : Int) * 1)) (zd ((x : Int) * 1 + (y : Int) * 2))) := by
  rw [← zd_2, ← zd_1]
  show orV (fastC .mul (zd (x : Int)) (zd (y : Int)) (zd 2) (zd 1)) _ = _
  have k1 : mulz (x : Int) 2 = some ((x : Int) * 2) := by unfold mulz; rw [zok_k (by omega)]; rfl
  have k2 : mulz (y : Int) 1 = some ((y : Int) * 1) := by unfold mulz; rw [zok_k (by omega)]; rfl
  have k3 : mulz (x : Int) 1 = some ((x : Int) * 1) := by unfold mulz; rw [zok_k (by omega)]; rfl
  have k4 : mulz (y : Int) 2 = some ((y : Int) * 2) := by unfold mulz; rw [zok_k (by omega)]; rfl
  have k5 : subz ((x : Int) * 2) ((y : Int) * 1) = some ((x : Int) * 2 - (y : Int) * 1) := by unfold subz; rw [zok_k (by omega)]
  have k6 : addz ((x : Int) * 1) ((y : Int) * 2) = some ((x : Int) * 1 + (y : Int) * 2) := by unfold addz; rw [zok_k (by omega)]
  have k7 : mulC (x : Int) y 2 1 = some ((x : Int) * 2 - (y : Int) * 1, (x : Int) * 1 + (y : Int) * 2) := by unfold mulC; rw [k1, k2, k3, k4]; simp only [k5, k6]
  have : fastC .mul (zd (x : Int)) (zd (y : Int)) (zd 2) (zd 1) = some (.complex .f64 (zd ((x : Int) * 2 - (y : Int) * 1)) (zd ((x : Int) * 1 + (y : Int) * 2))) := by
    unfold fastC
    rw [dz_zd (zok_k (by omega)), dz_zd (zok_k (by omega)), dz_zd (by decide), dz_zd (by decide)]
    simp only [k7]
  rw [this]; rfl
theorem c_addF {T : Tab} {t : TypeId} {p q : Operand} {h : AH} {u v a : Int} (hu : u.natAbs < 1000000) (hv : v.natAbs < 1000000) (ha : a.natAbs < 1000000) :
    evBin T .add t p q (.complex .f64 (zd u) (zd v)) (.complex .f64 (zd a) 0) h = some (.complex .f64 (zd (u + a)) (zd v)) := by
  rw [show (0 : Nat) = zd 0 from zd_zero.symm]
  show orV (fastC .add (zd u) (zd v) (zd a) (zd 0)) _ = _
  have k1 : addz u a = some (u + a) := by unfold addz; rw [zok_k (by omega)]
  have k2 : addz v 0 = some v := by unfold addz; rw [zok_k (by omega)]; simp
  have : fastC .add (zd u) (zd v) (zd a) (zd 0) = some (.complex .f64 (zd (u + a)) (zd v)) := by
    unfold fastC
    rw [dz_zd (zok_k (by omega)), dz_zd (zok_k (by omega)), dz_zd (zok_k (by omega)), dz_zd (by decide)]
    simp only [k1, k2]
  rw [this]; rfl
theorem tmod_p {z : Int} (h1 : -65521 < z) : (if z.tmod 65521 < 0 then z.tmod 65521 + 65521 else z.tmod 65521) = z % 65521 := by
  by_cases h : 0 ≤ z
  · rw [Int.tmod_eq_emod_of_nonneg h, if_neg (by omega)]
  · have e : z.tmod 65521 = z := by
      obtain ⟨k, hk⟩ : ∃ k : Nat, z = -(k : Int) := ⟨z.natAbs, by omega⟩
      subst hk
      rw [Int.neg_tmod, Int.tmod_eq_emod_of_nonneg (by omega), Int.emod_eq_of_lt (by omega) (by omega)]
    rw [e, if_pos (by omega)]
    omega
theorem i64_small {z : Int} (h : z.natAbs < 1000000000) : IntKind.i64.min ≤ z ∧ z ≤ IntKind.i64.max := by
  have e1 : IntKind.i64.min = -9223372036854775808 := by decide
  have e2 : IntKind.i64.max = 9223372036854775807 := by decide
  omega
theorem mod_S (z : Int) (h1 : -65521 < z) (h2 : z < 1000000) (h : AH) : frameB T0 X0 call 3000 69 [fl z] h = some (fl (z % 65521), h) := by
  have hm := tmod_p h1
  rw [frameB_eq ft69 rfl rfl]
  have hc := fun h => conv_f2i (T := T0) (h := h) und_f64 und_int (zok_k (x := z) (by omega)) (i64_small (by omega))
  have hz : Abs.zok (z % 65521) = true := zok_k (by omega)
  by_cases hn : z.tmod 65521 < 0
  · rw [if_pos hn] at hm
    have hw : IntKind.i64.wrap (z.tmod 65521 + 65521) = z % 65521 := by rw [hm]; exact wz (by omega)
    simp only [Try.f69, symM, opFn, Nat.reduceLT, Nat.reduceBEq, hc, bin_tmod (show (65521 : Int) ≠ 0 by decide), bin_lss, decide_eq_true hn, bin_add, hw, conv_i2f und_int und_f64 hz]
    exact retB_one ft69 rfl get_same
  · rw [if_neg hn] at hm
    have hz2 : Abs.zok (z.tmod 65521) = true := by rw [hm]; exact hz
    simp only [Try.f69, symM, opFn, Nat.reduceLT, Nat.reduceBEq, hc, bin_tmod (show (65521 : Int) ≠ 0 by decide), bin_lss, decide_eq_false hn, conv_i2f und_int und_f64 hz2]
    rw [hm]
    exact retB_one ft69 rfl get_same
theorem reduce_S (hM : ∀ (z : Int) (h : AH), -65521 < z → z < 1000000 → call 69 [fl z] h = some (fl (z % 65521), h)) (x y : Int) (hx1 : -65521 < x) (hx2 : x < 1000000) (hy1 : -65521 < y) (hy2 : y < 1000000) (h : AH) :
    frameB T0 X0 call 3000 64 [cx x y] h = some (cx (x % 65521) (y % 65521), h) := by
  rw [frameB_eq ft64 rfl rfl]
  simp only [Try.f64, symM, opFn, Nat.reduceLT, Nat.reduceBEq, evCall_fn ft69 rfl, hM x _ hx1 hx2, hM y _ hy1 hy2]
  exact retB_one ft64 rfl get_same
/-- Behind a byte. -/
def spinStep (s : Nat × Nat) (x : Nat) : Nat × Nat := ((2 * s.1 + 65521 - s.2 + x) % 65521, (s.1 + 2 * s.2) % 65521)
def spinN (bs : List Nat) : Nat × Nat := bs.foldl spinStep (1, 0)
def spinU (s : Nat × Nat) : Nat := s.1 * 65536 + s.2
theorem step_S (hR : ∀ (x y : Int) (h : AH), -65521 < x → x < 1000000 → -65521 < y → y < 1000000 → call 64 [cx x y] h = some (cx (x % 65521) (y % 65521), h)) (s : Nat × Nat) (x : Nat) (h1 : s.1 < 65521) (h2 : s.2 < 65521) (hx : x < 256) (h : AH) :
    frameB T0 X0 call 3000 60 [cx s.1 s.2, .int .u8 x] h = some (cx (spinStep s x).1 (spinStep s x).2, h) := by
  rw [frameB_eq ft60 rfl rfl]
  have hr := hR ((s.1 : Int) * 2 - (s.2 : Int) * 1 + x) ((s.1 : Int) * 1 + (s.2 : Int) * 2) h (by omega) (by omega) (by omega) (by omega)
  have e1 : ((s.1 : Int) * 2 - (s.2 : Int) * 1 + x) % 65521 = ((spinStep s x).1 : Int) := by unfold spinStep; simp only; omega
  have e2 : ((s.1 : Int) * 1 + (s.2 : Int) * 2) % 65521 = ((spinStep s x).2 : Int) := by unfold spinStep; simp only; omega
  rw [e1, e2] at hr
  simp only [Try.f60, symM, opFn, Nat.reduceLT, Nat.reduceBEq, c_mul21 (show s.1 < 65536 by omega) (show s.2 < 65536 by omega), conv_i2f und_u8 und_f64 (zok_k (x := (x : Int)) (by omega)), c_addF (u := (s.1 : Int) * 2 - (s.2 : Int) * 1) (v := (s.1 : Int) * 1 + (s.2 : Int) * 2) (a := (x : Int)) (by omega) (by omega) (by omega), evCall_fn ft64 rfl, hr]
  exact retB_one ft60 rfl get_same
theorem wu32 {n : Nat} (h : n < 4294967296) : IntKind.u32.wrap (n : Int) = (n : Int) := by rw [IntKind.wrap]; simp [IntKind.bits, IntKind.signed]; omega
abbrev wv (n : Int) : Value := .int .u32 n
theorem u32_range {x : Nat} (h : x < 65536) : IntKind.u32.min ≤ (x : Int) ∧ (x : Int) ≤ IntKind.u32.max := by
  have e1 : IntKind.u32.min = 0 := by decide
  have e2 : IntKind.u32.max = 4294967295 := by decide
  omega
theorem spinStep_lt (s : Nat × Nat) (x : Nat) : (spinStep s x).1 < 65521 ∧ (spinStep s x).2 < 65521 := ⟨Nat.mod_lt _ (by omega), Nat.mod_lt _ (by omega)⟩
theorem sum_S (s : Nat × Nat) (h1 : s.1 < 65521) (h2 : s.2 < 65521) (h : AH) : frameB T0 X0 call 3000 61 [cx s.1 s.2] h = some (wv (spinU s), h) := by
  rw [frameB_eq ft61 rfl rfl]
  have c1 := fun h => conv_f2i (T := T0) (h := h) und_f64 und_u32 (zok_k (x := (s.1 : Int)) (by omega)) (u32_range (show s.1 < 65536 by omega))
  have c2 := fun h => conv_f2i (T := T0) (h := h) und_f64 und_u32 (zok_k (x := (s.2 : Int)) (by omega)) (u32_range (show s.2 < 65536 by omega))
  have w1 : IntKind.u32.wrap ((s.1 : Int) * 65536) = ((s.1 * 65536 : Nat) : Int) := by rw [show (s.1 : Int) * 65536 = ((s.1 * 65536 : Nat) : Int) by omega]; exact wu32 (by omega)
  have w2 : IntKind.u32.wrap (((s.1 * 65536 : Nat) : Int) + (s.2 : Int)) = ((spinU s : Nat) : Int) := by unfold spinU; rw [show ((s.1 * 65536 : Nat) : Int) + (s.2 : Int) = ((s.1 * 65536 + s.2 : Nat) : Int) by omega]; exact wu32 (by omega)
  simp only [Try.f61, symM, opFn, Nat.reduceLT, Nat.reduceBEq, c1, c2, bin_mul, w1, bin_add, w2]
  exact retB_one ft61 rfl get_same
theorem from_S (hR : ∀ (x y : Int) (h : AH), -65521 < x → x < 1000000 → -65521 < y → y < 1000000 → call 64 [cx x y] h = some (cx (x % 65521) (y % 65521), h)) (h : AH) :
    frameB T0 X0 call 3000 59 [wv 65536] h = some (cx ((1 : Nat) : Int) ((0 : Nat) : Int), h) := by
  rw [frameB_eq ft59 rfl rfl]
  have q1 : ∀ (T : Tab) t p q h, evBin T .quo t p q (wv 65536) (wv 65536) h = some (wv 1) := fun T t p q h => bin_quo (k := .u32) (m := 65536) (n := 65536) (by decide)
  have q2 : ∀ (T : Tab) t p q h, evBin T .rem t p q (wv 65536) (wv 65536) h = some (wv 0) := fun T t p q h => bin_rem (k := .u32) (m := 65536) (n := 65536) (by decide)
  have hr : call 64 [cx 1 0] h = some (cx ((1 : Nat) : Int) ((0 : Nat) : Int), h) := hR 1 0 h (by decide) (by decide) (by decide) (by decide)
  simp only [Try.f59, symM, opFn, Nat.reduceLT, Nat.reduceBEq, q1, q2, conv_i2f und_u32 und_f64 (show Abs.zok 1 = true by decide), conv_i2f und_u32 und_f64 (show Abs.zok 0 = true by decide), evCall_fn ft64 rfl, hr]
  exact retB_one ft59 rfl get_same
theorem spin_lt : ∀ (bs : List Nat) (s : Nat × Nat), s.1 < 65521 → s.2 < 65521 → (bs.foldl spinStep s).1 < 65521 ∧ (bs.foldl spinStep s).2 < 65521 := by
  intro bs
  induction bs with
  | nil => intro s h1 h2; exact ⟨h1, h2⟩
  | cons x l ih => intro s _ _; exact ih _ (spinStep_lt s x).1 (spinStep_lt s x).2
noncomputable def bodyMo : Code := part Try.f57 [1, 1, 0, 1, 0, 0]
abbrev EMo : Env := ⟨57, 22, none⟩
theorem moL (hS : ∀ (s : Nat × Nat) (x : Nat) (h : AH), s.1 < 65521 → s.2 < 65521 → x < 256 → call 60 [cx s.1 s.2, .int .u8 x] h = some (cx (spinStep s x).1 (spinStep s x).2, h)) (bs : List Nat) (hbs : ∀ x ∈ bs, x < 256) (hlen : bs.length ≤ 1000) (v : Value) (n0 : Nat) (h : AH) (hv : Row n0 h v (bytesV bs) 5) :
    ∀ (l : List Nat) (i : Nat) (s : Nat × Nat) (tm : PM Value) (N : Nat), bs.drop i = l → i + l.length = bs.length → l.length + 60 ≤ N → s.1 < 65521 → s.2 < 65521 → tm.get 5 = some (cx s.1 s.2) → tm.get 10 = some v → tm.get 11 = some (iv bs.length) → tm.get 12 = some (iv i) →
      ∃ tm' h', codeB T0 X0 call N EMo (.loop bodyMo) tm h [] = .jump (.exit 0) tm' h' [] ∧ (h' = h ∧ tm'.get 5 = some (cx (l.foldl spinStep s).1 (l.foldl spinStep s).2)) := by
  intro l
  induction l with
  | nil =>
    intro i s tm N hd hi hN h1 h2 g5 g10 g11 g12
    obtain ⟨N, rfl⟩ : ∃ a, N = a + 30 := ⟨N - 30, by simp at hN; omega⟩
    apply Exists.intro; apply Exists.intro; apply And.intro
    · rw [codeB_loop]
      simp only [bodyMo, part, Try.f57, sub, symM, opFn, Nat.reduceLT, g11, g12, bin_lss, decide_eq_false (show ¬ (i : Int) < (bs.length : Nat) by simp at hi; omega)]
      rfl
    · exact ⟨rfl, by simp only [symM, Nat.reduceBEq, g5]; rfl⟩
  | cons x l ih =>
    intro i s tm N hd hi hN h1 h2 g5 g10 g11 g12
    obtain ⟨N, rfl⟩ : ∃ a, N = a + 30 := ⟨N - 30, by simp at hN; omega⟩
    have hil : i < bs.length := by simp at hi; omega
    have hx : bs[i]? = some x := by have := congrArg (fun l => l[0]?) hd; simpa using this
    have hx2 := hbs x (List.mem_of_getElem? hx)
    obtain ⟨p, a1, a2⟩ := hv.at und_bytes sz_u8 agg_u8 (i := i) (x := .int .u8 (x : Int)) (by simp [bytesV, hx])
    rw [show N + 30 = (N + 29) + 1 from rfl, codeB_loop, List.foldl_cons]
    simp only [bodyMo, part, Try.f57, sub, symM, opFn, Nat.reduceLT, Nat.reduceBEq, g5, g10, g11, g12, bin_lss, decide_eq_true (show (i : Int) < (bs.length : Nat) by omega), a1, a2, evCall_fn ft60 rfl, hS s x h h1 h2 hx2, bin_add, wadd1 (show i ≤ 400000 by omega)]
    refine ih (i + 1) (spinStep s x) _ (N + 29) (by rw [← List.drop_drop, hd]; rfl) (by simp at hi ⊢; omega) (by simp at hN ⊢; omega) (spinStep_lt s x).1 (spinStep_lt s x).2 ?_ ?_ ?_ get_same <;> simp only [symM, Nat.reduceBEq, g10, g11]
theorem More_S (hF : ∀ (h : AH), call 59 [wv 65536] h = some (cx ((1 : Nat) : Int) ((0 : Nat) : Int), h)) (hS : ∀ (s : Nat × Nat) (x : Nat) (h : AH), s.1 < 65521 → s.2 < 65521 → x < 256 → call 60 [cx s.1 s.2, .int .u8 x] h = some (cx (spinStep s x).1 (spinStep s x).2, h))
    (hU : ∀ (s : Nat × Nat) (h : AH), s.1 < 65521 → s.2 < 65521 → call 61 [cx s.1 s.2] h = some (wv (spinU s), h)) (bs : List Nat) (hbs : ∀ x ∈ bs, x < 256) (hlen : bs.length ≤ 1000) (v : Value) (n0 : Nat) (h : AH) (hv : Row n0 h v (bytesV bs) 5) :
    frameB T0 X0 call 3000 57 [wv 65536, v] h = some (wv (spinU (spinN bs)), h) := by
  rw [frameB_eq ft57 rfl rfl]
  have hcl : (((bytesV bs).length : Nat) : Int) = (bs.length : Nat) := by simp [bytesV]
  simp only [Try.f57, symM, opFn, Nat.reduceLT, Nat.reduceBEq, symL, evCall_fn ft59 rfl, hF, hv.len und_bytes, hcl]
  generalize hX : codeB T0 X0 call _ EMo (.loop _) _ _ _ = X
  obtain ⟨t1, h1, e1, eh, p5⟩ := use_exit hX (moL hS bs hbs hlen v n0 h hv bs 0 (1, 0) _ _ rfl (by simp) (by omega) (by decide) (by decide) (by simp only [symM, Nat.reduceBEq]) (by simp only [symM, Nat.reduceBEq]) (by simp only [symM, Nat.reduceBEq]) (by simp only [symM]; rfl))
  clear hX
  rw [eh] at e1
  subst e1
  have hl := spin_lt bs (1, 0) (by decide) (by decide)
  simp only [symM, opFn, Nat.reduceLT, symL, p5, evCall_fn ft61 rfl, hU _ h hl.1 hl.2]
  exact retB_one ft57 rfl get_same
theorem Sum_S (hM : ∀ (bs : List Nat) (v : Value) (h : AH), (∀ x ∈ bs, x < 256) → bs.length ≤ 1000 → Row h.next h v (bytesV bs) 5 → call 57 [wv 65536, v] h = some (wv (spinU (spinN bs)), h)) (bs : List Nat) (hbs : ∀ x ∈ bs, x < 256) (hlen : bs.length ≤ 1000) (v : Value) (h : AH) (hv : Row h.next h v (bytesV bs) 5) :
    frameB T0 X0 call 3000 54 [v] h = some (wv (spinU (spinN bs)), h) := by
  rw [frameB_eq ft54 rfl rfl]
  simp only [Try.f54, symM, opFn, Nat.reduceLT, Nat.reduceBEq, evCall_fn ft57 rfl, hM bs v h hbs hlen hv]
  exact retB_one ft54 rfl get_same
end
end Go.Proofs.Ytglmahefcdhmgaa.Abs
