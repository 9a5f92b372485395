
/- Numbers and runs: what the functions of packages gauss and run answer at whole numbers, for every memory. -/
import Derived.Test.YtjdhdhmoedlfdaaGreatAbsZM
import Derived.Test.YtjdhdhmoedlfdaaGreatRows
import Derived.KernelRfl
import Derived.IntWalk
namespace Go.Proofs.YtjdhdhmoedlfdaaGreat.Abs
open Go Go.Proofs
noncomputable section
noncomputable def T0 : Tab := mkTab Tryz.prog
noncomputable def X0 : Exts := xMath Tryz.prog 222 223 224
theorem und_f64 : und T0 96 = some (.float .f64) := by kernel_rfl
theorem und_int : und T0 3 = some (.int .i64) := by kernel_rfl
theorem ft217 : T0.ft.get 217 = some Tryz.f217 := by kernel_rfl
theorem ft218 : T0.ft.get 218 = some Tryz.f218 := by kernel_rfl
theorem ft223 : T0.ft.get 223 = some Tryz.f223 := by kernel_rfl
theorem ft222 : T0.ft.get 222 = some Tryz.f222 := by kernel_rfl
theorem ft224 : T0.ft.get 224 = some Tryz.f224 := by kernel_rfl
theorem ft202 : T0.ft.get 202 = some Tryz.f202 := by kernel_rfl
theorem ft161 : T0.ft.get 161 = some Tryz.f161 := by kernel_rfl
theorem ft107 : T0.ft.get 107 = some Tryz.f107 := by kernel_rfl
theorem ft108 : T0.ft.get 108 = some Tryz.f108 := by kernel_rfl
theorem ft43 : T0.ft.get 43 = some Tryz.f43 := by kernel_rfl
theorem ft163 : T0.ft.get 163 = some Tryz.f163 := by kernel_rfl
theorem ft156 : T0.ft.get 156 = some Tryz.f156 := by kernel_rfl
abbrev fl (x : Int) : Value := .float .f64 (zd x)
abbrev cx (x y : Int) : Value := .complex .f64 (zd x) (zd y)
abbrev iv (x : Int) : Value := .int .i64 x
theorem zok_nat {x : Nat} (hx : zok (x : Int) = true) : x < 9007199254740992 := by
  have h : ((x : Int)).natAbs < 9007199254740992 := zok_small hx
  omega
theorem zok_k {x : Int} (h : x.natAbs < 9007199254740992) : zok x = true := zok_of h
theorem zd_1m : zd 1048576 = 4697254411347427328 := by decide
theorem zd_480 : zd 480 = 4647151865492930560 := by decide
variable {call : Abs.Callee}
set_option maxRecDepth 10000
theorem xb {b : Nat} {h : AH} : evCall T0 X0 (.func (.func 223) #[] #[]) [.float .f64 b] h = some (.value (.int .u64 (b : Int)), h) := evCall_ext ft223 rfl rfl x_bits
theorem xfb {b : Nat} {h : AH} : evCall T0 X0 (.func (.func 222) #[] #[]) [.int .u64 (b : Int)] h = some (.value (.float .f64 b), h) := evCall_ext ft222 rfl rfl x_frombits
theorem xtr {x : Int} (hx : zok x = true) {h : AH} : evCall T0 X0 (.func (.func 224) #[] #[]) [fl x] h = some (.value (fl x), h) := evCall_ext ft224 rfl rfl (x_trunc hx)
theorem Abs_S (x : Nat) (hx : zok x = true) (h : AH) : frameB T0 X0 call 3000 217 [fl x] h = some (fl x, h) := by
  have hn : x < 9007199254740992 := zok_nat hx
  rw [frameB_eq ft217 rfl rfl]
  simp only [Tryz.f217, symM, opFn, Nat.reduceLT, Nat.reduceBEq, xb, xfb, andNot_sign (zd_nn_lt hn)]
  exact retB_one ft217 rfl get_same
theorem Trunc_S (x : Int) (hx : zok x = true) (h : AH) : frameB T0 X0 call 3000 218 [fl x] h = some (fl x, h) := by
  rw [frameB_eq ft218 rfl rfl]
  simp only [Tryz.f218, symM, opFn, Nat.reduceLT, Nat.reduceBEq, xtr hx]
  exact retB_one ft218 rfl get_same
theorem whole_S (habs : ∀ (x : Nat) h, zok x = true → call 217 [fl x] h = some (fl x, h)) (htr : ∀ (x : Int) h, zok x = true → call 218 [fl x] h = some (fl x, h))
    (x : Nat) (hx : x ≤ 1048576) (h : AH) : frameB T0 X0 call 3000 202 [fl x] h = some (.bool true, h) := by
  have zx : zok (x : Int) = true := zok_k (by omega)
  have hle : ∀ p q, evBin T0 .leq 96 p q (fl x) (.float .f64 4697254411347427328) h = some (.bool true) := fun p q => by
    rw [← zd_1m, f_leq zx (by decide), decide_eq_true (by omega)]
  have heq : ∀ p q, evBin T0 .eql 96 p q (fl x) (fl x) h = some (.bool true) := fun p q => by rw [f_eql zx zx, decide_eq_true rfl]
  rw [frameB_eq ft202 rfl rfl]
  simp only [Tryz.f202, symM, opFn, Nat.reduceLT, Nat.reduceBEq, evCall_fn ft217 rfl, evCall_fn ft218 rfl, habs x _ zx, htr x _ zx, hle, heq]
  exact retB_one ft202 rfl get_same
theorem Whole_S (hw : ∀ (x : Nat) h, x ≤ 1048576 → call 202 [fl x] h = some (.bool true, h)) (x y : Nat) (hx : x ≤ 1048576) (hy : y ≤ 1048576) (h : AH) :
    frameB T0 X0 call 3000 161 [cx x y] h = some (.bool true, h) := by
  rw [frameB_eq ft161 rfl rfl]
  simp only [Tryz.f161, symM, opFn, Nat.reduceLT, Nat.reduceBEq, evCall_fn ft202 rfl, hw x _ hx, hw y _ hy]
  exact retB_one ft161 rfl get_same
def runOK (x y : Nat) : Bool := decide (1 ≤ y ∧ x + y ≤ 480)
theorem Sound_S (hW : ∀ (x y : Nat) h, x ≤ 1048576 → y ≤ 1048576 → call 161 [cx x y] h = some (.bool true, h)) (x y : Nat) (hx : x ≤ 1048576) (hy : y ≤ 1048576) (h : AH) :
    frameB T0 X0 call 3000 107 [cx x y] h = some (.bool (runOK x y), h) := by
  have zx : zok (x : Int) = true := zok_k (by omega)
  have zy : zok (y : Int) = true := zok_k (by omega)
  have zxy : zok ((x : Int) + y) = true := zok_k (by omega)
  have hge0 : ∀ p q, evBin T0 .geq 96 p q (fl x) (.float .f64 0) h = some (.bool true) := fun p q => by
    rw [← zd_zero, f_geq zx (by decide), decide_eq_true (by omega)]
  have hge1 : ∀ p q, evBin T0 .geq 96 p q (fl y) (.float .f64 4607182418800017408) h = some (.bool (decide (1 ≤ y))) := fun p q => by
    rw [← zd_one, f_geq zy (by decide)]; congr 2; exact decide_eq_decide.2 (by omega)
  have hadd : ∀ p q, evBin T0 .add 96 p q (fl x) (fl y) h = some (fl ((x : Int) + y)) := fun p q => f_add zx zy zxy
  have hle : ∀ p q, evBin T0 .leq 96 p q (fl ((x : Int) + y)) (.float .f64 4647151865492930560) h = some (.bool (decide (x + y ≤ 480))) := fun p q => by
    rw [← zd_480, f_leq zxy (by decide)]; congr 2; exact decide_eq_decide.2 (by omega)
  rw [frameB_eq ft107 rfl rfl]
  unfold runOK
  by_cases h1 : 1 ≤ y
  · by_cases h2 : x + y ≤ 480
    · simp only [Tryz.f107, symM, opFn, Nat.reduceLT, Nat.reduceBEq, evCall_fn ft161 rfl, hW x y _ hx hy, hge0, hge1, hadd, hle, decide_eq_true h1, decide_eq_true h2, decide_eq_true (And.intro h1 h2)]
      exact retB_one ft107 rfl get_same
    · simp only [Tryz.f107, symM, opFn, Nat.reduceLT, Nat.reduceBEq, evCall_fn ft161 rfl, hW x y _ hx hy, hge0, hge1, hadd, hle, decide_eq_true h1, decide_eq_false h2, decide_eq_false (fun k : 1 ≤ y ∧ x + y ≤ 480 => h2 k.2)]
      exact retB_one ft107 rfl get_same
  · simp only [Tryz.f107, symM, opFn, Nat.reduceLT, Nat.reduceBEq, evCall_fn ft161 rfl, hW x y _ hx hy, hge0, hge1, decide_eq_false h1, decide_eq_false (fun k : 1 ≤ y ∧ x + y ≤ 480 => h1 k.1)]
    exact retB_one ft107 rfl get_same
theorem i64_range {x : Nat} (hx : x ≤ 1048576) : IntKind.i64.min ≤ (x : Int) ∧ (x : Int) ≤ IntKind.i64.max := ⟨by show (-9223372036854775808 : Int) ≤ _; omega, by show _ ≤ (9223372036854775807 : Int); omega⟩
theorem parts_S (x y : Nat) (hx : x ≤ 1048576) (hy : y ≤ 1048576) (h : AH) : frameB T0 X0 call 3000 108 [cx x y] h = some (.tuple #[iv x, iv y], h) := by
  rw [frameB_eq ft108 rfl rfl]
  simp only [Tryz.f108, symM, opFn, Nat.reduceLT, Nat.reduceBEq, conv_f2i und_f64 und_int (zok_k (x := (x : Int)) (by omega)) (i64_range hx), conv_f2i und_f64 und_int (zok_k (x := (y : Int)) (by omega)) (i64_range hy)]
  exact retB_two ft108 rfl (by simp only [symM, Nat.reduceBEq]) get_same
def partsV (x y : Nat) : Value := bif runOK x y then .tuple #[iv x, iv y, iv 0] else .tuple #[iv 0, iv 0, iv 2]
theorem Parts_S (hS : ∀ (x y : Nat) h, x ≤ 1048576 → y ≤ 1048576 → call 107 [cx x y] h = some (.bool (runOK x y), h)) (hp : ∀ (x y : Nat) h, x ≤ 1048576 → y ≤ 1048576 → call 108 [cx x y] h = some (.tuple #[iv x, iv y], h))
    (x y : Nat) (hx : x ≤ 1048576) (hy : y ≤ 1048576) (h : AH) : frameB T0 X0 call 3000 43 [cx x y] h = some (partsV x y, h) := by
  rw [frameB_eq ft43 rfl rfl]
  unfold partsV
  cases hr : runOK x y with
  | true =>
    simp only [Tryz.f43, symM, opFn, Nat.reduceLT, Nat.reduceBEq, evCall_fn ft107 rfl, evCall_fn ft108 rfl, hS x y _ hx hy, hp x y _ hx hy, hr]
    exact retB_three ft43 rfl (by simp only [symM, Nat.reduceBEq]) (by simp only [symM, Nat.reduceBEq]) get_same
  | false =>
    simp only [Tryz.f43, symM, opFn, Nat.reduceLT, Nat.reduceBEq, evCall_fn ft107 rfl, hS x y _ hx hy, hr]
    exact retB_three ft43 rfl (by simp only [symM, Nat.reduceBEq]) (by simp only [symM, Nat.reduceBEq]) get_same
def make1V (x y : Int) : Value := if y ≤ 0 then .complex .f64 0 0 else cx x y
theorem make1_S (x y : Int) (hx : zok x = true) (hy : zok y = true) (h : AH) : frameB T0 X0 call 3000 163 [iv x, iv y] h = some (make1V x y, h) := by
  rw [frameB_eq ft163 rfl rfl]
  unfold make1V
  by_cases h0 : y ≤ 0
  · simp only [Tryz.f163, symM, opFn, Nat.reduceLT, Nat.reduceBEq, bin_leq, decide_eq_true h0, if_pos h0]
    exact retB_one ft163 rfl get_same
  · simp only [Tryz.f163, symM, opFn, Nat.reduceLT, Nat.reduceBEq, bin_leq, decide_eq_false h0, if_neg h0, conv_i2f und_int und_f64 hx, conv_i2f und_int und_f64 hy]
    exact retB_one ft163 rfl get_same
end
end Go.Proofs.YtjdhdhmoedlfdaaGreat.Abs
namespace Go.Proofs.YtjdhdhmoedlfdaaGreat.Abs
open Go Go.Proofs
noncomputable section
variable {call : Abs.Callee}
set_option maxRecDepth 10000
theorem und_u8 : und T0 5 = some (.int .u8) := by kernel_rfl
theorem und_bytes : und T0 57 = some (.slice 5) := by kernel_rfl
theorem und_c128s : und T0 83 = some (.slice 84) := by kernel_rfl
theorem sz_u8 : szOf T0 5 = some 1 := by kernel_rfl
theorem sz_c128 : szOf T0 84 = some 1 := by kernel_rfl
theorem agg_u8 : aggT T0 5 = some false := by kernel_rfl
theorem agg_c128 : aggT T0 84 = some false := by kernel_rfl
theorem zero_c128 : zeroOf T0 84 = some (.complex .f64 0 0) := by kernel_rfl
def infoOf (t : Nat) : TypeInfo := (Tryz.prog.types[t]?).getD default
theorem tt_c128 : T0.tt.get 84 = some (infoOf 84) := by kernel_rfl
theorem ti_c128 : (infoOf 84).zero = some (.complex .f64 0 0) ∧ (infoOf 84).size = 1 ∧ (infoOf 84).bytes ≤ 64 := ⟨by kernel_rfl, by kernel_rfl, Nat.le_of_ble_eq_true (by kernel_rfl)⟩
def bytesV (bs : List Nat) : List Value := bs.map fun (x : Nat) => .int .u8 (x : Int)
theorem ft155 : T0.ft.get 155 = some Tryz.f155 := by kernel_rfl
theorem agg_int : aggT T0 3 = some false := by kernel_rfl
def idxF (p : Value → Bool) : List Value → Nat → Int
  | [], _ => -1
  | x :: l, i => bif p x then (i : Int) else idxF p l (i + 1)
noncomputable def bodyI : Code := part Tryz.f155 [1, 0, 1, 0, 0]
abbrev EIdx : Env := ⟨155, 19, none⟩
theorem loopI (s : Value) (L : List Value) (n0 : Nat) (h : AH) (g : Nat) (cap : List Value) (fd : Func) (c : Code) (hg : T0.ft.get g = some fd) (hgb : fd.body = some c) (p : Value → Bool) (hs : Row n0 h s L 84) (hL : L.length < 1000000)
    (hp : ∀ x ∈ L, call g (x :: cap) h = some (.bool (p x), h)) :
    ∀ (l : List Value) (i : Nat) (tm : PM Value) (N : Nat), L.drop i = l → i + l.length = L.length → l.length + 20 ≤ N → tm.get 0 = some s → tm.get 1 = some (.func (.func g) #[] cap.toArray) → tm.get 7 = some (iv L.length) → tm.get 8 = some (iv i) →
      ∃ tm', (codeB T0 X0 call N EIdx (.loop bodyI) tm h [] = .jump .ret tm' h [] ∧ tm'.get 4 = some (iv (idxF p l i))) ∨ (codeB T0 X0 call N EIdx (.loop bodyI) tm h [] = .jump (.exit 0) tm' h [] ∧ idxF p l i = -1) := by
  intro l
  induction l with
  | nil =>
    intro i tm N hd hi hN h0 h1 h7 h8
    obtain ⟨N, rfl⟩ : ∃ a, N = a + 20 := ⟨N - 20, by simp at hN; omega⟩
    have hlt : decide ((i : Int) < (L.length : Nat)) = false := decide_eq_false (by simp at hi; omega)
    apply Exists.intro
    right
    refine ⟨?_, rfl⟩
    rw [codeB_loop]
    simp only [bodyI, part, Tryz.f155, sub, symM, opFn, Nat.reduceLT, h7, h8, bin_lss, hlt]
    rfl
  | cons x l ih =>
    intro i tm N hd hi hN h0 h1 h7 h8
    obtain ⟨N, rfl⟩ : ∃ a, N = a + 20 := ⟨N - 20, by simp at hN; omega⟩
    have hlt : decide ((i : Int) < (L.length : Nat)) = true := decide_eq_true (by simp at hi; omega)
    have hx : L[i]? = some x := by have := congrArg (fun l => l[0]?) hd; simpa using this
    obtain ⟨q, e1, e2⟩ := hs.at und_c128s sz_c128 agg_c128 hx
    have hcall := hp x (List.mem_of_getElem? hx)
    have hw : IntKind.i64.wrap ((i : Int) + 1) = ((i + 1 : Nat) : Int) := by rw [IntWalk.i64_in _ (by simp at hi; omega)]; simp
    cases hb : p x with
    | true =>
      apply Exists.intro
      left
      apply And.intro
      · rw [codeB_loop]
        simp only [bodyI, part, Tryz.f155, sub, symM, opFn, Nat.reduceLT, Nat.reduceBEq, h0, h1, h7, h8, bin_lss, hlt, e1, e2, evCall_clo hg hgb, List.cons_append, List.nil_append, hcall, hb]
        rfl
      · simp only [symM, idxF, hb, cond_true]
    | false =>
      rw [show N + 20 = (N + 19) + 1 from rfl, codeB_loop]
      simp only [bodyI, part, Tryz.f155, sub, symM, opFn, Nat.reduceLT, Nat.reduceBEq, h0, h1, h7, h8, bin_lss, hlt, e1, e2, evCall_clo hg hgb, List.cons_append, List.nil_append, hcall, hb, bin_add, hw]
      rw [show idxF p (x :: l) i = idxF p l (i + 1) from by rw [idxF, hb]; rfl]
      exact ih (i + 1) _ (N + 19) (by rw [← List.drop_drop, hd]; rfl) (by simp at hi ⊢; omega) (by simp at hN ⊢; omega) (by simp only [symM, Nat.reduceBEq, h0]) (by simp only [symM, Nat.reduceBEq, h1]) (by simp only [symM, Nat.reduceBEq, h7]) get_same
theorem Index_S (s : Value) (L : List Value) (n0 : Nat) (h : AH) (g : Nat) (cap : List Value) (fd : Func) (c : Code) (hg : T0.ft.get g = some fd) (hgb : fd.body = some c) (p : Value → Bool) (hs : Row n0 h s L 84) (hL : L.length < 900)
    (hp : ∀ x ∈ L, call g (x :: cap) h = some (.bool (p x), h)) : frameB T0 X0 call 3000 155 [s, .func (.func g) #[] cap.toArray] h = some (iv (idxF p L 0), h) := by
  rw [frameB_eq ft155 rfl rfl]
  have hL2 := fun tm N => loopI s L n0 h g cap fd c hg hgb p hs (by omega) hp L 0 tm N rfl (by simp)
  simp only [Tryz.f155, symM, opFn, Nat.reduceLT, Nat.reduceBEq, hs.len und_c128s]
  refine bind_loopJ (b := bodyI) (Q := fun x => ∃ tm', (x = .jump .ret tm' h [] ∧ tm'.get 4 = some (iv (idxF p L 0))) ∨ (x = .jump (.exit 0) tm' h [] ∧ idxF p L 0 = -1)) (P := fun x => endF T0 155 x = some (iv (idxF p L 0), h)) ?_ ?_
  · exact hL2 _ _ (by omega) (by simp only [symM, Nat.reduceBEq]) (by simp only [symM, Nat.reduceBEq]) (by simp only [symM, Nat.reduceBEq]) (by simp only [symM]; rfl)
  · intro x ⟨tm', hx⟩
    rcases hx with ⟨rfl, h4⟩ | ⟨rfl, h4⟩
    · simp only [symM]
      exact retB_one ft155 rfl h4
    · rw [h4]
      simp only [symM]
      exact retB_one ft155 rfl get_same
theorem ft204 : T0.ft.get 204 = some Tryz.f204 := by kernel_rfl
theorem ft173 : T0.ft.get 173 = some Tryz.f173 := by kernel_rfl
theorem ft132 : T0.ft.get 132 = some Tryz.f132 := by kernel_rfl
theorem zd_m1m : zd (-1048576) = 13920626448202203136 := by decide
theorem rpart_S (x : Nat) (hx : x ≤ 1048576) (h : AH) : frameB T0 X0 call 3000 204 [fl x] h = some (.tuple #[iv x, .bool true], h) := by
  have zx : zok (x : Int) = true := zok_k (by omega)
  have hge : ∀ p q, evBin T0 .geq 96 p q (fl x) (.float .f64 13920626448202203136) h = some (.bool true) := fun p q => by
    rw [← zd_m1m, f_geq zx (by decide), decide_eq_true (by omega)]
  have hle : ∀ p q, evBin T0 .leq 96 p q (fl x) (.float .f64 4697254411347427328) h = some (.bool true) := fun p q => by
    rw [← zd_1m, f_leq zx (by decide), decide_eq_true (by omega)]
  have heq : ∀ p q, evBin T0 .eql 96 p q (fl x) (fl x) h = some (.bool true) := fun p q => by rw [f_eql zx zx, decide_eq_true rfl]
  rw [frameB_eq ft204 rfl rfl]
  simp only [Tryz.f204, symM, opFn, Nat.reduceLT, Nat.reduceBEq, hge, hle, heq, conv_f2i und_f64 und_int zx (i64_range hx), conv_i2f und_int und_f64 zx]
  exact retB_two ft204 rfl (by simp only [symM, Nat.reduceBEq]) get_same
abbrev zv (x y : Int) : Value := .agg #[iv x, iv y]
theorem alloc_Z {h : AH} : evAlloc T0 209 h = some (.pointer (some ⟨h.next, 0, none⟩), h.new (.cells (PM.ofList [iv 0, iv 0]) 2 209 0 0 .ex)) := by
  unfold evAlloc
  rw [show zeroOf T0 209 = some (zv 0 0) from by kernel_rfl]
  rfl
theorem build_Z {x y : Int} {h : AH} : evBuild T0 209 [(0, iv x), (1, iv y)] h = some (zv x y, h) := by kernel_rfl
def BoxZ (h : AH) (b : Nat) (x y : Int) : Prop := ∃ c, h.get b = some (.cells c 2 209 0 0 .ex) ∧ c.get 0 = some (iv x) ∧ c.get 1 = some (iv y)
theorem sz_Z : szOf T0 209 = some 2 := by kernel_rfl
theorem agg_Z : aggT T0 209 = some true := by kernel_rfl
theorem BoxZ.new (h : AH) (x y : Int) : BoxZ (h.new (.cells (PM.ofList [iv x, iv y]) 2 209 0 0 .ex)) h.next x y := ⟨_, get_new_same _ _, by rw [PM.get_ofList]; rfl, by rw [PM.get_ofList]; rfl⟩
theorem BoxZ.grow {n : Nat} {h h' : AH} {b : Nat} {x y : Int} (hb : BoxZ h b x y) (g : Grow n h h') (hn : b < n) : BoxZ h' b x y := by
  obtain ⟨c, h1, h2⟩ := hb
  exact ⟨c, (g.keep b hn).trans h1, h2⟩
theorem BoxZ.store {h : AH} {b : Nat} {x y u v : Int} {n : Nat} (hb : BoxZ h b x y) (hn : n ≤ b) : ∃ h', evStore T0 209 (.pointer (some ⟨b, 0, none⟩)) (zv u v) h = some h' ∧ BoxZ h' b u v ∧ Grow n h h' ∧ h'.next = h.next := by
  obtain ⟨c, h1, h2, h3⟩ := hb
  refine ⟨h.set b (.cells (storeN c 0 [iv u, iv v]) 2 209 0 0 .ex), ?_, ⟨_, by rw [AH.get_set, if_pos rfl], ?_, ?_⟩, Grow.set h _ hn, rfl⟩
  · simp only [evStore, storeVarA, sz_Z]
    show ifB (Nat.beq 2 2) (storeRow b 0 [iv u, iv v] h) none = _
    rw [show Nat.beq 2 2 = true from rfl, ifB_true]
    simp only [storeRow, h1]
    rfl
  · rw [storeN_get]; rfl
  · rw [storeN_get]; rfl
theorem BoxZ.load {h : AH} {b : Nat} {x y : Int} (hb : BoxZ h b x y) : evLoad T0 209 (.pointer (some ⟨b, 0, none⟩)) h = some (zv x y) := by
  obtain ⟨c, h1, h2, h3⟩ := hb
  simp only [evLoad, loadVarA, agg_Z, sz_Z]
  have : loadRow h b 0 2 = some [iv x, iv y] := loadRow_of (l := [iv x, iv y]) h1 (by simp) (fun i v hi => by
    match i with
    | 0 => simp at hi; subst hi; exact h2
    | 1 => simp at hi; subst hi; exact h3
    | i + 2 => simp at hi)
  rw [this]
theorem field_Z0 {b : Nat} : evFieldAddr T0 209 (.pointer (some ⟨b, 0, none⟩)) 0 = some (.pointer (some ⟨b, 0, none⟩)) := by kernel_rfl
theorem field_Z1 {b : Nat} : evFieldAddr T0 209 (.pointer (some ⟨b, 0, none⟩)) 1 = some (.pointer (some ⟨b, 1, none⟩)) := by kernel_rfl
theorem BoxZ.load0 {h : AH} {b : Nat} {x y : Int} (hb : BoxZ h b x y) : evLoad T0 3 (.pointer (some ⟨b, 0, none⟩)) h = some (iv x) := by
  obtain ⟨c, h1, h2, h3⟩ := hb
  exact load_one agg_int h1 (by omega) h2
theorem BoxZ.load1 {h : AH} {b : Nat} {x y : Int} (hb : BoxZ h b x y) : evLoad T0 3 (.pointer (some ⟨b, 1, none⟩)) h = some (iv y) := by
  obtain ⟨c, h1, h2, h3⟩ := hb
  exact load_one agg_int h1 (by omega) h3
theorem rOf_S (hp : ∀ (x : Nat) h, x ≤ 1048576 → call 204 [fl x] h = some (.tuple #[iv x, .bool true], h)) (x y : Nat) (hx : x ≤ 1048576) (hy : y ≤ 1048576) (h : AH) :
    ∃ h', frameB T0 X0 call 3000 173 [cx x y] h = some (.tuple #[zv x y, .bool true], h') ∧ Grow h.next h h' := by
  generalize hh1 : h.new (.cells (PM.ofList [iv 0, iv 0]) 2 209 0 0 .ex) = h1
  have g1 : Grow h.next h h1 := by rw [← hh1]; exact Grow.new _ _
  have hb1 : BoxZ h1 h.next 0 0 := by rw [← hh1]; exact BoxZ.new _ _ _
  obtain ⟨h2, s1, s2, s3, s4⟩ := hb1.store (u := x) (v := y) (n := h.next) (Nat.le_refl _)
  refine ⟨h2, ?_, g1.trans s3 (Nat.le_refl _)⟩
  rw [frameB_eq ft173 rfl rfl]
  simp only [Tryz.f173, symM, opFn, Nat.reduceLT, Nat.reduceBEq, alloc_Z, hh1, evCall_fn ft204 rfl, hp x _ hx, hp y _ hy, build_Z, s1]
  exact retB_cell1 ft173 rfl (by simp only [symM, Nat.reduceBEq]) s2.load get_same
theorem plan_Parts : planB (part Tryz.f132 [1, 1, 0] |> fun | .region _ ops _ => ops | _ => #[]) 35 = some ([.one 0, .one 1, .one 2, .one 3, .one 4, .one 5, .one 6, .one 7, .one 8, .one 9, .one 10, .one 11, .one 12, .one 13, .one 14, .one 15, .one 16, .one 17, .one 18, .one 19, .one 20, .one 21, .one 22, .one 23, .one 24, .one 25], []) := by kernel_rfl
theorem rParts_S (x y : Nat) (h : AH) (hO : ∃ h', call 173 [cx x y] h = some (.tuple #[zv x y, .bool true], h') ∧ Grow h.next h h') (hx : x ≤ 1048576) (hy : y ≤ 1048576) :
    ∃ h', frameB T0 X0 call 3000 132 [cx x y] h = some (.tuple #[iv x, iv y, .bool (runOK x y)], h') ∧ Grow h.next h h' := by
  obtain ⟨h1, e1, g1⟩ := hO
  generalize hh2 : h1.new (.cells (PM.ofList [iv 0, iv 0]) 2 209 0 0 .ex) = h2
  have g2 : Grow h1.next h1 h2 := by rw [← hh2]; exact Grow.new _ _
  have hb2 : BoxZ h2 h1.next 0 0 := by rw [← hh2]; exact BoxZ.new _ _ _
  obtain ⟨h3, s1, s2, s3, s4⟩ := hb2.store (u := x) (v := y) (n := h1.next) (Nat.le_refl _)
  refine ⟨h3, ?_, g1.trans (g2.trans s3 (Nat.le_refl _)) g1.next⟩
  have hw : IntKind.i64.wrap ((x : Int) + y) = ((x + y : Nat) : Int) := by rw [IntWalk.i64_in _ (by omega)]; simp
  have hp := plan_Parts
  simp only [part, Tryz.f132, sub] at hp
  rw [frameB_eq ft132 rfl rfl]
  unfold runOK
  by_cases h1y : 1 ≤ y
  · have k1 : decide ((1 : Int) ≤ y) = true := decide_eq_true (by omega)
    have k3 : decide (((x + y : Nat) : Int) ≤ 480) = decide (1 ≤ y ∧ x + y ≤ 480) := decide_eq_decide.2 (by omega)
    simp only [Tryz.f132, symM, opFn, Nat.reduceLT, Nat.reduceBEq, alloc_Z, evCall_fn ft173 rfl, e1, hh2, s1, codeB_draw]
    rw [draw_plan hp rfl]
    simp only [drawAll, opFn, Nat.reduceBEq, field_Z0, field_Z1, s2.load0, s2.load1, bin_geq, decide_eq_true (show (0 : Int) ≤ x by omega), k1, bin_add, hw, bin_leq, k3]
    exact retB_three ft132 rfl (by simp only [symM, Nat.reduceBEq]) (by simp only [symM, Nat.reduceBEq]) get_same
  · have k1 : decide ((1 : Int) ≤ y) = false := decide_eq_false (by omega)
    have k3 : decide (1 ≤ y ∧ x + y ≤ 480) = false := decide_eq_false (by omega)
    rw [k3]
    simp only [Tryz.f132, symM, opFn, Nat.reduceLT, Nat.reduceBEq, alloc_Z, evCall_fn ft173 rfl, e1, hh2, s1, codeB_draw]
    rw [draw_plan hp rfl]
    simp only [drawAll, opFn, Nat.reduceBEq, field_Z0, field_Z1, s2.load0, s2.load1, bin_geq, decide_eq_true (show (0 : Int) ≤ x by omega), k1]
    exact retB_three ft132 rfl (by simp only [symM, Nat.reduceBEq]) (by simp only [symM, Nat.reduceBEq]) get_same
theorem und_bools : und T0 37 = some (.slice 4) := by kernel_rfl
theorem sz_bool : szOf T0 4 = some 1 := by kernel_rfl
theorem agg_bool : aggT T0 4 = some false := by kernel_rfl
theorem zero_bool : zeroOf T0 4 = some (.bool false) := by kernel_rfl
theorem tt_bool : T0.tt.get 4 = some (infoOf 4) := by kernel_rfl
theorem ti_bool : (infoOf 4).zero = some (.bool false) ∧ (infoOf 4).size = 1 ∧ (infoOf 4).bytes ≤ 64 := ⟨by kernel_rfl, by kernel_rfl, Nat.le_of_ble_eq_true (by kernel_rfl)⟩
theorem bs_bool {b : Bool} {h : AH} : evBuildSlice T0 37 1 [(0, .bool b)] h = some (.slice (some ⟨h.next, 0, none⟩) 1 1, h.new (.cells (PM.ofList [.bool b]) 1 4 0 0 .ex)) := bs_one und_bools sz_bool zero_bool rfl rfl
theorem bs_bool0 {h : AH} : evBuildSlice T0 37 0 [] h = some (.slice (some ⟨h.next, 0, none⟩) 0 0, h.new (.cells (PM.ofList []) 0 4 0 0 .ex)) := bs_zero und_bools sz_bool zero_bool
def boolsV (f : Nat → Bool) (a k : Nat) : List Value := (List.range' a k).map fun i => .bool (f i)
theorem boolsV_at (f : Nat → Bool) {k i : Nat} (h : i < k) : (boolsV f 0 k)[i]? = some (.bool (f i)) := by
  simp [boolsV, h]
theorem boolsV_snoc (f : Nat → Bool) (k : Nat) : boolsV f 0 k ++ [.bool (f k)] = boolsV f 0 (k + 1) := by
  simp [boolsV, List.range'_concat]
theorem boolsV_len (f : Nat → Bool) (a k : Nat) : (boolsV f a k).length = k := by simp [boolsV]
theorem boolsV_set (f : Nat → Bool) (k i : Nat) (x : Bool) : (boolsV f 0 k).set i (.bool x) = boolsV (fun j => if j = i then x else f j) 0 k := by
  apply List.ext_getElem?
  intro j
  rw [List.getElem?_set]
  by_cases hj : j < k
  · rw [boolsV_at _ hj]
    by_cases hij : i = j
    · subst hij; rw [if_pos rfl, if_pos (by rw [boolsV_len]; exact hj), boolsV_at _ hj, if_pos rfl]
    · rw [if_neg hij, boolsV_at _ hj, if_neg (fun q => hij q.symm)]
  · have h1 : (boolsV f 0 k)[j]? = none := List.getElem?_eq_none (by rw [boolsV_len]; omega)
    have h2 : (boolsV (fun j => if j = i then x else f j) 0 k)[j]? = none := List.getElem?_eq_none (by rw [boolsV_len]; omega)
    rw [h1, h2]
    by_cases hij : i = j
    · rw [if_pos hij, if_neg (by rw [boolsV_len]; omega)]
    · rw [if_neg hij]
theorem boolsV_congr (f g : Nat → Bool) (k : Nat) (h : ∀ j, j < k → f j = g j) : boolsV f 0 k = boolsV g 0 k := by
  unfold boolsV
  apply List.map_congr_left
  intro j hj
  rw [List.mem_range'_1] at hj
  rw [h j (by omega)]
theorem Row.more {n k : Nat} {h : AH} {v : Value} {l : List Value} {e : TypeId} (hr : Row n h v l e) (hn : n ≤ k) : Row k h v l e := by
  rcases hr with h1 | ⟨b, o, cap, c, m, lo, hi, kd, el, h1, h2, h3⟩
  · exact .inl h1
  · exact .inr ⟨b, o, cap, c, m, lo, hi, kd, el, h1, Nat.lt_of_lt_of_le h2 hn, h3⟩
theorem wz {z : Int} (h : -4000000 ≤ z ∧ z ≤ 4000000) : IntKind.i64.wrap z = z := by rw [IntWalk.i64_in _ (by omega)]
theorem wadd {a b : Nat} (h : a + b ≤ 4000000) : IntKind.i64.wrap ((a : Int) + b) = ((a + b : Nat) : Int) := by rw [wz (by omega)]; omega
theorem wadd1 {a : Nat} (h : a ≤ 400000) : IntKind.i64.wrap ((a : Int) + 1) = ((a + 1 : Nat) : Int) := by rw [wz (by omega)]; omega
theorem retB_zero {f : Nat} {tm : PM Value} {h : AH} {fd : Func} (hf : T0.ft.get f = some fd) (hr : fd.results = #[]) : retB T0 f tm h [] = some (.tuple #[], h) := by
  unfold retB undef1
  simp only [resultA, hf, hr]
  rfl
theorem use_loop {N : Nat} {E : Env} {b : Code} {tm : PM Value} {h : AH} {df : List Nat} {X : CO} {P : CO → Prop} (hX : codeB T0 X0 call N E (.loop b) tm h df = X)
    (H : P (codeB T0 X0 call N E (.loop b) tm h df)) : P X := hX ▸ H
theorem use_exit {N : Nat} {E : Env} {b : Code} {tm : PM Value} {h : AH} {df : List Nat} {i : Nat} {X : CO} {Q : PM Value → AH → Prop} (hX : codeB T0 X0 call N E (.loop b) tm h df = X)
    (H : ∃ tm' h', codeB T0 X0 call N E (.loop b) tm h df = .jump (.exit i) tm' h' df ∧ Q tm' h') : ∃ tm' h', X = .jump (.exit i) tm' h' df ∧ Q tm' h' := hX ▸ H
theorem nbF {a b : Nat} (h : (a == b) = false) : Nat.beq a b = false := by
  cases hb : Nat.beq a b with
  | false => rfl
  | true => have := Nat.eq_of_beq_eq_true hb; subst this; simp at h
theorem symL : type_of% (And.intro @loop_same (And.intro @unblock_exit (And.intro @Nat.beq_refl @nbF))) := And.intro @loop_same (And.intro @unblock_exit (And.intro @Nat.beq_refl @nbF))
theorem und_uint : und T0 176 = some (.int .u64) := by kernel_rfl
abbrev uv (n : Int) : Value := .int .u64 n
def BoxT (h : AH) (b : Nat) (ty : TypeId) (x : Value) : Prop := b < h.next ∧ ∃ c, h.get b = some (.cells c 1 ty 0 0 .ex) ∧ c.get 0 = some x
abbrev ptr (b : Nat) : Value := .pointer (some ⟨b, 0, none⟩)
theorem BoxT.load {h : AH} {b : Nat} {ty : TypeId} {x : Value} (hb : BoxT h b ty x) (ha : aggT T0 ty = some false) : evLoad T0 ty (ptr b) h = some x := by
  obtain ⟨_, c, h1, h2⟩ := hb
  exact load_one ha h1 (by omega) h2
theorem BoxT.store {h : AH} {b : Nat} {ty : TypeId} {x y : Value} (hb : BoxT h b ty x) (hs : szOf T0 ty = some 1) (hy : oneCell y = true) :
    ∃ h', evStore T0 ty (ptr b) y h = some h' ∧ BoxT h' b ty y ∧ h'.next = h.next ∧ ∀ k, k ≠ b → h'.get k = h.get k := by
  obtain ⟨h0, c, h1, h2⟩ := hb
  refine ⟨h.set b (.cells (storeN c 0 [y]) 1 ty 0 0 .ex), ?_, ⟨h0, _, by rw [AH.get_set, if_pos rfl], by rw [storeN_get]; rfl⟩, rfl, fun k hk => by rw [AH.get_set, if_neg hk]⟩
  simp only [evStore, storeVarA, hs, cells_one hy]
  rw [show Nat.beq [y].length 1 = true from rfl, ifB_true]
  simp only [storeRow, h1]
  have hw : writable 0 [y].length 1 0 0 = true := rfl
  have hall : ([y].all oneCell) = true := by simp [hy]
  simp only [hw, hall, Bool.and_self, ifB_true]
theorem BoxT.keep {h h' : AH} {b : Nat} {ty : TypeId} {x : Value} (hb : BoxT h b ty x) (hn : h.next ≤ h'.next) (hg : h'.get b = h.get b) : BoxT h' b ty x := by
  obtain ⟨h0, c, h1, h2⟩ := hb
  exact ⟨Nat.lt_of_lt_of_le h0 hn, c, hg.trans h1, h2⟩
theorem BoxT.new {h : AH} {ty : TypeId} {z : Value} : BoxT (h.new (.cells (PM.ofList [z]) 1 ty 0 0 .ex)) h.next ty z := ⟨Nat.lt_succ_self _, _, get_new_same _ _, by rw [PM.get_ofList]; rfl⟩
def Off (v : Value) (k : Nat) : Prop := ∀ o l c, v ≠ .slice (some ⟨k, o, none⟩) l c
theorem Own.apart {n : Nat} {h : AH} {v : Value} {l : List Value} {e : TypeId} (ho : Own n h v l e) {k : Nat} (hk : h.next ≤ k) : Off v k := by
  intro o l' c' hv
  rcases ho with ⟨rfl, _⟩ | ⟨b, c, kd, cap, _, q2, rfl, _⟩
  · cases hv
  · cases hv; omega
theorem Own.but {n : Nat} {h h' : AH} {v : Value} {l : List Value} {e : TypeId} (ho : Own n h v l e) {b : Nat} (hb : Off v b) (hn : h.next ≤ h'.next) (hg : ∀ k, k ≠ b → h'.get k = h.get k) : Own n h' v l e := by
  rcases ho with h1 | ⟨k, c, kd, cap, h1, h2, rfl, h4, h5⟩
  · exact .inl h1
  · exact .inr ⟨k, c, kd, cap, h1, Nat.lt_of_lt_of_le h2 hn, rfl, (hg k (fun e => by subst e; exact hb _ _ _ rfl)).trans h4, h5⟩
theorem Own.store2 {T : Tab} {t e : TypeId} (ht : und T t = some (.slice e)) (hs : szOf T e = some 1) {n : Nat} {h : AH} {v x y : Value} {l : List Value} (hv : Own n h v l e) (hx : oneCell x = true) {i : Nat} (hi : l[i]? = some y) :
    ∃ p h', evIndexAddr T t v (.int .i64 (i : Nat)) = some p ∧ evStore T e p x h = some h' ∧ Own n h' v (l.set i x) e ∧ Grow n h h' ∧ h'.next = h.next ∧ ∀ k, Off v k → h'.get k = h.get k := by
  obtain ⟨p, h', e1, e2, e3, e4, e5⟩ := hv.store ht hs hx hi
  refine ⟨p, h', e1, e2, e3, e4, e5, fun k hk => ?_⟩
  rcases hv with ⟨rfl, rfl⟩ | ⟨b, c, kd, cap, q1, q2, rfl, q4, q5, q6⟩
  · simp at hi
  · have hl := (List.getElem?_eq_some_iff.1 hi).1
    rw [idx_slice ht hs hl] at e1
    cases e1
    simp only [evStore, storeVarA, hs, cells_one hx] at e2
    rw [show Nat.beq [x].length 1 = true from rfl, ifB_true] at e2
    simp only [storeRow, q4] at e2
    have hkb : k ≠ b := fun e => by subst e; exact hk _ _ _ rfl
    have hkd : kd ≠ .ro := by rcases q6 with ⟨rfl, _⟩ | ⟨rfl, _⟩ <;> simp
    cases kd with
    | ro => exact absurd rfl hkd
    | _ =>
      obtain ⟨_, e2⟩ := ifB_some e2
      rw [← Option.some.inj e2, AH.get_set, if_neg hkb]
theorem bi_min {T : Tab} {ts : Array TypeId} {ty : TypeId} {k : IntKind} {x y : Int} {h : AH} : evBuiltin T .min ts ty [.int k x, .int k y] h = some (.value (.int k (if y < x then y else x)), h) := by
  simp only [evBuiltin, flatOp]
  rfl
theorem append_one2 {T : Tab} {sT e : TypeId} {i : TypeInfo} {z : Value} (hs : und T sT = some (.slice e)) (hi : T.tt.get e = some i) (hz : i.zero = some z) (h1 : i.size = 1) (hb : i.bytes ≤ 64)
    {n : Nat} {h : AH} {v x : Value} {l : List Value} (hv : Own n h v l e) (hx : oneCell x = true) (hl : l.length < 1000000) (hn : n ≤ h.next) (ty : TypeId) :
    ∃ v' h', evBuiltin T .append #[sT, sT] ty [v, .slice (some ⟨h.next, 0, none⟩) 1 1] (h.new (.cells (PM.ofList [x]) 1 e 0 0 .ex)) = some (.value v', h') ∧ Own h.next h' v' (l ++ [x]) e ∧ Grow n h h' ∧ ∀ k, k < h.next → Off v k → h'.get k = h.get k := by
  have happ : appendedA T sT i z (.slice (some ⟨h.next, 0, none⟩) 1 1) (h.new (.cells (PM.ofList [x]) 1 e 0 0 .ex)) = some (1, [x]) := by
    unfold appendedA
    simp only [hs, lenOfA, firstA, h1]
    rw [show loadRow (h.new (.cells (PM.ofList [x]) 1 e 0 0 .ex)) h.next 0 (1 * 1) = some [x] from loadRow_of (l := [x]) (get_new_same _ _) (by simp) (fun i y hy => by rw [Nat.zero_add, PM.get_ofList]; exact hy)]
    rfl
  have hbnd : (Nat.ble ((l.length + 1) * i.bytes) 17592186044416 && Nat.ble (l.length + 1) 17592186044416) = true := by
    have h2 : (l.length + 1) * i.bytes ≤ 1000000 * 64 := Nat.mul_le_mul (by omega) hb
    rw [Nat.ble_eq_true_of_le (by omega), Nat.ble_eq_true_of_le (by omega)]
    rfl
  have key : ∀ (hh : AH), Grow n h hh → n ≤ hh.next → h.next ≤ hh.next → (∀ k, k < h.next → Off v k → hh.get k = h.get k) → ∃ v' h', (some (Out.value (grown hh e (l.length + 1) ((l.length + 1) * i.size) (l ++ [x])).1, (grown hh e (l.length + 1) ((l.length + 1) * i.size) (l ++ [x])).2) : Res) = some (.value v', h') ∧ Own h.next h' v' (l ++ [x]) e ∧ Grow n h h' ∧ ∀ k, k < h.next → Off v k → h'.get k = h.get k := by
    intro hh g hnn hnx hkp
    refine ⟨_, _, rfl, ?_, ?_, ?_⟩
    · refine .inr ⟨hh.next, PM.ofList (l ++ [x]), .loose, XB + (l.length + 1), hnx, Nat.lt_succ_self _, ?_, ?_, fun i y hy => by rw [PM.get_ofList]; exact hy, .inr ⟨rfl, by simp⟩⟩
      · simp [grown]
      · simp only [grown, h1]; rw [get_new_same]; simp
    · exact g.trans ((Grow.new hh _).less hnn) (Nat.le_refl _)
    · intro k hk hoff
      rw [← hkp k hk hoff]
      simp only [grown, AH.get_new]
      rw [if_neg (by omega)]
  have knew : ∀ k, k < h.next → Off v k → (h.new (.cells (PM.ofList [x]) 1 e 0 0 .ex)).get k = h.get k := fun k hk _ => by rw [AH.get_new, if_neg (by omega)]
  have gnew : Grow n h (h.new (.cells (PM.ofList [x]) 1 e 0 0 .ex)) := (Grow.new h _).less hn
  have hev : ∀ {p : Value × AH}, evAppend T sT sT v (.slice (some ⟨h.next, 0, none⟩) 1 1) (h.new (.cells (PM.ofList [x]) 1 e 0 0 .ex)) = some p →
      evBuiltin T .append #[sT, sT] ty [v, .slice (some ⟨h.next, 0, none⟩) 1 1] (h.new (.cells (PM.ofList [x]) 1 e 0 0 .ex)) = some (.value p.1, p.2) := by
    intro p hp
    show (match evAppend T sT sT v (.slice (some ⟨h.next, 0, none⟩) 1 1) (h.new (.cells (PM.ofList [x]) 1 e 0 0 .ex)) with
      | some p => (some (Out.value p.1, p.2) : Res)
      | none => none) = _
    rw [hp]
  rcases hv with ⟨rfl, rfl⟩ | ⟨b, c, kd, cap, q1, q2, rfl, q4, q5, q6⟩
  · obtain ⟨v', h', k1, k2⟩ := key _ gnew (Nat.le_succ_of_le hn) (Nat.le_succ _) knew
    refine ⟨v', h', ?_, k2⟩
    rw [← k1]
    apply hev
    unfold evAppend
    simp only [hs, hi, hz, happ, appendTo]
    rw [show Nat.ble (0 + 1) (capOf 0) = false from rfl, ifB_false]
    rw [show (Nat.ble ((0 + 1) * i.bytes) 17592186044416 && Nat.ble (0 + 1) 17592186044416) = true from hbnd]
    rfl
  · have hold : firstA i.size l.length (h.new (.cells (PM.ofList [x]) 1 e 0 0 .ex)) (.slice (some ⟨b, 0, none⟩) l.length cap) = some l := by
      unfold firstA
      cases hl0 : l with
      | nil => rfl
      | cons y r =>
        rw [← hl0]
        show ifB (Nat.beq l.length 0) (some []) (ifB (Nat.ble l.length l.length) (loadRow (h.new (.cells (PM.ofList [x]) 1 e 0 0 .ex)) b 0 (l.length * i.size)) none) = some l
        rw [show Nat.beq l.length 0 = false from by rw [hl0]; rfl, ifB_false, Nat.ble_eq_true_of_le (Nat.le_refl _), ifB_true, h1, Nat.mul_one]
        refine loadRow_of (m := l.length) (c := c) (by rw [AH.get_new, if_neg (by omega)]; exact q4) (by simp) (fun i y hy => by rw [Nat.zero_add]; exact q5 i y hy)
    rcases q6 with ⟨rfl, rfl⟩ | ⟨rfl, rfl⟩
    · obtain ⟨v', h', k1, k2⟩ := key _ gnew (Nat.le_succ_of_le hn) (Nat.le_succ _) knew
      refine ⟨v', h', ?_, k2⟩
      rw [← k1]
      apply hev
      have hc : capOf l.length = l.length := by unfold capOf; rw [ble_no (by rw [XB_val]; omega)]; rfl
      unfold evAppend
      simp only [hs, hi, hz, happ, appendTo, hc]
      rw [ble_no (Nat.lt_succ_self l.length), ifB_false, hbnd, ifB_true, hold]
      simp only
      rw [ble_no (by rw [XB_val]; omega : l.length < XB)]
      rfl
    · have gdel : Grow n h ((h.new (.cells (PM.ofList [x]) 1 e 0 0 .ex)).del b) := by
        refine ⟨Nat.le_succ _, fun k hk => ?_⟩
        rw [AH.get_del, if_neg (by omega), AH.get_new, if_neg (by omega)]
      have kdel : ∀ k, k < h.next → Off (.slice (some ⟨b, 0, none⟩) l.length (XB + l.length)) k → ((h.new (.cells (PM.ofList [x]) 1 e 0 0 .ex)).del b).get k = h.get k := by
        intro k hk hoff
        rw [AH.get_del, if_neg (fun e => by subst e; exact hoff _ _ _ rfl), AH.get_new, if_neg (by omega)]
      obtain ⟨v', h', k1, k2⟩ := key _ gdel (Nat.le_succ_of_le hn) (Nat.le_succ _) kdel
      refine ⟨v', h', ?_, k2⟩
      rw [← k1]
      apply hev
      have hc : capOf (XB + l.length) = l.length := by unfold capOf; rw [Nat.ble_eq_true_of_le (by omega), ifB_true]; omega
      unfold evAppend
      simp only [hs, hi, hz, happ, appendTo, hc]
      rw [ble_no (Nat.lt_succ_self l.length), ifB_false, hbnd, ifB_true, hold]
      simp only
      rw [Nat.ble_eq_true_of_le (by omega : XB ≤ XB + l.length), ifB_true]
      have hl : looseEl (h.new (.cells (PM.ofList [x]) 1 e 0 0 .ex)) b e = true := by
        unfold looseEl
        rw [AH.get_new, if_neg (by omega), q4]
        show (Nat.beq e e && Nat.ble 0 0) = true
        rw [Nat.beq_refl]; rfl
      rw [hl]
      simp [hx, ifB]
theorem Own.off {n : Nat} {h : AH} {v : Value} {l : List Value} {e : TypeId} (ho : Own n h v l e) {k : Nat} (hk : k < n) : Off v k := by
  intro o l' c' hv
  rcases ho with ⟨rfl, _⟩ | ⟨b, c, kd, cap, q1, q2, rfl, _⟩
  · cases hv
  · cases hv; omega
theorem make_bools {h : AH} {k : Nat} (hk : k ≤ 1000) : ∃ h', evMakeSlice T0 37 (iv k) (iv k) h = some (.slice (some ⟨h.next, 0, none⟩) k k, h') ∧ Own h.next h' (.slice (some ⟨h.next, 0, none⟩) k k) (boolsV (fun _ => false) 0 k) 4 ∧ Grow h.next h h' := by
  refine ⟨newCells h 4 (fillPM (.bool false) (k * (infoOf 4).size)) (k * (infoOf 4).size), ?_, ?_, Grow.new _ _⟩
  · have hb : (Nat.ble k k && (Nat.ble ((infoOf 4).bytes * k) 17592186044416 && Nat.ble k 17592186044416)) = true := by
      have h2 : (infoOf 4).bytes * k ≤ 64 * 1000 := Nat.mul_le_mul ti_bool.2.2 hk
      rw [Nat.ble_eq_true_of_le (Nat.le_refl _), Nat.ble_eq_true_of_le (by omega), Nat.ble_eq_true_of_le (by omega)]
      rfl
    unfold evMakeSlice
    simp only [und_bools, tt_bool, ti_bool.1]
    rw [show natOf (iv k) = some k from rfl]
    simp only
    rw [hb, ifB_true]
  · rw [ti_bool.2.1, Nat.mul_one]
    refine .inr ⟨h.next, fillPM (.bool false) k, .ex, k, Nat.le_refl _, Nat.lt_succ_self _, by rw [boolsV_len], ?_, ?_, .inl ⟨rfl, by rw [boolsV_len]⟩⟩
    · unfold newCells
      rw [get_new_same, boolsV_len]
    · intro i x hx
      have hi : i < k := by
        have := (List.getElem?_eq_some_iff.1 hx).1
        rwa [boolsV_len] at this
      rw [boolsV_at _ hi] at hx
      cases hx
      rw [fillPM_get _ _ _ hi]
      show some ((#[Value.bool false] : Array Value)[i % 1]!) = _
      rw [Nat.mod_one]
      rfl
theorem c_neq {T : Tab} {t : TypeId} {p q : Operand} {h : AH} {x y u v : Int} (hx : Abs.zok x = true) (hy : Abs.zok y = true) (hu : Abs.zok u = true) (hv : Abs.zok v = true) :
    evBin T .neq t p q (.complex .f64 (zd x) (zd y)) (.complex .f64 (zd u) (zd v)) h = some (.bool (!(decide (x = u) && decide (y = v)))) := by
  show orV (fastC .neq (zd x) (zd y) (zd u) (zd v)) (slowBin T .neq t p q (.complex .f64 (zd x) (zd y)) (.complex .f64 (zd u) (zd v))) = _
  have hn : fastC .neq (zd x) (zd y) (zd u) (zd v) = none := by unfold fastC; rw [dz_zd hx, dz_zd hy, dz_zd hu, dz_zd hv]
  rw [hn, slow_of (v := .bool (!(decide (x = u) && decide (y = v)))) ?_ rfl]; · rfl
  show Op.complexOp .neq .f64 (zd x) (zd y) (zd u) (zd v) = _
  simp only [Op.complexOp, Op.Complex.cmp, cmp_eql hx hu, cmp_eql hy hv]
  rfl
end
end Go.Proofs.YtjdhdhmoedlfdaaGreat.Abs
namespace Go.Proofs.YtjdhdhmoedlfdaaGreat.Abs
open Go Go.Proofs
noncomputable section
variable {call : Abs.Callee}
set_option maxRecDepth 10000
theorem ft76 : T0.ft.get 76 = some Tryz.f76 := by kernel_rfl
theorem ft137 : T0.ft.get 137 = some Tryz.f137 := by kernel_rfl
theorem ft175 : T0.ft.get 175 = some Tryz.f175 := by kernel_rfl
theorem ft176 : T0.ft.get 176 = some Tryz.f176 := by kernel_rfl
theorem ft177 : T0.ft.get 177 = some Tryz.f177 := by kernel_rfl
theorem ft205 : T0.ft.get 205 = some Tryz.f205 := by kernel_rfl
theorem ft219 : T0.ft.get 219 = some Tryz.f219 := by kernel_rfl
theorem ft135 : T0.ft.get 135 = some Tryz.f135 := by kernel_rfl
theorem ft174 : T0.ft.get 174 = some Tryz.f174 := by kernel_rfl
theorem und_u32 : und T0 122 = some (.int .u32) := by kernel_rfl
theorem zd_2 : zd 2 = 4611686018427387904 := by decide
theorem zd_1 : zd 1 = 4607182418800017408 := by decide
theorem c_mul21 {T : Tab} {t : TypeId} {p q : Operand} {h : AH} {x y : Nat} (hx : x < 65536) (hy : y < 65536) :
    evBin T .mul t p q (.complex .f64 (zd (x : Int)) (zd (y : Int))) (.complex .f64 4611686018427387904 4607182418800017408) h = some (.complex .f64 (zd ((x : Int) * 2 - (y : Int) * 1)) (zd ((x : Int) * 1 + (y : Int) * 2))) := by
  rw [← zd_2, ← zd_1]
  show orV (fastC .mul (zd (x : Int)) (zd (y : Int)) (zd 2) (zd 1)) _ = _
  have k1 : mulz (x : Int) 2 = some ((x : Int) * 2) := by unfold mulz; rw [zok_k (by omega)]; rfl
  have k2 : mulz (y : Int) 1 = some ((y : Int) * 1) := by unfold mulz; rw [zok_k (by omega)]; rfl
  have k3 : mulz (x : Int) 1 = some ((x : Int) * 1) := by unfold mulz; rw [zok_k (by omega)]; rfl
  have k4 : mulz (y : Int) 2 = some ((y : Int) * 2) := by unfold mulz; rw [zok_k (by omega)]; rfl
  have k5 : subz ((x : Int) * 2) ((y : Int) * 1) = some ((x : Int) * 2 - (y : Int) * 1) := by unfold subz; rw [zok_k (by omega)]
  have k6 : addz ((x : Int) * 1) ((y : Int) * 2) = some ((x : Int) * 1 + (y : Int) * 2) := by unfold addz; rw [zok_k (by omega)]
  have k7 : mulC (x : Int) y 2 1 = some ((x : Int) * 2 - (y : Int) * 1, (x : Int) * 1 + (y : Int) * 2) := by unfold mulC; rw [k1, k2, k3, k4]; simp only [k5, k6]
  have : fastC .mul (zd (x : Int)) (zd (y : Int)) (zd 2) (zd 1) = some (.complex .f64 (zd ((x : Int) * 2 - (y : Int) * 1)) (zd ((x : Int) * 1 + (y : Int) * 2))) := by
    unfold fastC
    rw [dz_zd (zok_k (by omega)), dz_zd (zok_k (by omega)), dz_zd (by decide), dz_zd (by decide)]
    simp only [k7]
  rw [this]; rfl
theorem c_addF {T : Tab} {t : TypeId} {p q : Operand} {h : AH} {u v a : Int} (hu : u.natAbs < 1000000) (hv : v.natAbs < 1000000) (ha : a.natAbs < 1000000) :
    evBin T .add t p q (.complex .f64 (zd u) (zd v)) (.complex .f64 (zd a) 0) h = some (.complex .f64 (zd (u + a)) (zd v)) := by
  rw [show (0 : Nat) = zd 0 from zd_zero.symm]
  show orV (fastC .add (zd u) (zd v) (zd a) (zd 0)) _ = _
  have k1 : addz u a = some (u + a) := by unfold addz; rw [zok_k (by omega)]
  have k2 : addz v 0 = some v := by unfold addz; rw [zok_k (by omega)]; simp
  have : fastC .add (zd u) (zd v) (zd a) (zd 0) = some (.complex .f64 (zd (u + a)) (zd v)) := by
    unfold fastC
    rw [dz_zd (zok_k (by omega)), dz_zd (zok_k (by omega)), dz_zd (zok_k (by omega)), dz_zd (by decide)]
    simp only [k1, k2]
  rw [this]; rfl
theorem tmod_p {z : Int} (h1 : -65521 < z) : (if z.tmod 65521 < 0 then z.tmod 65521 + 65521 else z.tmod 65521) = z % 65521 := by
  by_cases h : 0 ≤ z
  · rw [Int.tmod_eq_emod_of_nonneg h, if_neg (by omega)]
  · have e : z.tmod 65521 = z := by
      obtain ⟨k, hk⟩ : ∃ k : Nat, z = -(k : Int) := ⟨z.natAbs, by omega⟩
      subst hk
      rw [Int.neg_tmod, Int.tmod_eq_emod_of_nonneg (by omega), Int.emod_eq_of_lt (by omega) (by omega)]
    rw [e, if_pos (by omega)]
    omega
theorem i64_small {z : Int} (h : z.natAbs < 1000000000) : IntKind.i64.min ≤ z ∧ z ≤ IntKind.i64.max := by
  have e1 : IntKind.i64.min = -9223372036854775808 := by decide
  have e2 : IntKind.i64.max = 9223372036854775807 := by decide
  omega
theorem mod_S (z : Int) (h1 : -65521 < z) (h2 : z < 1000000) (h : AH) : frameB T0 X0 call 3000 219 [fl z] h = some (fl (z % 65521), h) := by
  have hm := tmod_p h1
  rw [frameB_eq ft219 rfl rfl]
  have hc := fun h => conv_f2i (T := T0) (h := h) und_f64 und_int (zok_k (x := z) (by omega)) (i64_small (by omega))
  have hz : Abs.zok (z % 65521) = true := zok_k (by omega)
  by_cases hn : z.tmod 65521 < 0
  · rw [if_pos hn] at hm
    have hw : IntKind.i64.wrap (z.tmod 65521 + 65521) = z % 65521 := by rw [hm]; exact wz (by omega)
    simp only [Tryz.f219, symM, opFn, Nat.reduceLT, Nat.reduceBEq, hc, bin_tmod (show (65521 : Int) ≠ 0 by decide), bin_lss, decide_eq_true hn, bin_add, hw, conv_i2f und_int und_f64 hz]
    exact retB_one ft219 rfl get_same
  · rw [if_neg hn] at hm
    have hz2 : Abs.zok (z.tmod 65521) = true := by rw [hm]; exact hz
    simp only [Tryz.f219, symM, opFn, Nat.reduceLT, Nat.reduceBEq, hc, bin_tmod (show (65521 : Int) ≠ 0 by decide), bin_lss, decide_eq_false hn, conv_i2f und_int und_f64 hz2]
    rw [hm]
    exact retB_one ft219 rfl get_same
theorem reduce_S (hM : ∀ (z : Int) (h : AH), -65521 < z → z < 1000000 → call 219 [fl z] h = some (fl (z % 65521), h)) (x y : Int) (hx1 : -65521 < x) (hx2 : x < 1000000) (hy1 : -65521 < y) (hy2 : y < 1000000) (h : AH) :
    frameB T0 X0 call 3000 205 [cx x y] h = some (cx (x % 65521) (y % 65521), h) := by
  rw [frameB_eq ft205 rfl rfl]
  simp only [Tryz.f205, symM, opFn, Nat.reduceLT, Nat.reduceBEq, evCall_fn ft219 rfl, hM x _ hx1 hx2, hM y _ hy1 hy2]
  exact retB_one ft205 rfl get_same
def spinStep (s : Nat × Nat) (x : Nat) : Nat × Nat := ((2 * s.1 + 65521 - s.2 + x) % 65521, (s.1 + 2 * s.2) % 65521)
def spinN (bs : List Nat) : Nat × Nat := bs.foldl spinStep (1, 0)
def spinU (s : Nat × Nat) : Nat := s.1 * 65536 + s.2
theorem step_S (hR : ∀ (x y : Int) (h : AH), -65521 < x → x < 1000000 → -65521 < y → y < 1000000 → call 205 [cx x y] h = some (cx (x % 65521) (y % 65521), h)) (s : Nat × Nat) (x : Nat) (h1 : s.1 < 65521) (h2 : s.2 < 65521) (hx : x < 256) (h : AH) :
    frameB T0 X0 call 3000 176 [cx s.1 s.2, .int .u8 x] h = some (cx (spinStep s x).1 (spinStep s x).2, h) := by
  rw [frameB_eq ft176 rfl rfl]
  have hr := hR ((s.1 : Int) * 2 - (s.2 : Int) * 1 + x) ((s.1 : Int) * 1 + (s.2 : Int) * 2) h (by omega) (by omega) (by omega) (by omega)
  have e1 : ((s.1 : Int) * 2 - (s.2 : Int) * 1 + x) % 65521 = ((spinStep s x).1 : Int) := by unfold spinStep; simp only; omega
  have e2 : ((s.1 : Int) * 1 + (s.2 : Int) * 2) % 65521 = ((spinStep s x).2 : Int) := by unfold spinStep; simp only; omega
  rw [e1, e2] at hr
  simp only [Tryz.f176, symM, opFn, Nat.reduceLT, Nat.reduceBEq, c_mul21 (show s.1 < 65536 by omega) (show s.2 < 65536 by omega), conv_i2f und_u8 und_f64 (zok_k (x := (x : Int)) (by omega)), c_addF (u := (s.1 : Int) * 2 - (s.2 : Int) * 1) (v := (s.1 : Int) * 1 + (s.2 : Int) * 2) (a := (x : Int)) (by omega) (by omega) (by omega), evCall_fn ft205 rfl, hr]
  exact retB_one ft176 rfl get_same
theorem wu32 {n : Nat} (h : n < 4294967296) : IntKind.u32.wrap (n : Int) = (n : Int) := by rw [IntKind.wrap]; simp [IntKind.bits, IntKind.signed]; omega
abbrev wv (n : Int) : Value := .int .u32 n
theorem u32_range {x : Nat} (h : x < 65536) : IntKind.u32.min ≤ (x : Int) ∧ (x : Int) ≤ IntKind.u32.max := by
  have e1 : IntKind.u32.min = 0 := by decide
  have e2 : IntKind.u32.max = 4294967295 := by decide
  omega
theorem spinStep_lt (s : Nat × Nat) (x : Nat) : (spinStep s x).1 < 65521 ∧ (spinStep s x).2 < 65521 := ⟨Nat.mod_lt _ (by omega), Nat.mod_lt _ (by omega)⟩
theorem sum_S (s : Nat × Nat) (h1 : s.1 < 65521) (h2 : s.2 < 65521) (h : AH) : frameB T0 X0 call 3000 177 [cx s.1 s.2] h = some (wv (spinU s), h) := by
  rw [frameB_eq ft177 rfl rfl]
  have c1 := fun h => conv_f2i (T := T0) (h := h) und_f64 und_u32 (zok_k (x := (s.1 : Int)) (by omega)) (u32_range (show s.1 < 65536 by omega))
  have c2 := fun h => conv_f2i (T := T0) (h := h) und_f64 und_u32 (zok_k (x := (s.2 : Int)) (by omega)) (u32_range (show s.2 < 65536 by omega))
  have w1 : IntKind.u32.wrap ((s.1 : Int) * 65536) = ((s.1 * 65536 : Nat) : Int) := by rw [show (s.1 : Int) * 65536 = ((s.1 * 65536 : Nat) : Int) by omega]; exact wu32 (by omega)
  have w2 : IntKind.u32.wrap (((s.1 * 65536 : Nat) : Int) + (s.2 : Int)) = ((spinU s : Nat) : Int) := by unfold spinU; rw [show ((s.1 * 65536 : Nat) : Int) + (s.2 : Int) = ((s.1 * 65536 + s.2 : Nat) : Int) by omega]; exact wu32 (by omega)
  simp only [Tryz.f177, symM, opFn, Nat.reduceLT, Nat.reduceBEq, c1, c2, bin_mul, w1, bin_add, w2]
  exact retB_one ft177 rfl get_same
theorem from_S (hR : ∀ (x y : Int) (h : AH), -65521 < x → x < 1000000 → -65521 < y → y < 1000000 → call 205 [cx x y] h = some (cx (x % 65521) (y % 65521), h)) (h : AH) :
    frameB T0 X0 call 3000 175 [wv 65536] h = some (cx ((1 : Nat) : Int) ((0 : Nat) : Int), h) := by
  rw [frameB_eq ft175 rfl rfl]
  have q1 : ∀ (T : Tab) t p q h, evBin T .quo t p q (wv 65536) (wv 65536) h = some (wv 1) := fun T t p q h => bin_quo (k := .u32) (m := 65536) (n := 65536) (by decide)
  have q2 : ∀ (T : Tab) t p q h, evBin T .rem t p q (wv 65536) (wv 65536) h = some (wv 0) := fun T t p q h => bin_rem (k := .u32) (m := 65536) (n := 65536) (by decide)
  have hr : call 205 [cx 1 0] h = some (cx ((1 : Nat) : Int) ((0 : Nat) : Int), h) := hR 1 0 h (by decide) (by decide) (by decide) (by decide)
  simp only [Tryz.f175, symM, opFn, Nat.reduceLT, Nat.reduceBEq, q1, q2, conv_i2f und_u32 und_f64 (show Abs.zok 1 = true by decide), conv_i2f und_u32 und_f64 (show Abs.zok 0 = true by decide), evCall_fn ft205 rfl, hr]
  exact retB_one ft175 rfl get_same
theorem spin_lt : ∀ (bs : List Nat) (s : Nat × Nat), s.1 < 65521 → s.2 < 65521 → (bs.foldl spinStep s).1 < 65521 ∧ (bs.foldl spinStep s).2 < 65521 := by
  intro bs
  induction bs with
  | nil => intro s h1 h2; exact ⟨h1, h2⟩
  | cons x l ih => intro s _ _; exact ih _ (spinStep_lt s x).1 (spinStep_lt s x).2
noncomputable def bodyMo : Code := part Tryz.f137 [1, 1, 0, 1, 0, 0]
abbrev EMo : Env := ⟨137, 22, none⟩
theorem moL (hS : ∀ (s : Nat × Nat) (x : Nat) (h : AH), s.1 < 65521 → s.2 < 65521 → x < 256 → call 176 [cx s.1 s.2, .int .u8 x] h = some (cx (spinStep s x).1 (spinStep s x).2, h)) (bs : List Nat) (hbs : ∀ x ∈ bs, x < 256) (hlen : bs.length ≤ 1000) (v : Value) (n0 : Nat) (h : AH) (hv : Row n0 h v (bytesV bs) 5) :
    ∀ (l : List Nat) (i : Nat) (s : Nat × Nat) (tm : PM Value) (N : Nat), bs.drop i = l → i + l.length = bs.length → l.length + 60 ≤ N → s.1 < 65521 → s.2 < 65521 → tm.get 5 = some (cx s.1 s.2) → tm.get 10 = some v → tm.get 11 = some (iv bs.length) → tm.get 12 = some (iv i) →
      ∃ tm' h', codeB T0 X0 call N EMo (.loop bodyMo) tm h [] = .jump (.exit 0) tm' h' [] ∧ (h' = h ∧ tm'.get 5 = some (cx (l.foldl spinStep s).1 (l.foldl spinStep s).2)) := by
  intro l
  induction l with
  | nil =>
    intro i s tm N hd hi hN h1 h2 g5 g10 g11 g12
    obtain ⟨N, rfl⟩ : ∃ a, N = a + 30 := ⟨N - 30, by simp at hN; omega⟩
    apply Exists.intro; apply Exists.intro; apply And.intro
    · rw [codeB_loop]
      simp only [bodyMo, part, Tryz.f137, sub, symM, opFn, Nat.reduceLT, g11, g12, bin_lss, decide_eq_false (show ¬ (i : Int) < (bs.length : Nat) by simp at hi; omega)]
      rfl
    · exact ⟨rfl, by simp only [symM, Nat.reduceBEq, g5]; rfl⟩
  | cons x l ih =>
    intro i s tm N hd hi hN h1 h2 g5 g10 g11 g12
    obtain ⟨N, rfl⟩ : ∃ a, N = a + 30 := ⟨N - 30, by simp at hN; omega⟩
    have hil : i < bs.length := by simp at hi; omega
    have hx : bs[i]? = some x := by have := congrArg (fun l => l[0]?) hd; simpa using this
    have hx2 := hbs x (List.mem_of_getElem? hx)
    obtain ⟨p, a1, a2⟩ := hv.at und_bytes sz_u8 agg_u8 (i := i) (x := .int .u8 (x : Int)) (by simp [bytesV, hx])
    rw [show N + 30 = (N + 29) + 1 from rfl, codeB_loop, List.foldl_cons]
    simp only [bodyMo, part, Tryz.f137, sub, symM, opFn, Nat.reduceLT, Nat.reduceBEq, g5, g10, g11, g12, bin_lss, decide_eq_true (show (i : Int) < (bs.length : Nat) by omega), a1, a2, evCall_fn ft176 rfl, hS s x h h1 h2 hx2, bin_add, wadd1 (show i ≤ 400000 by omega)]
    refine ih (i + 1) (spinStep s x) _ (N + 29) (by rw [← List.drop_drop, hd]; rfl) (by simp at hi ⊢; omega) (by simp at hN ⊢; omega) (spinStep_lt s x).1 (spinStep_lt s x).2 ?_ ?_ ?_ get_same <;> simp only [symM, Nat.reduceBEq, g10, g11]
theorem More_S (hF : ∀ (h : AH), call 175 [wv 65536] h = some (cx ((1 : Nat) : Int) ((0 : Nat) : Int), h)) (hS : ∀ (s : Nat × Nat) (x : Nat) (h : AH), s.1 < 65521 → s.2 < 65521 → x < 256 → call 176 [cx s.1 s.2, .int .u8 x] h = some (cx (spinStep s x).1 (spinStep s x).2, h))
    (hU : ∀ (s : Nat × Nat) (h : AH), s.1 < 65521 → s.2 < 65521 → call 177 [cx s.1 s.2] h = some (wv (spinU s), h)) (bs : List Nat) (hbs : ∀ x ∈ bs, x < 256) (hlen : bs.length ≤ 1000) (v : Value) (n0 : Nat) (h : AH) (hv : Row n0 h v (bytesV bs) 5) :
    frameB T0 X0 call 3000 137 [wv 65536, v] h = some (wv (spinU (spinN bs)), h) := by
  rw [frameB_eq ft137 rfl rfl]
  have hcl : (((bytesV bs).length : Nat) : Int) = (bs.length : Nat) := by simp [bytesV]
  simp only [Tryz.f137, symM, opFn, Nat.reduceLT, Nat.reduceBEq, symL, evCall_fn ft175 rfl, hF, hv.len und_bytes, hcl]
  generalize hX : codeB T0 X0 call _ EMo (.loop _) _ _ _ = X
  obtain ⟨t1, h1, e1, eh, p5⟩ := use_exit hX (moL hS bs hbs hlen v n0 h hv bs 0 (1, 0) _ _ rfl (by simp) (by omega) (by decide) (by decide) (by simp only [symM, Nat.reduceBEq]) (by simp only [symM, Nat.reduceBEq]) (by simp only [symM, Nat.reduceBEq]) (by simp only [symM]; rfl))
  clear hX
  rw [eh] at e1
  subst e1
  have hl := spin_lt bs (1, 0) (by decide) (by decide)
  simp only [symM, opFn, Nat.reduceLT, symL, p5, evCall_fn ft177 rfl, hU _ h hl.1 hl.2]
  exact retB_one ft137 rfl get_same
theorem Sum_S (hM : ∀ (bs : List Nat) (v : Value) (h : AH), (∀ x ∈ bs, x < 256) → bs.length ≤ 1000 → Row h.next h v (bytesV bs) 5 → call 137 [wv 65536, v] h = some (wv (spinU (spinN bs)), h)) (bs : List Nat) (hbs : ∀ x ∈ bs, x < 256) (hlen : bs.length ≤ 1000) (v : Value) (h : AH) (hv : Row h.next h v (bytesV bs) 5) :
    frameB T0 X0 call 3000 76 [v] h = some (wv (spinU (spinN bs)), h) := by
  rw [frameB_eq ft76 rfl rfl]
  simp only [Tryz.f76, symM, opFn, Nat.reduceLT, Nat.reduceBEq, evCall_fn ft137 rfl, hM bs v h hbs hlen hv]
  exact retB_one ft76 rfl get_same
noncomputable def bodyRm : Code := part Tryz.f174 [1, 1, 0, 1, 0, 0]
abbrev ERm : Env := ⟨174, 48, none⟩
theorem rmL (bs : List Nat) (hbs : ∀ x ∈ bs, x < 256) (hlen : bs.length ≤ 1000) (v : Value) (n0 : Nat) (h : AH) (hv : Row n0 h v (bytesV bs) 5) :
    ∀ (l : List Nat) (i : Nat) (s : Nat × Nat) (tm : PM Value) (N : Nat), bs.drop i = l → i + l.length = bs.length → l.length + 60 ≤ N → s.1 < 65521 → s.2 < 65521 → tm.get 1 = some v → tm.get 5 = some (iv s.1) → tm.get 6 = some (iv s.2) → tm.get 7 = some (iv i) →
      ∃ tm' h', codeB T0 X0 call N ERm (.loop bodyRm) tm h [] = .jump (.exit 0) tm' h' [] ∧ (h' = h ∧ tm'.get 5 = some (iv (l.foldl spinStep s).1) ∧ tm'.get 6 = some (iv (l.foldl spinStep s).2)) := by
  intro l
  have hcl : (((bytesV bs).length : Nat) : Int) = (bs.length : Nat) := by simp [bytesV]
  induction l with
  | nil =>
    intro i s tm N hd hi hN h1 h2 g1 g5 g6 g7
    obtain ⟨N, rfl⟩ : ∃ a, N = a + 30 := ⟨N - 30, by simp at hN; omega⟩
    apply Exists.intro; apply Exists.intro; apply And.intro
    · rw [codeB_loop]
      simp only [bodyRm, part, Tryz.f174, sub, symM, opFn, Nat.reduceLT, Nat.reduceBEq, g1, g7, hv.len und_bytes, hcl, bin_lss, decide_eq_false (show ¬ (i : Int) < (bs.length : Nat) by simp at hi; omega)]
      rfl
    · exact ⟨rfl, by simp only [symM, Nat.reduceBEq, g5]; rfl, by simp only [symM, Nat.reduceBEq, g6]; rfl⟩
  | cons x l ih =>
    intro i s tm N hd hi hN h1 h2 g1 g5 g6 g7
    obtain ⟨N, rfl⟩ : ∃ a, N = a + 30 := ⟨N - 30, by simp at hN; omega⟩
    have hil : i < bs.length := by simp at hi; omega
    have hx : bs[i]? = some x := by have := congrArg (fun l => l[0]?) hd; simpa using this
    have hx2 := hbs x (List.mem_of_getElem? hx)
    obtain ⟨p, a1, a2⟩ := hv.at und_bytes sz_u8 agg_u8 (i := i) (x := .int .u8 (x : Int)) (by simp [bytesV, hx])
    have w1 : IntKind.i64.wrap (2 * (s.1 : Int)) = 2 * (s.1 : Int) := wz (by omega)
    have w2 : IntKind.i64.wrap (2 * (s.1 : Int) - (s.2 : Int)) = 2 * (s.1 : Int) - (s.2 : Int) := wz (by omega)
    have w0 : IntKind.i64.wrap (x : Int) = (x : Int) := wz (by omega)
    have w3 : IntKind.i64.wrap (2 * (s.1 : Int) - (s.2 : Int) + (x : Int)) = 2 * (s.1 : Int) - (s.2 : Int) + (x : Int) := wz (by omega)
    have w4 : IntKind.i64.wrap (2 * (s.2 : Int)) = 2 * (s.2 : Int) := wz (by omega)
    have w5 : IntKind.i64.wrap ((s.1 : Int) + 2 * (s.2 : Int)) = (s.1 : Int) + 2 * (s.2 : Int) := wz (by omega)
    have t1 := tmod_p (z := 2 * (s.1 : Int) - (s.2 : Int) + (x : Int)) (by omega)
    have b1 : -65521 ≤ (2 * (s.1 : Int) - (s.2 : Int) + (x : Int)).tmod 65521 ∧ (2 * (s.1 : Int) - (s.2 : Int) + (x : Int)).tmod 65521 < 65521 := by split at t1 <;> omega
    have w6 : IntKind.i64.wrap ((2 * (s.1 : Int) - (s.2 : Int) + (x : Int)).tmod 65521 + 65521) = (2 * (s.1 : Int) - (s.2 : Int) + (x : Int)).tmod 65521 + 65521 := wz (by omega)
    have e1 : ((2 * (s.1 : Int) - (s.2 : Int) + (x : Int)).tmod 65521 + 65521).tmod 65521 = ((spinStep s x).1 : Int) := by
      rw [Int.tmod_eq_emod_of_nonneg (by omega)]
      unfold spinStep
      simp only
      split at t1 <;> omega
    have e2 : ((s.1 : Int) + 2 * (s.2 : Int)).tmod 65521 = ((spinStep s x).2 : Int) := by
      rw [Int.tmod_eq_emod_of_nonneg (by omega)]
      unfold spinStep
      simp only
      omega
    have hp : (65521 : Int) ≠ 0 := by decide
    rw [show N + 30 = (N + 29) + 1 from rfl, codeB_loop, List.foldl_cons]
    simp only [bodyRm, part, Tryz.f174, sub, symM, opFn, Nat.reduceLT, Nat.reduceBEq, g1, g5, g6, g7, hv.len und_bytes, hcl, bin_lss, decide_eq_true (show (i : Int) < (bs.length : Nat) by omega), a1, a2, bin_mul, bin_sub, bin_add, w0, w1, w2, w3, w4, w5, w6, bin_tmod hp, e1, e2, conv_i2i und_u8 und_int, wadd1 (show i ≤ 400000 by omega)]
    refine ih (i + 1) (spinStep s x) _ (N + 29) (by rw [← List.drop_drop, hd]; rfl) (by simp at hi ⊢; omega) (by simp at hN ⊢; omega) (spinStep_lt s x).1 (spinStep_lt s x).2 ?_ ?_ ?_ get_same <;> simp only [symM, Nat.reduceBEq, g1]
theorem rMore_S (bs : List Nat) (hbs : ∀ x ∈ bs, x < 256) (hlen : bs.length ≤ 1000) (v : Value) (n0 : Nat) (h : AH) (hv : Row n0 h v (bytesV bs) 5) :
    frameB T0 X0 call 3000 174 [wv 65536, v] h = some (wv (spinU (spinN bs)), h) := by
  rw [frameB_eq ft174 rfl rfl]
  have q1 : ∀ (T : Tab) t p q h, evBin T .quo t p q (wv 65536) (wv 65536) h = some (wv 1) := fun T t p q h => bin_quo (k := .u32) (m := 65536) (n := 65536) (by decide)
  have q2 : ∀ (T : Tab) t p q h, evBin T .rem t p q (wv 65536) (wv 65536) h = some (wv 0) := fun T t p q h => bin_rem (k := .u32) (m := 65536) (n := 65536) (by decide)
  have hp : (65521 : Int) ≠ 0 := by decide
  have z1 : IntKind.i64.wrap 1 = 1 := by decide
  have z0 : IntKind.i64.wrap 0 = 0 := by decide
  have y1 : (1 : Int).tmod 65521 = 1 := by decide
  have y0 : (0 : Int).tmod 65521 = 0 := by decide
  simp only [Tryz.f174, symM, opFn, Nat.reduceLT, Nat.reduceBEq, symL, q1, q2, conv_i2i und_u32 und_int, z1, z0, bin_tmod hp, y1, y0]
  generalize hX : codeB T0 X0 call _ ERm (.loop _) _ _ _ = X
  obtain ⟨t1, h1, e1, eh, p5, p6⟩ := use_exit hX (rmL bs hbs hlen v n0 h hv bs 0 (1, 0) _ _ rfl (by simp) (by omega) (by decide) (by decide) (by simp only [symM, Nat.reduceBEq]) (by simp only [symM, Nat.reduceBEq]; rfl) (by simp only [symM, Nat.reduceBEq]; rfl) (by simp only [symM]; rfl))
  clear hX
  rw [eh] at e1
  subst e1
  have hl := spin_lt bs (1, 0) (by decide) (by decide)
  have hN : spinN bs = bs.foldl spinStep (1, 0) := rfl
  rw [hN]
  generalize bs.foldl spinStep (1, 0) = s at *
  have c1 : IntKind.u32.wrap (s.1 : Int) = (s.1 : Int) := wu32 (by omega)
  have c2 : IntKind.u32.wrap (s.2 : Int) = (s.2 : Int) := wu32 (by omega)
  have w1 : IntKind.u32.wrap ((s.1 : Int) * 65536) = ((s.1 * 65536 : Nat) : Int) := by rw [show (s.1 : Int) * 65536 = ((s.1 * 65536 : Nat) : Int) by omega]; exact wu32 (by omega)
  have w2 : IntKind.u32.wrap (((s.1 * 65536 : Nat) : Int) + (s.2 : Int)) = ((spinU s : Nat) : Int) := by unfold spinU; rw [show ((s.1 * 65536 : Nat) : Int) + (s.2 : Int) = ((s.1 * 65536 + s.2 : Nat) : Int) by omega]; exact wu32 (by omega)
  simp only [symM, opFn, Nat.reduceLT, Nat.reduceBEq, symL, p5, p6, conv_i2i und_int und_u32, c1, c2, bin_mul, w1, bin_add, w2]
  exact retB_one ft174 rfl get_same
theorem rSum_S (hM : ∀ (bs : List Nat) (v : Value) (h : AH), (∀ x ∈ bs, x < 256) → bs.length ≤ 1000 → Row h.next h v (bytesV bs) 5 → call 174 [wv 65536, v] h = some (wv (spinU (spinN bs)), h)) (bs : List Nat) (hbs : ∀ x ∈ bs, x < 256) (hlen : bs.length ≤ 1000) (v : Value) (h : AH) (hv : Row h.next h v (bytesV bs) 5) :
    frameB T0 X0 call 3000 135 [v] h = some (wv (spinU (spinN bs)), h) := by
  rw [frameB_eq ft135 rfl rfl]
  simp only [Tryz.f135, symM, opFn, Nat.reduceLT, Nat.reduceBEq, evCall_fn ft174 rfl, hM bs v h hbs hlen hv]
  exact retB_one ft135 rfl get_same
end
end Go.Proofs.YtjdhdhmoedlfdaaGreat.Abs
namespace Go.Proofs.YtjdhdhmoedlfdaaGreat.Abs
open Go Go.Proofs
noncomputable section
variable {call : Abs.Callee}
set_option maxRecDepth 10000
def BoxL (h : AH) (b el : Nat) (l : List Value) : Prop := ∃ c, h.get b = some (.cells c l.length el 0 0 .ex) ∧ ∀ (i : Nat) (x : Value), l[i]? = some x → c.get i = some x
theorem BoxL.new (h : AH) (el : Nat) (l : List Value) : BoxL (h.new (.cells (PM.ofList l) l.length el 0 0 .ex)) h.next el l := ⟨_, get_new_same _ _, fun i x hi => by rw [PM.get_ofList]; exact hi⟩
theorem BoxL.grow {n : Nat} {h h' : AH} {b el : Nat} {l : List Value} (hb : BoxL h b el l) (g : Grow n h h') (hn : b < n) : BoxL h' b el l := by
  obtain ⟨c, h1, h2⟩ := hb
  exact ⟨c, (g.keep b hn).trans h1, h2⟩
theorem BoxL.load {h : AH} {b el t i : Nat} {l : List Value} {x : Value} (hb : BoxL h b el l) (ha : aggT T0 t = some false) (hi : l[i]? = some x) : evLoad T0 t (.pointer (some ⟨b, i, none⟩)) h = some x := by
  obtain ⟨c, h1, h2⟩ := hb
  exact load_one ha h1 (List.getElem?_eq_some_iff.1 hi).1 (h2 i x hi)
theorem BoxL.loadA {h : AH} {b el t o : Nat} {l ws : List Value} (hb : BoxL h b el l) (ha : aggT T0 t = some true) (hs : szOf T0 t = some ws.length) (ho : o + ws.length ≤ l.length) (hw : ∀ i x, ws[i]? = some x → l[o + i]? = some x) : evLoad T0 t (.pointer (some ⟨b, o, none⟩)) h = some (.agg ws.toArray) := by
  obtain ⟨c, h1, h2⟩ := hb
  simp only [evLoad, loadVarA, ha, hs]
  rw [loadRow_of (l := ws) h1 ho (fun i x hi => h2 _ _ (hw i x hi))]
theorem BoxL.store {n : Nat} {h : AH} {b el t o : Nat} {l ws : List Value} {v : Value} (hb : BoxL h b el l) (hs : szOf T0 t = some ws.length) (hv : v.cells.toList = ws) (h0 : ws ≠ []) (hall : ws.all oneCell = true) (ho : o + ws.length ≤ l.length) (hn : n ≤ b) :
    ∃ h', evStore T0 t (.pointer (some ⟨b, o, none⟩)) v h = some h' ∧ BoxL h' b el (l.take o ++ ws ++ l.drop (o + ws.length)) ∧ Grow n h h' ∧ h'.next = h.next := by
  obtain ⟨c, h1, h2⟩ := hb
  have hlen : (l.take o ++ ws ++ l.drop (o + ws.length)).length = l.length := by simp; omega
  refine ⟨h.set b (.cells (storeN c o ws) l.length el 0 0 .ex), ?_, ⟨_, by rw [AH.get_set, if_pos rfl, hlen], ?_⟩, Grow.set h _ hn, rfl⟩
  · simp only [evStore, storeVarA, hs, hv]
    rw [Nat.beq_refl, ifB_true]
    cases ws with
    | nil => exact absurd rfl h0
    | cons w ws =>
      have hw : writable o (w :: ws).length l.length 0 0 = true := by
        unfold writable
        simp at ho ⊢; omega
      simp only [storeRow, h1, hw, hall, Bool.and_self, ifB_true]
  · intro i x hi
    rw [storeN_get]
    by_cases c1 : i < o
    · rw [if_neg (by omega)]
      refine h2 i x ?_
      rw [List.append_assoc, List.getElem?_append_left (by simp; omega), List.getElem?_take, if_pos c1] at hi
      exact hi
    · by_cases c2 : i < o + ws.length
      · rw [if_pos (by omega)]
        rw [List.append_assoc, List.getElem?_append_right (by simp; omega), List.getElem?_append_left (by simp; omega)] at hi
        rw [show (l.take o).length = o by simp; omega] at hi
        exact hi
      · rw [if_neg (by omega)]
        refine h2 i x ?_
        rw [List.getElem?_append_right (by simp; omega), List.getElem?_drop] at hi
        rw [show (l.take o ++ ws).length = o + ws.length by simp; omega] at hi
        rwa [show o + ws.length + (i - (o + ws.length)) = i by omega] at hi
theorem box_agg {h : AH} {e : TypeId} {l : List Value} : rp (some (evNewVar h e (.agg l.toArray))) = some (.value (.pointer (some ⟨h.next, 0, none⟩)), h.new (.cells (PM.ofList l) l.length e 0 0 .ex)) := rfl
def OwnC (s n : Nat) (h : AH) (v : Value) (k : Nat) (cs : List Value) (e : TypeId) : Prop :=
  (v = .slice none 0 0 ∧ k = 0 ∧ cs = []) ∨ ∃ b c kd cap, n ≤ b ∧ b < h.next ∧ v = .slice (some ⟨b, 0, none⟩) k cap ∧ h.get b = some (.cells c (k * s) e 0 0 kd) ∧ cs.length = k * s ∧ (∀ (i : Nat) (x : Value), cs[i]? = some x → c.get i = some x) ∧
    ((kd = .ex ∧ cap = k) ∨ (kd = .loose ∧ cap = XB + k))
theorem OwnC.grow {s n : Nat} {h h' : AH} {v : Value} {k : Nat} {cs : List Value} {e : TypeId} (ho : OwnC s n h v k cs e) (g : Grow h.next h h') : OwnC s n h' v k cs e := by
  rcases ho with h1 | ⟨b, c, kd, cap, h1, h2, h3, h4, h5⟩
  · exact .inl h1
  · exact .inr ⟨b, c, kd, cap, h1, Nat.lt_of_lt_of_le h2 g.next, h3, (g.keep b h2).trans h4, h5⟩
theorem OwnC.less {s n m : Nat} {h : AH} {v : Value} {k : Nat} {cs : List Value} {e : TypeId} (ho : OwnC s m h v k cs e) (hn : n ≤ m) : OwnC s n h v k cs e := by
  rcases ho with h1 | ⟨b, c, kd, cap, h1, h2⟩
  · exact .inl h1
  · exact .inr ⟨b, c, kd, cap, Nat.le_trans hn h1, h2⟩
theorem Own.c {n : Nat} {h : AH} {v : Value} {l : List Value} {e : TypeId} (ho : Own n h v l e) : OwnC 1 n h v l.length l e := by
  rcases ho with ⟨rfl, rfl⟩ | ⟨b, c, kd, cap, h1, h2, h3, h4, h5, h6⟩
  · exact .inl ⟨rfl, rfl, rfl⟩
  · exact .inr ⟨b, c, kd, cap, h1, h2, h3, by rw [Nat.mul_one]; exact h4, (Nat.mul_one _).symm, h5, h6⟩
theorem OwnC.own {n : Nat} {h : AH} {v : Value} {k : Nat} {l : List Value} {e : TypeId} (ho : OwnC 1 n h v k l e) : Own n h v l e := by
  rcases ho with ⟨rfl, rfl, rfl⟩ | ⟨b, c, kd, cap, h1, h2, h3, h4, h5, h6, h7⟩
  · exact .inl ⟨rfl, rfl⟩
  · rw [Nat.mul_one] at h4 h5
    subst h5
    exact .inr ⟨b, c, kd, cap, h1, h2, h3, h4, h6, h7⟩
theorem append_gen {T : Tab} {sT xT e : TypeId} {i : TypeInfo} {z : Value} {s : Nat} (hs : und T sT = some (.slice e)) (hi : T.tt.get e = some i) (hz : i.zero = some z) (h1 : i.size = s) (hb : i.bytes ≤ 64)
    {n : Nat} {h : AH} {v x : Value} {k m : Nat} {cs new : List Value} (hv : OwnC s n h v k cs e) (happ : appendedA T xT i z x h = some (m, new)) (hm : new.length = m * s) (hall : new.all oneCell = true) (hl : k + m < 1000000) (hn : n ≤ h.next) (ty : TypeId) :
    ∃ v' h', evBuiltin T .append #[sT, xT] ty [v, x] h = some (.value v', h') ∧ OwnC s n h' v' (k + m) (cs ++ new) e ∧ Grow n h h' ∧ (∀ k, k < h.next → Off v k → h'.get k = h.get k) ∧ (0 < m → OwnC s h.next h' v' (k + m) (cs ++ new) e) := by
  subst h1
  have hev : ∀ {p : Value × AH}, evAppend T sT xT v x h = some p → evBuiltin T .append #[sT, xT] ty [v, x] h = some (.value p.1, p.2) := by
    intro p hp
    show (match evAppend T sT xT v x h with
      | some p => (some (Out.value p.1, p.2) : Res)
      | none => none) = _
    rw [hp]
  have hbnd : (Nat.ble ((k + m) * i.bytes) 17592186044416 && Nat.ble (k + m) 17592186044416) = true := by
    have h2 : (k + m) * i.bytes ≤ 1000000 * 64 := Nat.mul_le_mul (by omega) hb
    rw [Nat.ble_eq_true_of_le (by omega), Nat.ble_eq_true_of_le (by omega)]
    rfl
  have key : ∀ (hh : AH), cs.length = k * i.size → Grow n h hh → n ≤ hh.next → hh.next = h.next → (∀ k, k < h.next → Off v k → hh.get k = h.get k) → ∃ v' h', (some (Out.value (grown hh e (k + m) ((k + m) * i.size) (cs ++ new)).1, (grown hh e (k + m) ((k + m) * i.size) (cs ++ new)).2) : Res) = some (.value v', h') ∧ OwnC i.size n h' v' (k + m) (cs ++ new) e ∧ Grow n h h' ∧ (∀ k, k < h.next → Off v k → h'.get k = h.get k) ∧ (0 < m → OwnC i.size h.next h' v' (k + m) (cs ++ new) e) := by
    intro hh hcs g hnn hnx hkp
    have own : ∀ n', n' ≤ hh.next → OwnC i.size n' (grown hh e (k + m) ((k + m) * i.size) (cs ++ new)).2 (grown hh e (k + m) ((k + m) * i.size) (cs ++ new)).1 (k + m) (cs ++ new) e := fun n' hn' => .inr ⟨hh.next, PM.ofList (cs ++ new), .loose, XB + (k + m), hn', Nat.lt_succ_self _, rfl, get_new_same _ _, by rw [List.length_append, hcs, hm, Nat.add_mul], fun i y hy => by rw [PM.get_ofList]; exact hy, .inr ⟨rfl, rfl⟩⟩
    exact ⟨_, _, rfl, own n hnn, g.trans ((Grow.new hh _).less hnn) (Nat.le_refl _), fun k hk ho => ((Grow.new hh _).keep k (by omega)).trans (hkp k hk ho), fun _ => own h.next (by omega)⟩
  by_cases h0 : m = 0
  · subst h0
    have hnil : new = [] := List.length_eq_zero_iff.1 (by rw [hm, Nat.zero_mul])
    subst hnil
    refine ⟨v, h, ?_, by rw [List.append_nil]; exact hv, Grow.refl _ _, fun _ _ _ => rfl, fun q => absurd q (by omega)⟩
    rcases hv with ⟨rfl, rfl, rfl⟩ | ⟨b, c, kd, cap, q1, q2, rfl, q4, q5, q6, q7⟩
    · apply hev (p := (_, h))
      unfold evAppend
      simp only [hs, hi, hz, happ, appendTo]
      rfl
    · apply hev (p := (_, h))
      unfold evAppend
      have hc : Nat.ble (k + 0) (capOf cap) = true := by
        apply Nat.ble_eq_true_of_le
        rcases q7 with ⟨_, rfl⟩ | ⟨_, rfl⟩
        · unfold capOf; rw [ble_no (by rw [XB_val]; omega)]; exact Nat.le_refl _
        · rw [capOf_ge]; exact Nat.le_refl _
      simp only [hs, hi, hz, happ, appendTo]
      rw [hc]
      rfl
  · rcases hv with ⟨rfl, rfl, rfl⟩ | ⟨b, c, kd, cap, q1, q2, rfl, q4, q5, q6, q7⟩
    · obtain ⟨v', h', k1, k2⟩ := key h (by simp) (Grow.refl _ _) hn rfl (fun _ _ _ => rfl)
      refine ⟨v', h', ?_, k2⟩
      rw [← k1]
      apply hev
      unfold evAppend
      simp only [hs, hi, hz, happ, appendTo]
      rw [ble_no (by show 0 < 0 + m; omega), ifB_false, hbnd]
      rfl
    · have hold : firstA i.size k h (.slice (some ⟨b, 0, none⟩) k cap) = some cs := by
        unfold firstA
        by_cases hk0 : k = 0
        · subst hk0
          rw [show cs = [] from List.length_eq_zero_iff.1 (by rw [q5, Nat.zero_mul])]
          rfl
        · show ifB (Nat.beq k 0) (some []) (ifB (Nat.ble k k) (loadRow h b 0 (k * i.size)) none) = some cs
          rw [show Nat.beq k 0 = false from by cases k with | zero => exact absurd rfl hk0 | succ k => rfl, ifB_false, Nat.ble_eq_true_of_le (Nat.le_refl _), ifB_true, ← q5]
          exact loadRow_of (m := k * i.size) (c := c) q4 (by omega) (fun i y hy => by rw [Nat.zero_add]; exact q6 i y hy)
      rcases q7 with ⟨rfl, rfl⟩ | ⟨rfl, rfl⟩
      · obtain ⟨v', h', k1, k2⟩ := key _ q5 (Grow.refl _ _) hn rfl (fun _ _ _ => rfl)
        refine ⟨v', h', ?_, k2⟩
        rw [← k1]
        apply hev
        have hc : capOf cap = cap := by unfold capOf; rw [ble_no (by rw [XB_val]; omega)]; rfl
        unfold evAppend
        simp only [hs, hi, hz, happ, appendTo, hc]
        rw [ble_no (by omega : cap < cap + m), ifB_false, hbnd, ifB_true, hold]
        simp only
        rw [ble_no (by rw [XB_val]; omega : cap < XB)]
        rfl
      · have gdel : Grow n h (h.del b) := by
          refine ⟨Nat.le_refl _, fun k hk => ?_⟩
          rw [AH.get_del, if_neg (by omega)]
        obtain ⟨v', h', k1, k2⟩ := key _ q5 gdel hn rfl (fun k hk ho => by rw [AH.get_del, if_neg (fun q => by subst q; exact ho _ _ _ rfl)])
        refine ⟨v', h', ?_, k2⟩
        rw [← k1]
        apply hev
        unfold evAppend
        simp only [hs, hi, hz, happ, appendTo, capOf_ge]
        rw [ble_no (by omega : k < k + m), ifB_false, hbnd, ifB_true, hold]
        simp only
        rw [Nat.ble_eq_true_of_le (by omega : XB ≤ XB + k), ifB_true]
        have hl : looseEl h b e = true := by
          unfold looseEl
          rw [q4]
          show (Nat.beq e e && Nat.ble 0 0) = true
          rw [Nat.beq_refl]; rfl
        rw [hl, hall]
        rfl
theorem appended_slice {T : Tab} {xT e : TypeId} {i : TypeInfo} {z : Value} {h : AH} {b k cap : Nat} {c : PM Value} {N : Nat} {el lo hi : Nat} {kd : BKind} {new : List Value} (hx : und T xT = some (.slice e)) (hb : h.get b = some (.cells c N el lo hi kd)) (hn : new.length = k * i.size) (hN : k * i.size ≤ N) (hc : ∀ (j : Nat) (x : Value), new[j]? = some x → c.get j = some x) :
    appendedA T xT i z (.slice (some ⟨b, 0, none⟩) k cap) h = some (k, new) := by
  unfold appendedA
  simp only [hx, lenOfA]
  have hold : firstA i.size k h (.slice (some ⟨b, 0, none⟩) k cap) = some new := by
    unfold firstA
    by_cases hk0 : k = 0
    · subst hk0
      rw [show new = [] from List.length_eq_zero_iff.1 (by rw [hn, Nat.zero_mul])]
      rfl
    · show ifB (Nat.beq k 0) (some []) (ifB (Nat.ble k k) (loadRow h b 0 (k * i.size)) none) = some new
      rw [show Nat.beq k 0 = false from by cases k with | zero => exact absurd rfl hk0 | succ k => rfl, ifB_false, Nat.ble_eq_true_of_le (Nat.le_refl _), ifB_true, ← hn]
      exact loadRow_of hb (by omega) (fun i y hy => by rw [Nat.zero_add]; exact hc i y hy)
  rw [hold]
  simp only
  rw [hn, Nat.beq_refl, ifB_true]
theorem appended_own {T : Tab} {xT e : TypeId} {i : TypeInfo} {z : Value} {n : Nat} {h : AH} {v : Value} {k : Nat} {new : List Value} (hx : und T xT = some (.slice e)) (ho : OwnC i.size n h v k new e) : appendedA T xT i z v h = some (k, new) := by
  rcases ho with ⟨rfl, rfl, rfl⟩ | ⟨b, c, kd, cap, q1, q2, rfl, q4, q5, q6, q7⟩
  · unfold appendedA
    simp only [hx, lenOfA]
    rw [Nat.zero_mul]
    rfl
  · exact appended_slice hx q4 q5 (Nat.le_refl _) q6
theorem appended_zeros {T : Tab} {xT : TypeId} {i : TypeInfo} {z : Value} {h : AH} {m : Nat} (hx : und T xT = some (.int .i64)) (hm : m ≤ 17592186044416) (hb : m * i.bytes ≤ 17592186044416) :
    appendedA T xT i z (.int .i64 (m : Int)) h = some (m, zeros z (m * i.size)) := by
  unfold appendedA
  simp only [hx]
  simp only [show natOf (.int .i64 (m : Int)) = some m from rfl]
  rw [Nat.ble_eq_true_of_le hm, Nat.ble_eq_true_of_le hb]
  rfl
end
end Go.Proofs.YtjdhdhmoedlfdaaGreat.Abs
namespace Go.Proofs.YtjdhdhmoedlfdaaGreat.Abs
open Go Go.Proofs
noncomputable section
variable {call : Abs.Callee}
set_option maxRecDepth 10000
structure XV where
  a : Nat
  x : Nat
  y : Nat
structure NV where
  k : Nat
  f : Nat
  l : Nat
  s : Nat
  d0 : Nat
  d1 : Nat
  d2 : Nat
  d3 : Nat
  si : Nat
  du : Nat
  c : Nat
abbrev pv (b o : Nat) : Value := .pointer (some ⟨b, o, none⟩)
abbrev nilV : Value := .slice none 0 0
abbrev extV (x : XV) : Value := .agg #[iv x.a, cx x.x x.y]
def nodeL (n : NV) (e : Value) : List Value := [iv n.k, iv n.f, iv n.l, iv n.s, iv n.d0, iv n.d1, iv n.d2, iv n.d3, iv n.si, iv n.du, e, iv n.c]
abbrev arrV (n : NV) : Value := .agg #[iv n.d0, iv n.d1, iv n.d2, iv n.d3]
def nodeV (n : NV) (e : Value) : Value := .agg (nodeL n e).toArray
def NV.zero : NV := ⟨0, 0, 0, 0, 0, 0, 0, 0, 0, 0, 0⟩
theorem und_exts : und T0 46 = some (.slice 107) := by kernel_rfl
theorem und_ints : und T0 31 = some (.slice 3) := by kernel_rfl
theorem sz_Ext : szOf T0 107 = some 2 := by kernel_rfl
theorem sz_Node : szOf T0 48 = some 12 := by kernel_rfl
theorem sz_arr4 : szOf T0 45 = some 4 := by kernel_rfl
theorem sz_exts : szOf T0 46 = some 1 := by kernel_rfl
theorem sz_int : szOf T0 3 = some 1 := by kernel_rfl
theorem agg_Ext : aggT T0 107 = some true := by kernel_rfl
theorem agg_Node : aggT T0 48 = some true := by kernel_rfl
theorem agg_arr4 : aggT T0 45 = some true := by kernel_rfl
theorem agg_exts : aggT T0 46 = some false := by kernel_rfl
theorem zero_int : zeroOf T0 3 = some (iv 0) := by kernel_rfl
theorem zero_u8 : zeroOf T0 5 = some (.int .u8 0) := by kernel_rfl
theorem tt_int : T0.tt.get 3 = some (infoOf 3) := by kernel_rfl
theorem ti_int : (infoOf 3).zero = some (iv 0) ∧ (infoOf 3).size = 1 ∧ (infoOf 3).bytes ≤ 64 := ⟨by kernel_rfl, by kernel_rfl, Nat.le_of_ble_eq_true (by kernel_rfl)⟩
theorem tt_u8 : T0.tt.get 5 = some (infoOf 5) := by kernel_rfl
theorem ti_u8 : (infoOf 5).zero = some (.int .u8 0) ∧ (infoOf 5).size = 1 ∧ (infoOf 5).bytes ≤ 64 := ⟨by kernel_rfl, by kernel_rfl, Nat.le_of_ble_eq_true (by kernel_rfl)⟩
theorem tt_Ext : T0.tt.get 107 = some (infoOf 107) := by kernel_rfl
theorem ti_Ext : (infoOf 107).zero = some (.agg #[iv 0, .complex .f64 0 0]) ∧ (infoOf 107).size = 2 ∧ (infoOf 107).bytes ≤ 64 := ⟨by kernel_rfl, by kernel_rfl, Nat.le_of_ble_eq_true (by kernel_rfl)⟩
theorem alloc_N {h : AH} : evAlloc T0 48 h = some (pv h.next 0, h.new (.cells (PM.ofList (nodeL NV.zero nilV)) 12 48 0 0 .ex)) := by
  unfold evAlloc
  rw [show zeroOf T0 48 = some (nodeV NV.zero nilV) from by kernel_rfl]
  rfl
theorem build_N0 {h : AH} : evBuild T0 48 [] h = some (nodeV NV.zero nilV, h) := by kernel_rfl
theorem build_N4 {a b c d : Nat} {h : AH} : evBuild T0 48 [(0, iv a), (1, iv b), (2, iv c), (3, iv d)] h = some (nodeV ⟨a, b, c, d, 0, 0, 0, 0, 0, 0, 0⟩ nilV, h) := by kernel_rfl
theorem alloc_E {h : AH} : evAlloc T0 107 h = some (pv h.next 0, h.new (.cells (PM.ofList [iv 0, .complex .f64 0 0]) 2 107 0 0 .ex)) := by
  unfold evAlloc
  rw [show zeroOf T0 107 = some (.agg #[iv 0, .complex .f64 0 0]) from by kernel_rfl]
  rfl
theorem build_E0 {h : AH} : evBuild T0 107 [] h = some (.agg #[iv 0, .complex .f64 0 0], h) := by kernel_rfl
theorem build_E {a : Nat} {x y : Nat} {h : AH} : evBuild T0 107 [(0, iv a), (1, .complex .f64 x y)] h = some (.agg #[iv a, .complex .f64 x y], h) := by kernel_rfl
theorem field_N {b : Nat} : evFieldAddr T0 48 (pv b 0) 0 = some (pv b 0) ∧ evFieldAddr T0 48 (pv b 0) 1 = some (pv b 1) ∧ evFieldAddr T0 48 (pv b 0) 2 = some (pv b 2) ∧ evFieldAddr T0 48 (pv b 0) 3 = some (pv b 3) ∧
    evFieldAddr T0 48 (pv b 0) 4 = some (pv b 4) ∧ evFieldAddr T0 48 (pv b 0) 5 = some (pv b 8) ∧ evFieldAddr T0 48 (pv b 0) 6 = some (pv b 9) ∧ evFieldAddr T0 48 (pv b 0) 7 = some (pv b 10) ∧ evFieldAddr T0 48 (pv b 0) 8 = some (pv b 11) :=
  ⟨by kernel_rfl, by kernel_rfl, by kernel_rfl, by kernel_rfl, by kernel_rfl, by kernel_rfl, by kernel_rfl, by kernel_rfl, by kernel_rfl⟩
theorem field_E0 {b o : Nat} : evFieldAddr T0 107 (pv b o) 0 = some (pv b o) := by kernel_rfl
theorem field_E1 {b o : Nat} : evFieldAddr T0 107 (pv b o) 1 = some (pv b (o + 1)) := by kernel_rfl
theorem index_A {b : Nat} : evIndexAddr T0 45 (pv b 4) (iv 0) = some (pv b 4) ∧ evIndexAddr T0 45 (pv b 4) (iv 1) = some (pv b 5) ∧ evIndexAddr T0 45 (pv b 4) (iv 2) = some (pv b 6) ∧ evIndexAddr T0 45 (pv b 4) (iv 3) = some (pv b 7) :=
  ⟨by kernel_rfl, by kernel_rfl, by kernel_rfl, by kernel_rfl⟩
def NodeB (h : AH) (b : Nat) (n : NV) (e : Value) : Prop := BoxL h b 48 (nodeL n e)
theorem NodeB.new (h : AH) (n : NV) (e : Value) : NodeB (h.new (.cells (PM.ofList (nodeL n e)) (nodeL n e).length 48 0 0 .ex)) h.next n e := BoxL.new _ _ _
theorem NodeB.grow {m : Nat} {h h' : AH} {b : Nat} {n : NV} {e : Value} (hb : NodeB h b n e) (g : Grow m h h') (hn : b < m) : NodeB h' b n e := BoxL.grow hb g hn
theorem NodeB.loads {h : AH} {b : Nat} {n : NV} {e : Value} (hb : NodeB h b n e) :
    evLoad T0 3 (pv b 0) h = some (iv n.k) ∧ evLoad T0 3 (pv b 1) h = some (iv n.f) ∧ evLoad T0 3 (pv b 2) h = some (iv n.l) ∧ evLoad T0 3 (pv b 3) h = some (iv n.s) ∧
    evLoad T0 3 (pv b 4) h = some (iv n.d0) ∧ evLoad T0 3 (pv b 5) h = some (iv n.d1) ∧ evLoad T0 3 (pv b 6) h = some (iv n.d2) ∧ evLoad T0 3 (pv b 7) h = some (iv n.d3) ∧
    evLoad T0 3 (pv b 8) h = some (iv n.si) ∧ evLoad T0 3 (pv b 9) h = some (iv n.du) ∧ evLoad T0 46 (pv b 10) h = some e ∧ evLoad T0 3 (pv b 11) h = some (iv n.c) ∧
    evLoad T0 48 (pv b 0) h = some (nodeV n e) ∧ evLoad T0 45 (pv b 4) h = some (arrV n) :=
  ⟨hb.load agg_int rfl, hb.load agg_int rfl, hb.load agg_int rfl, hb.load agg_int rfl, hb.load agg_int rfl, hb.load agg_int rfl, hb.load agg_int rfl, hb.load agg_int rfl, hb.load agg_int rfl, hb.load agg_int rfl, hb.load agg_exts rfl, hb.load agg_int rfl,
   hb.loadA (ws := nodeL n e) agg_Node sz_Node (by simp) (fun i x hi => by rwa [Nat.zero_add]), hb.loadA (ws := [iv n.d0, iv n.d1, iv n.d2, iv n.d3]) agg_arr4 sz_arr4 (by simp [nodeL]) (fun i x hi => by rw [Nat.add_comm]; match i with | 0 | 1 | 2 | 3 => exact hi | i + 4 => simp at hi)⟩
def RowE (n : Nat) (h : AH) (v : Value) (xs : List XV) : Prop :=
  (v = nilV ∧ xs = []) ∨ ∃ b o cap c m lo hi kd el, v = .slice (some ⟨b, o, none⟩) xs.length cap ∧ b < n ∧ h.get b = some (.cells c m el lo hi kd) ∧ o + 2 * xs.length ≤ m ∧ ∀ (i : Nat) (x : XV), xs[i]? = some x → c.get (o + i * 2) = some (iv x.a) ∧ c.get (o + i * 2 + 1) = some (cx x.x x.y)
theorem RowE.nil (n : Nat) (h : AH) : RowE n h nilV [] := .inl ⟨rfl, rfl⟩
theorem RowE.grow {n m : Nat} {h h' : AH} {v : Value} {xs : List XV} (hr : RowE n h v xs) (g : Grow m h h') (hn : n ≤ m) : RowE n h' v xs := by
  rcases hr with h1 | ⟨b, o, cap, c, k, lo, hi, kd, el, h1, h2, h3, h4⟩
  · exact .inl h1
  · exact .inr ⟨b, o, cap, c, k, lo, hi, kd, el, h1, h2, (g.keep b (by omega)).trans h3, h4⟩
theorem RowE.more {n k : Nat} {h : AH} {v : Value} {xs : List XV} (hr : RowE n h v xs) (hn : n ≤ k) : RowE k h v xs := by
  rcases hr with h1 | ⟨b, o, cap, c, m, lo, hi, kd, el, h1, h2, h3⟩
  · exact .inl h1
  · exact .inr ⟨b, o, cap, c, m, lo, hi, kd, el, h1, by omega, h3⟩
theorem RowE.len {n : Nat} {h h' : AH} {v : Value} {xs : List XV} {ty : TypeId} (hr : RowE n h v xs) : evBuiltin T0 .len #[46] ty [v] h' = some (.value (iv (xs.length : Nat)), h') := by
  rcases hr with ⟨rfl, rfl⟩ | ⟨b, o, cap, c, k, lo, hi, kd, el, rfl, _⟩
  · exact len_slice und_exts
  · exact len_slice und_exts
theorem RowE.eqv {n : Nat} {h : AH} {v : Value} {xs : List XV} (hr : RowE n h v xs) : eqV v v = true := by
  rcases hr with ⟨rfl, rfl⟩ | ⟨b, o, cap, c, k, lo, hi, kd, el, rfl, _⟩
  · rfl
  · exact eqV_slice
theorem RowE.at {n : Nat} {h : AH} {v : Value} {xs : List XV} (hr : RowE n h v xs) {i : Nat} {x : XV} (hi : xs[i]? = some x) :
    ∃ b o, evIndexAddr T0 46 v (iv (i : Nat)) = some (pv b o) ∧ evLoad T0 107 (pv b o) h = some (extV x) ∧ evLoad T0 3 (pv b o) h = some (iv x.a) ∧ evLoad T0 84 (pv b (o + 1)) h = some (cx x.x x.y) := by
  have hl := (List.getElem?_eq_some_iff.1 hi).1
  rcases hr with ⟨rfl, rfl⟩ | ⟨b, o, cap, c, m, lo, hi2, kd, el, rfl, h2, h3, h4, h5⟩
  · simp at hi
  · obtain ⟨q1, q2⟩ := h5 i x hi
    refine ⟨b, o + i * 2, idx_slice und_exts sz_Ext hl, ?_, load_one agg_int h3 (by omega) q1, load_one agg_c128 h3 (by omega) q2⟩
    simp only [evLoad, loadVarA, agg_Ext, sz_Ext]
    rw [show loadRow h b (o + i * 2) 2 = some [iv x.a, cx x.x x.y] from loadRow_of (l := [iv x.a, cx x.x x.y]) h3 (by simp; omega) (fun j w hj => match j with
      | 0 => by simp at hj; subst hj; exact q1
      | 1 => by simp at hj; subst hj; exact q2
      | j + 2 => by simp at hj)]
def extsL (xs : List XV) : List Value := xs.flatMap fun x => [iv x.a, cx x.x x.y]
theorem extsL_at (xs : List XV) : ∀ (i : Nat) (x : XV), xs[i]? = some x → (extsL xs)[i * 2]? = some (iv x.a) ∧ (extsL xs)[i * 2 + 1]? = some (cx x.x x.y) := by
  induction xs with
  | nil => intro i x hi; simp at hi
  | cons y ys ih =>
    intro i x hi
    cases i with
    | zero => simp at hi; subst hi; exact ⟨rfl, rfl⟩
    | succ i =>
      have := ih i x (by simpa using hi)
      rw [show (i + 1) * 2 = i * 2 + 2 by omega]
      exact this
def OwnE (n : Nat) (h : AH) (v : Value) (xs : List XV) : Prop := OwnC 2 n h v xs.length (extsL xs) 107
theorem OwnE.nil (n : Nat) (h : AH) : OwnE n h nilV [] := .inl ⟨rfl, rfl, rfl⟩
theorem OwnE.row {n : Nat} {h : AH} {v : Value} {xs : List XV} (ho : OwnE n h v xs) : RowE h.next h v xs := by
  rcases ho with ⟨rfl, h0, _⟩ | ⟨b, c, kd, cap, h1, h2, h3, h4, h5, h6, _⟩
  · exact .inl ⟨rfl, List.length_eq_zero_iff.1 h0⟩
  · refine .inr ⟨b, 0, cap, c, _, 0, 0, kd, _, h3, h2, h4, by omega, fun i x hi => ?_⟩
    obtain ⟨q1, q2⟩ := extsL_at xs i x hi
    rw [Nat.zero_add]
    exact ⟨h6 _ _ q1, h6 _ _ q2⟩
theorem OwnE.grow {n : Nat} {h h' : AH} {v : Value} {xs : List XV} (ho : OwnE n h v xs) (g : Grow h.next h h') : OwnE n h' v xs := OwnC.grow ho g
theorem OwnE.less {n m : Nat} {h : AH} {v : Value} {xs : List XV} (ho : OwnE m h v xs) (hn : n ≤ m) : OwnE n h v xs := OwnC.less ho hn
theorem bs_ext {x : XV} {h : AH} : evBuildSlice T0 46 1 [(0, extV x)] h = some (.slice (some ⟨h.next, 0, none⟩) 1 1, h.new (.cells (PM.ofList [iv x.a, cx x.x x.y]) 2 107 0 0 .ex)) := by
  unfold evBuildSlice
  simp only [und_exts, sz_Ext, show zeroOf T0 107 = some (.agg #[iv 0, .complex .f64 0 0]) from by kernel_rfl]
  rfl
theorem OwnE.append {n : Nat} {h : AH} {v : Value} {xs : List XV} (ho : OwnE n h v xs) (x : XV) (hl : xs.length < 1000) (hn : n ≤ h.next) (ty : TypeId) :
    ∃ v' h', evBuiltin T0 .append #[46, 46] ty [v, .slice (some ⟨h.next, 0, none⟩) 1 1] (h.new (.cells (PM.ofList [iv x.a, cx x.x x.y]) 2 107 0 0 .ex)) = some (.value v', h') ∧ OwnE n h' v' (xs ++ [x]) ∧ Grow n h h' := by
  have g := Grow.new h (.cells (PM.ofList [iv x.a, cx x.x x.y]) 2 107 0 0 .ex)
  obtain ⟨v', h', e1, e2, e3, _⟩ := append_gen und_exts tt_Ext ti_Ext.1 ti_Ext.2.1 ti_Ext.2.2 (ho.grow g)
    (appended_slice (k := 1) (cap := 1) (new := [iv x.a, cx x.x x.y]) und_exts (get_new_same _ _) (by rw [ti_Ext.2.1]; rfl) (by rw [ti_Ext.2.1]; exact Nat.le_refl _) (fun j w hj => by rw [PM.get_ofList]; exact hj)) rfl rfl (by omega) (Nat.le_succ_of_le hn) ty
  refine ⟨v', h', e1, ?_, (g.less hn).trans e3 (Nat.le_refl _)⟩
  unfold OwnE
  rw [List.length_append, show extsL (xs ++ [x]) = extsL xs ++ [iv x.a, cx x.x x.y] by simp [extsL]]
  exact e2
end
end Go.Proofs.YtjdhdhmoedlfdaaGreat.Abs
