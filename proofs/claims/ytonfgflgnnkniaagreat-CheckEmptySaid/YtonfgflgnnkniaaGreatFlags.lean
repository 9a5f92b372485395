
/- Flags: the functions that say which are up. -/
import Derived.Test.YtonfgflgnnkniaaGreatPage
namespace Go.Proofs.YtonfgflgnnkniaaGreat.Abs
open Go Go.Proofs
noncomputable section
variable {call : Abs.Callee}
set_option maxRecDepth 10000
theorem ft42 : T0.ft.get 42 = some Tryz.f42 := by kernel_rfl
def bitB (bs : List Nat) (n : Nat) : Bool := ((bs.getD (n / 8) 0 >>> (n % 8)) &&& 1) == 1
variable {call : Abs.Callee}
theorem up_S (bs : List Nat) (hbs : ∀ x ∈ bs, x < 256) (m : Value) (k n : Nat) (h : AH) (hm : Row k h m (bytesV bs) 5) (hn : n / 8 < bs.length) (hn2 : n < 9000) :
    frameB T0 X0 call 3000 42 [m, iv n] h = some (.bool (bitB bs n), h) := by
  obtain ⟨x, hx⟩ : ∃ x, bs[n / 8]? = some x := ⟨_, List.getElem?_eq_getElem hn⟩
  have hx2 : x < 256 := hbs x (List.mem_of_getElem? hx)
  obtain ⟨p, e1, e2⟩ := hm.at und_bytes sz_u8 agg_u8 (i := n / 8) (x := .int .u8 (x : Int)) (by simp [bytesV, hx])
  have hq : ∀ a b, evBin T0 .quo 3 a b (iv n) (iv 8) h = some (iv (n / 8 : Nat)) := fun a b => by
    show evBin T0 .quo 3 a b (iv n) (iv ((8 : Nat) : Int)) h = _
    rw [bin_quo (by decide), IntWalk.i64_in _ (by omega)]
  have hr : ∀ a b, evBin T0 .rem 3 a b (iv n) (iv 8) h = some (iv (n % 8 : Nat)) := fun a b => by
    show evBin T0 .rem 3 a b (iv n) (iv ((8 : Nat) : Int)) h = _
    rw [bin_rem (by decide)]
  have hs : ∀ a b, evBin T0 .shr 5 a b (.int .u8 (x : Int)) (iv (n % 8 : Nat)) h = some (.int .u8 ((x >>> (n % 8) : Nat) : Int)) := fun a b => bin_shr (by have : n % 8 < 8 := Nat.mod_lt _ (by decide); exact this)
  have hlt : x >>> (n % 8) < 256 := by rw [Nat.shiftRight_eq_div_pow]; exact Nat.lt_of_le_of_lt (Nat.div_le_self _ _) hx2
  have ha : ∀ a b, evBin T0 .and 5 a b (.int .u8 ((x >>> (n % 8) : Nat) : Int)) (.int .u8 1) h = some (.int .u8 ((x >>> (n % 8) &&& 1 : Nat) : Int)) := fun a b => by
    show evBin T0 .and 5 a b (.int .u8 ((x >>> (n % 8) : Nat) : Int)) (.int .u8 ((1 : Nat) : Int)) h = _
    have h3 : x >>> (n % 8) &&& 1 ≤ 1 := by rw [Nat.and_one_is_mod]; omega
    rw [bin_and (by exact hlt) (by decide), IntWalk.u8_in _ (by omega)]
  have he : ∀ a b, evBin T0 .eql 5 a b (.int .u8 ((x >>> (n % 8) &&& 1 : Nat) : Int)) (.int .u8 1) h = some (.bool (bitB bs n)) := fun a b => by
    rw [bin_eql]
    have h3 : bs.getD (n / 8) 0 = x := by rw [List.getD_eq_getElem?_getD, hx]; rfl
    unfold bitB
    rw [h3]
    congr 2
    rw [Bool.eq_iff_iff]
    simp only [beq_iff_eq]
    omega
  rw [frameB_eq ft42 rfl rfl]
  simp only [Tryz.f42, symM, opFn, Nat.reduceLT, Nat.reduceBEq, hq, e1, e2, hr, hs, ha, he]
  exact retB_one ft42 rfl get_same
/-- From n on, while it holds, at most so often. -/
def scan (p : Nat → Bool) : Nat → Nat → Nat
  | 0, n => n
  | k + 1, n => bif p n then scan p k (n + 1) else n
theorem scan_spec (p : Nat → Bool) : ∀ (k n : Nat), n ≤ scan p k n ∧ scan p k n ≤ n + k ∧ (∀ j, n ≤ j → j < scan p k n → p j = true) ∧ (scan p k n < n + k → p (scan p k n) = false) := by
  intro k
  induction k with
  | zero => intro n; exact ⟨Nat.le_refl _, Nat.le_refl _, fun j h1 h2 => by simp only [scan] at h2; omega, fun h => by simp only [scan] at h; omega⟩
  | succ k ih =>
    intro n
    rw [scan]
    cases hp : p n with
    | false => exact ⟨Nat.le_refl _, by simp, fun j h1 h2 => by simp at h2; omega, fun _ => hp⟩
    | true =>
      obtain ⟨i1, i2, i3, i4⟩ := ih (n + 1)
      simp only [cond_true]
      refine ⟨by omega, by omega, fun j h1 h2 => ?_, fun h => i4 (by omega)⟩
      by_cases hj : j = n
      · subst hj; exact hp
      · exact i3 j (by omega) h2
/-- The gaps of a map: d tells what is in a gap; so many are left behind n; the gap before n began at first. -/
def gapsG (d : Nat → Bool) : Nat → Nat → Nat → List (Nat × Nat)
  | 0, n, first => bif Nat.blt first n then [(first, n - first)] else []
  | k + 1, n, first => bif d n then gapsG d k (n + 1) first else (bif Nat.blt first n then [(first, n - first)] else []) ++ gapsG d k (n + 1) (n + 1)
theorem gapsG_in (d : Nat → Bool) (first : Nat) : ∀ (j k n : Nat), j ≤ k → (∀ i, n ≤ i → i < n + j → d i = true) → gapsG d k n first = gapsG d (k - j) (n + j) first := by
  intro j
  induction j with
  | zero => intro k n _ _; rfl
  | succ j ih =>
    intro k n hk hd
    cases k with
    | zero => omega
    | succ k =>
      rw [gapsG, hd n (Nat.le_refl _) (by omega), cond_true, ih k (n + 1) (by omega) (fun i h1 h2 => hd i (by omega) (by omega))]
      congr 1 <;> omega
theorem gapsG_out (d : Nat → Bool) : ∀ (j k n : Nat), j ≤ k → (∀ i, n ≤ i → i < n + j → d i = false) → gapsG d k n n = gapsG d (k - j) (n + j) (n + j) := by
  intro j
  induction j with
  | zero => intro k n _ _; rfl
  | succ j ih =>
    intro k n hk hd
    cases k with
    | zero => omega
    | succ k =>
      have hb : Nat.blt n n = false := by rw [Nat.blt]; exact ble_no (Nat.lt_succ_self _)
      rw [gapsG, hd n (Nat.le_refl _) (by omega), cond_false, hb, cond_false, List.nil_append, ih k (n + 1) (by omega) (fun i h1 h2 => hd i (by omega) (by omega))]
      congr 1 <;> omega
theorem gapsG_self (d : Nat → Bool) (n : Nat) : gapsG d 0 n n = [] := by
  have hb : Nat.blt n n = false := by rw [Nat.blt]; exact ble_no (Nat.lt_succ_self _)
  rw [gapsG, hb]; rfl
theorem gapsG_end (d : Nat → Bool) (k n first : Nat) (hf : first < n) (hd : k ≠ 0 → d n = false) : gapsG d k n first = (first, n - first) :: gapsG d k n n := by
  have hb : Nat.blt n n = false := by rw [Nat.blt]; exact ble_no (Nat.lt_succ_self _)
  have hf2 : Nat.blt first n = true := by simpa [Nat.blt] using Nat.ble_eq_true_of_le hf
  cases k with
  | zero => rw [gapsG, gapsG, hf2, hb]; rfl
  | succ k => rw [gapsG, gapsG, hd (by simp), hf2, hb]; rfl
def runsD (l : List (Nat × Nat)) : List Value := l.map fun p => cx p.1 p.2
theorem und3 : und T0 3 = some (.int .i64) := und_int
theorem gapsG_len (d : Nat → Bool) : ∀ (k n first : Nat), (gapsG d k n first).length ≤ k + 1 := by
  intro k
  induction k with
  | zero => intro n first; rw [gapsG]; cases Nat.blt first n <;> simp
  | succ k ih =>
    intro n first
    rw [gapsG]
    cases d n with
    | true => have := ih (n + 1) first; simp only [cond_true]; omega
    | false => have := ih (n + 1) (n + 1); cases Nat.blt first n <;> simp <;> omega
/-- The errors of flags.Down, and its answer. -/
def downE (len : Nat) (a b : Int) : Int := if len ≠ 60 then 2 else if a < 0 ∨ a > b ∨ b > 480 then 1 else 0
def downG (bs : List Nat) (a b : Int) : List (Nat × Nat) := if downE bs.length a b = 0 then gapsG (fun i => !bitB bs i) (b.toNat - a.toNat) a.toNat a.toNat else []
theorem ft32 : T0.ft.get 32 = some Tryz.f32 := by kernel_rfl
theorem ft92 : T0.ft.get 92 = some Tryz.f92 := by kernel_rfl
variable {call : Abs.Callee}
/-- The run of a first block and so many. -/
theorem rRun_S (x y : Int) (hx : zok x = true) (hy : zok y = true) (h : AH) : frameB T0 X0 call 3000 32 [iv x, iv y] h = some (make1V x y, h) := by
  rw [frameB_eq ft32 rfl rfl]
  unfold make1V
  by_cases h0 : y ≤ 0
  · simp only [Tryz.f32, symM, opFn, Nat.reduceLT, Nat.reduceBEq, bin_leq, decide_eq_true h0, if_pos h0]
    exact retB_one ft32 rfl get_same
  · simp only [Tryz.f32, symM, opFn, Nat.reduceLT, Nat.reduceBEq, bin_leq, decide_eq_false h0, if_neg h0, conv_i2f und_int und_f64 hx, conv_i2f und_int und_f64 hy]
    exact retB_one ft32 rfl get_same
theorem rpow0 (h : AH) : frameB T0 X0 call 3000 92 [iv 0] h = some (.int .u8 1, h) := by kernel_rfl
theorem rpow1 (h : AH) : frameB T0 X0 call 3000 92 [iv 1] h = some (.int .u8 2, h) := by kernel_rfl
theorem rpow2 (h : AH) : frameB T0 X0 call 3000 92 [iv 2] h = some (.int .u8 4, h) := by kernel_rfl
theorem rpow3 (h : AH) : frameB T0 X0 call 3000 92 [iv 3] h = some (.int .u8 8, h) := by kernel_rfl
theorem rpow4 (h : AH) : frameB T0 X0 call 3000 92 [iv 4] h = some (.int .u8 16, h) := by kernel_rfl
theorem rpow5 (h : AH) : frameB T0 X0 call 3000 92 [iv 5] h = some (.int .u8 32, h) := by kernel_rfl
theorem rpow6 (h : AH) : frameB T0 X0 call 3000 92 [iv 6] h = some (.int .u8 64, h) := by kernel_rfl
theorem rpow7 (h : AH) : frameB T0 X0 call 3000 92 [iv 7] h = some (.int .u8 128, h) := by kernel_rfl
theorem rpower_S (n : Nat) (hn : n < 8) (h : AH) : frameB T0 X0 call 3000 92 [iv n] h = some (.int .u8 ((2 ^ n : Nat) : Int), h) := by
  have hc : n = 0 ∨ n = 1 ∨ n = 2 ∨ n = 3 ∨ n = 4 ∨ n = 5 ∨ n = 6 ∨ n = 7 := by omega
  rcases hc with rfl | rfl | rfl | rfl | rfl | rfl | rfl | rfl
  · exact rpow0 h
  · exact rpow1 h
  · exact rpow2 h
  · exact rpow3 h
  · exact rpow4 h
  · exact rpow5 h
  · exact rpow6 h
  · exact rpow7 h
theorem ft59 : T0.ft.get 59 = some Tryz.f59 := by kernel_rfl
theorem Row.eqv {n : Nat} {h : AH} {v : Value} {l : List Value} {e : TypeId} (ho : Row n h v l e) : eqV v v = true := by
  rcases ho with ⟨rfl, _⟩ | ⟨b, o, cap, c, m, lo, hi, kd, el, rfl, _⟩
  · rfl
  · exact eqV_slice
noncomputable def bodyUp : Code := part Tryz.f59 [1, 1, 0, 1, 0, 0]
abbrev EUp : Env := ⟨59, 25, none⟩
theorem plan_Up : planB (part Tryz.f59 [1, 1, 0, 1, 0, 0, 1, 0, 0] |> fun | .region _ ops _ => ops | _ => #[]) 25 = some ([.one 0, .one 1, .one 2, .one 3, .one 4, .one 5, .one 6, .one 7, .eff [] 8 [0, 1, 2, 3, 4, 5], .one 9, .one 10, .one 11, .eff [12] 13 [], .one 14], []) := by kernel_rfl
theorem wrap8 (d : Nat) (h : d < 256) : IntKind.u8.wrap (d : Int) = d := IntWalk.u8_in _ (by omega)
theorem upL (bs : List Nat) (hbs : ∀ x ∈ bs, x < 256) (h60 : bs.length = 60) (m : Value) (n0 : Nat) (h0 : AH) (hn0 : n0 ≤ h0.next) (hm0 : Row n0 h0 m (bytesV bs) 5)
    (hpow : ∀ (n : Nat) h, n < 8 → call 92 [iv n] h = some (.int .u8 ((2 ^ n : Nat) : Int), h)) :
    ∀ (k i : Nat) (tm : PM Value) (h : AH) (v : Value) (N : Nat), i + k = 480 → k + 20 ≤ N → tm.get 0 = some m → tm.get 3 = some v → tm.get 4 = some (iv i) → Own n0 h v (boolsV (bitB bs) 0 i) 4 → Grow n0 h0 h →
      ∃ tm' h', codeB T0 X0 call N EUp (.loop bodyUp) tm h [] = .jump (.exit 0) tm' h' [] ∧ (∃ v', tm'.get 3 = some v' ∧ Own n0 h' v' (boolsV (bitB bs) 0 480) 4 ∧ Grow n0 h0 h') := by
  intro k
  induction k with
  | zero =>
    intro i tm h v N hi hN g0 g3 g4 hv hg
    obtain ⟨N, rfl⟩ : ∃ a, N = a + 20 := ⟨N - 20, by omega⟩
    have hlt : decide ((i : Int) < 480) = false := decide_eq_false (by omega)
    have hi2 : i = 480 := by omega
    apply Exists.intro; apply Exists.intro; apply And.intro
    · rw [codeB_loop]
      simp only [bodyUp, part, Tryz.f59, sub, symM, opFn, Nat.reduceLT, g4, bin_lss, hlt]
      rfl
    · exact ⟨v, by simp only [symM, Nat.reduceBEq, g3], by rw [← hi2]; exact hv, hg⟩
  | succ k ih =>
    intro i tm h v N hi hN g0 g3 g4 hv hg
    obtain ⟨N, rfl⟩ : ∃ a, N = a + 20 := ⟨N - 20, by omega⟩
    have hlt : decide ((i : Int) < 480) = true := decide_eq_true (by omega)
    have hm := hm0.grow hg (Nat.le_refl _)
    have hlen : i / 8 < bs.length := by omega
    obtain ⟨x, hx⟩ : ∃ x, bs[i / 8]? = some x := ⟨_, List.getElem?_eq_getElem hlen⟩
    have hx2 : x < 256 := hbs x (List.mem_of_getElem? hx)
    obtain ⟨p, e1, e2, e3⟩ := hm.at3 und_bytes sz_u8 agg_u8 (i := i / 8) (x := .int .u8 (x : Int)) (by simp [bytesV, hx])
    have hq : ∀ a b, evBin T0 .quo 3 a b (iv i) (iv 8) h = some (iv (i / 8 : Nat)) := fun a b => by
      show evBin T0 .quo 3 a b (iv i) (iv ((8 : Nat) : Int)) h = _
      rw [bin_quo (by decide), IntWalk.i64_in _ (by omega)]
    have hr : ∀ a b, evBin T0 .rem 3 a b (iv i) (iv 8) h = some (iv (i % 8 : Nat)) := fun a b => by
      show evBin T0 .rem 3 a b (iv i) (iv ((8 : Nat) : Int)) h = _
      rw [bin_rem (by decide)]
    have hpos : 2 ^ (i % 8) ≠ 0 := by have := Nat.two_pow_pos (i % 8); omega
    have hdiv : x / 2 ^ (i % 8) < 256 := Nat.lt_of_le_of_lt (Nat.div_le_self _ _) hx2
    have hd : ∀ a b, evBin T0 .quo 5 a b (.int .u8 (x : Int)) (.int .u8 ((2 ^ (i % 8) : Nat) : Int)) h = some (.int .u8 ((x / 2 ^ (i % 8) : Nat) : Int)) := fun a b => by
      rw [bin_quo hpos, wrap8 _ hdiv]
    have hm2 : ∀ a b, evBin T0 .rem 5 a b (.int .u8 ((x / 2 ^ (i % 8) : Nat) : Int)) (.int .u8 2) h = some (.int .u8 ((x / 2 ^ (i % 8) % 2 : Nat) : Int)) := fun a b => by
      show evBin T0 .rem 5 a b (.int .u8 ((x / 2 ^ (i % 8) : Nat) : Int)) (.int .u8 ((2 : Nat) : Int)) h = _
      rw [bin_rem (by decide)]
    have he : ∀ a b, evBin T0 .eql 5 a b (.int .u8 ((x / 2 ^ (i % 8) % 2 : Nat) : Int)) (.int .u8 1) h = some (.bool (bitB bs i)) := fun a b => by
      rw [bin_eql]
      have h3 : bs.getD (i / 8) 0 = x := by rw [List.getD_eq_getElem?_getD, hx]; rfl
      unfold bitB
      rw [h3, Nat.and_one_is_mod, Nat.shiftRight_eq_div_pow]
      congr 2
      rw [Bool.eq_iff_iff]
      simp only [beq_iff_eq]
      omega
    have hw : IntKind.i64.wrap ((i : Int) + 1) = ((i + 1 : Nat) : Int) := by rw [IntWalk.i64_in _ (by omega)]; simp
    obtain ⟨v2, h2', ea, eo, eg⟩ := append_one und_bools tt_bool ti_bool.1 ti_bool.2.1 ti_bool.2.2 hv (x := .bool (bitB bs i)) rfl (by rw [boolsV_len]; omega) (Nat.le_trans hn0 hg.next) 107
    have hp := plan_Up
    simp only [part, Tryz.f59, sub] at hp
    rw [show N + 20 = (N + 19) + 1 from rfl, codeB_loop]
    simp only [bodyUp, part, Tryz.f59, sub, symM, opFn, Nat.reduceLT, g4, bin_lss, hlt, codeB_draw]
    rw [draw_plan hp rfl]
    simp only [drawAll, opFn, Nat.reduceLT, Nat.reduceBEq, effE_cons, g0, g3, g4, hq, hr, e1, e2, evCall_fn ft92 rfl, hpow (i % 8) _ (Nat.mod_lt _ (by decide)), hm.eqv, hv.eqv, e3, hd, hm2, he, goAB_some bs_bool, ea, bin_add, hw]
    have hv2 : Own n0 h2' v2 (boolsV (bitB bs) 0 (i + 1)) 4 := by rw [← boolsV_snoc]; exact eo
    refine ih (i + 1) _ h2' v2 (N + 19) (by omega) (by omega) ?_ ?_ get_same hv2 (hg.trans eg (Nat.le_refl _))
    · simp only [symM, Nat.reduceBEq, g0]
    · simp only [symM, Nat.reduceBEq]
theorem Up_S (bs : List Nat) (hbs : ∀ x ∈ bs, x < 256) (h60 : bs.length = 60) (m : Value) (h : AH) (hm : Row h.next h m (bytesV bs) 5)
    (hpow : ∀ (n : Nat) h, n < 8 → call 92 [iv n] h = some (.int .u8 ((2 ^ n : Nat) : Int), h)) :
    ∃ v h', frameB T0 X0 call 3000 59 [m] h = some (v, h') ∧ Own h.next h' v (boolsV (bitB bs) 0 480) 4 ∧ Grow h.next h h' := by
  rw [frameB_eq ft59 rfl rfl]
  have g1 : Grow h.next h (h.new (.cells (PM.ofList []) 0 4 0 0 .ex)) := Grow.new _ _
  have hL := fun tm N => upL bs hbs h60 m h.next h (Nat.le_refl _) hm hpow 480 0 tm (h.new (.cells (PM.ofList []) 0 4 0 0 .ex)) (.slice (some ⟨h.next, 0, none⟩) 0 0) N (by omega)
  simp only [Tryz.f59, symM, opFn, Nat.reduceLT, bs_bool0]
  refine bind_loop (b := bodyUp) (P := fun x => ∃ v h', endF T0 59 x = some (v, h') ∧ Own h.next h' v (boolsV (bitB bs) 0 480) 4 ∧ Grow h.next h h') (hL _ _ (by omega) (by simp only [symM, Nat.reduceBEq]) (by simp only [symM, Nat.reduceBEq]) (by simp only [symM]; rfl) (Own.empty _ _ (Nat.le_refl _) _ _) g1) ?_
  intro tm' h' ⟨v', p3, p4, p5⟩
  refine ⟨v', h', ?_, p4, p5⟩
  simp only [symM, opFn, Nat.reduceLT, p3]
  exact retB_one ft59 rfl get_same
end
end Go.Proofs.YtonfgflgnnkniaaGreat.Abs
namespace Go.Proofs.YtonfgflgnnkniaaGreat.Abs
open Go Go.Proofs
noncomputable section
variable {call : Abs.Callee}
set_option maxRecDepth 10000
theorem ft10 : T0.ft.get 10 = some Tryz.f10 := by kernel_rfl
theorem ft9 : T0.ft.get 9 = some Tryz.f9 := by kernel_rfl
theorem ft31 : T0.ft.get 31 = some Tryz.f31 := by kernel_rfl
theorem ft60 : T0.ft.get 60 = some Tryz.f60 := by kernel_rfl
theorem ft58 : T0.ft.get 58 = some Tryz.f58 := by kernel_rfl
def markB (i j : Nat) : Nat := if 8 * j + 8 ≤ i then 255 else if i ≤ 8 * j then 0 else 2 ^ (i - 8 * j) - 1
def markL (i : Nat) : List Nat := (List.range 60).map (markB i)
theorem markL_0 : markL 0 = List.replicate 60 0 := by decide
theorem all_lt {p : Nat → Bool} {n : Nat} (h : (List.range n).all p = true) (i : Nat) (hi : i < n) : p i = true := (List.all_eq_true.1 h) i (List.mem_range.2 hi)
def mStep (i : Nat) : Bool := decide ((markL i).set (i / 8) (markB (i + 1) (i / 8)) = markL (i + 1)) && (decide (markB i (i / 8) ||| 2 ^ (i % 8) = markB (i + 1) (i / 8)) && (decide ((markL i)[i / 8]? = some (markB i (i / 8))) && (decide (markB i (i / 8) < 256) && decide ((markL i).set (i / 8) (markB i (i / 8)) = markL i))))
theorem mStep_all : (List.range 59).all mStep = true := by kernel_rfl
theorem mStep_at {i : Nat} (hi : i < 59) : (markL i).set (i / 8) (markB (i + 1) (i / 8)) = markL (i + 1) ∧ markB i (i / 8) ||| 2 ^ (i % 8) = markB (i + 1) (i / 8) ∧ (markL i)[i / 8]? = some (markB i (i / 8)) ∧ markB i (i / 8) < 256 ∧ (markL i).set (i / 8) (markB i (i / 8)) = markL i := by
  have := all_lt mStep_all i hi
  simp only [mStep, Bool.and_eq_true, decide_eq_true_eq] at this
  exact this
theorem markL_len (i : Nat) : (markL i).length = 60 := by simp [markL]
theorem markB_lt (i j : Nat) : markB i j < 256 := by
  unfold markB
  split
  · decide
  · split
    · decide
    · have : 2 ^ (i - 8 * j) ≤ 2 ^ 7 := Nat.pow_le_pow_right (by decide) (by omega)
      omega
theorem markL_lt (i : Nat) : ∀ x ∈ markL i, x < 256 := by
  intro x hx
  simp only [markL, List.mem_map] at hx
  obtain ⟨j, _, rfl⟩ := hx
  exact markB_lt i j
theorem OwnB.at {p j x : Nat} {h : AH} {v : Value} {bs : List Nat} (ho : OwnB p h v bs) (hj : bs[j]? = some x) : evIndexAddr T0 38 v (iv j) = some (pv p j) ∧ evLoad T0 5 (pv p j) h = some (bv x) := by
  obtain ⟨c, kd, cap, rfl, h2, h3, h4⟩ := ho
  have hl := (List.getElem?_eq_some_iff.1 hj).1
  have s1 : evIndexAddr T0 38 (.slice (some ⟨p, 0, none⟩) bs.length cap) (iv (j : Int)) = some (pv p (0 + j * 1)) := idx_slice und_bytes sz_u8 hl
  rw [show 0 + j * 1 = j by omega] at s1
  exact ⟨s1, load_one agg_u8 h2 hl (h3 j (bv x) (by simp [bytesV, hj]))⟩
theorem andNot8 {T : Tab} {t : TypeId} {p q : Operand} {h : AH} {x y z : Nat} (hz : (BitVec.ofInt IntKind.u8.bits (x : Int) &&& ~~~(BitVec.ofInt IntKind.u8.bits (y : Int))).toNat = z) (h8 : z < 256) :
    evBin T .andNot t p q (bv x) (bv y) h = some (bv z) := by
  have hk : decide (IntKind.u8 = IntKind.u8) = true := by decide
  show orV (ifB (decide (IntKind.u8 = IntKind.u8)) (fastInt .andNot .u8 (x : Int) y) none) (slowBin T .andNot t p q (.int .u8 (x : Int)) (.int .u8 (y : Int))) = _
  have hf : fastInt .andNot .u8 (x : Int) y = none := rfl
  rw [hk, ifB_true, hf, slow_of (v := .int .u8 (z : Int)) ?_ rfl]; · rfl
  show Op.intBits .andNot .u8 (x : Int) (y : Int) = _
  unfold Op.intBits
  simp only
  rw [hz, wu8 h8]
  rfl
def mAnd (i : Nat) : Bool := decide ((BitVec.ofInt IntKind.u8.bits (markB i (i / 8) : Int) &&& ~~~(BitVec.ofInt IntKind.u8.bits ((2 ^ (i % 8) : Nat) : Int))).toNat = markB i (i / 8))
theorem mAnd_all : (List.range 59).all mAnd = true := by kernel_rfl
theorem mAnd_at {i : Nat} (hi : i < 59) {T : Tab} {t : TypeId} {p q : Operand} {h : AH} : evBin T .andNot t p q (bv (markB i (i / 8))) (bv (2 ^ (i % 8))) h = some (bv (markB i (i / 8))) := by
  have := all_lt mAnd_all i hi
  simp only [mAnd, decide_eq_true_eq] at this
  exact andNot8 this (markB_lt _ _)
theorem New_S (h : AH) : ∃ v' p' h', frameB T0 X0 call 3000 10 [] h = some (v', h') ∧ h.next ≤ p' ∧ p' < h'.next ∧ OwnB p' h' v' (markL 0) ∧ Grow h.next h h' := by
  obtain ⟨h1, e1, e2, e3⟩ := make_bytes (h := h) (k := 60) (by omega)
  have e1 : evMakeSlice T0 38 (iv 60) (iv 60) h = _ := e1
  obtain ⟨p, q1, q2, q3⟩ := e2.toB (by simp)
  refine ⟨_, p, h1, ?_, q1, q2, by rw [markL_0]; exact q3, e3⟩
  rw [frameB_eq ft10 rfl rfl]
  simp only [Tryz.f10, symM, opFn, Nat.reduceLT, symM, e1]
  exact retB_one ft10 rfl get_same
noncomputable def bodyMrk : Code := part Tryz.f9 [1, 1, 1, 0, 1, 0, 0, 1, 1, 0, 0, 1, 1, 1, 1, 0, 0]
abbrev EMrk : Env := ⟨9, 65, none⟩
theorem plan_Mk1 : planB (regOps Tryz.f9 [1, 1, 1, 0, 1, 0, 0, 1, 1, 0, 0, 1, 1, 1, 1, 0, 0, 1, 0, 0, 0]) 65 = some ([.one 0, .one 1, .one 2, .one 3, .one 4, .one 5, .one 6, .one 7, .one 8, .one 9, .eff [] 10 []], []) := by kernel_rfl
theorem plan_Mk2 : planB (regOps Tryz.f9 [1, 1, 1, 0, 1, 0, 0, 1, 1, 0, 0, 1, 1, 1, 1, 0, 0, 1, 0, 0, 1, 1, 0]) 65 = some ([.one 0, .one 1, .one 2, .one 3, .one 4, .one 5, .one 6, .one 7, .one 8, .one 9, .eff [] 10 []], []) := by kernel_rfl
theorem sh8 {T : Tab} {t : TypeId} {p q : Operand} {h : AH} {k : Nat} (hk : k < 8) : evBin T .shl t p q (.int .u8 1) (iv k) h = some (bv (2 ^ k)) := by
  show evBin T .shl t p q (.int .u8 ((1 : Nat) : Int)) (iv (k : Int)) h = _
  rw [bin_shl (show k < IntKind.u8.bits from hk), Nat.shiftLeft_eq, Nat.one_mul, wu8]
  exact Nat.lt_of_lt_of_le (Nat.pow_lt_pow_right (by decide) hk) (by decide)
theorem wrapO {A B : PM Value → AH → Prop} {p : Nat} {a b : AH} (H : ∃ t c, A t c ∧ (B t c ∧ One p b c)) (g : One p a b) : ∃ t c, A t c ∧ (B t c ∧ One p a c) := by
  obtain ⟨t, c, h1, h2, h3⟩ := H
  exact ⟨t, c, h1, h2, g.trans h3⟩
theorem markLp (p : Nat) (v : Value) : ∀ (k i : Nat) (h : AH) (tm : PM Value) (N : Nat), i + k = 59 → k + 60 ≤ N → p < h.next → OwnB p h v (markL i) →
    tm.get 1 = some (.bool true) → tm.get 8 = some v → tm.get 11 = some (iv 0) → tm.get 12 = some (iv 59) → tm.get 14 = some (iv i) → tm.get 21 = some (iv 1) → tm.get 22 = some (iv 0) →
    ∃ tm' h', codeB T0 X0 call N EMrk (.loop bodyMrk) tm h [] = .jump (.exit 2) tm' h' [] ∧ ((tm'.get 8 = some v ∧ tm'.get 21 = some (iv 1) ∧ tm'.get 22 = some (iv 0) ∧ OwnB p h' v (markL 59)) ∧ One p h h') := by
  intro k
  induction k with
  | zero =>
    intro i h tm N hi hN hp ho g1 g8 g11 g12 g14 g21 g22
    obtain ⟨N, rfl⟩ : ∃ a, N = a + 60 := ⟨N - 60, by omega⟩
    have hi59 : i = 59 := by omega
    subst hi59
    apply Exists.intro; apply Exists.intro
    refine ⟨?_, ⟨?_, ?_, ?_, ho⟩, One.refl _ _⟩
    · rw [codeB_loop]
      simp only [bodyMrk, part, Tryz.f9, sub, symM, opFn, Nat.reduceLT, Nat.reduceBEq, symM, g11, g12, g14, bin_add, show IntKind.i64.wrap (0 + 59) = 59 from rfl, bin_lss, decide_eq_false (show ¬ ((59 : Nat) : Int) < 59 by omega)]
      rfl
    · simp only [symM, Nat.reduceBEq, g8]
    · simp only [symM, Nat.reduceBEq, g21]
    · simp only [symM, Nat.reduceBEq, g22]
  | succ k ih =>
    intro i h tm N hi hN hp ho g1 g8 g11 g12 g14 g21 g22
    obtain ⟨N, rfl⟩ : ∃ a, N = a + 60 := ⟨N - 60, by omega⟩
    have h59 : i < 59 := by omega
    obtain ⟨m1, m2, m3, m4, m5⟩ := mStep_at h59
    obtain ⟨a1, a2⟩ := ho.at m3
    obtain ⟨h1, b1, b2, b3⟩ := ho.storeAt (i := i / 8) (x := markB i (i / 8)) hp (by rw [markL_len]; omega)
    rw [m5] at b2
    obtain ⟨c1, c2⟩ := b2.at m3
    obtain ⟨h2, d1, d2, d3⟩ := b2.storeAt (i := i / 8) (x := markB (i + 1) (i / 8)) (by rw [b3.next]; exact hp) (by rw [markL_len]; omega)
    rw [m1] at d2
    have hp13 := plan_Mk1
    have hp15 := plan_Mk2
    simp only [regOps, part, Tryz.f9, sub] at hp13 hp15
    have q8 : ∀ p q h, evBin T0 .quo 3 p q (iv i) (iv 8) h = some (iv (i / 8 : Nat)) := fun p q h => by rw [quo8, wz (by omega)]
    have r8 : ∀ p q h, evBin T0 .rem 3 p q (iv i) (iv 8) h = some (iv (i % 8 : Nat)) := fun p q h => bin_rem (n := 8) (by decide)
    have o8 : ∀ p q h, evBin T0 .or 5 p q (bv (markB i (i / 8))) (bv (2 ^ (i % 8))) h = some (bv (markB (i + 1) (i / 8))) := fun p q h => by
      rw [bin_or (show markB i (i / 8) < bitsOf IntKind.u8 from m4) (show 2 ^ (i % 8) < bitsOf IntKind.u8 from (Nat.lt_of_lt_of_le (Nat.pow_lt_pow_right (by decide) (Nat.mod_lt i (by decide : 8 > 0))) (by decide : 2 ^ 8 ≤ 256))), m2, wu8 (markB_lt _ _)]
    rw [show N + 60 = (N + 59) + 1 from rfl, codeB_loop]
    simp only [bodyMrk, part, Tryz.f9, sub, symM, opFn, Nat.reduceLT, Nat.reduceBEq, symM, g11, g12, g14, bin_add, show IntKind.i64.wrap (0 + 59) = 59 from rfl, bin_lss, decide_eq_true (show (i : Int) < 59 by omega)]
    rw [codeB_draw, draw_plan hp13 rfl]
    simp only [drawAll, opFn, Nat.reduceLT, Nat.reduceBEq, g1, g8, g14, q8, r8, a1, a2, sh8 (Nat.mod_lt i (by decide : 8 > 0)), mAnd_at h59, b1]
    rw [draw_plan hp15 rfl]
    simp only [drawAll, opFn, Nat.reduceLT, Nat.reduceBEq, g8, g14, q8, r8, c1, c2, sh8 (Nat.mod_lt i (by decide : 8 > 0)), o8, d1, bin_add, wadd1 (show i ≤ 400000 by omega)]
    exact wrapO (ih (i + 1) h2 _ (N + 59) (by omega) (by omega) (by rw [d3.next, b3.next]; exact hp) d2 (by simp only [symM, Nat.reduceBEq, g1]) (by simp only [symM, Nat.reduceBEq, g8]) (by simp only [symM, Nat.reduceBEq, g11]) (by simp only [symM, Nat.reduceBEq, g12]) get_same (by simp only [symM, Nat.reduceBEq, g21]) (by simp only [symM, Nat.reduceBEq, g22])) (b3.trans d3)
abbrev RunPC (call : Abs.Callee) : Prop := ∀ (x y : Nat) h, x ≤ 1048576 → y ≤ 1048576 → call 19 [cx x y] h = some (partsV x y, h)
theorem parts59 : partsV 0 59 = .tuple #[iv 0, iv 59, iv 0] := by kernel_rfl
theorem Mark_S (hCl : BCloneC call) (hR : RunPC call) (p b : Nat) (v : Value) (h : AH) (ho : OwnB p h v (markL 0)) (hp : p < h.next) (hb : BoxL h b 47 [cx ((0 : Nat) : Int) ((59 : Nat) : Int)]) (hb2 : b < h.next) :
    ∃ v' p' h', frameB T0 X0 call 3000 9 [v, .bool true, .slice (some ⟨b, 0, none⟩) 1 1] h = some (.tuple #[v', iv 0], h') ∧ h.next ≤ p' ∧ p' < h'.next ∧ OwnB p' h' v' (markL 59) ∧ Grow h.next h h' := by
  have hlen : ∀ ty h', evBuiltin T0 .len #[38] ty [v] h' = some (.value (iv 60), h') := fun ty h' => by
    rw [ho.row.len und_bytes, bytesV_len, markL_len]; rfl
  have hlen2 : ∀ ty h', evBuiltin T0 .len #[66] ty [.slice (some ⟨b, 0, none⟩) 1 1] h' = some (.value (iv 1), h') := fun ty h' => len_slice und_c128s
  obtain ⟨v1, q, h1, a1, a2, a3, a4, a5⟩ := hCl p v (markL 0) h ho hp (by rw [markL_len]; decide) (by rw [markL_len]; decide)
  have hb1 := hb.grow a5 hb2
  have ix : evIndexAddr T0 66 (.slice (some ⟨b, 0, none⟩) 1 1) (iv 0) = some (pv b 0) := idx_slice (i := 0) und_c128s sz_c128 (by decide)
  have ld : evLoad T0 47 (pv b 0) h1 = some (cx ((0 : Nat) : Int) ((59 : Nat) : Int)) := hb1.load agg_c128 (i := 0) rfl
  have hr := hR 0 59 h1 (by decide) (by decide)
  rw [parts59] at hr
  rw [frameB_eq ft9 rfl rfl]
  simp only [Tryz.f9, symM, opFn, Nat.reduceLT, Nat.reduceBEq, symM, symL, hlen, hlen2, bin_neq, show ((60 : Int) == 60) = true from rfl, evCall_fn ft17 rfl, a1]
  rw [codeB_loop]
  simp only [symM, opFn, Nat.reduceLT, Nat.reduceBEq, symM, symL, bin_lss, show decide ((0 : Int) < 1) = true from rfl, ix, ld, evCall_fn ft19 rfl, hr, bin_neq, show ((0 : Int) == 0) = true from rfl]
  generalize hX : codeB T0 X0 call _ EMrk (.loop _) _ _ _ = X
  obtain ⟨t2, h2, c1, ⟨c2, c3, c4, c5⟩, c6⟩ := use_exit hX (markLp q v1 59 0 h1 _ _ (by omega) (by omega) a3 a4 (by simp only [symM, Nat.reduceBEq]) (by simp only [symM, Nat.reduceBEq]) (by simp only [symM, Nat.reduceBEq]) (by simp only [symM, Nat.reduceBEq]) (by simp only [symM]; rfl) (by simp only [symM, Nat.reduceBEq]) (by simp only [symM, Nat.reduceBEq]))
  clear hX
  subst c1
  refine ⟨v1, q, h2, ?_, a2, by rw [c6.next]; exact a3, c5, a5.trans (c6.grow a2) (Nat.le_refl _)⟩
  simp only [symM, opFn, Nat.reduceLT, symM, symL, c4, bin_add, show IntKind.i64.wrap (0 + 1) = 1 from rfl]
  rw [codeB_loop]
  simp only [symM, opFn, Nat.reduceLT, Nat.reduceBEq, symM, symL, c2, c3, bin_lss, show decide ((1 : Int) < 1) = false from rfl]
  exact retB_two ft9 rfl (by simp only [symM, Nat.reduceBEq]) get_same
end
end Go.Proofs.YtonfgflgnnkniaaGreat.Abs
namespace Go.Proofs.YtonfgflgnnkniaaGreat.Abs
open Go Go.Proofs
noncomputable section
variable {call : Abs.Callee}
set_option maxRecDepth 10000
def ltF (i : Nat) : Nat → Bool := fun j => Nat.blt j (Nat.min i 59)
theorem ltF_set {i : Nat} (h : i < 59) : (boolsV (ltF i) 0 480).set i (.bool true) = boolsV (ltF (i + 1)) 0 480 := by
  rw [boolsV_set]
  apply boolsV_congr
  intro j _
  unfold ltF
  rw [show Nat.min i 59 = i from Nat.min_eq_left (by omega), show Nat.min (i + 1) 59 = i + 1 from Nat.min_eq_left (by omega)]
  by_cases e : j = i
  · subst e
    rw [if_pos rfl]
    exact (show Nat.blt j (j + 1) = true by simp).symm
  · rw [if_neg e, Bool.eq_iff_iff]
    simp only [Nat.blt_eq]
    omega
theorem ltF_top {i : Nat} (h : 59 ≤ i) : ltF i = ltF 59 := by
  unfold ltF
  rw [show Nat.min i 59 = 59 from Nat.min_eq_right h]; rfl
theorem ltF_get {i : Nat} : ltF 59 i = decide (i < 59) := by
  unfold ltF
  rw [Bool.eq_iff_iff]
  simp
noncomputable def bodyBk : Code := part Tryz.f58 [1, 1, 0, 1, 0, 0, 1, 0, 0, 1, 1, 1, 0, 0]
abbrev EBk : Env := ⟨58, 40, none⟩
theorem blkLp (n1 : Nat) (v r : Value) : ∀ (k i : Nat) (h : AH) (tm : PM Value) (N : Nat), i + k = 59 → k + 60 ≤ N → Own n1 h v (boolsV (ltF i) 0 480) 4 →
    tm.get 0 = some r → tm.get 4 = some v → tm.get 5 = some (iv 0) → tm.get 6 = some (iv 0) → tm.get 7 = some (iv 59) → tm.get 9 = some (iv i) →
    ∃ tm' h', codeB T0 X0 call N EBk (.loop bodyBk) tm h [] = .jump (.exit 2) tm' h' [] ∧ ((tm'.get 0 = some r ∧ tm'.get 4 = some v ∧ tm'.get 5 = some (iv 0) ∧ Own n1 h' v (boolsV (ltF 59) 0 480) 4) ∧ Grow n1 h h') := by
  intro k
  induction k with
  | zero =>
    intro i h tm N hi hN ho g0 g4 g5 g6 g7 g9
    obtain ⟨N, rfl⟩ : ∃ a, N = a + 60 := ⟨N - 60, by omega⟩
    have hi59 : i = 59 := by omega
    subst hi59
    apply Exists.intro; apply Exists.intro
    refine ⟨?_, ⟨?_, ?_, ?_, ho⟩, Grow.refl _ _⟩
    · rw [codeB_loop]
      simp only [bodyBk, part, Tryz.f58, sub, symM, opFn, Nat.reduceLT, Nat.reduceBEq, symM, g6, g7, g9, bin_add, show IntKind.i64.wrap (0 + 59) = 59 from rfl, bin_lss, decide_eq_false (show ¬ ((59 : Nat) : Int) < 59 by omega)]
      rfl
    · simp only [symM, Nat.reduceBEq, g0]
    · simp only [symM, Nat.reduceBEq, g4]
    · simp only [symM, Nat.reduceBEq, g5]
  | succ k ih =>
    intro i h tm N hi hN ho g0 g4 g5 g6 g7 g9
    obtain ⟨N, rfl⟩ : ∃ a, N = a + 60 := ⟨N - 60, by omega⟩
    obtain ⟨p, h1, a1, a2, a3, a4, a5⟩ := ho.store und_bools sz_bool (x := .bool true) rfl (boolsV_at (ltF i) (show i < 480 by omega))
    rw [ltF_set (by omega)] at a3
    rw [show N + 60 = (N + 59) + 1 from rfl, codeB_loop]
    simp only [bodyBk, part, Tryz.f58, sub, symM, opFn, Nat.reduceLT, Nat.reduceBEq, symM, g4, g6, g7, g9, bin_add, show IntKind.i64.wrap (0 + 59) = 59 from rfl, bin_lss, decide_eq_true (show (i : Int) < 59 by omega), a1, a2, wadd1 (show i ≤ 400000 by omega)]
    exact wrapE (ih (i + 1) h1 _ (N + 59) (by omega) (by omega) a3 (by simp only [symM, Nat.reduceBEq, g0]) (by simp only [symM, Nat.reduceBEq, g4]) (by simp only [symM, Nat.reduceBEq, g5]) (by simp only [symM, Nat.reduceBEq, g6]) (by simp only [symM, Nat.reduceBEq, g7]) get_same) a4
abbrev RPartsC (call : Abs.Callee) : Prop := ∀ (x y : Nat) (h : AH), x ≤ 1048576 → y ≤ 1048576 → ∃ h', call 91 [cx x y] h = some (.tuple #[iv x, iv y, .bool (runOK x y)], h') ∧ Grow h.next h h'
theorem rBlocks_S (hP : RPartsC call) (b : Nat) (h : AH) (hb : BoxL h b 47 [cx ((0 : Nat) : Int) ((59 : Nat) : Int)]) (hb2 : b < h.next) :
    ∃ v' h', frameB T0 X0 call 3000 58 [.slice (some ⟨b, 0, none⟩) 1 1] h = some (.tuple #[v', .bool true], h') ∧ Own h.next h' v' (boolsV (ltF 59) 0 480) 4 ∧ Grow h.next h h' := by
  have hlen2 : ∀ ty h', evBuiltin T0 .len #[66] ty [.slice (some ⟨b, 0, none⟩) 1 1] h' = some (.value (iv 1), h') := fun ty h' => len_slice und_c128s
  obtain ⟨h1, a1, a2, a3⟩ := make_bools (h := h) (k := 480) (by omega)
  have a1 : evMakeSlice T0 107 (iv 480) (iv 480) h = _ := a1
  have hb1 := hb.grow a3 hb2
  have ix : evIndexAddr T0 66 (.slice (some ⟨b, 0, none⟩) 1 1) (iv 0) = some (pv b 0) := idx_slice (i := 0) und_c128s sz_c128 (by decide)
  have ld : evLoad T0 47 (pv b 0) h1 = some (cx ((0 : Nat) : Int) ((59 : Nat) : Int)) := hb1.load agg_c128 (i := 0) rfl
  obtain ⟨h2, hr, b2⟩ := hP 0 59 h1 (by decide) (by decide)
  have hr : call 91 [cx ((0 : Nat) : Int) ((59 : Nat) : Int)] h1 = some (.tuple #[iv 0, iv 59, .bool true], h2) := hr
  have o2 : Own h.next h2 (.slice (some ⟨h.next, 0, none⟩) 480 480) (boolsV (ltF 0) 0 480) 4 := by
    rw [boolsV_congr (ltF 0) (fun _ => false) 480 (fun j _ => by unfold ltF; rw [show Nat.min 0 59 = 0 from rfl, Bool.eq_iff_iff]; simp)]
    exact a2.grow b2
  rw [frameB_eq ft58 rfl rfl]
  simp only [Tryz.f58, symM, opFn, Nat.reduceLT, symM, symL, a1]
  rw [codeB_loop]
  simp only [symM, opFn, Nat.reduceLT, Nat.reduceBEq, symM, symL, hlen2, bin_lss, show decide ((0 : Int) < 1) = true from rfl, ix, ld, evCall_fn ft91 rfl, hr]
  generalize hX : codeB T0 X0 call _ EBk (.loop _) _ _ _ = X
  obtain ⟨t2, h3, c1, ⟨c2, c3, c4, c5⟩, c6⟩ := use_exit hX (blkLp h.next (.slice (some ⟨h.next, 0, none⟩) 480 480) (.slice (some ⟨b, 0, none⟩) 1 1) 59 0 h2 _ _ (by omega) (by omega) o2 (by simp only [symM, Nat.reduceBEq]) (by simp only [symM, Nat.reduceBEq]) (by simp only [symM, Nat.reduceBEq]) (by simp only [symM, Nat.reduceBEq]) (by simp only [symM, Nat.reduceBEq]) (by simp only [symM]; rfl))
  clear hX
  subst c1
  refine ⟨_, h3, ?_, c5, (a3.trans b2 a3.next).trans c6 (Nat.le_refl _)⟩
  simp only [symM, opFn, Nat.reduceLT, symM, symL, c4, bin_add, show IntKind.i64.wrap (0 + 1) = 1 from rfl]
  rw [codeB_loop]
  simp only [symM, opFn, Nat.reduceLT, Nat.reduceBEq, symM, symL, c2, c3, hlen2, bin_lss, show decide ((1 : Int) < 1) = false from rfl]
  exact retB_two ft58 rfl (by simp only [symM, Nat.reduceBEq]) get_same
noncomputable def bodyMp : Code := part Tryz.f60 [1, 1, 0, 1, 0, 0]
abbrev EMp : Env := ⟨60, 25, none⟩
theorem plan_Map : planB (regOps Tryz.f60 [1, 1, 0, 1, 0, 0, 1, 0, 0, 1, 0]) 25 = some ([.one 0, .one 1, .one 2, .one 3, .one 4, .one 5, .one 6, .eff [] 7 [0, 1, 2, 3, 4], .one 8, .one 9, .eff [] 10 []], []) := by kernel_rfl
def mAdd (i : Nat) : Bool := decide (markB i (i / 8) + 2 ^ (i % 8) = markB (i + 1) (i / 8))
theorem mAdd_all : (List.range 59).all mAdd = true := by kernel_rfl
theorem mAdd_at {i : Nat} (hi : i < 59) {T : Tab} {t : TypeId} {p q : Operand} {h : AH} : evBin T .add t p q (bv (markB i (i / 8))) (.int .u8 ((2 ^ (i % 8) : Nat) : Int)) h = some (bv (markB (i + 1) (i / 8))) := by
  have := all_lt mAdd_all i hi
  simp only [mAdd, decide_eq_true_eq] at this
  rw [bin_add, show ((markB i (i / 8) : Nat) : Int) + ((2 ^ (i % 8) : Nat) : Int) = ((markB (i + 1) (i / 8) : Nat) : Int) by omega, wu8 (markB_lt _ _)]
abbrev PowC (call : Abs.Callee) : Prop := ∀ (n : Nat) h, n < 8 → call 92 [iv n] h = some (.int .u8 ((2 ^ n : Nat) : Int), h)
theorem mapLp (hpow : PowC call) (p : Nat) (v r : Value) (n0 : Nat) (hnp : n0 ≤ p) : ∀ (k i : Nat) (h : AH) (tm : PM Value) (N : Nat), i + k = 480 → k + 60 ≤ N → p < h.next → OwnB p h v (markL (Nat.min i 59)) → Row n0 h r (boolsV (ltF 59) 0 480) 4 →
    tm.get 0 = some r → tm.get 3 = some v → tm.get 4 = some (iv i) →
    ∃ tm' h', codeB T0 X0 call N EMp (.loop bodyMp) tm h [] = .jump (.exit 0) tm' h' [] ∧ ((tm'.get 3 = some v ∧ OwnB p h' v (markL 59)) ∧ One p h h') := by
  intro k
  induction k with
  | zero =>
    intro i h tm N hi hN hp ho hr g0 g3 g4
    obtain ⟨N, rfl⟩ : ∃ a, N = a + 60 := ⟨N - 60, by omega⟩
    have hi59 : i = 480 := by omega
    subst hi59
    apply Exists.intro; apply Exists.intro
    refine ⟨?_, ⟨?_, ho⟩, One.refl _ _⟩
    · rw [codeB_loop]
      simp only [bodyMp, part, Tryz.f60, sub, symM, opFn, Nat.reduceLT, symM, g4, bin_lss, decide_eq_false (show ¬ ((480 : Nat) : Int) < 480 by omega)]
      rfl
    · simp only [symM, Nat.reduceBEq, g3]
  | succ k ih =>
    intro i h tm N hi hN hp ho hr g0 g3 g4
    obtain ⟨N, rfl⟩ : ∃ a, N = a + 60 := ⟨N - 60, by omega⟩
    obtain ⟨q, q1, q2⟩ := hr.at und_bools sz_bool agg_bool (boolsV_at (ltF 59) (show i < 480 by omega))
    rw [show N + 60 = (N + 59) + 1 from rfl, codeB_loop]
    by_cases h59 : i < 59
    · rw [ltF_get, decide_eq_true h59] at q2
      obtain ⟨m1, m2, m3, m4, m5⟩ := mStep_at h59
      rw [show Nat.min i 59 = i from Nat.min_eq_left (by omega)] at ho
      obtain ⟨a1, a2⟩ := ho.at m3
      obtain ⟨h1, b1, b2, b3⟩ := ho.storeAt (i := i / 8) (x := markB (i + 1) (i / 8)) hp (by rw [markL_len]; omega)
      rw [m1] at b2
      have q8 : ∀ p q h, evBin T0 .quo 3 p q (iv i) (iv 8) h = some (iv (i / 8 : Nat)) := fun p q h => by rw [quo8, wz (by omega)]
      have r8 : ∀ p q h, evBin T0 .rem 3 p q (iv i) (iv 8) h = some (iv (i % 8 : Nat)) := fun p q h => bin_rem (n := 8) (by decide)
      have hp6 := plan_Map
      simp only [regOps, part, Tryz.f60, sub] at hp6
      have hev : eqV v v = true := ho.one1.2.2
      simp only [bodyMp, part, Tryz.f60, sub, symM, opFn, Nat.reduceLT, Nat.reduceBEq, symM, g0, g4, bin_lss, decide_eq_true (show (i : Int) < 480 by omega), q1, q2]
      rw [codeB_draw, draw_plan hp6 rfl]
      simp only [drawAll, opFn, Nat.reduceLT, Nat.reduceBEq, g3, g4, q8, r8, a1, a2, hev, evCall_fn ft92 rfl, hpow (i % 8) _ (Nat.mod_lt _ (by decide)), effE_cons, mAdd_at h59, b1, bin_add, wadd1 (show i ≤ 400000 by omega)]
      exact wrapO (ih (i + 1) h1 _ (N + 59) (by omega) (by omega) (by rw [b3.next]; exact hp) (by rw [show Nat.min (i + 1) 59 = i + 1 from Nat.min_eq_left (by omega)]; exact b2) (hr.grow (b3.grow hnp) (Nat.le_refl _)) (by simp only [symM, Nat.reduceBEq, g0]) (by simp only [symM, Nat.reduceBEq, g3]) get_same) b3
    · rw [ltF_get, decide_eq_false h59] at q2
      simp only [bodyMp, part, Tryz.f60, sub, symM, opFn, Nat.reduceLT, Nat.reduceBEq, symM, g0, g4, bin_lss, decide_eq_true (show (i : Int) < 480 by omega), q1, q2, bin_add, wadd1 (show i ≤ 400000 by omega)]
      exact ih (i + 1) h _ (N + 59) (by omega) (by omega) hp (by rw [show Nat.min (i + 1) 59 = 59 from Nat.min_eq_right (by omega)]; rw [show Nat.min i 59 = 59 from Nat.min_eq_right (by omega)] at ho; exact ho) hr (by simp only [symM, Nat.reduceBEq, g0]) (by simp only [symM, Nat.reduceBEq, g3]) get_same
theorem rMap_S (hpow : PowC call) (r : Value) (h : AH) (hr : Row h.next h r (boolsV (ltF 59) 0 480) 4) :
    ∃ v' p' h', frameB T0 X0 call 3000 60 [r] h = some (v', h') ∧ h.next ≤ p' ∧ p' < h'.next ∧ OwnB p' h' v' (markL 59) ∧ Grow h.next h h' := by
  obtain ⟨h1, e1, e2, e3⟩ := make_bytes (h := h) (k := 60) (by omega)
  have e1 : evMakeSlice T0 38 (iv 60) (iv 60) h = _ := e1
  obtain ⟨p, q1, q2, q3⟩ := e2.toB (by simp)
  rw [← markL_0] at q3
  rw [frameB_eq ft60 rfl rfl]
  simp only [Tryz.f60, symM, opFn, Nat.reduceLT, symM, symL, e1]
  generalize hX : codeB T0 X0 call _ EMp (.loop _) _ _ _ = X
  obtain ⟨t2, h2, c1, ⟨c2, c3⟩, c4⟩ := use_exit hX (mapLp hpow p _ r h.next q1 480 0 h1 _ _ (by omega) (by omega) q2 q3 (hr.grow e3 (Nat.le_refl _)) (by simp only [symM, Nat.reduceBEq]) (by simp only [symM, Nat.reduceBEq]) (by simp only [symM]; rfl))
  clear hX
  subst c1
  refine ⟨_, p, h2, ?_, q1, by rw [c4.next]; exact q2, c3, e3.trans (c4.grow q1) (Nat.le_refl _)⟩
  simp only [symM, opFn, Nat.reduceLT, symM, symL, c2]
  exact retB_one ft60 rfl get_same
noncomputable def bodyRmk : Code := part Tryz.f31 [1, 1, 1, 1, 1, 0, 1, 0, 0]
abbrev ERmk : Env := ⟨31, 38, none⟩
theorem rmkLp (n1 : Nat) (v r : Value) (n0 : Nat) (hn : n0 ≤ n1) : ∀ (k i : Nat) (h : AH) (tm : PM Value) (N : Nat), i + k = 480 → k + 60 ≤ N → Own n1 h v (boolsV (ltF i) 0 480) 4 → Row n0 h r (boolsV (ltF 59) 0 480) 4 →
    tm.get 1 = some (.bool true) → tm.get 8 = some r → tm.get 10 = some v → tm.get 11 = some (iv i) →
    ∃ tm' h', codeB T0 X0 call N ERmk (.loop bodyRmk) tm h [] = .jump (.exit 0) tm' h' [] ∧ ((tm'.get 10 = some v ∧ Own n1 h' v (boolsV (ltF 59) 0 480) 4) ∧ Grow n1 h h') := by
  intro k
  induction k with
  | zero =>
    intro i h tm N hi hN ho hr g1 g8 g10 g11
    obtain ⟨N, rfl⟩ : ∃ a, N = a + 60 := ⟨N - 60, by omega⟩
    have hi59 : i = 480 := by omega
    subst hi59
    rw [ltF_top (show 59 ≤ 480 by decide)] at ho
    apply Exists.intro; apply Exists.intro
    refine ⟨?_, ⟨?_, ho⟩, Grow.refl _ _⟩
    · rw [codeB_loop]
      simp only [bodyRmk, part, Tryz.f31, sub, symM, opFn, Nat.reduceLT, symM, g11, bin_lss, decide_eq_false (show ¬ ((480 : Nat) : Int) < 480 by omega)]
      rfl
    · simp only [symM, Nat.reduceBEq, g10]
  | succ k ih =>
    intro i h tm N hi hN ho hr g1 g8 g10 g11
    obtain ⟨N, rfl⟩ : ∃ a, N = a + 60 := ⟨N - 60, by omega⟩
    obtain ⟨q, q1, q2⟩ := hr.at und_bools sz_bool agg_bool (boolsV_at (ltF 59) (show i < 480 by omega))
    rw [show N + 60 = (N + 59) + 1 from rfl, codeB_loop]
    by_cases h59 : i < 59
    · rw [ltF_get, decide_eq_true h59] at q2
      obtain ⟨p, h1, a1, a2, a3, a4, a5⟩ := ho.store und_bools sz_bool (x := .bool true) rfl (boolsV_at (ltF i) (show i < 480 by omega))
      rw [ltF_set (by omega)] at a3
      simp only [bodyRmk, part, Tryz.f31, sub, symM, opFn, Nat.reduceLT, Nat.reduceBEq, symM, g1, g8, g10, g11, bin_lss, decide_eq_true (show (i : Int) < 480 by omega), q1, q2, a1, a2, bin_add, wadd1 (show i ≤ 400000 by omega)]
      exact wrapE (ih (i + 1) h1 _ (N + 59) (by omega) (by omega) a3 (hr.grow a4 hn) (by simp only [symM, Nat.reduceBEq, g1]) (by simp only [symM, Nat.reduceBEq, g8]) (by simp only [symM, Nat.reduceBEq, g10]) get_same) a4
    · rw [ltF_get, decide_eq_false h59] at q2
      simp only [bodyRmk, part, Tryz.f31, sub, symM, opFn, Nat.reduceLT, Nat.reduceBEq, symM, g8, g11, bin_lss, decide_eq_true (show (i : Int) < 480 by omega), q1, q2, bin_add, wadd1 (show i ≤ 400000 by omega)]
      exact ih (i + 1) h _ (N + 59) (by omega) (by omega) (by rw [ltF_top (show 59 ≤ i + 1 by omega)]; rw [ltF_top (show 59 ≤ i by omega)] at ho; exact ho) hr (by simp only [symM, Nat.reduceBEq, g1]) (by simp only [symM, Nat.reduceBEq, g8]) (by simp only [symM, Nat.reduceBEq, g10]) get_same
theorem bit0 (i : Nat) : bitB (markL 0) i = false := by
  unfold bitB
  rw [markL_0, List.getD_eq_getElem?_getD, List.getElem?_replicate]
  split <;> simp
theorem rMark_S (hBk : ∀ (b : Nat) (h : AH), BoxL h b 47 [cx ((0 : Nat) : Int) ((59 : Nat) : Int)] → b < h.next → ∃ v' h', call 58 [.slice (some ⟨b, 0, none⟩) 1 1] h = some (.tuple #[v', .bool true], h') ∧ Own h.next h' v' (boolsV (ltF 59) 0 480) 4 ∧ Grow h.next h h')
    (hUp : ∀ (bs : List Nat) (m : Value) (h : AH), (∀ x ∈ bs, x < 256) → bs.length = 60 → Row h.next h m (bytesV bs) 5 → ∃ v h', call 59 [m] h = some (v, h') ∧ Own h.next h' v (boolsV (bitB bs) 0 480) 4 ∧ Grow h.next h h')
    (hMp : ∀ (r : Value) (h : AH), Row h.next h r (boolsV (ltF 59) 0 480) 4 → ∃ v' p' h', call 60 [r] h = some (v', h') ∧ h.next ≤ p' ∧ p' < h'.next ∧ OwnB p' h' v' (markL 59) ∧ Grow h.next h h')
    (p b : Nat) (v : Value) (h : AH) (ho : OwnB p h v (markL 0)) (hp : p < h.next) (hb : BoxL h b 47 [cx ((0 : Nat) : Int) ((59 : Nat) : Int)]) (hb2 : b < h.next) :
    ∃ v' p' h', frameB T0 X0 call 3000 31 [v, .bool true, .slice (some ⟨b, 0, none⟩) 1 1] h = some (.tuple #[v', iv 0], h') ∧ h.next ≤ p' ∧ p' < h'.next ∧ OwnB p' h' v' (markL 59) ∧ Grow h.next h h' := by
  have hlen : ∀ ty h', evBuiltin T0 .len #[38] ty [v] h' = some (.value (iv 60), h') := fun ty h' => by
    rw [ho.row.len und_bytes, bytesV_len, markL_len]; rfl
  obtain ⟨v1, h1, a1, a2, a3⟩ := hBk b h hb hb2
  have o1 := ho.grow a3 hp
  obtain ⟨v2, h2, b1, b2, b3⟩ := hUp (markL 0) v h1 (markL_lt 0) (markL_len 0) (o1.row.more (by have := a3.next; omega))
  rw [boolsV_congr (bitB (markL 0)) (ltF 0) 480 (fun j _ => by rw [bit0]; unfold ltF; rw [show Nat.min 0 59 = 0 from rfl]; exact (Bool.eq_false_iff.2 (by simp)).symm)] at b2
  have hr2 : Row h1.next h2 v1 (boolsV (ltF 59) 0 480) 4 := a2.row.grow b3 (Nat.le_refl _)
  rw [frameB_eq ft31 rfl rfl]
  simp only [Tryz.f31, symM, opFn, Nat.reduceLT, Nat.reduceBEq, symM, symL, hlen, bin_neq, show ((60 : Int) == 60) = true from rfl, evCall_fn ft58 rfl, a1, evCall_fn ft59 rfl, b1]
  generalize hX : codeB T0 X0 call _ ERmk (.loop _) _ _ _ = X
  obtain ⟨t2, h3, c1, ⟨c2, c3⟩, c4⟩ := use_exit hX (rmkLp h1.next v2 v1 h1.next (Nat.le_refl _) 480 0 h2 _ _ (by omega) (by omega) b2 hr2 (by simp only [symM, Nat.reduceBEq]) (by simp only [symM, Nat.reduceBEq]) (by simp only [symM, Nat.reduceBEq]) (by simp only [symM]; rfl))
  clear hX
  subst c1
  obtain ⟨v4, p4, h4, d1, d2, d3, d4, d5⟩ := hMp v2 h3 c3.row
  have G := (a3.trans b3 a3.next).trans c4 a3.next
  refine ⟨v4, p4, h4, ?_, Nat.le_trans G.next d2, d3, d4, G.trans d5 G.next⟩
  simp only [symM, opFn, Nat.reduceLT, symM, symL, c2, evCall_fn ft60 rfl, d1]
  exact retB_two ft31 rfl (by simp only [symM, Nat.reduceBEq]) get_same
end
end Go.Proofs.YtonfgflgnnkniaaGreat.Abs
