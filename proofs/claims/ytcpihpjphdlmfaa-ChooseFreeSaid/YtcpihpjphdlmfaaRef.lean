/- The reference's numbers and runs, for every memory. -/
import Derived.Test.YtcpihpjphdlmfaaNum
import Derived.Test.YtcpihpjphdlmfaaAbsZN
namespace Go.Proofs.Ytcpihpjphdlmfaa.Abs
open Go Go.Proofs
noncomputable section
theorem ft47 : T0.ft.get 47 = some Try.f47 := by kernel_rfl
theorem ft38 : T0.ft.get 38 = some Try.f38 := by kernel_rfl
theorem ft18 : T0.ft.get 18 = some Try.f18 := by kernel_rfl
theorem ft42 : T0.ft.get 42 = some Try.f42 := by kernel_rfl
theorem ft26 : T0.ft.get 26 = some Try.f26 := by kernel_rfl
theorem ft27 : T0.ft.get 27 = some Try.f27 := by kernel_rfl
theorem ft37 : T0.ft.get 37 = some Try.f37 := by kernel_rfl
variable {call : Abs.Callee}
set_option maxRecDepth 10000
theorem zd_m1m : zd (-1048576) = 13920626448202203136 := by decide
theorem rpart_S (x : Nat) (hx : x ≤ 1048576) (h : AH) : frameB T0 X0 call 3000 47 [fl x] h = some (.tuple #[iv x, .bool true], h) := by
  have zx : zok (x : Int) = true := zok_k (by omega)
  have hge : ∀ p q, evBin T0 .geq 38 p q (fl x) (.float .f64 13920626448202203136) h = some (.bool true) := fun p q => by
    rw [← zd_m1m, f_geq zx (by decide), decide_eq_true (by omega)]
  have hle : ∀ p q, evBin T0 .leq 38 p q (fl x) (.float .f64 4697254411347427328) h = some (.bool true) := fun p q => by
    rw [← zd_1m, f_leq zx (by decide), decide_eq_true (by omega)]
  have heq : ∀ p q, evBin T0 .eql 38 p q (fl x) (fl x) h = some (.bool true) := fun p q => by rw [f_eql zx zx, decide_eq_true rfl]
  rw [frameB_eq ft47 rfl rfl]
  simp only [Try.f47, symM, opFn, Nat.reduceLT, Nat.reduceBEq, hge, hle, heq, conv_f2i und_f64 und_int zx (i64_range hx), conv_i2f und_int und_f64 zx]
  exact retB_two ft47 rfl (by simp only [symM, Nat.reduceBEq]) get_same
abbrev zv (x y : Int) : Value := .agg #[iv x, iv y]
theorem alloc_Z {h : AH} : evAlloc T0 53 h = some (.pointer (some ⟨h.next, 0, none⟩), h.new (.cells (PM.ofList [iv 0, iv 0]) 2 53 0 0 .ex)) := by
  unfold evAlloc
  rw [show zeroOf T0 53 = some (zv 0 0) from by kernel_rfl]
  rfl
theorem build_Z {x y : Int} {h : AH} : evBuild T0 53 [(0, iv x), (1, iv y)] h = some (zv x y, h) := by kernel_rfl
/-- A pair of numbers in a cell. -/
def BoxZ (h : AH) (b : Nat) (x y : Int) : Prop := ∃ c, h.get b = some (.cells c 2 53 0 0 .ex) ∧ c.get 0 = some (iv x) ∧ c.get 1 = some (iv y)
theorem sz_Z : szOf T0 53 = some 2 := by kernel_rfl
theorem agg_Z : aggT T0 53 = some true := by kernel_rfl
theorem BoxZ.new (h : AH) (x y : Int) : BoxZ (h.new (.cells (PM.ofList [iv x, iv y]) 2 53 0 0 .ex)) h.next x y := ⟨_, get_new_same _ _, by rw [PM.get_ofList]; rfl, by rw [PM.get_ofList]; rfl⟩
theorem BoxZ.grow {n : Nat} {h h' : AH} {b : Nat} {x y : Int} (hb : BoxZ h b x y) (g : Grow n h h') (hn : b < n) : BoxZ h' b x y := by
  obtain ⟨c, h1, h2⟩ := hb
  exact ⟨c, (g.keep b hn).trans h1, h2⟩
theorem BoxZ.store {h : AH} {b : Nat} {x y u v : Int} {n : Nat} (hb : BoxZ h b x y) (hn : n ≤ b) : ∃ h', evStore T0 53 (.pointer (some ⟨b, 0, none⟩)) (zv u v) h = some h' ∧ BoxZ h' b u v ∧ Grow n h h' ∧ h'.next = h.next := by
  obtain ⟨c, h1, h2, h3⟩ := hb
  refine ⟨h.set b (.cells (storeN c 0 [iv u, iv v]) 2 53 0 0 .ex), ?_, ⟨_, by rw [AH.get_set, if_pos rfl], ?_, ?_⟩, Grow.set h _ hn, rfl⟩
  · simp only [evStore, storeVarA, sz_Z]
    show ifB (Nat.beq 2 2) (storeRow b 0 [iv u, iv v] h) none = _
    rw [show Nat.beq 2 2 = true from rfl, ifB_true]
    simp only [storeRow, h1]
    rfl
  · rw [storeN_get]; rfl
  · rw [storeN_get]; rfl
theorem BoxZ.load {h : AH} {b : Nat} {x y : Int} (hb : BoxZ h b x y) : evLoad T0 53 (.pointer (some ⟨b, 0, none⟩)) h = some (zv x y) := by
  obtain ⟨c, h1, h2, h3⟩ := hb
  simp only [evLoad, loadVarA, agg_Z, sz_Z]
  have : loadRow h b 0 2 = some [iv x, iv y] := loadRow_of (l := [iv x, iv y]) h1 (by simp) (fun i v hi => by
    match i with
    | 0 => simp at hi; subst hi; exact h2
    | 1 => simp at hi; subst hi; exact h3
    | i + 2 => simp at hi)
  rw [this]
theorem field_Z0 {b : Nat} : evFieldAddr T0 53 (.pointer (some ⟨b, 0, none⟩)) 0 = some (.pointer (some ⟨b, 0, none⟩)) := by kernel_rfl
theorem field_Z1 {b : Nat} : evFieldAddr T0 53 (.pointer (some ⟨b, 0, none⟩)) 1 = some (.pointer (some ⟨b, 1, none⟩)) := by kernel_rfl
theorem BoxZ.load0 {h : AH} {b : Nat} {x y : Int} (hb : BoxZ h b x y) : evLoad T0 3 (.pointer (some ⟨b, 0, none⟩)) h = some (iv x) := by
  obtain ⟨c, h1, h2, h3⟩ := hb
  exact load_one agg_int h1 (by omega) h2
theorem BoxZ.load1 {h : AH} {b : Nat} {x y : Int} (hb : BoxZ h b x y) : evLoad T0 3 (.pointer (some ⟨b, 1, none⟩)) h = some (iv y) := by
  obtain ⟨c, h1, h2, h3⟩ := hb
  exact load_one agg_int h1 (by omega) h3
theorem rOf_S (hp : ∀ (x : Nat) h, x ≤ 1048576 → call 47 [fl x] h = some (.tuple #[iv x, .bool true], h)) (x y : Nat) (hx : x ≤ 1048576) (hy : y ≤ 1048576) (h : AH) :
    ∃ h', frameB T0 X0 call 3000 38 [cx x y] h = some (.tuple #[zv x y, .bool true], h') ∧ Grow h.next h h' := by
  generalize hh1 : h.new (.cells (PM.ofList [iv 0, iv 0]) 2 53 0 0 .ex) = h1
  have g1 : Grow h.next h h1 := by rw [← hh1]; exact Grow.new _ _
  have hb1 : BoxZ h1 h.next 0 0 := by rw [← hh1]; exact BoxZ.new _ _ _
  obtain ⟨h2, s1, s2, s3, s4⟩ := hb1.store (u := x) (v := y) (n := h.next) (Nat.le_refl _)
  refine ⟨h2, ?_, g1.trans s3 (Nat.le_refl _)⟩
  rw [frameB_eq ft38 rfl rfl]
  simp only [Try.f38, symM, opFn, Nat.reduceLT, Nat.reduceBEq, alloc_Z, hh1, evCall_fn ft47 rfl, hp x _ hx, hp y _ hy, build_Z, s1]
  exact retB_cell1 ft38 rfl (by simp only [symM, Nat.reduceBEq]) s2.load get_same
theorem plan_Parts : planB (part Try.f18 [1, 1, 0] |> fun | .region _ ops _ => ops | _ => #[]) 35 = some ([.one 0, .one 1, .one 2, .one 3, .one 4, .one 5, .one 6, .one 7, .one 8, .one 9, .one 10, .one 11, .one 12, .one 13, .one 14, .one 15, .one 16, .one 17, .one 18, .one 19, .one 20, .one 21, .one 22, .one 23, .one 24, .one 25], []) := by kernel_rfl
theorem rParts_S (x y : Nat) (h : AH) (hO : ∃ h', call 38 [cx x y] h = some (.tuple #[zv x y, .bool true], h') ∧ Grow h.next h h') (hx : x ≤ 1048576) (hy : y ≤ 1048576) :
    ∃ h', frameB T0 X0 call 3000 18 [cx x y] h = some (.tuple #[iv x, iv y, .bool (runOK x y)], h') ∧ Grow h.next h h' := by
  obtain ⟨h1, e1, g1⟩ := hO
  generalize hh2 : h1.new (.cells (PM.ofList [iv 0, iv 0]) 2 53 0 0 .ex) = h2
  have g2 : Grow h1.next h1 h2 := by rw [← hh2]; exact Grow.new _ _
  have hb2 : BoxZ h2 h1.next 0 0 := by rw [← hh2]; exact BoxZ.new _ _ _
  obtain ⟨h3, s1, s2, s3, s4⟩ := hb2.store (u := x) (v := y) (n := h1.next) (Nat.le_refl _)
  refine ⟨h3, ?_, g1.trans (g2.trans s3 (Nat.le_refl _)) g1.next⟩
  have hw : IntKind.i64.wrap ((x : Int) + y) = ((x + y : Nat) : Int) := by rw [IntWalk.i64_in _ (by omega)]; simp
  have hp := plan_Parts
  simp only [part, Try.f18, sub] at hp
  rw [frameB_eq ft18 rfl rfl]
  unfold runOK
  by_cases h1y : 1 ≤ y
  · have k1 : decide ((1 : Int) ≤ y) = true := decide_eq_true (by omega)
    have k3 : decide (((x + y : Nat) : Int) ≤ 480) = decide (1 ≤ y ∧ x + y ≤ 480) := decide_eq_decide.2 (by omega)
    simp only [Try.f18, symM, opFn, Nat.reduceLT, Nat.reduceBEq, alloc_Z, evCall_fn ft38 rfl, e1, hh2, s1, codeB_draw]
    rw [draw_plan hp rfl]
    simp only [drawAll, opFn, Nat.reduceBEq, field_Z0, field_Z1, s2.load0, s2.load1, bin_geq, decide_eq_true (show (0 : Int) ≤ x by omega), k1, bin_add, hw, bin_leq, k3]
    exact retB_three ft18 rfl (by simp only [symM, Nat.reduceBEq]) (by simp only [symM, Nat.reduceBEq]) get_same
  · have k1 : decide ((1 : Int) ≤ y) = false := decide_eq_false (by omega)
    have k3 : decide (1 ≤ y ∧ x + y ≤ 480) = false := decide_eq_false (by omega)
    rw [k3]
    simp only [Try.f18, symM, opFn, Nat.reduceLT, Nat.reduceBEq, alloc_Z, evCall_fn ft38 rfl, e1, hh2, s1, codeB_draw]
    rw [draw_plan hp rfl]
    simp only [drawAll, opFn, Nat.reduceBEq, field_Z0, field_Z1, s2.load0, s2.load1, bin_geq, decide_eq_true (show (0 : Int) ≤ x by omega), k1]
    exact retB_three ft18 rfl (by simp only [symM, Nat.reduceBEq]) (by simp only [symM, Nat.reduceBEq]) get_same
/-- The run of a first block and so many. -/
theorem rRun_S (x y : Int) (hx : zok x = true) (hy : zok y = true) (h : AH) : frameB T0 X0 call 3000 42 [iv x, iv y] h = some (make1V x y, h) := by
  rw [frameB_eq ft42 rfl rfl]
  unfold make1V
  by_cases h0 : y ≤ 0
  · simp only [Try.f42, symM, opFn, Nat.reduceLT, Nat.reduceBEq, bin_leq, decide_eq_true h0, if_pos h0]
    exact retB_one ft42 rfl get_same
  · simp only [Try.f42, symM, opFn, Nat.reduceLT, Nat.reduceBEq, bin_leq, decide_eq_false h0, if_neg h0, conv_i2f und_int und_f64 hx, conv_i2f und_int und_f64 hy]
    exact retB_one ft42 rfl get_same
theorem rsize_S (x y : Nat) (h : AH) (hP : ∃ h', call 18 [cx x y] h = some (.tuple #[iv x, iv y, .bool (runOK x y)], h') ∧ Grow h.next h h') :
    ∃ h', frameB T0 X0 call 3000 26 [cx x y] h = some (iv y, h') ∧ Grow h.next h h' := by
  obtain ⟨h1, e1, g1⟩ := hP
  refine ⟨h1, ?_, g1⟩
  rw [frameB_eq ft26 rfl rfl]
  simp only [Try.f26, symM, opFn, Nat.reduceLT, Nat.reduceBEq, evCall_fn ft18 rfl, e1]
  exact retB_one ft26 rfl get_same
theorem rbegin_S (x y n : Nat) (h : AH) (hP : ∃ h', call 18 [cx x y] h = some (.tuple #[iv x, iv y, .bool (runOK x y)], h') ∧ Grow h.next h h')
    (hR : ∀ (x y : Int) h, zok x = true → zok y = true → call 42 [iv x, iv y] h = some (make1V x y, h)) (hx : x ≤ 1048576) (hn : n ≤ 1048576) (h1n : 1 ≤ n) :
    ∃ h', frameB T0 X0 call 3000 27 [cx x y, iv n] h = some (cx x n, h') ∧ Grow h.next h h' := by
  obtain ⟨h1, e1, g1⟩ := hP
  refine ⟨h1, ?_, g1⟩
  have hm : make1V x n = cx x n := if_neg (by omega)
  rw [frameB_eq ft27 rfl rfl]
  simp only [Try.f27, symM, opFn, Nat.reduceLT, Nat.reduceBEq, evCall_fn ft18 rfl, e1, evCall_fn ft42 rfl, hR x n _ (zok_k (by omega)) (zok_k (by omega)), hm]
  exact retB_one ft27 rfl get_same
theorem rpow0 (h : AH) : frameB T0 X0 call 3000 37 [iv 0] h = some (.int .u8 1, h) := by kernel_rfl
theorem rpow1 (h : AH) : frameB T0 X0 call 3000 37 [iv 1] h = some (.int .u8 2, h) := by kernel_rfl
theorem rpow2 (h : AH) : frameB T0 X0 call 3000 37 [iv 2] h = some (.int .u8 4, h) := by kernel_rfl
theorem rpow3 (h : AH) : frameB T0 X0 call 3000 37 [iv 3] h = some (.int .u8 8, h) := by kernel_rfl
theorem rpow4 (h : AH) : frameB T0 X0 call 3000 37 [iv 4] h = some (.int .u8 16, h) := by kernel_rfl
theorem rpow5 (h : AH) : frameB T0 X0 call 3000 37 [iv 5] h = some (.int .u8 32, h) := by kernel_rfl
theorem rpow6 (h : AH) : frameB T0 X0 call 3000 37 [iv 6] h = some (.int .u8 64, h) := by kernel_rfl
theorem rpow7 (h : AH) : frameB T0 X0 call 3000 37 [iv 7] h = some (.int .u8 128, h) := by kernel_rfl
theorem rpower_S (n : Nat) (hn : n < 8) (h : AH) : frameB T0 X0 call 3000 37 [iv n] h = some (.int .u8 ((2 ^ n : Nat) : Int), h) := by
  have hc : n = 0 ∨ n = 1 ∨ n = 2 ∨ n = 3 ∨ n = 4 ∨ n = 5 ∨ n = 6 ∨ n = 7 := by omega
  rcases hc with rfl | rfl | rfl | rfl | rfl | rfl | rfl | rfl
  · exact rpow0 h
  · exact rpow1 h
  · exact rpow2 h
  · exact rpow3 h
  · exact rpow4 h
  · exact rpow5 h
  · exact rpow6 h
  · exact rpow7 h
end
end Go.Proofs.Ytcpihpjphdlmfaa.Abs
namespace Go.Proofs.Ytcpihpjphdlmfaa.Abs
open Go Go.Proofs
noncomputable section
theorem ft17 : T0.ft.get 17 = some Try.f17 := by kernel_rfl
theorem ft39 : T0.ft.get 39 = some Try.f39 := by kernel_rfl
theorem ft20 : T0.ft.get 20 = some Try.f20 := by kernel_rfl
theorem ft25 : T0.ft.get 25 = some Try.f25 := by kernel_rfl
theorem ft10 : T0.ft.get 10 = some Try.f10 := by kernel_rfl
theorem und_bools : und T0 33 = some (.slice 4) := by kernel_rfl
theorem sz_bool : szOf T0 4 = some 1 := by kernel_rfl
theorem agg_bool : aggT T0 4 = some false := by kernel_rfl
theorem zero_bool : zeroOf T0 4 = some (.bool false) := by kernel_rfl
theorem tt_bool : T0.tt.get 4 = some (infoOf 4) := by kernel_rfl
theorem ti_bool : (infoOf 4).zero = some (.bool false) ∧ (infoOf 4).size = 1 ∧ (infoOf 4).bytes ≤ 64 := ⟨by kernel_rfl, by kernel_rfl, Nat.le_of_ble_eq_true (by kernel_rfl)⟩
theorem bs_bool {b : Bool} {h : AH} : evBuildSlice T0 33 1 [(0, .bool b)] h = some (.slice (some ⟨h.next, 0, none⟩) 1 1, h.new (.cells (PM.ofList [.bool b]) 1 4 0 0 .ex)) := bs_one und_bools sz_bool zero_bool rfl rfl
theorem bs_bool0 {h : AH} : evBuildSlice T0 33 0 [] h = some (.slice (some ⟨h.next, 0, none⟩) 0 0, h.new (.cells (PM.ofList []) 0 4 0 0 .ex)) := bs_zero und_bools sz_bool zero_bool
theorem bs_cx0 {h : AH} : evBuildSlice T0 29 0 [] h = some (.slice (some ⟨h.next, 0, none⟩) 0 0, h.new (.cells (PM.ofList []) 0 23 0 0 .ex)) := bs_zero und_c128s sz_c128 zero_c128
theorem Row.eqv {n : Nat} {h : AH} {v : Value} {l : List Value} {e : TypeId} (ho : Row n h v l e) : eqV v v = true := by
  rcases ho with ⟨rfl, _⟩ | ⟨b, o, cap, c, m, lo, hi, kd, el, rfl, _⟩
  · rfl
  · exact eqV_slice
def boolsV (f : Nat → Bool) (a k : Nat) : List Value := (List.range' a k).map fun i => .bool (f i)
theorem boolsV_at (f : Nat → Bool) {k i : Nat} (h : i < k) : (boolsV f 0 k)[i]? = some (.bool (f i)) := by
  simp [boolsV, h]
theorem boolsV_snoc (f : Nat → Bool) (k : Nat) : boolsV f 0 k ++ [.bool (f k)] = boolsV f 0 (k + 1) := by
  simp [boolsV, List.range'_concat]
theorem boolsV_len (f : Nat → Bool) (a k : Nat) : (boolsV f a k).length = k := by simp [boolsV]
variable {call : Abs.Callee}
set_option maxRecDepth 10000
noncomputable def bodyUp : Code := part Try.f17 [1, 1, 0, 1, 0, 0]
abbrev EUp : Env := ⟨17, 25, none⟩
theorem plan_Up : planB (part Try.f17 [1, 1, 0, 1, 0, 0, 1, 0, 0] |> fun | .region _ ops _ => ops | _ => #[]) 25 = some ([.one 0, .one 1, .one 2, .one 3, .one 4, .one 5, .one 6, .one 7, .eff [] 8 [0, 1, 2, 3, 4, 5], .one 9, .one 10, .one 11, .eff [12] 13 [], .one 14], []) := by kernel_rfl
theorem wrap8 (d : Nat) (h : d < 256) : IntKind.u8.wrap (d : Int) = d := IntWalk.u8_in _ (by omega)
set_option maxHeartbeats 2000000 in
theorem upL (bs : List Nat) (hbs : ∀ x ∈ bs, x < 256) (h60 : bs.length = 60) (m : Value) (n0 : Nat) (h0 : AH) (hn0 : n0 ≤ h0.next) (hm0 : Row n0 h0 m (bytesV bs) 5)
    (hpow : ∀ (n : Nat) h, n < 8 → call 37 [iv n] h = some (.int .u8 ((2 ^ n : Nat) : Int), h)) :
    ∀ (k i : Nat) (tm : PM Value) (h : AH) (v : Value) (N : Nat), i + k = 480 → k + 20 ≤ N → tm.get 0 = some m → tm.get 3 = some v → tm.get 4 = some (iv i) → Own n0 h v (boolsV (bitB bs) 0 i) 4 → Grow n0 h0 h →
      ∃ tm' h', codeB T0 X0 call N EUp (.loop bodyUp) tm h [] = .jump (.exit 0) tm' h' [] ∧ (∃ v', tm'.get 3 = some v' ∧ Own n0 h' v' (boolsV (bitB bs) 0 480) 4 ∧ Grow n0 h0 h') := by
  intro k
  induction k with
  | zero =>
    intro i tm h v N hi hN g0 g3 g4 hv hg
    obtain ⟨N, rfl⟩ : ∃ a, N = a + 20 := ⟨N - 20, by omega⟩
    have hlt : decide ((i : Int) < 480) = false := decide_eq_false (by omega)
    have hi2 : i = 480 := by omega
    apply Exists.intro; apply Exists.intro; apply And.intro
    · rw [codeB_loop]
      simp only [bodyUp, part, Try.f17, sub, symM, opFn, Nat.reduceLT, g4, bin_lss, hlt]
      rfl
    · exact ⟨v, by simp only [symM, Nat.reduceBEq, g3], by rw [← hi2]; exact hv, hg⟩
  | succ k ih =>
    intro i tm h v N hi hN g0 g3 g4 hv hg
    obtain ⟨N, rfl⟩ : ∃ a, N = a + 20 := ⟨N - 20, by omega⟩
    have hlt : decide ((i : Int) < 480) = true := decide_eq_true (by omega)
    have hm := hm0.grow hg (Nat.le_refl _)
    have hlen : i / 8 < bs.length := by omega
    obtain ⟨x, hx⟩ : ∃ x, bs[i / 8]? = some x := ⟨_, List.getElem?_eq_getElem hlen⟩
    have hx2 : x < 256 := hbs x (List.mem_of_getElem? hx)
    obtain ⟨p, e1, e2, e3⟩ := hm.at3 und_bytes sz_u8 agg_u8 (i := i / 8) (x := .int .u8 (x : Int)) (by simp [bytesV, hx])
    have hq : ∀ a b, evBin T0 .quo 3 a b (iv i) (iv 8) h = some (iv (i / 8 : Nat)) := fun a b => by
      show evBin T0 .quo 3 a b (iv i) (iv ((8 : Nat) : Int)) h = _
      rw [bin_quo (by decide), IntWalk.i64_in _ (by omega)]
    have hr : ∀ a b, evBin T0 .rem 3 a b (iv i) (iv 8) h = some (iv (i % 8 : Nat)) := fun a b => by
      show evBin T0 .rem 3 a b (iv i) (iv ((8 : Nat) : Int)) h = _
      rw [bin_rem (by decide)]
    have hpos : 2 ^ (i % 8) ≠ 0 := by have := Nat.two_pow_pos (i % 8); omega
    have hdiv : x / 2 ^ (i % 8) < 256 := Nat.lt_of_le_of_lt (Nat.div_le_self _ _) hx2
    have hd : ∀ a b, evBin T0 .quo 5 a b (.int .u8 (x : Int)) (.int .u8 ((2 ^ (i % 8) : Nat) : Int)) h = some (.int .u8 ((x / 2 ^ (i % 8) : Nat) : Int)) := fun a b => by
      rw [bin_quo hpos, wrap8 _ hdiv]
    have hm2 : ∀ a b, evBin T0 .rem 5 a b (.int .u8 ((x / 2 ^ (i % 8) : Nat) : Int)) (.int .u8 2) h = some (.int .u8 ((x / 2 ^ (i % 8) % 2 : Nat) : Int)) := fun a b => by
      show evBin T0 .rem 5 a b (.int .u8 ((x / 2 ^ (i % 8) : Nat) : Int)) (.int .u8 ((2 : Nat) : Int)) h = _
      rw [bin_rem (by decide)]
    have he : ∀ a b, evBin T0 .eql 5 a b (.int .u8 ((x / 2 ^ (i % 8) % 2 : Nat) : Int)) (.int .u8 1) h = some (.bool (bitB bs i)) := fun a b => by
      rw [bin_eql]
      have h3 : bs.getD (i / 8) 0 = x := by rw [List.getD_eq_getElem?_getD, hx]; rfl
      unfold bitB
      rw [h3, Nat.and_one_is_mod, Nat.shiftRight_eq_div_pow]
      congr 2
      rw [Bool.eq_iff_iff]
      simp only [beq_iff_eq]
      omega
    have hw : IntKind.i64.wrap ((i : Int) + 1) = ((i + 1 : Nat) : Int) := by rw [IntWalk.i64_in _ (by omega)]; simp
    obtain ⟨v2, h2', ea, eo, eg⟩ := append_one und_bools tt_bool ti_bool.1 ti_bool.2.1 ti_bool.2.2 hv (x := .bool (bitB bs i)) rfl (by rw [boolsV_len]; omega) (Nat.le_trans hn0 hg.next) 33
    have hp := plan_Up
    simp only [part, Try.f17, sub] at hp
    rw [show N + 20 = (N + 19) + 1 from rfl, codeB_loop]
    simp only [bodyUp, part, Try.f17, sub, symM, opFn, Nat.reduceLT, g4, bin_lss, hlt, codeB_draw]
    rw [draw_plan hp rfl]
    simp only [drawAll, opFn, Nat.reduceLT, Nat.reduceBEq, effE_cons, g0, g3, g4, hq, hr, e1, e2, evCall_fn ft37 rfl, hpow (i % 8) _ (Nat.mod_lt _ (by decide)), hm.eqv, hv.eqv, e3, hd, hm2, he, goAB_some bs_bool, ea, bin_add, hw]
    have hv2 : Own n0 h2' v2 (boolsV (bitB bs) 0 (i + 1)) 4 := by rw [← boolsV_snoc]; exact eo
    refine ih (i + 1) _ h2' v2 (N + 19) (by omega) (by omega) ?_ ?_ get_same hv2 (hg.trans eg (Nat.le_refl _))
    · simp only [symM, Nat.reduceBEq, g0]
    · simp only [symM, Nat.reduceBEq]
theorem Up_S (bs : List Nat) (hbs : ∀ x ∈ bs, x < 256) (h60 : bs.length = 60) (m : Value) (h : AH) (hm : Row h.next h m (bytesV bs) 5)
    (hpow : ∀ (n : Nat) h, n < 8 → call 37 [iv n] h = some (.int .u8 ((2 ^ n : Nat) : Int), h)) :
    ∃ v h', frameB T0 X0 call 3000 17 [m] h = some (v, h') ∧ Own h.next h' v (boolsV (bitB bs) 0 480) 4 ∧ Grow h.next h h' := by
  rw [frameB_eq ft17 rfl rfl]
  have g1 : Grow h.next h (h.new (.cells (PM.ofList []) 0 4 0 0 .ex)) := Grow.new _ _
  have hL := fun tm N => upL bs hbs h60 m h.next h (Nat.le_refl _) hm hpow 480 0 tm (h.new (.cells (PM.ofList []) 0 4 0 0 .ex)) (.slice (some ⟨h.next, 0, none⟩) 0 0) N (by omega)
  simp only [Try.f17, symM, opFn, Nat.reduceLT, bs_bool0]
  refine bind_loop (b := bodyUp) (P := fun x => ∃ v h', endF T0 17 x = some (v, h') ∧ Own h.next h' v (boolsV (bitB bs) 0 480) 4 ∧ Grow h.next h h') (hL _ _ (by omega) (by simp only [symM, Nat.reduceBEq]) (by simp only [symM, Nat.reduceBEq]) (by simp only [symM]; rfl) (Own.empty _ _ (Nat.le_refl _) _ _) g1) ?_
  intro tm' h' ⟨v', p3, p4, p5⟩
  refine ⟨v', h', ?_, p4, p5⟩
  simp only [symM, opFn, Nat.reduceLT, p3]
  exact retB_one ft17 rfl get_same

noncomputable def bodyRs : Code := part Try.f39 [1, 1, 1, 0, 1, 0, 0]
abbrev ERs : Env := ⟨39, 41, none⟩
def restG (d : Nat → Bool) : Nat → Nat → Nat → List (Nat × Nat)
  | 0, _, _ => []
  | c + 1, n, first => gapsG d c n first
theorem restG_in (d : Nat → Bool) (c n first : Nat) (h : d n = true) : restG d (c + 2) n first = restG d (c + 1) (n + 1) first := by
  show gapsG d (c + 1) n first = gapsG d c (n + 1) first
  rw [gapsG, h]; rfl
theorem restG_out (d : Nat → Bool) (c n first : Nat) (h : c ≠ 0 → d n = false) : restG d (c + 1) n first = (bif Nat.blt first n then [(first, n - first)] else []) ++ restG d c (n + 1) (n + 1) := by
  cases c with
  | zero => show gapsG d 0 n first = _ ++ []; rw [List.append_nil]; rfl
  | succ c => show gapsG d (c + 1) n first = _; rw [gapsG, h (by simp)]; rfl
set_option maxHeartbeats 2000000 in
theorem runsL (f : Nat → Bool) (s : Value) (n0 tw : Nat) (hto : tw ≤ 480) (h0 : AH) (hn0 : n0 ≤ h0.next) (hs0 : Row n0 h0 s (boolsV f 0 480) 4)
    (hR : ∀ (x y : Int) h, zok x = true → zok y = true → call 42 [iv x, iv y] h = some (make1V x y, h)) :
    ∀ (c n first : Nat) (tm : PM Value) (h : AH) (v : Value) (acc : List (Nat × Nat)) (N : Nat), n + c = tw + 1 → c + 30 ≤ N → first ≤ n → acc.length ≤ n → tm.get 0 = some s → tm.get 2 = some (iv tw) → tm.get 7 = some v → tm.get 8 = some (iv first) → tm.get 9 = some (iv n) →
      Own n0 h v (runsV acc) 23 → Grow n0 h0 h →
      ∃ tm' h', codeB T0 X0 call N ERs (.loop bodyRs) tm h [] = .jump (.exit 0) tm' h' [] ∧ (∃ v', tm'.get 7 = some v' ∧ Own n0 h' v' (runsV (acc ++ restG f c n first)) 23 ∧ Grow n0 h0 h') := by
  intro c
  induction c with
  | zero =>
    intro n first tm h v acc N hi hN hf hacc g0 g2 g7 g8 g9 hv hg
    obtain ⟨N, rfl⟩ : ∃ a, N = a + 30 := ⟨N - 30, by omega⟩
    have hlt : decide ((n : Int) ≤ (tw : Int)) = false := decide_eq_false (by omega)
    apply Exists.intro; apply Exists.intro; apply And.intro
    · rw [codeB_loop]
      simp only [bodyRs, part, Try.f39, sub, symM, opFn, Nat.reduceLT, Nat.reduceBEq, g2, g9, bin_leq, hlt]
      rfl
    · exact ⟨v, by simp only [symM, Nat.reduceBEq, g7], by rw [restG, List.append_nil]; exact hv, hg⟩
  | succ c ih =>
    intro n first tm h v acc N hi hN hf hacc g0 g2 g7 g8 g9 hv hg
    obtain ⟨N, rfl⟩ : ∃ a, N = a + 30 := ⟨N - 30, by omega⟩
    have hle : decide ((n : Int) ≤ (tw : Int)) = true := decide_eq_true (by omega)
    have hw : IntKind.i64.wrap ((n : Int) + 1) = ((n + 1 : Nat) : Int) := by rw [IntWalk.i64_in _ (by omega)]; simp
    have hs := hs0.grow hg (Nat.le_refl _)
    rw [show N + 30 = (N + 29) + 1 from rfl, codeB_loop]
    have hsub : first < n → IntKind.i64.wrap ((n : Int) - first) = ((n - first : Nat) : Int) := fun hlt => by rw [IntWalk.i64_in _ (by omega)]; omega
    have hrun : first < n → call 42 [iv first, .int .i64 ((n - first : Nat) : Int)] h = some (cx first (n - first : Nat), h) := fun hlt => by
      rw [hR first ((n - first : Nat) : Int) h (zok_k (by omega)) (zok_k (by omega))]
      congr 2
      exact if_neg (by omega)
    have hbl : Nat.blt first n = decide (first < n) := by
      rcases Nat.lt_or_ge first n with q | q
      · rw [decide_eq_true q]; simpa [Nat.blt] using Nat.ble_eq_true_of_le q
      · rw [decide_eq_false (by omega)]; rw [Nat.blt]; exact ble_no (by omega)
    by_cases hn : n < tw
    · obtain ⟨p, e1, e2⟩ := hs.at und_bools sz_bool agg_bool (i := n) (boolsV_at f (by omega))
      obtain ⟨c, rfl⟩ : ∃ c', c = c' + 1 := ⟨c - 1, by omega⟩
      have k1 : decide ((n : Int) < (tw : Int)) = true := decide_eq_true (by omega)
      cases hfn : f n with
      | true =>
        rw [hfn] at e2
        simp only [bodyRs, part, Try.f39, sub, symM, opFn, Nat.reduceLT, Nat.reduceBEq, g0, g2, g9, bin_leq, hle, bin_lss, k1, e1, e2, bin_add, hw, Nat.beq_refl]
        rw [restG_in f c n first hfn]
        refine ih (n + 1) first _ h v acc (N + 29) (by omega) (by omega) (by omega) (by omega) ?_ ?_ ?_ ?_ get_same hv hg <;> simp only [symM, Nat.reduceBEq, g0, g2, g7, g8]
      | false =>
        rw [hfn] at e2
        rw [restG_out f (c + 1) n first (fun _ => hfn), hbl]
        by_cases hlt : first < n
        · obtain ⟨v2, h2', ea, eo, eg⟩ := append_one und_c128s tt_c128 ti_c128.1 ti_c128.2.1 ti_c128.2.2 hv (x := cx first (n - first : Nat)) rfl (by simp [runsV]; omega) (Nat.le_trans hn0 hg.next) 29
          simp only [bodyRs, part, Try.f39, sub, symM, opFn, Nat.reduceLT, Nat.reduceBEq, g0, g2, g7, g8, g9, bin_leq, hle, bin_lss, k1, e1, e2, bin_add, hw, bin_gtr, decide_eq_true (show (first : Int) < n by omega), bin_sub, hsub hlt, evCall_fn ft42 rfl, hrun hlt, bs_cx, ea]
          rw [decide_eq_true hlt, cond_true, ← List.append_assoc]
          refine ih (n + 1) (n + 1) _ h2' v2 (acc ++ [(first, n - first)]) (N + 29) (by omega) (by omega) (by omega) (by simp; omega) ?_ ?_ ?_ ?_ get_same (by simpa [runsV] using eo) (hg.trans eg (Nat.le_refl _)) <;> simp only [symM, Nat.reduceBEq, g0, g2]
        · simp only [bodyRs, part, Try.f39, sub, symM, opFn, Nat.reduceLT, Nat.reduceBEq, g0, g2, g8, g9, bin_leq, hle, bin_lss, k1, e1, e2, bin_add, hw, bin_gtr, decide_eq_false (show ¬ (first : Int) < n by omega)]
          rw [decide_eq_false hlt, cond_false, List.nil_append]
          refine ih (n + 1) (n + 1) _ h v acc (N + 29) (by omega) (by omega) (by omega) (by omega) ?_ ?_ ?_ ?_ get_same hv hg <;> simp only [symM, Nat.reduceBEq, g0, g2, g7]
    · have hc0 : c = 0 := by omega
      subst hc0
      have k1 : decide ((n : Int) < (tw : Int)) = false := decide_eq_false (by omega)
      rw [restG_out f 0 n first (fun q => absurd rfl q), hbl]
      by_cases hlt : first < n
      · obtain ⟨v2, h2', ea, eo, eg⟩ := append_one und_c128s tt_c128 ti_c128.1 ti_c128.2.1 ti_c128.2.2 hv (x := cx first (n - first : Nat)) rfl (by simp [runsV]; omega) (Nat.le_trans hn0 hg.next) 29
        simp only [bodyRs, part, Try.f39, sub, symM, opFn, Nat.reduceLT, Nat.reduceBEq, g2, g7, g8, g9, bin_leq, hle, bin_lss, k1, bin_add, hw, bin_gtr, decide_eq_true (show (first : Int) < n by omega), bin_sub, hsub hlt, evCall_fn ft42 rfl, hrun hlt, bs_cx, ea]
        rw [decide_eq_true hlt, cond_true, ← List.append_assoc]
        refine ih (n + 1) (n + 1) _ h2' v2 (acc ++ [(first, n - first)]) (N + 29) (by omega) (by omega) (by omega) (by simp; omega) ?_ ?_ ?_ ?_ get_same (by simpa [runsV] using eo) (hg.trans eg (Nat.le_refl _)) <;> simp only [symM, Nat.reduceBEq, g0, g2]
      · simp only [bodyRs, part, Try.f39, sub, symM, opFn, Nat.reduceLT, Nat.reduceBEq, g2, g8, g9, bin_leq, hle, bin_lss, k1, bin_add, hw, bin_gtr, decide_eq_false (show ¬ (first : Int) < n by omega)]
        rw [decide_eq_false hlt, cond_false, List.nil_append]
        refine ih (n + 1) (n + 1) _ h v acc (N + 29) (by omega) (by omega) (by omega) (by omega) ?_ ?_ ?_ ?_ get_same hv hg <;> simp only [symM, Nat.reduceBEq, g0, g2, g7]
theorem Runs_S (f : Nat → Bool) (s : Value) (h : AH) (a b : Nat) (hab : a ≤ b) (hb : b ≤ 480) (hs : Row h.next h s (boolsV f 0 480) 4)
    (hR : ∀ (x y : Int) h, zok x = true → zok y = true → call 42 [iv x, iv y] h = some (make1V x y, h)) :
    ∃ v h', frameB T0 X0 call 3000 39 [s, iv a, iv b] h = some (v, h') ∧ Own h.next h' v (runsV (gapsG f (b - a) a a)) 23 ∧ Grow h.next h h' := by
  rw [frameB_eq ft39 rfl rfl]
  have g1 : Grow h.next h (h.new (.cells (PM.ofList []) 0 23 0 0 .ex)) := Grow.new _ _
  have hL := fun tm N => runsL f s h.next b hb h (Nat.le_refl _) hs hR (b - a + 1) a a tm (h.new (.cells (PM.ofList []) 0 23 0 0 .ex)) (.slice (some ⟨h.next, 0, none⟩) 0 0) [] N (by omega)
  simp only [Try.f39, symM, opFn, Nat.reduceLT, Nat.reduceBEq, bs_cx0]
  refine bind_loop (b := bodyRs) (P := fun x => ∃ v h', endF T0 39 x = some (v, h') ∧ Own h.next h' v (runsV (gapsG f (b - a) a a)) 23 ∧ Grow h.next h h') (hL _ _ (by omega) (by omega) (by simp) (by simp only [symM, Nat.reduceBEq]) (by simp only [symM, Nat.reduceBEq]) (by simp only [symM, Nat.reduceBEq]) (by simp only [symM, Nat.reduceBEq]) (by simp only [symM]) (Own.empty _ _ (Nat.le_refl _) _ _) g1) ?_
  intro tm' h' ⟨v', p3, p4, p5⟩
  refine ⟨v', h', ?_, p4, p5⟩
  simp only [symM, opFn, Nat.reduceLT, p3]
  exact retB_one ft39 rfl get_same
end
end Go.Proofs.Ytcpihpjphdlmfaa.Abs
namespace Go.Proofs.Ytcpihpjphdlmfaa.Abs
open Go Go.Proofs
noncomputable section
variable {call : Abs.Callee}
set_option maxRecDepth 10000
def flipB (b : Nat → Bool) (i : Nat) (j : Nat) : Bool := if j < i then !b j else b j
theorem boolsV_set (f : Nat → Bool) (k i : Nat) (x : Bool) : (boolsV f 0 k).set i (.bool x) = boolsV (fun j => if j = i then x else f j) 0 k := by
  apply List.ext_getElem?
  intro j
  rw [List.getElem?_set]
  by_cases hj : j < k
  · rw [boolsV_at _ hj]
    by_cases hij : i = j
    · subst hij; rw [if_pos rfl, if_pos (by rw [boolsV_len]; exact hj), boolsV_at _ hj, if_pos rfl]
    · rw [if_neg hij, boolsV_at _ hj, if_neg (fun q => hij q.symm)]
  · have h1 : (boolsV f 0 k)[j]? = none := List.getElem?_eq_none (by rw [boolsV_len]; omega)
    have h2 : (boolsV (fun j => if j = i then x else f j) 0 k)[j]? = none := List.getElem?_eq_none (by rw [boolsV_len]; omega)
    rw [h1, h2]
    by_cases hij : i = j
    · rw [if_pos hij, if_neg (by rw [boolsV_len]; omega)]
    · rw [if_neg hij]
theorem boolsV_congr (f g : Nat → Bool) (k : Nat) (h : ∀ j, j < k → f j = g j) : boolsV f 0 k = boolsV g 0 k := by
  unfold boolsV
  apply List.map_congr_left
  intro j hj
  rw [List.mem_range'_1] at hj
  rw [h j (by omega)]
noncomputable def bodyDn : Code := part Try.f20 [1, 1, 1, 1, 0, 1, 0, 0]
abbrev EDn : Env := ⟨20, 42, none⟩
theorem dnL (b : Nat → Bool) (x1 x2 : Value) (n0 : Nat) (h0 : AH) (hn0 : n0 ≤ h0.next) (v : Value) :
    ∀ (k i : Nat) (tm : PM Value) (h : AH) (N : Nat), i + k = 480 → k + 20 ≤ N → tm.get 1 = some x1 → tm.get 2 = some x2 → tm.get 8 = some v → tm.get 9 = some (iv i) → Own n0 h v (boolsV (flipB b i) 0 480) 4 → Grow n0 h0 h →
      ∃ tm' h', codeB T0 X0 call N EDn (.loop bodyDn) tm h [] = .jump (.exit 0) tm' h' [] ∧ (tm'.get 1 = some x1 ∧ tm'.get 2 = some x2 ∧ tm'.get 8 = some v ∧ Own n0 h' v (boolsV (fun i => !b i) 0 480) 4 ∧ Grow n0 h0 h') := by
  intro k
  induction k with
  | zero =>
    intro i tm h N hi hN g1 g2 g8 g9 hv hg
    obtain ⟨N, rfl⟩ : ∃ a, N = a + 20 := ⟨N - 20, by omega⟩
    have hlt : decide ((i : Int) < 480) = false := decide_eq_false (by omega)
    have hi2 : i = 480 := by omega
    apply Exists.intro; apply Exists.intro; apply And.intro
    · rw [codeB_loop]
      simp only [bodyDn, part, Try.f20, sub, symM, opFn, Nat.reduceLT, g9, bin_lss, hlt]
      rfl
    · refine ⟨by simp only [symM, Nat.reduceBEq, g1], by simp only [symM, Nat.reduceBEq, g2], by simp only [symM, Nat.reduceBEq, g8], ?_, hg⟩
      rw [← boolsV_congr (flipB b 480) _ 480 (fun j hj => by unfold flipB; rw [if_pos hj])]
      subst hi2
      exact hv
  | succ k ih =>
    intro i tm h N hi hN g1 g2 g8 g9 hv hg
    obtain ⟨N, rfl⟩ : ∃ a, N = a + 20 := ⟨N - 20, by omega⟩
    have hlt : decide ((i : Int) < 480) = true := decide_eq_true (by omega)
    have hw : IntKind.i64.wrap ((i : Int) + 1) = ((i + 1 : Nat) : Int) := by rw [IntWalk.i64_in _ (by omega)]; simp
    have hat := boolsV_at (flipB b i) (k := 480) (i := i) (by omega)
    obtain ⟨p, e1, e2⟩ := hv.row.at und_bools sz_bool agg_bool hat
    obtain ⟨p2, h2, s1, s2, s3, s4, s5⟩ := hv.store und_bools sz_bool (x := .bool (!flipB b i i)) rfl hat
    rw [e1] at s1; cases s1
    rw [show N + 20 = (N + 19) + 1 from rfl, codeB_loop]
    simp only [bodyDn, part, Try.f20, sub, symM, opFn, Nat.reduceLT, Nat.reduceBEq, g8, g9, bin_lss, hlt, e1, e2, s2, bin_add, hw]
    have hl : (boolsV (flipB b i) 0 480).set i (.bool (!flipB b i i)) = boolsV (flipB b (i + 1)) 0 480 := by
      rw [boolsV_set]
      apply boolsV_congr
      intro j _
      unfold flipB
      by_cases hj : j = i
      · subst hj; rw [if_pos rfl, if_neg (by omega), if_pos (by omega)]
      · rw [if_neg hj]
        by_cases hj2 : j < i
        · rw [if_pos hj2, if_pos (by omega)]
        · rw [if_neg hj2, if_neg (by omega)]
    rw [hl] at s3
    refine ih (i + 1) _ h2 (N + 19) (by omega) (by omega) ?_ ?_ ?_ get_same s3 (hg.trans s4 (Nat.le_refl _)) <;> simp only [symM, Nat.reduceBEq, g1, g2, g8]
theorem rDown_S (bs : List Nat) (m : Value) (h : AH) (a b : Int) (hm : Row h.next h m (bytesV bs) 5)
    (hU : bs.length = 60 → ∃ v h', call 17 [m] h = some (v, h') ∧ Own h.next h' v (boolsV (bitB bs) 0 480) 4 ∧ Grow h.next h h')
    (hR : ∀ (f : Nat → Bool) (s : Value) (h : AH) (a b : Nat), a ≤ b → b ≤ 480 → Row h.next h s (boolsV f 0 480) 4 → ∃ v h', call 39 [s, iv a, iv b] h = some (v, h') ∧ Own h.next h' v (runsV (gapsG f (b - a) a a)) 23 ∧ Grow h.next h h') :
    ∃ v h', frameB T0 X0 call 3000 20 [m, iv a, iv b] h = some (.tuple #[v, iv (downE bs.length a b)], h') ∧ Own h.next h' v (runsV (downG bs a b)) 23 ∧ Grow h.next h h' := by
  have hlen := fun (ty : TypeId) (h' : AH) => hm.len (T := T0) (ty := ty) (h' := h') und_bytes
  have hl : (bytesV bs).length = bs.length := by simp [bytesV]
  rw [hl] at hlen
  rw [frameB_eq ft20 rfl rfl]
  by_cases h60 : bs.length = 60
  · have e60 : ((bs.length : Int) == 60) = true := by rw [h60]; rfl
    by_cases herr : a < 0 ∨ a > b ∨ b > 480
    · have hE : downE bs.length a b = 1 := by unfold downE; rw [if_neg (fun hh => hh h60), if_pos herr]
      have hG : downG bs a b = [] := by unfold downG; rw [hE]; rfl
      rw [hE, hG]
      refine ⟨.slice none 0 0, h, ?_, Own.nil _ _ _, Grow.refl _ _⟩
      by_cases h1 : a < 0
      · simp only [Try.f20, symM, opFn, Nat.reduceLT, Nat.reduceBEq, hlen, bin_neq, e60, bin_lss, decide_eq_true h1]
        exact retB_two ft20 rfl (by simp only [symM, Nat.reduceBEq]) get_same
      · by_cases h2 : b < a
        · simp only [Try.f20, symM, opFn, Nat.reduceLT, Nat.reduceBEq, hlen, bin_neq, e60, bin_lss, decide_eq_false h1, bin_gtr, decide_eq_true h2]
          exact retB_two ft20 rfl (by simp only [symM, Nat.reduceBEq]) get_same
        · have h3 : 480 < b := by omega
          simp only [Try.f20, symM, opFn, Nat.reduceLT, Nat.reduceBEq, hlen, bin_neq, e60, bin_lss, decide_eq_false h1, bin_gtr, decide_eq_false h2, decide_eq_true h3]
          exact retB_two ft20 rfl (by simp only [symM, Nat.reduceBEq]) get_same
    · have hE : downE bs.length a b = 0 := by unfold downE; rw [if_neg (fun hh => hh h60), if_neg herr]
      obtain ⟨a, rfl⟩ : ∃ n : Nat, a = n := ⟨a.toNat, by omega⟩
      obtain ⟨b, rfl⟩ : ∃ n : Nat, b = n := ⟨b.toNat, by omega⟩
      have hG : downG bs (a : Int) b = gapsG (fun i => !bitB bs i) (b - a) a a := by unfold downG; rw [hE, if_pos rfl]; rfl
      rw [hE, hG]
      obtain ⟨v1, h1, u1, u2, u3⟩ := hU h60
      have hv0 : Own h.next h1 v1 (boolsV (flipB (bitB bs) 0) 0 480) 4 := by
        rw [boolsV_congr (flipB (bitB bs) 0) (bitB bs) 480 (fun j _ => by unfold flipB; rw [if_neg (by omega)])]; exact u2
      have hL := fun tm N => dnL (call := call) (bitB bs) (iv a) (iv b) h.next h (Nat.le_refl _) v1 480 0 tm h1 N (by omega)
      simp only [Try.f20, symM, opFn, Nat.reduceLT, Nat.reduceBEq, hlen, bin_neq, e60, bin_lss, decide_eq_false (show ¬ (a : Int) < 0 by omega), bin_gtr, decide_eq_false (show ¬ (b : Int) < a by omega), decide_eq_false (show ¬ (480 : Int) < b by omega), evCall_fn ft17 rfl, u1]
      refine bind_loop (b := bodyDn) (P := fun x => ∃ v h', endF T0 20 x = some (.tuple #[v, iv 0], h') ∧ Own h.next h' v (runsV (gapsG (fun i => !bitB bs i) (b - a) a a)) 23 ∧ Grow h.next h h') (hL _ _ (by omega) (by simp only [symM, Nat.reduceBEq]) (by simp only [symM, Nat.reduceBEq]) (by simp only [symM, Nat.reduceBEq]) (by simp only [symM]; rfl) hv0 u3) ?_
      intro tm2 h2 ⟨p1, p2, p8, p4, p5⟩
      obtain ⟨v3, h3, r1, r2, r3⟩ := hR (fun i => !bitB bs i) v1 h2 a b (by omega) (by omega) p4.row
      refine ⟨v3, h3, ?_, r2.less p5.next, p5.trans r3 p5.next⟩
      simp only [symM, opFn, Nat.reduceLT, Nat.reduceBEq, p1, p2, p8, evCall_fn ft39 rfl, r1]
      exact retB_two ft20 rfl (by simp only [symM, Nat.reduceBEq]) get_same
  · have e60 : ((bs.length : Int) == 60) = false := by simp; omega
    have hE : downE bs.length a b = 2 := by unfold downE; rw [if_pos h60]
    have hG : downG bs a b = [] := by unfold downG; rw [hE]; rfl
    rw [hE, hG]
    refine ⟨.slice none 0 0, h, ?_, Own.nil _ _ _, Grow.refl _ _⟩
    simp only [Try.f20, symM, opFn, Nat.reduceLT, Nat.reduceBEq, hlen, bin_neq, e60]
    exact retB_two ft20 rfl (by simp only [symM, Nat.reduceBEq]) get_same
theorem rGaps_S (bs : List Nat) (m : Value) (h : AH) (n a b : Int)
    (hD : ∃ v h', call 20 [m, iv a, iv b] h = some (.tuple #[v, iv (downE bs.length a b)], h') ∧ Own h.next h' v (runsV (downG bs a b)) 23 ∧ Grow h.next h h') :
    ∃ v h', frameB T0 X0 call 3000 25 [m, iv n, iv a, iv b] h = some (.tuple #[v, iv (gapE bs.length n a b)], h') ∧ Own h.next h' v (runsV (downG bs a b)) 23 ∧ Grow h.next h h' := by
  obtain ⟨v, h', e1, e2, e3⟩ := hD
  refine ⟨v, h', ?_, e2, e3⟩
  rw [frameB_eq ft25 rfl rfl]
  by_cases h0 : downE bs.length a b = 0
  · by_cases hn : n < 1 ∨ n > 480
    · have hE : gapE bs.length n a b = 1 := by unfold gapE; rw [if_pos h0, if_pos hn]
      rw [hE]
      by_cases h1 : n < 1
      · simp only [Try.f25, symM, opFn, Nat.reduceLT, Nat.reduceBEq, evCall_fn ft20 rfl, e1, h0, bin_eql, show ((0 : Int) == 0) = true from rfl, bin_lss, decide_eq_true h1]
        exact retB_two ft25 rfl (by simp only [symM, Nat.reduceBEq]) get_same
      · have h2 : 480 < n := by omega
        simp only [Try.f25, symM, opFn, Nat.reduceLT, Nat.reduceBEq, evCall_fn ft20 rfl, e1, h0, bin_eql, show ((0 : Int) == 0) = true from rfl, bin_lss, decide_eq_false h1, bin_gtr, decide_eq_true h2]
        exact retB_two ft25 rfl (by simp only [symM, Nat.reduceBEq]) get_same
    · have hE : gapE bs.length n a b = 0 := by unfold gapE; rw [if_pos h0, if_neg hn]
      rw [hE]
      simp only [Try.f25, symM, opFn, Nat.reduceLT, Nat.reduceBEq, evCall_fn ft20 rfl, e1, h0, bin_eql, show ((0 : Int) == 0) = true from rfl, bin_lss, bin_gtr, decide_eq_false (show ¬ n < 1 by omega), decide_eq_false (show ¬ 480 < n by omega)]
      exact retB_two ft25 rfl (by simp only [symM, Nat.reduceBEq]) get_same
  · have hE : gapE bs.length n a b = downE bs.length a b := by unfold gapE; rw [if_neg h0]
    have hb : (downE bs.length a b == 0) = false := by simpa using h0
    rw [hE]
    simp only [Try.f25, symM, opFn, Nat.reduceLT, Nat.reduceBEq, evCall_fn ft20 rfl, e1, bin_eql, hb]
    exact retB_two ft25 rfl (by simp only [symM, Nat.reduceBEq]) get_same

noncomputable def bodyRF : Code := part Try.f10 [1, 1, 1, 0, 1, 0, 0]
abbrev ERF : Env := ⟨10, 43, none⟩
theorem rfirstL (L : List (Nat × Nat)) (n : Nat) (hn : 1 ≤ n) (s : Value) (n0 : Nat) (h0 : AH) (hs0 : Own n0 h0 s (runsV L) 23) (hL : L.length ≤ 481) (hruns : AllRuns L)
    (hsz : ∀ (x y : Nat) (h : AH), x ≤ 1048576 → y ≤ 1048576 → ∃ h', call 26 [cx x y] h = some (iv y, h') ∧ Grow h.next h h')
    (hb : ∀ (x y n : Nat) (h : AH), x ≤ 1048576 → y ≤ 1048576 → n ≤ 1048576 → 1 ≤ n → ∃ h', call 27 [cx x y, iv n] h = some (cx x n, h') ∧ Grow h.next h h') :
    ∀ (l : List (Nat × Nat)) (i : Nat) (tm : PM Value) (h : AH) (N : Nat), L.drop i = l → i + l.length = L.length → l.length + 30 ≤ N → tm.get 1 = some (iv n) → tm.get 10 = some s → tm.get 12 = some (iv i) → Grow h0.next h0 h →
      ∃ tm' h', Grow h0.next h0 h' ∧ ((∃ p, l.find? (fun p => decide (n ≤ p.2)) = some p ∧ codeB T0 X0 call N ERF (.loop bodyRF) tm h [] = .jump .ret tm' h' [] ∧ tm'.get 8 = some (cx p.1 n) ∧ tm'.get 9 = some (iv 0)) ∨
        (l.find? (fun p => decide (n ≤ p.2)) = none ∧ codeB T0 X0 call N ERF (.loop bodyRF) tm h [] = .jump (.exit 0) tm' h' [])) := by
  intro l
  induction l with
  | nil =>
    intro i tm h N hd hi hN g1 g10 g12 hg
    obtain ⟨N, rfl⟩ : ∃ a, N = a + 30 := ⟨N - 30, by simp at hN; omega⟩
    have hs := (hs0.grow hg).row
    have hlt : decide ((i : Int) < ((runsV L).length : Nat)) = false := decide_eq_false (by simp [runsV] at hi ⊢; omega)
    apply Exists.intro; apply Exists.intro; refine ⟨hg, .inr ⟨rfl, ?_⟩⟩
    rw [codeB_loop]
    simp only [bodyRF, part, Try.f10, sub, symM, opFn, Nat.reduceLT, Nat.reduceBEq, g10, g12, hs.len und_c128s, bin_lss, hlt]
    rfl
  | cons q l ih =>
    intro i tm h N hd hi hN g1 g10 g12 hg
    obtain ⟨N, rfl⟩ : ∃ a, N = a + 30 := ⟨N - 30, by simp at hN; omega⟩
    have hs := (hs0.grow hg).row
    have hlt : decide ((i : Int) < ((runsV L).length : Nat)) = true := decide_eq_true (by simp [runsV] at hi ⊢; omega)
    have hx : L[i]? = some q := by have := congrArg (fun l => l[0]?) hd; simpa using this
    have hq : 1 ≤ q.2 ∧ q.1 + q.2 ≤ 480 := by simpa [runOK] using hruns q (List.mem_of_getElem? hx)
    have hw : IntKind.i64.wrap ((i : Int) + 1) = ((i + 1 : Nat) : Int) := by rw [IntWalk.i64_in _ (by simp at hi; omega)]; simp
    have hxv : (runsV L)[i]? = some (cx q.1 q.2) := by simp [runsV, hx]
    obtain ⟨p, e1, e2⟩ := hs.at und_c128s sz_c128 agg_c128 hxv
    obtain ⟨h1, z1, z2⟩ := hsz q.1 q.2 h (by omega) (by omega)
    have hg1 : Grow h0.next h0 h1 := hg.trans z2 hg.next
    have hs1 := (hs0.grow hg1).row
    by_cases hc : n ≤ q.2
    · obtain ⟨p', e1', e2'⟩ := hs1.at und_c128s sz_c128 agg_c128 hxv
      rw [e1] at e1'; cases e1'
      obtain ⟨h2, b1, b2⟩ := hb q.1 q.2 n h1 (by omega) (by omega) (by omega) hn
      apply Exists.intro; refine ⟨h2, hg1.trans b2 hg1.next, .inl ⟨q, by simp [hc], ?_⟩⟩
      apply And.intro
      · rw [codeB_loop]
        simp only [bodyRF, part, Try.f10, sub, symM, opFn, Nat.reduceLT, Nat.reduceBEq, g1, g10, g12, hs.len und_c128s, bin_lss, hlt, e1, e2, evCall_fn ft26 rfl, z1, bin_geq, decide_eq_true (show (n : Int) ≤ (q.2 : Nat) by omega), e2', evCall_fn ft27 rfl, b1]
        rfl
      · exact ⟨by simp only [symM, Nat.reduceBEq], by simp only [symM]⟩
    · have hf : (q :: l).find? (fun p => decide (n ≤ p.2)) = l.find? (fun p => decide (n ≤ p.2)) := by simp [hc]
      rw [hf, show N + 30 = (N + 29) + 1 from rfl, codeB_loop]
      simp only [bodyRF, part, Try.f10, sub, symM, opFn, Nat.reduceLT, Nat.reduceBEq, g1, g10, g12, hs.len und_c128s, bin_lss, hlt, e1, e2, evCall_fn ft26 rfl, z1, bin_geq, decide_eq_false (show ¬ (n : Int) ≤ (q.2 : Nat) by omega), bin_add, hw]
      refine ih (i + 1) _ h1 (N + 29) (by rw [← List.drop_drop, hd]; rfl) (by simp at hi ⊢; omega) (by simp at hN ⊢; omega) ?_ ?_ get_same hg1 <;> simp only [symM, Nat.reduceBEq, g1, g10]
theorem downG_len (bs : List Nat) (a b : Int) : (downG bs a b).length ≤ 481 := by
  unfold downG
  split
  · rename_i h
    have := gapsG_len (fun i => !bitB bs i) (b.toNat - a.toNat) a.toNat a.toNat
    have h3 : b.toNat ≤ 480 := by
      unfold downE at h
      split at h
      · cases h
      · split at h
        · cases h
        · omega
    omega
  · simp
theorem rFirst_S (bs : List Nat) (m : Value) (h : AH) (n a b : Int)
    (hG : ∃ v h', call 25 [m, iv n, iv a, iv b] h = some (.tuple #[v, iv (gapE bs.length n a b)], h') ∧ Own h.next h' v (runsV (downG bs a b)) 23 ∧ Grow h.next h h')
    (hsz : ∀ (x y : Nat) (h : AH), x ≤ 1048576 → y ≤ 1048576 → ∃ h', call 26 [cx x y] h = some (iv y, h') ∧ Grow h.next h h')
    (hb : ∀ (x y n : Nat) (h : AH), x ≤ 1048576 → y ≤ 1048576 → n ≤ 1048576 → 1 ≤ n → ∃ h', call 27 [cx x y, iv n] h = some (cx x n, h') ∧ Grow h.next h h') :
    ∃ h', frameB T0 X0 call 3000 10 [m, iv n, iv a, iv b] h = some (firstR bs n a b, h') ∧ Grow h.next h h' := by
  obtain ⟨v, h1, e1, e2, e3⟩ := hG
  rw [frameB_eq ft10 rfl rfl]
  unfold firstR
  by_cases hE : gapE bs.length n a b = 0
  · have hn : 1 ≤ n ∧ n ≤ 480 := by
      unfold gapE at hE
      split at hE
      · split at hE
        · cases hE
        · omega
      · rename_i q; exact absurd hE q
    obtain ⟨n, rfl⟩ : ∃ k : Nat, n = k := ⟨n.toNat, by omega⟩
    rw [hE, if_pos rfl]
    have hGD : gapG bs (n : Int) a b = downG bs a b := by unfold gapG; rw [hE]; rfl
    have hln := downG_len bs a b
    have hL := fun tm N => rfirstL (call := call) (downG bs a b) n (by omega) v h.next h1 e2 hln (downG_runs bs a b) hsz hb (downG bs a b) 0 tm h1 N rfl (by simp)
    simp only [Try.f10, symM, opFn, Nat.reduceLT, Nat.reduceBEq, evCall_fn ft25 rfl, e1, hE, bin_neq, show ((0 : Int) == 0) = true from rfl]
    refine bind_loopJ (b := bodyRF) (Q := fun x => ∃ tm' h', Grow h1.next h1 h' ∧ ((∃ p, (downG bs a b).find? (fun p => decide (n ≤ p.2)) = some p ∧ x = .jump .ret tm' h' [] ∧ tm'.get 8 = some (cx p.1 n) ∧ tm'.get 9 = some (iv 0)) ∨
        ((downG bs a b).find? (fun p => decide (n ≤ p.2)) = none ∧ x = .jump (.exit 0) tm' h' []))) (P := fun x => ∃ h', endF T0 10 x = some (firstV (gapG bs (n : Int) a b) n, h') ∧ Grow h.next h h') ?_ ?_
    · exact hL _ _ (by omega) (by simp only [symM, Nat.reduceBEq]) (by simp only [symM, Nat.reduceBEq]) (by simp only [symM]; rfl) (Grow.refl _ _)
    · intro x ⟨tm', h', g, hx⟩
      refine ⟨h', ?_, e3.trans g e3.next⟩
      unfold firstV
      rw [hGD]
      rcases hx with ⟨p, f1, rfl, t8, t9⟩ | ⟨f1, rfl⟩
      · rw [f1]
        simp only [symM]
        exact retB_two ft10 rfl t8 t9
      · rw [f1]
        simp only [symM]
        exact retB_two ft10 rfl (by simp only [symM, Nat.reduceBEq]) get_same
  · rw [if_neg hE]
    refine ⟨h1, ?_, e3⟩
    have hb0 : (gapE bs.length n a b == 0) = false := by simpa using hE
    simp only [Try.f10, symM, opFn, Nat.reduceLT, Nat.reduceBEq, evCall_fn ft25 rfl, e1, bin_neq, hb0]
    exact retB_two ft10 rfl (by simp only [symM, Nat.reduceBEq]) get_same
end
end Go.Proofs.Ytcpihpjphdlmfaa.Abs
namespace Go.Proofs.Ytcpihpjphdlmfaa.Abs
open Go Go.Proofs
noncomputable section
theorem ft3 : T0.ft.get 3 = some Try.f3 := by kernel_rfl
theorem ft11 : T0.ft.get 11 = some Try.f11 := by kernel_rfl
def awS : Sums := addS 11 trueT noSums
abbrev C (d : Nat) : Abs.Callee := callB T0 X0 awS 3000 d
theorem C_f {f : Nat} (hf : Nat.beq f 11 = false) (d : Nat) (args : List Value) (h : AH) : C (d + 1) f args h = frameB T0 X0 (C d) 3000 f args h := by
  have hn : awS f = none := by unfold awS addS; rw [hf]; rfl
  show (match awS f with
    | some g => (match g args h with
      | some r => some r
      | none => frameB T0 X0 (C d) 3000 f args h)
    | none => frameB T0 X0 (C d) 3000 f args h) = _
  rw [hn]
theorem C_aw (d : Nat) (hd : 1 ≤ d) (h : AH) : C d 11 [] h = some (.bool true, h) := by
  obtain ⟨e, rfl⟩ : ∃ e, d = e + 1 := ⟨d - 1, by omega⟩
  rfl
theorem at1 {d k : Nat} (h : k + 1 ≤ d) : ∃ e, d = e + 1 ∧ k ≤ e := ⟨d - 1, by omega, by omega⟩
set_option maxRecDepth 10000
theorem s_Abs (d : Nat) (hd : 1 ≤ d) (x : Nat) (h : AH) (hx : zok x = true) : C d 75 [fl x] h = some (fl x, h) := by
  obtain ⟨e, rfl, _⟩ := at1 hd
  rw [C_f rfl]; exact Abs_S x hx h
theorem s_Trunc (d : Nat) (hd : 1 ≤ d) (x : Int) (h : AH) (hx : zok x = true) : C d 76 [fl x] h = some (fl x, h) := by
  obtain ⟨e, rfl, _⟩ := at1 hd
  rw [C_f rfl]; exact Trunc_S x hx h
theorem s_whole (d : Nat) (hd : 2 ≤ d) (x : Nat) (h : AH) (hx : x ≤ 1048576) : C d 74 [fl x] h = some (.bool true, h) := by
  obtain ⟨e, rfl, he⟩ := at1 hd
  rw [C_f rfl]; exact whole_S (s_Abs e he) (s_Trunc e he) x hx h
theorem s_Whole (d : Nat) (hd : 3 ≤ d) (x y : Nat) (h : AH) (hx : x ≤ 1048576) (hy : y ≤ 1048576) : C d 71 [cx x y] h = some (.bool true, h) := by
  obtain ⟨e, rfl, he⟩ := at1 hd
  rw [C_f rfl]; exact Whole_S (s_whole e he) x y hx hy h
theorem s_Sound (d : Nat) (hd : 4 ≤ d) (x y : Nat) (h : AH) (hx : x ≤ 1048576) (hy : y ≤ 1048576) : C d 63 [cx x y] h = some (.bool (runOK x y), h) := by
  obtain ⟨e, rfl, he⟩ := at1 hd
  rw [C_f rfl]; exact Sound_S (s_Whole e he) x y hx hy h
theorem s_parts (d : Nat) (hd : 1 ≤ d) (x y : Nat) (h : AH) (hx : x ≤ 1048576) (hy : y ≤ 1048576) : C d 64 [cx x y] h = some (.tuple #[iv x, iv y], h) := by
  obtain ⟨e, rfl, he⟩ := at1 hd
  rw [C_f rfl]; exact parts_S x y hx hy h
theorem s_Parts (d : Nat) (hd : 5 ≤ d) (x y : Nat) (h : AH) (hx : x ≤ 1048576) (hy : y ≤ 1048576) : C d 50 [cx x y] h = some (partsV x y, h) := by
  obtain ⟨e, rfl, he⟩ := at1 hd
  rw [C_f rfl]; exact Parts_S (s_Sound e he) (s_parts e (by omega)) x y hx hy h
theorem s_make1 (d : Nat) (hd : 1 ≤ d) (x y : Int) (h : AH) (hx : zok x = true) (hy : zok y = true) : C d 51 [iv x, iv y] h = some (make1V x y, h) := by
  obtain ⟨e, rfl, he⟩ := at1 hd
  rw [C_f rfl]; exact make1_S x y hx hy h
theorem s_Of (d : Nat) (hd : 2 ≤ d) (x y : Nat) (h : AH) (hy : 1 ≤ y) (hxy : x + y ≤ 480) : C d 49 [iv x, iv y] h = some (.tuple #[cx x y, iv 0], h) := by
  obtain ⟨e, rfl, he⟩ := at1 hd
  rw [C_f rfl]; exact Of_S (s_make1 e he) x y hy hxy h
theorem s_Cut (d : Nat) (hd : 6 ≤ d) (x y n : Nat) (h : AH) (hr : runOK x y = true) (hn : n ≤ y) : C d 41 [cx x y, iv n] h = some (.tuple #[make1V x n, make1V (x + n : Nat) (y - n : Nat), iv 0], h) := by
  obtain ⟨e, rfl, he⟩ := at1 hd
  rw [C_f rfl]; exact Cut_S (s_Parts e he) (s_make1 e (by omega)) x y n hr hn h
theorem s_begin (d : Nat) (hd : 7 ≤ d) (x y n : Nat) (h : AH) (hr : runOK x y = true) (hn : n ≤ y) (h1 : 1 ≤ n) : C d 24 [cx x y, iv n] h = some (cx x n, h) := by
  obtain ⟨e, rfl, he⟩ := at1 hd
  rw [C_f rfl]; exact begin_S (s_Cut e he) x y n hr hn h1 h
theorem s_up (d : Nat) (hd : 1 ≤ d) (bs : List Nat) (hbs : ∀ x ∈ bs, x < 256) (m : Value) (k n : Nat) (h : AH) (hm : Row k h m (bytesV bs) 5) (hn : n / 8 < bs.length) (hn2 : n < 9000) : C d 48 [m, iv n] h = some (.bool (bitB bs n), h) := by
  obtain ⟨e, rfl, he⟩ := at1 hd
  rw [C_f rfl]; exact up_S bs hbs m k n h hm hn hn2
theorem s_Down (d : Nat) (hd : 3 ≤ d) (bs : List Nat) (hbs : ∀ x ∈ bs, x < 256) (m : Value) (h : AH) (a b : Int) (hm : Row h.next h m (bytesV bs) 5) :
    ∃ v h', C d 40 [m, iv a, iv b] h = some (.tuple #[v, iv (downE bs.length a b)], h') ∧ Own h.next h' v (runsV (downG bs a b)) 23 ∧ Grow h.next h h' := by
  obtain ⟨e, rfl, he⟩ := at1 hd
  rw [C_f rfl]
  exact Down_S bs m h a b hm (fun n h' hn h60 hr => s_up e (by omega) bs hbs m h.next n h' hr (by omega) (by omega)) (s_Of e he)
theorem s_gaps (d : Nat) (hd : 4 ≤ d) (bs : List Nat) (hbs : ∀ x ∈ bs, x < 256) (m : Value) (h : AH) (n a b : Int) (hm : Row h.next h m (bytesV bs) 5) :
    ∃ v h', C d 21 [m, iv n, iv a, iv b] h = some (.tuple #[v, iv (gapE bs.length n a b)], h') ∧ Own h.next h' v (runsV (gapG bs n a b)) 23 ∧ Grow h.next h h' := by
  obtain ⟨e, rfl, he⟩ := at1 hd
  rw [C_f rfl]; exact gaps_S bs m h n a b (s_Down e he bs hbs m h a b hm)
theorem s_First1 (d : Nat) (hd : 1 ≤ d) (x y n : Nat) (p : Value) (h : AH) (hx : x ≤ 1048576) (hy : y ≤ 1048576) (hb : Box h p (iv n)) : C d 23 [cx x y, p] h = some (.bool (decide (n ≤ y)), h) := by
  obtain ⟨e, rfl, he⟩ := at1 hd
  rw [C_f rfl]; exact First1_S x y n hx hy p h hb
theorem s_First (d : Nat) (hd : 8 ≤ d) (bs : List Nat) (hbs : ∀ x ∈ bs, x < 256) (m : Value) (h : AH) (n a b : Int) (hm : Row h.next h m (bytesV bs) 5) :
    ∃ h', C d 9 [m, iv n, iv a, iv b] h = some (firstR bs n a b, h') ∧ Grow h.next h h' := by
  obtain ⟨e, rfl, he⟩ := at1 hd
  rw [C_f rfl]
  refine First_S bs m h n a b hm (fun h2 hm2 => s_gaps e (by omega) bs hbs m h2 n a b hm2) ?_ (s_begin e he)
  intro s l n0 h n q hr hl hruns hbox
  obtain ⟨e2, rfl, he2⟩ := at1 (k := 1) (show 2 ≤ e by omega)
  rw [C_f rfl]
  refine Index_S s (runsV l) n0 h 23 [q] _ _ ft23 rfl (geP n) hr (by simp [runsV]; omega) (fun x hx => ?_)
  simp only [runsV, List.mem_map] at hx
  obtain ⟨p, hp, rfl⟩ := hx
  have hp2 : 1 ≤ p.2 ∧ p.1 + p.2 ≤ 480 := by simpa [runOK] using hruns p hp
  rw [s_First1 e2 he2 p.1 p.2 n q h (by omega) (by omega) hbox, geP_cx n p.1 p.2 (by omega)]
/- The reference. -/
theorem s_rpart (d : Nat) (hd : 1 ≤ d) (x : Nat) (h : AH) (hx : x ≤ 1048576) : C d 47 [fl x] h = some (.tuple #[iv x, .bool true], h) := by
  obtain ⟨e, rfl, he⟩ := at1 hd
  rw [C_f rfl]; exact rpart_S x hx h
theorem s_rOf (d : Nat) (hd : 2 ≤ d) (x y : Nat) (h : AH) (hx : x ≤ 1048576) (hy : y ≤ 1048576) : ∃ h', C d 38 [cx x y] h = some (.tuple #[zv x y, .bool true], h') ∧ Grow h.next h h' := by
  obtain ⟨e, rfl, he⟩ := at1 hd
  rw [C_f rfl]; exact rOf_S (s_rpart e he) x y hx hy h
theorem s_rParts (d : Nat) (hd : 3 ≤ d) (x y : Nat) (h : AH) (hx : x ≤ 1048576) (hy : y ≤ 1048576) : ∃ h', C d 18 [cx x y] h = some (.tuple #[iv x, iv y, .bool (runOK x y)], h') ∧ Grow h.next h h' := by
  obtain ⟨e, rfl, he⟩ := at1 hd
  rw [C_f rfl]; exact rParts_S x y h (s_rOf e he x y h hx hy) hx hy
theorem s_rRun (d : Nat) (hd : 1 ≤ d) (x y : Int) (h : AH) (hx : zok x = true) (hy : zok y = true) : C d 42 [iv x, iv y] h = some (make1V x y, h) := by
  obtain ⟨e, rfl, he⟩ := at1 hd
  rw [C_f rfl]; exact rRun_S x y hx hy h
theorem s_rsize (d : Nat) (hd : 4 ≤ d) (x y : Nat) (h : AH) (hx : x ≤ 1048576) (hy : y ≤ 1048576) : ∃ h', C d 26 [cx x y] h = some (iv y, h') ∧ Grow h.next h h' := by
  obtain ⟨e, rfl, he⟩ := at1 hd
  rw [C_f rfl]; exact rsize_S x y h (s_rParts e he x y h hx hy)
theorem s_rbegin (d : Nat) (hd : 4 ≤ d) (x y n : Nat) (h : AH) (hx : x ≤ 1048576) (hy : y ≤ 1048576) (hn : n ≤ 1048576) (h1 : 1 ≤ n) : ∃ h', C d 27 [cx x y, iv n] h = some (cx x n, h') ∧ Grow h.next h h' := by
  obtain ⟨e, rfl, he⟩ := at1 hd
  rw [C_f rfl]; exact rbegin_S x y n h (s_rParts e he x y h hx hy) (s_rRun e (by omega)) hx hn h1
theorem s_rpower (d : Nat) (hd : 1 ≤ d) (n : Nat) (h : AH) (hn : n < 8) : C d 37 [iv n] h = some (.int .u8 ((2 ^ n : Nat) : Int), h) := by
  obtain ⟨e, rfl, he⟩ := at1 hd
  rw [C_f rfl]; exact rpower_S n hn h
theorem s_rUp (d : Nat) (hd : 2 ≤ d) (bs : List Nat) (hbs : ∀ x ∈ bs, x < 256) (h60 : bs.length = 60) (m : Value) (h : AH) (hm : Row h.next h m (bytesV bs) 5) :
    ∃ v h', C d 17 [m] h = some (v, h') ∧ Own h.next h' v (boolsV (bitB bs) 0 480) 4 ∧ Grow h.next h h' := by
  obtain ⟨e, rfl, he⟩ := at1 hd
  rw [C_f rfl]; exact Up_S bs hbs h60 m h hm (s_rpower e he)
theorem s_rRuns (d : Nat) (hd : 2 ≤ d) (f : Nat → Bool) (s : Value) (h : AH) (a b : Nat) (hab : a ≤ b) (hb : b ≤ 480) (hs : Row h.next h s (boolsV f 0 480) 4) :
    ∃ v h', C d 39 [s, iv a, iv b] h = some (v, h') ∧ Own h.next h' v (runsV (gapsG f (b - a) a a)) 23 ∧ Grow h.next h h' := by
  obtain ⟨e, rfl, he⟩ := at1 hd
  rw [C_f rfl]; exact Runs_S f s h a b hab hb hs (s_rRun e he)
theorem s_rDown (d : Nat) (hd : 3 ≤ d) (bs : List Nat) (hbs : ∀ x ∈ bs, x < 256) (m : Value) (h : AH) (a b : Int) (hm : Row h.next h m (bytesV bs) 5) :
    ∃ v h', C d 20 [m, iv a, iv b] h = some (.tuple #[v, iv (downE bs.length a b)], h') ∧ Own h.next h' v (runsV (downG bs a b)) 23 ∧ Grow h.next h h' := by
  obtain ⟨e, rfl, he⟩ := at1 hd
  rw [C_f rfl]; exact rDown_S bs m h a b hm (fun h60 => s_rUp e he bs hbs h60 m h hm) (s_rRuns e he)
theorem s_rGaps (d : Nat) (hd : 4 ≤ d) (bs : List Nat) (hbs : ∀ x ∈ bs, x < 256) (m : Value) (h : AH) (n a b : Int) (hm : Row h.next h m (bytesV bs) 5) :
    ∃ v h', C d 25 [m, iv n, iv a, iv b] h = some (.tuple #[v, iv (gapE bs.length n a b)], h') ∧ Own h.next h' v (runsV (downG bs a b)) 23 ∧ Grow h.next h h' := by
  obtain ⟨e, rfl, he⟩ := at1 hd
  rw [C_f rfl]; exact rGaps_S bs m h n a b (s_rDown e he bs hbs m h a b hm)
theorem s_rFirst (d : Nat) (hd : 5 ≤ d) (bs : List Nat) (hbs : ∀ x ∈ bs, x < 256) (m : Value) (h : AH) (n a b : Int) (hm : Row h.next h m (bytesV bs) 5) :
    ∃ h', C d 10 [m, iv n, iv a, iv b] h = some (firstR bs n a b, h') ∧ Grow h.next h h' := by
  obtain ⟨e, rfl, he⟩ := at1 hd
  rw [C_f rfl]; exact rFirst_S bs m h n a b (s_rGaps e he bs hbs m h n a b hm) (s_rsize e he) (s_rbegin e he)

theorem Row.more {n k : Nat} {h : AH} {v : Value} {l : List Value} {e : TypeId} (hr : Row n h v l e) (hn : n ≤ k) : Row k h v l e := by
  rcases hr with h1 | ⟨b, o, cap, c, m, lo, hi, kd, el, h1, h2, h3⟩
  · exact .inl h1
  · exact .inr ⟨b, o, cap, c, m, lo, hi, kd, el, h1, Nat.lt_of_lt_of_le h2 hn, h3⟩
/-- What First answers is a number of whole parts, and an error. -/
theorem firstR_form (bs : List Nat) (n a b : Int) : ∃ (x y : Nat) (e : Int), x ≤ 1048576 ∧ y ≤ 1048576 ∧ firstR bs n a b = .tuple #[cx x y, iv e] := by
  have h0 : ∀ e : Int, (.tuple #[.complex .f64 0 0, iv e] : Value) = .tuple #[cx ((0 : Nat) : Int) ((0 : Nat) : Int), iv e] := fun e => by rw [show ((0 : Nat) : Int) = 0 from rfl, show cx 0 0 = .complex .f64 0 0 from by unfold cx; rw [zd_zero]]
  unfold firstR
  by_cases hE : gapE bs.length n a b = 0
  · rw [if_pos hE]
    unfold firstV
    cases hf : (gapG bs n a b).find? (fun p => decide (n.toNat ≤ p.2)) with
    | none => exact ⟨0, 0, 6, by omega, by omega, h0 6⟩
    | some p =>
      have hr := gapG_runs bs n a b p (List.mem_of_find?_eq_some hf)
      have hp2 : 1 ≤ p.2 ∧ p.1 + p.2 ≤ 480 := by simpa [runOK] using hr
      have hn := List.find?_some hf
      simp at hn
      exact ⟨p.1, n.toNat, 0, by omega, by omega, rfl⟩
  · rw [if_neg hE]; exact ⟨0, 0, _, by omega, by omega, h0 _⟩
theorem law_S (bs : List Nat) (hbs : ∀ x ∈ bs, x < 256) (m : Value) (h : AH) (n a b : Int) (hm : Row h.next h m (bytesV bs) 5) : ∃ h', C 20 3 [m, iv n, iv a, iv b] h = some (.bool true, h') := by
  rw [C_f rfl, frameB_eq ft3 rfl rfl]
  obtain ⟨h1, e1, g1⟩ := s_First 19 (by omega) bs hbs m h n a b hm
  obtain ⟨h2, e2, g2⟩ := s_rFirst 19 (by omega) bs hbs m h1 n a b ((hm.grow g1 (Nat.le_refl _)).more g1.next)
  obtain ⟨x, y, e, hx, hy, hF⟩ := firstR_form bs n a b
  rw [hF] at e1 e2
  refine ⟨h2, ?_⟩
  simp only [Try.f3, symM, opFn, Nat.reduceLT, Nat.reduceBEq, evCall_fn ft9 rfl, e1, evCall_fn ft10 rfl, e2, evCall_fn ft11 rfl, C_aw 19 (by omega), c_eql (zok_k (x := (x : Int)) (by omega)) (zok_k (x := (y : Int)) (by omega)) (zok_k (x := (x : Int)) (by omega)) (zok_k (x := (y : Int)) (by omega)), decide_true, Bool.and_self, bin_eql, beq_self_eq_true]
  exact retB_one ft3 rfl get_same
end
end Go.Proofs.Ytcpihpjphdlmfaa.Abs
