
/- ChainFew: its extents; too few blocks. -/
import Derived.Test.YtglmahefcdhmgaaPlan
import Derived.Test.YtglmahefcdhmgaaAbsZN
namespace Go.Proofs.Ytglmahefcdhmgaa.Abs
open Go Go.Proofs
noncomputable section
set_option maxRecDepth 10000
def fewX (f i : Nat) : XV := ⟨2 * i, 59 + f + 2 * i, 1⟩
def fewL (f k : Nat) : List XV := (List.range k).map (fewX f)
theorem fewL_len (f k : Nat) : (fewL f k).length = k := by simp [fewL]
theorem fewL_succ (f k : Nat) : fewL f (k + 1) = fewL f k ++ [fewX f k] := by simp [fewL, List.range_succ]
theorem fewL_mem {f k : Nat} {x : XV} (h : x ∈ fewL f k) : ∃ i, i < k ∧ x = fewX f i := by
  simp only [fewL, List.mem_map, List.mem_range] at h
  obtain ⟨i, h1, h2⟩ := h
  exact ⟨i, h1, h2.symm⟩
theorem fewX_ok {f i : Nat} (hf : f < 300) (hi : i < 33) : okX (fewX f i) := by unfold okX fewX; simp only; omega
theorem fewX_run {f i : Nat} (hf : f < 300) (hi : i < 33) : runOK (fewX f i).x (fewX f i).y = true := by unfold runOK fewX; simp; omega
theorem fewL_ok {f k : Nat} (hf : f < 300) (hk : k < 33) : ∀ x ∈ fewL f k, okX x := by
  intro x hx
  obtain ⟨i, h1, rfl⟩ := fewL_mem hx
  exact fewX_ok hf (by omega)
theorem fewL_run {f k : Nat} (hf : f < 300) (hk : k < 33) : ∀ x ∈ fewL f k, runOK x.x x.y = true := by
  intro x hx
  obtain ⟨i, h1, rfl⟩ := fewL_mem hx
  exact fewX_run hf (by omega)
theorem fewX_bad {f i : Nat} (hf : f < 300) (hi : i < 33) : badX (2 * i - 1) (if i = 0 then -1 else (58 + f + 2 * i : Nat)) (fewX f i) = false := by
  have h1 := fewX_run hf hi
  unfold badX
  rw [h1]
  unfold fewX
  simp only [Bool.not_true, Bool.false_or, Bool.or_eq_false_iff, Bool.and_eq_false_iff, decide_eq_false_iff_not]
  refine ⟨by omega, by omega, ?_, by omega⟩
  by_cases h0 : i = 0
  · right; rw [if_pos h0]; omega
  · left; omega
theorem fewL_meet {f i : Nat} (x : XV) (hx : x = fewX f i) : ((fewL f i).any fun r => meetX r x) = false := by
  rw [List.any_eq_false]
  intro r hr
  obtain ⟨j, h1, rfl⟩ := fewL_mem hr
  subst hx
  unfold meetX fewX
  simp; omega
theorem fewL_ext {f : Nat} (hf : f < 300) : ∀ (m i : Nat), i + m < 33 → extG (2 * i - 1) (if i = 0 then -1 else (58 + f + 2 * i : Nat)) (fewL f i) ((List.range' i m).map (fewX f)) = true := by
  intro m
  induction m with
  | zero => intro i hi; rfl
  | succ m ih =>
    intro i hi
    rw [List.range'_succ, List.map_cons, extG, fewX_bad hf (by omega), fewL_meet _ rfl]
    have := ih (i + 1) (by omega)
    rw [if_neg (by omega), fewL_succ] at this
    have e1 : 2 * (i + 1) - 1 = (fewX f i).a + (fewX f i).y := by unfold fewX; simp only; omega
    have e2 : 58 + f + 2 * (i + 1) = (fewX f i).x + (fewX f i).y := by unfold fewX; simp only; omega
    rw [e1, e2] at this
    rw [this]
    rfl
theorem fewL_extG {f k : Nat} (hf : f < 300) (hk : k < 33) : extG 0 (-1) [] (fewL f k) = true := by
  have := fewL_ext hf k 0 (by omega)
  rw [if_pos rfl] at this
  have e : (List.range' 0 k).map (fewX f) = fewL f k := by unfold fewL; rw [List.range_eq_range']
  rw [e] at this
  exact this
theorem fewL_free {f k q : Nat} (hf : f < 300) (hk : k < 33) (hq : 470 ≤ q) : ((fewL f k).any fun x => meetX x ⟨0, q, 1⟩) = false := by
  rw [List.any_eq_false]
  intro r hr
  obtain ⟨j, h1, rfl⟩ := fewL_mem hr
  unfold meetX fewX
  simp; omega
theorem s_PlanFew (d : Nat) (hd : 15 ≤ d) (v : Value) (xs : List XV) (n bfr capf l : Nat) (h : AH) (hr : RowE n h v xs) (hw : WinE n h v xs) (hn : n ≤ h.next) (hx : ∀ x ∈ xs, okX x) (hL : xs.length ≤ 96) (hext : extG 0 (-1) [] xs = true) (hF : l < needK xs.length) :
    ∃ h', C d 8 [v, preV bfr l capf] h = some (.tuple #[nodeV NV.zero nilV, nilV, iv 6], h') ∧ Grow h.next h h' := by
  obtain ⟨e, rfl, he⟩ := at1 hd
  rw [C_f rfl]
  have hvv : ∀ h, rp (some (evNewVar h 29 v)) = some (.value (pv h.next 0), h.new (.cells (PM.ofList [v]) 1 29 0 0 .ex)) := by
    obtain ⟨b, o, cap, c, m, kd, rfl, _⟩ := hw
    exact fun h => rfl
  have x2 : ∀ h, rp (some (evNewVar h 34 (preV bfr l capf))) = some (.value (pv h.next 0), h.new (.cells (PM.ofList [preV bfr l capf]) 1 34 0 0 .ex)) := fun h => rfl
  generalize hh1 : h.new (.cells (PM.ofList [v]) 1 29 0 0 .ex) = h1
  have g1 : Grow h.next h h1 := by rw [← hh1]; exact Grow.new _ _
  have n1 : h1.next = h.next + 1 := by rw [← hh1]; rfl
  have bl1 : BoxL h1 h.next 29 [v] := by rw [← hh1]; exact BoxL.new _ _ _
  generalize hh2 : h1.new (.cells (PM.ofList [preV bfr l capf]) 1 34 0 0 .ex) = h2
  have g2 : Grow h1.next h1 h2 := by rw [← hh2]; exact Grow.new _ _
  have n2 : h2.next = h1.next + 1 := by rw [← hh2]; rfl
  have bf2 : BoxL h2 h1.next 34 [preV bfr l capf] := by rw [← hh2]; exact BoxL.new _ _ _
  generalize hh3 : h2.new (.cells (PM.ofList (nodeL NV.zero nilV)) 12 37 0 0 .ex) = h3
  have g3 : Grow h2.next h2 h3 := by rw [← hh3]; exact Grow.new _ _
  have n3 : h3.next = h2.next + 1 := by rw [← hh3]; rfl
  have b43 : NodeB h3 h2.next NV.zero nilV := by rw [← hh3]; exact NodeB.new _ _ _
  have G3 : Grow h.next h h3 := (g1.trans g2 (by omega)).trans g3 (by omega)
  obtain ⟨h4, c4, g4⟩ := s_Extents e (by omega) v xs n h3 (by omega) hx hL (hr.grow G3 hn)
  rw [hext] at c4
  have g24 : Grow h2.next h2 h4 := g3.trans g4 (by omega)
  have bl4 : BoxL h4 h.next 29 [v] := (bl1.grow g2 (by omega)).grow g24 (by omega)
  have bf4 : BoxL h4 h1.next 34 [preV bfr l capf] := bf2.grow g24 (by omega)
  have b44 : NodeB h4 h2.next NV.zero nilV := b43.grow g4 (by omega)
  have cN := s_Need e (by omega) xs.length h4 hL
  have c5 := s_FreshFew e (by omega) bfr capf l (needK xs.length) h4 (.func (.func 12) #[] #[pv h.next 0]) hF
  obtain ⟨h6, s6, b6, g6, _⟩ := b44.storeAll (k := h2.next) NV.zero (f := nilV) rfl (Nat.le_refl _)
  have lb3 : evLoad T0 29 (pv h.next 0) h3 = some v := ((bl1.grow g2 (by omega)).grow g3 (by omega)).load agg_exts (i := 0) rfl
  have lb4 := bl4.load agg_exts (i := 0) rfl
  have lf4 := bf4.load agg_ints (i := 0) rfl
  refine ⟨h6, ?_, (G3.trans g4 (by omega)).trans (g6.less (by omega)) (Nat.le_refl _)⟩
  rw [frameB_eq ft8 rfl rfl]
  simp only [Try.f8, symM, opFn, Nat.reduceLT, Nat.reduceBEq, symM, hvv, hh1, x2, hh2, alloc_N, hh3, lb3, evCall_fn ft10 rfl, c4, lb4, hw.len, evCall_fn ft5 rfl, cN, lf4, evCall_fn ft11 rfl, c5, bin_neq, show ((6 : Int) == 0) = false from rfl, build_N0, s6]
  exact retB_c3' ft8 rfl (by simp only [symM, Nat.reduceBEq]) b6.loads.2.2.2.2.2.2.2.2.2.2.2.2.1 (by simp only [symM, Nat.reduceBEq]) (by simp only [symM])
end
end Go.Proofs.Ytglmahefcdhmgaa.Abs
namespace Go.Proofs.Ytglmahefcdhmgaa.Abs
open Go Go.Proofs
noncomputable section
set_option maxRecDepth 10000
theorem und_u16 : und T0 28 = some (.int .u16) := by kernel_rfl
noncomputable def bodyLw : Code := part Try.f4 [1, 1, 1, 0, 1, 0, 0]
abbrev ELw : Env := ⟨4, 99, none⟩
theorem append_sl {n : Nat} {h : AH} {v : Value} {xs : List XV} (ho : OwnE n h v xs) (h0 : xs ≠ []) : ∃ a l c, v = .slice (some a) l c := by
  rcases ho with ⟨rfl, h1, _⟩ | ⟨b, c, kd, cap, _, _, rfl, _⟩
  · exact absurd (List.length_eq_zero_iff.1 h1) h0
  · exact ⟨_, _, _, rfl⟩
theorem lawL {call : Abs.Callee} (a K : Nat) (ha : a < 65536) (hK : K < 33) (v0 : Value) (n0 : Nat) : ∀ (k i : Nat) (v : Value) (h : AH) (tm : PM Value) (N : Nat), i + k = K → k + 40 ≤ N → n0 ≤ h.next → OwnE n0 h v (fewL (a % 300) i) → (∃ p l c, v = .slice (some p) l c) →
    tm.get 0 = some (.int .u16 (a : Int)) → tm.get 5 = some v → tm.get 6 = some (iv K) → tm.get 7 = some (iv i) →
    ∃ tm' h', codeB T0 X0 call N ELw (.loop bodyLw) tm h [] = .jump (.exit 0) tm' h' [] ∧ ((∃ v', tm'.get 5 = some v' ∧ tm'.get 6 = some (iv K) ∧ OwnE n0 h' v' (fewL (a % 300) K) ∧ ∃ p l c, v' = .slice (some p) l c) ∧ Grow n0 h h') := by
  intro k
  induction k with
  | zero =>
    intro i v h tm N hi hN hn ho hv g0 g5 g6 g7
    obtain ⟨N, rfl⟩ : ∃ a, N = a + 40 := ⟨N - 40, by omega⟩
    have hiK : i = K := by omega
    subst hiK
    apply Exists.intro; apply Exists.intro
    refine ⟨?_, ⟨v, ?_, ?_, ho, hv⟩, Grow.refl _ _⟩
    · rw [codeB_loop]
      simp only [bodyLw, part, Try.f4, sub, symM, opFn, Nat.reduceLT, Nat.reduceBEq, symM, g6, g7, bin_lss, decide_eq_false (show ¬ (i : Int) < (i : Int) by omega)]
      rfl
    · simp only [symM, Nat.reduceBEq, g5]
    · simp only [symM, Nat.reduceBEq, g6]
  | succ k ih =>
    intro i v h tm N hi hN hn ho hv g0 g5 g6 g7
    obtain ⟨N, rfl⟩ : ∃ a, N = a + 40 := ⟨N - 40, by omega⟩
    have w1 : IntKind.i64.wrap (2 * (i : Int)) = ((2 * i : Nat) : Int) := by rw [wz (by omega)]; omega
    have w2 : IntKind.i64.wrap (a : Int) = (a : Int) := wz (by omega)
    have w3 : ∀ p q h, evBin T0 .rem 3 p q (iv a) (iv 300) h = some (iv ((a % 300 : Nat) : Int)) := fun p q h => bin_rem (n := 300) (by decide)
    have w4 : IntKind.i64.wrap (59 + ((a % 300 : Nat) : Int)) = ((59 + a % 300 : Nat) : Int) := by rw [wz (by omega)]; omega
    have w5 : IntKind.i64.wrap (((59 + a % 300 : Nat) : Int) + ((2 * i : Nat) : Int)) = ((59 + a % 300 + 2 * i : Nat) : Int) := by rw [wz (by omega)]; omega
    obtain ⟨v', h', a1, a2, a3⟩ := ho.append (fewX (a % 300) i) (by rw [fewL_len]; omega) hn 29
    have hb : evBuild T0 33 [(0, iv ((2 * i : Nat) : Int)), (1, .complex .f64 (zd ((59 + a % 300 + 2 * i : Nat) : Int)) 4607182418800017408)] h = some (extV (fewX (a % 300) i), h) := by
      rw [← zd1]; exact build_E
    have hbs : evBuildSlice T0 29 1 [(0, extV (fewX (a % 300) i))] h = _ := bs_ext
    rw [← fewL_succ] at a2
    rw [show N + 40 = (N + 39) + 1 from rfl, codeB_loop]
    simp only [bodyLw, part, Try.f4, sub, symM, opFn, Nat.reduceLT, Nat.reduceBEq, symM, g0, g5, g6, g7, bin_lss, decide_eq_true (show (i : Int) < (K : Int) by omega), bin_mul, w1, conv_i2i und_u16 und_int, w2, w3, bin_add, w4, w5, conv_i2f und_int und_f64 (zok_k (x := ((59 + a % 300 + 2 * i : Nat) : Int)) (by omega)), hb, hbs, a1, wadd1 (show i ≤ 400000 by omega)]
    exact wrapE (ih (i + 1) v' h' _ (N + 39) (by omega) (by omega) (Nat.le_trans hn a3.next) a2 (append_sl a2 (by rw [fewL_succ]; simp)) (by simp only [symM, Nat.reduceBEq, g0]) (by simp only [symM, Nat.reduceBEq]) (by simp only [symM, Nat.reduceBEq, g6]) get_same) a3
theorem bs_3 {h : AH} : evBuildSlice T0 34 3 [(0, iv 470), (1, iv 471), (2, iv 472)] h = some (preV h.next 3 3, h.new (.cells (PM.ofList [iv 470, iv 471, iv 472]) 3 3 0 0 .ex)) := by kernel_rfl
theorem b_eql {a b : Bool} {p q : Operand} {h : AH} : evBin T0 .eql 4 p q (.bool a) (.bool b) h = some (.bool (a == b)) := by cases a <;> cases b <;> kernel_rfl
def F3 (W : Nat) : List Nat := [470, 471, 472].take W
theorem pre3 (h : AH) (W : Nat) (hW : W ≤ 3) : PreN (h.new (.cells (PM.ofList [iv 470, iv 471, iv 472]) 3 3 0 0 .ex)) h.next 3 (F3 W) := by
  refine ⟨_, 3, _, get_new_same _ _, Nat.le_refl _, by simp [F3]; omega, by rw [XB_val]; omega, fun i x hx => ?_⟩
  unfold F3 at hx
  rw [List.getElem?_take] at hx
  split at hx
  · rw [PM.get_ofList]
    match i, hx with
    | 0, hx => cases hx; rfl
    | 1, hx => cases hx; rfl
    | 2, hx => cases hx; rfl
    | i + 3, hx => simp at hx
  · cases hx
theorem F3_len {W : Nat} (hW : W ≤ 3) : (F3 W).length = W := by simp [F3]; omega
theorem F3_mem {W q : Nat} (h : q ∈ F3 W) : 470 ≤ q ∧ q ≤ 472 := by
  have := List.mem_of_mem_take h
  simp at this; omega
theorem F3_dup {W : Nat} : ∀ i x, (F3 W)[i]? = some x → ((((F3 W).take i).any fun y => decide (x = y)) = false) := by
  intro i x hx
  unfold F3 at *
  rw [List.getElem?_take] at hx
  split at hx
  · rename_i hi
    rw [List.take_take, Nat.min_eq_left (by omega)]
    match i, hx with
    | 0, hx => rfl
    | 1, hx => cases hx; rfl
    | 2, hx => cases hx; rfl
    | i + 3, hx => simp at hx
  · cases hx
set_option maxHeartbeats 4000000 in
theorem law_a (a b : Nat) (ha : a < 65536) (hb : b < 256) (hk : b % 33 < 3) (h : AH) : ∃ h', C 20 4 [.int .u16 (a : Int), .int .u8 (b : Int)] h = some (.bool true, h') := by
  rw [C_f rfl]
  generalize hK : b % 33 = K at hk
  have hK33 : K < 33 := by omega
  have hf : a % 300 < 300 := Nat.mod_lt _ (by decide)
  have w1 : IntKind.i64.wrap (b : Int) = (b : Int) := wz (by omega)
  have w2 : ∀ p q h, evBin T0 .rem 3 p q (iv b) (iv 33) h = some (iv (K : Nat)) := fun p q h => by rw [← hK]; exact bin_rem (n := 33) (by decide)
  generalize hh1 : h.new (.cells (PM.ofList []) 0 33 0 0 .ex) = h1
  have n1 : h1.next = h.next + 1 := by rw [← hh1]; rfl
  have o1 : OwnE h.next h1 (.slice (some ⟨h.next, 0, none⟩) 0 0) (fewL (a % 300) 0) := by
    rw [← hh1]
    exact .inr ⟨h.next, PM.ofList [], .ex, 0, Nat.le_refl _, Nat.lt_succ_self _, rfl, get_new_same _ _, rfl, fun i x hx => by simp [fewL, extsL] at hx, .inl ⟨rfl, rfl⟩⟩
  rw [frameB_eq ft4 rfl rfl]
  simp only [Try.f4, symM, opFn, Nat.reduceLT, Nat.reduceBEq, symM, symL, bs_e0, hh1, conv_i2i und_u8 und_int, w1, w2]
  generalize hX : codeB T0 X0 (C 19) _ ELw (.loop _) _ _ _ = X
  obtain ⟨t1, h2, e0, ⟨v, u5, u6, o2, hsl⟩, g2⟩ := use_exit hX (lawL a K ha hK33 nilV h.next K 0 _ h1 _ _ (by omega) (by omega) (by omega) o1 ⟨_, _, _, rfl⟩ (by simp only [symM, Nat.reduceBEq]) (by simp only [symM, Nat.reduceBEq]) (by simp only [symM, Nat.reduceBEq]) (by simp only [symM]; rfl))
  clear hX
  subst e0
  have lw := fewL_len (a % 300) K
  generalize hh3 : h2.new (.cells (PM.ofList [iv 470, iv 471, iv 472]) 3 3 0 0 .ex) = h3
  have g3 : Grow h2.next h2 h3 := by rw [← hh3]; exact Grow.new _ _
  have n3 : h3.next = h2.next + 1 := by rw [← hh3]; rfl
  have hr3 : RowE h2.next h3 v (fewL (a % 300) K) := o2.row.grow g3 (Nat.le_refl _)
  have hw3 : WinE h2.next h3 v (fewL (a % 300) K) := (o2.win hsl (by omega)).grow g3 (Nat.le_refl _)
  have pr : PreN h3 h2.next 3 (F3 0) := by rw [← hh3]; exact pre3 h2 0 (by omega)
  have hneed : (F3 0).length = needK (fewL (a % 300) K).length := by rw [F3_len (by omega), lw]; unfold needK; omega
  obtain ⟨e, wv, h4, c4, g4, oe, l1, l2⟩ := s_Plan 19 (by omega) v (fewL (a % 300) K) h2.next h2.next 3 (F3 0) h3 hr3 hw3 (by omega) (fewL_ok hf hK33) (fewL_run hf hK33) (by omega) (fewL_extG hf hK33) pr (by omega) hneed
    (fun q hq => by have := F3_mem hq; unfold dataN; simp; omega) F3_dup (fun q hq => fewL_free hf hK33 (F3_mem hq).1)
  have c4 : C 19 8 [v, preV h2.next 0 3] h3 = some (.tuple #[nodeV ⟨0, 2, 0, 0, 0, 0, 0, 0, 0, 0, 0⟩ e, wv, iv 0], h4) := c4
  have l2 : ∀ ty h', evBuiltin T0 .len #[38] ty [wv] h' = some (.value (iv 0), h') := fun ty h' => l2 ty h'
  have cut : ∀ h, evSliceX T0 34 (preV h2.next 3 3) none (some (iv 0)) none h = some (preV h2.next 0 3, h) := fun h => pre_cut (j := 0) (by rw [XB_val]; omega) (by omega)
  have htk : ((fewL (a % 300) K).take 3).length = min 3 K := by rw [List.length_take, lw]
  generalize hh5 : h4.new (.cells (PM.ofList (nodeL NV.zero nilV)) 12 37 0 0 .ex) = h5
  have g5 : Grow h4.next h4 h5 := by rw [← hh5]; exact Grow.new _ _
  have n5 : h5.next = h4.next + 1 := by rw [← hh5]; rfl
  have b5 : NodeB h5 h4.next NV.zero nilV := by rw [← hh5]; exact NodeB.new _ _ _
  obtain ⟨h6, s6, b6, g6, n6⟩ := b5.storeAll (k := h4.next) ⟨0, 2, 0, 0, 0, 0, 0, 0, 0, 0, 0⟩ (f := e) oe (Nat.le_refl _)
  have m4 := g4.next
  refine ⟨h6, ?_⟩
  simp only [symM, opFn, Nat.reduceLT, Nat.reduceBEq, symM, symL, u5, u6, bin_gtr, decide_eq_false (show ¬ (3 : Int) < (K : Int) by omega), decide_eq_false (show ¬ (17 : Int) < (K : Int) by omega), decide_eq_false (show ¬ (31 : Int) < (K : Int) by omega), bsx_gen, goBSX_some, bs_3, hh3, ev3, evOpt, cut, evCall_fn ft8 rfl, c4, alloc_N, hh5, s6, evCall_fn ft6 rfl, C_aw 19 (by omega), bin_eql, bin_neq, show ((0 : Int) == 0) = true from rfl, show decide ((0 : Int) < 0) = false from rfl, show (((0 : Nat) : Int) == 0) = true from rfl, l2, field_N, b6.loads, b_eql, show (false == false) = true from rfl, bin_lss, decide_eq_true (show (K : Int) < 3 by omega)]
  exact retB_one ft4 rfl get_same
set_option maxHeartbeats 4000000 in
theorem law_b (a b : Nat) (ha : a < 65536) (hb : b < 256) (hk : b % 33 = 3) (h : AH) : ∃ h', C 20 4 [.int .u16 (a : Int), .int .u8 (b : Int)] h = some (.bool true, h') := by
  rw [C_f rfl]
  generalize hK : b % 33 = K at hk
  have hK33 : K < 33 := by omega
  have hf : a % 300 < 300 := Nat.mod_lt _ (by decide)
  have w1 : IntKind.i64.wrap (b : Int) = (b : Int) := wz (by omega)
  have w2 : ∀ p q h, evBin T0 .rem 3 p q (iv b) (iv 33) h = some (iv (K : Nat)) := fun p q h => by rw [← hK]; exact bin_rem (n := 33) (by decide)
  generalize hh1 : h.new (.cells (PM.ofList []) 0 33 0 0 .ex) = h1
  have n1 : h1.next = h.next + 1 := by rw [← hh1]; rfl
  have o1 : OwnE h.next h1 (.slice (some ⟨h.next, 0, none⟩) 0 0) (fewL (a % 300) 0) := by
    rw [← hh1]
    exact .inr ⟨h.next, PM.ofList [], .ex, 0, Nat.le_refl _, Nat.lt_succ_self _, rfl, get_new_same _ _, rfl, fun i x hx => by simp [fewL, extsL] at hx, .inl ⟨rfl, rfl⟩⟩
  rw [frameB_eq ft4 rfl rfl]
  simp only [Try.f4, symM, opFn, Nat.reduceLT, Nat.reduceBEq, symM, symL, bs_e0, hh1, conv_i2i und_u8 und_int, w1, w2]
  generalize hX : codeB T0 X0 (C 19) _ ELw (.loop _) _ _ _ = X
  obtain ⟨t1, h2, e0, ⟨v, u5, u6, o2, hsl⟩, g2⟩ := use_exit hX (lawL a K ha hK33 nilV h.next K 0 _ h1 _ _ (by omega) (by omega) (by omega) o1 ⟨_, _, _, rfl⟩ (by simp only [symM, Nat.reduceBEq]) (by simp only [symM, Nat.reduceBEq]) (by simp only [symM, Nat.reduceBEq]) (by simp only [symM]; rfl))
  clear hX
  subst e0
  have lw := fewL_len (a % 300) K
  generalize hh3 : h2.new (.cells (PM.ofList [iv 470, iv 471, iv 472]) 3 3 0 0 .ex) = h3
  have g3 : Grow h2.next h2 h3 := by rw [← hh3]; exact Grow.new _ _
  have n3 : h3.next = h2.next + 1 := by rw [← hh3]; rfl
  have hr3 : RowE h2.next h3 v (fewL (a % 300) K) := o2.row.grow g3 (Nat.le_refl _)
  have hw3 : WinE h2.next h3 v (fewL (a % 300) K) := (o2.win hsl (by omega)).grow g3 (Nat.le_refl _)
  have pr : PreN h3 h2.next 3 (F3 0) := by rw [← hh3]; exact pre3 h2 0 (by omega)
  have hneed : (F3 0).length = needK (fewL (a % 300) K).length := by rw [F3_len (by omega), lw]; unfold needK; omega
  obtain ⟨e, wv, h4, c4, g4, oe, l1, l2⟩ := s_Plan 19 (by omega) v (fewL (a % 300) K) h2.next h2.next 3 (F3 0) h3 hr3 hw3 (by omega) (fewL_ok hf hK33) (fewL_run hf hK33) (by omega) (fewL_extG hf hK33) pr (by omega) hneed
    (fun q hq => by have := F3_mem hq; unfold dataN; simp; omega) F3_dup (fun q hq => fewL_free hf hK33 (F3_mem hq).1)
  have c4 : C 19 8 [v, preV h2.next 0 3] h3 = some (.tuple #[nodeV ⟨0, 2, 0, 0, 0, 0, 0, 0, 0, 0, 0⟩ e, wv, iv 0], h4) := c4
  have l2 : ∀ ty h', evBuiltin T0 .len #[38] ty [wv] h' = some (.value (iv 0), h') := fun ty h' => l2 ty h'
  have cut : ∀ h, evSliceX T0 34 (preV h2.next 3 3) none (some (iv 0)) none h = some (preV h2.next 0 3, h) := fun h => pre_cut (j := 0) (by rw [XB_val]; omega) (by omega)
  have htk : ((fewL (a % 300) K).take 3).length = min 3 K := by rw [List.length_take, lw]
  generalize hh5 : h4.new (.cells (PM.ofList (nodeL NV.zero nilV)) 12 37 0 0 .ex) = h5
  have g5 : Grow h4.next h4 h5 := by rw [← hh5]; exact Grow.new _ _
  have n5 : h5.next = h4.next + 1 := by rw [← hh5]; rfl
  have b5 : NodeB h5 h4.next NV.zero nilV := by rw [← hh5]; exact NodeB.new _ _ _
  obtain ⟨h6, s6, b6, g6, n6⟩ := b5.storeAll (k := h4.next) ⟨0, 2, 0, 0, 0, 0, 0, 0, 0, 0, 0⟩ (f := e) oe (Nat.le_refl _)
  have m4 := g4.next
  refine ⟨h6, ?_⟩
  simp only [symM, opFn, Nat.reduceLT, Nat.reduceBEq, symM, symL, u5, u6, bin_gtr, decide_eq_false (show ¬ (3 : Int) < (K : Int) by omega), decide_eq_false (show ¬ (17 : Int) < (K : Int) by omega), decide_eq_false (show ¬ (31 : Int) < (K : Int) by omega), bsx_gen, goBSX_some, bs_3, hh3, ev3, evOpt, cut, evCall_fn ft8 rfl, c4, alloc_N, hh5, s6, evCall_fn ft6 rfl, C_aw 19 (by omega), bin_eql, bin_neq, show ((0 : Int) == 0) = true from rfl, show decide ((0 : Int) < 0) = false from rfl, show (((0 : Nat) : Int) == 0) = true from rfl, l2, field_N, b6.loads, b_eql, show (false == false) = true from rfl, bin_lss, decide_eq_false (show ¬ (K : Int) < 3 by omega), l1, htk, show (((min 3 K : Nat) : Int) == 3) = true by simp; omega]
  exact retB_one ft4 rfl get_same
set_option maxHeartbeats 4000000 in
theorem law_c (a b : Nat) (ha : a < 65536) (hb : b < 256) (hk : 3 < b % 33 ∧ b % 33 ≤ 17) (h : AH) : ∃ h', C 20 4 [.int .u16 (a : Int), .int .u8 (b : Int)] h = some (.bool true, h') := by
  rw [C_f rfl]
  generalize hK : b % 33 = K at hk
  have hK33 : K < 33 := by omega
  have hf : a % 300 < 300 := Nat.mod_lt _ (by decide)
  have w1 : IntKind.i64.wrap (b : Int) = (b : Int) := wz (by omega)
  have w2 : ∀ p q h, evBin T0 .rem 3 p q (iv b) (iv 33) h = some (iv (K : Nat)) := fun p q h => by rw [← hK]; exact bin_rem (n := 33) (by decide)
  generalize hh1 : h.new (.cells (PM.ofList []) 0 33 0 0 .ex) = h1
  have n1 : h1.next = h.next + 1 := by rw [← hh1]; rfl
  have o1 : OwnE h.next h1 (.slice (some ⟨h.next, 0, none⟩) 0 0) (fewL (a % 300) 0) := by
    rw [← hh1]
    exact .inr ⟨h.next, PM.ofList [], .ex, 0, Nat.le_refl _, Nat.lt_succ_self _, rfl, get_new_same _ _, rfl, fun i x hx => by simp [fewL, extsL] at hx, .inl ⟨rfl, rfl⟩⟩
  rw [frameB_eq ft4 rfl rfl]
  simp only [Try.f4, symM, opFn, Nat.reduceLT, Nat.reduceBEq, symM, symL, bs_e0, hh1, conv_i2i und_u8 und_int, w1, w2]
  generalize hX : codeB T0 X0 (C 19) _ ELw (.loop _) _ _ _ = X
  obtain ⟨t1, h2, e0, ⟨v, u5, u6, o2, hsl⟩, g2⟩ := use_exit hX (lawL a K ha hK33 nilV h.next K 0 _ h1 _ _ (by omega) (by omega) (by omega) o1 ⟨_, _, _, rfl⟩ (by simp only [symM, Nat.reduceBEq]) (by simp only [symM, Nat.reduceBEq]) (by simp only [symM, Nat.reduceBEq]) (by simp only [symM]; rfl))
  clear hX
  subst e0
  have lw := fewL_len (a % 300) K
  generalize hh3 : h2.new (.cells (PM.ofList [iv 470, iv 471, iv 472]) 3 3 0 0 .ex) = h3
  have g3 : Grow h2.next h2 h3 := by rw [← hh3]; exact Grow.new _ _
  have n3 : h3.next = h2.next + 1 := by rw [← hh3]; rfl
  have hr3 : RowE h2.next h3 v (fewL (a % 300) K) := o2.row.grow g3 (Nat.le_refl _)
  have hw3 : WinE h2.next h3 v (fewL (a % 300) K) := (o2.win hsl (by omega)).grow g3 (Nat.le_refl _)
  have pr : PreN h3 h2.next 3 (F3 1) := by rw [← hh3]; exact pre3 h2 1 (by omega)
  have hneed : (F3 1).length = needK (fewL (a % 300) K).length := by rw [F3_len (by omega), lw]; unfold needK; omega
  obtain ⟨e, wv, h4, c4, g4, oe, l1, l2⟩ := s_Plan 19 (by omega) v (fewL (a % 300) K) h2.next h2.next 3 (F3 1) h3 hr3 hw3 (by omega) (fewL_ok hf hK33) (fewL_run hf hK33) (by omega) (fewL_extG hf hK33) pr (by omega) hneed
    (fun q hq => by have := F3_mem hq; unfold dataN; simp; omega) F3_dup (fun q hq => fewL_free hf hK33 (F3_mem hq).1)
  have c4 : C 19 8 [v, preV h2.next 1 3] h3 = some (.tuple #[nodeV ⟨0, 2, 0, 0, 0, 0, 0, 0, 0, 0, 470⟩ e, wv, iv 0], h4) := c4
  have l2 : ∀ ty h', evBuiltin T0 .len #[38] ty [wv] h' = some (.value (iv 1), h') := fun ty h' => l2 ty h'
  have cut : ∀ h, evSliceX T0 34 (preV h2.next 3 3) none (some (iv 1)) none h = some (preV h2.next 1 3, h) := fun h => pre_cut (j := 1) (by rw [XB_val]; omega) (by omega)
  have htk : ((fewL (a % 300) K).take 3).length = min 3 K := by rw [List.length_take, lw]
  generalize hh5 : h4.new (.cells (PM.ofList (nodeL NV.zero nilV)) 12 37 0 0 .ex) = h5
  have g5 : Grow h4.next h4 h5 := by rw [← hh5]; exact Grow.new _ _
  have n5 : h5.next = h4.next + 1 := by rw [← hh5]; rfl
  have b5 : NodeB h5 h4.next NV.zero nilV := by rw [← hh5]; exact NodeB.new _ _ _
  obtain ⟨h6, s6, b6, g6, n6⟩ := b5.storeAll (k := h4.next) ⟨0, 2, 0, 0, 0, 0, 0, 0, 0, 0, 470⟩ (f := e) oe (Nat.le_refl _)
  have m4 := g4.next
  have hr6 : RowE h2.next h6 v (fewL (a % 300) K) := ((hr3.grow g4 (by omega)).grow g5 (by omega)).grow g6 (by omega)
  have hw6 : WinE h2.next h6 v (fewL (a % 300) K) := ((hw3.grow g4 (by omega)).grow g5 (by omega)).grow g6 (by omega)
  obtain ⟨h7, c7, g7⟩ := s_PlanFew 19 (by omega) v (fewL (a % 300) K) h2.next h2.next 3 0 h6 hr6 hw6 (by omega) (fewL_ok hf hK33) (by omega) (fewL_extG hf hK33) (by rw [lw]; unfold needK; omega)
  have cut1 : ∀ h, evSliceX T0 34 (preV h2.next 3 3) none (some (iv 0)) none h = some (preV h2.next 0 3, h) := fun h => pre_cut (j := 0) (by rw [XB_val]; omega) (by omega)
  have wm : IntKind.i64.wrap (1 - 1) = 0 := by decide
  generalize hh8 : h7.new (.cells (PM.ofList (nodeL NV.zero nilV)) 12 37 0 0 .ex) = h8
  have g8 : Grow h7.next h7 h8 := by rw [← hh8]; exact Grow.new _ _
  have b8 : NodeB h8 h7.next NV.zero nilV := by rw [← hh8]; exact NodeB.new _ _ _
  obtain ⟨h9, s9, b9, g9, n9⟩ := b8.storeAll (k := h7.next) NV.zero (f := nilV) rfl (Nat.le_refl _)
  have m7 := g7.next
  have bA : NodeB h9 h4.next ⟨0, 2, 0, 0, 0, 0, 0, 0, 0, 0, 470⟩ e := ((b6.grow g7 (by omega)).grow g8 (by omega)).grow g9 (by omega)
  refine ⟨h9, ?_⟩
  simp only [symM, opFn, Nat.reduceLT, Nat.reduceBEq, symM, symL, u5, u6, bin_gtr, decide_eq_true (show (3 : Int) < (K : Int) by omega), decide_eq_false (show ¬ (17 : Int) < (K : Int) by omega), decide_eq_false (show ¬ (31 : Int) < (K : Int) by omega), bsx_gen, goBSX_some, bs_3, hh3, ev3, evOpt, cut, evCall_fn ft8 rfl, c4, alloc_N, hh5, s6, show decide ((0 : Int) < 1) = true from rfl, bin_sub, wm, cut1, c7, hh8, s9, show ((6 : Int) == 6) = true from rfl, evCall_fn ft6 rfl, C_aw 19 (by omega), bin_eql, bin_neq, show ((0 : Int) == 0) = true from rfl, show ((1 : Int) == 1) = true from rfl, l2, field_N, bA.loads, b_eql, show (((470 : Nat) : Int) == 0) = false from rfl, show (true == true) = true from rfl, bin_lss, decide_eq_false (show ¬ (K : Int) < 3 by omega), l1, htk, show (((min 3 K : Nat) : Int) == 3) = true by simp; omega]
  exact retB_one ft4 rfl get_same
set_option maxHeartbeats 4000000 in
theorem law_d (a b : Nat) (ha : a < 65536) (hb : b < 256) (hk : 17 < b % 33 ∧ b % 33 ≤ 31) (h : AH) : ∃ h', C 20 4 [.int .u16 (a : Int), .int .u8 (b : Int)] h = some (.bool true, h') := by
  rw [C_f rfl]
  generalize hK : b % 33 = K at hk
  have hK33 : K < 33 := by omega
  have hf : a % 300 < 300 := Nat.mod_lt _ (by decide)
  have w1 : IntKind.i64.wrap (b : Int) = (b : Int) := wz (by omega)
  have w2 : ∀ p q h, evBin T0 .rem 3 p q (iv b) (iv 33) h = some (iv (K : Nat)) := fun p q h => by rw [← hK]; exact bin_rem (n := 33) (by decide)
  generalize hh1 : h.new (.cells (PM.ofList []) 0 33 0 0 .ex) = h1
  have n1 : h1.next = h.next + 1 := by rw [← hh1]; rfl
  have o1 : OwnE h.next h1 (.slice (some ⟨h.next, 0, none⟩) 0 0) (fewL (a % 300) 0) := by
    rw [← hh1]
    exact .inr ⟨h.next, PM.ofList [], .ex, 0, Nat.le_refl _, Nat.lt_succ_self _, rfl, get_new_same _ _, rfl, fun i x hx => by simp [fewL, extsL] at hx, .inl ⟨rfl, rfl⟩⟩
  rw [frameB_eq ft4 rfl rfl]
  simp only [Try.f4, symM, opFn, Nat.reduceLT, Nat.reduceBEq, symM, symL, bs_e0, hh1, conv_i2i und_u8 und_int, w1, w2]
  generalize hX : codeB T0 X0 (C 19) _ ELw (.loop _) _ _ _ = X
  obtain ⟨t1, h2, e0, ⟨v, u5, u6, o2, hsl⟩, g2⟩ := use_exit hX (lawL a K ha hK33 nilV h.next K 0 _ h1 _ _ (by omega) (by omega) (by omega) o1 ⟨_, _, _, rfl⟩ (by simp only [symM, Nat.reduceBEq]) (by simp only [symM, Nat.reduceBEq]) (by simp only [symM, Nat.reduceBEq]) (by simp only [symM]; rfl))
  clear hX
  subst e0
  have lw := fewL_len (a % 300) K
  generalize hh3 : h2.new (.cells (PM.ofList [iv 470, iv 471, iv 472]) 3 3 0 0 .ex) = h3
  have g3 : Grow h2.next h2 h3 := by rw [← hh3]; exact Grow.new _ _
  have n3 : h3.next = h2.next + 1 := by rw [← hh3]; rfl
  have hr3 : RowE h2.next h3 v (fewL (a % 300) K) := o2.row.grow g3 (Nat.le_refl _)
  have hw3 : WinE h2.next h3 v (fewL (a % 300) K) := (o2.win hsl (by omega)).grow g3 (Nat.le_refl _)
  have pr : PreN h3 h2.next 3 (F3 2) := by rw [← hh3]; exact pre3 h2 2 (by omega)
  have hneed : (F3 2).length = needK (fewL (a % 300) K).length := by rw [F3_len (by omega), lw]; unfold needK; omega
  obtain ⟨e, wv, h4, c4, g4, oe, l1, l2⟩ := s_Plan 19 (by omega) v (fewL (a % 300) K) h2.next h2.next 3 (F3 2) h3 hr3 hw3 (by omega) (fewL_ok hf hK33) (fewL_run hf hK33) (by omega) (fewL_extG hf hK33) pr (by omega) hneed
    (fun q hq => by have := F3_mem hq; unfold dataN; simp; omega) F3_dup (fun q hq => fewL_free hf hK33 (F3_mem hq).1)
  have c4 : C 19 8 [v, preV h2.next 2 3] h3 = some (.tuple #[nodeV ⟨0, 2, 0, 0, 0, 0, 0, 0, 0, 0, 470⟩ e, wv, iv 0], h4) := c4
  have l2 : ∀ ty h', evBuiltin T0 .len #[38] ty [wv] h' = some (.value (iv 2), h') := fun ty h' => l2 ty h'
  have cut : ∀ h, evSliceX T0 34 (preV h2.next 3 3) none (some (iv 2)) none h = some (preV h2.next 2 3, h) := fun h => pre_cut (j := 2) (by rw [XB_val]; omega) (by omega)
  have htk : ((fewL (a % 300) K).take 3).length = min 3 K := by rw [List.length_take, lw]
  generalize hh5 : h4.new (.cells (PM.ofList (nodeL NV.zero nilV)) 12 37 0 0 .ex) = h5
  have g5 : Grow h4.next h4 h5 := by rw [← hh5]; exact Grow.new _ _
  have n5 : h5.next = h4.next + 1 := by rw [← hh5]; rfl
  have b5 : NodeB h5 h4.next NV.zero nilV := by rw [← hh5]; exact NodeB.new _ _ _
  obtain ⟨h6, s6, b6, g6, n6⟩ := b5.storeAll (k := h4.next) ⟨0, 2, 0, 0, 0, 0, 0, 0, 0, 0, 470⟩ (f := e) oe (Nat.le_refl _)
  have m4 := g4.next
  have hr6 : RowE h2.next h6 v (fewL (a % 300) K) := ((hr3.grow g4 (by omega)).grow g5 (by omega)).grow g6 (by omega)
  have hw6 : WinE h2.next h6 v (fewL (a % 300) K) := ((hw3.grow g4 (by omega)).grow g5 (by omega)).grow g6 (by omega)
  obtain ⟨h7, c7, g7⟩ := s_PlanFew 19 (by omega) v (fewL (a % 300) K) h2.next h2.next 3 1 h6 hr6 hw6 (by omega) (fewL_ok hf hK33) (by omega) (fewL_extG hf hK33) (by rw [lw]; unfold needK; omega)
  have cut1 : ∀ h, evSliceX T0 34 (preV h2.next 3 3) none (some (iv 1)) none h = some (preV h2.next 1 3, h) := fun h => pre_cut (j := 1) (by rw [XB_val]; omega) (by omega)
  have wm : IntKind.i64.wrap (2 - 1) = 1 := by decide
  generalize hh8 : h7.new (.cells (PM.ofList (nodeL NV.zero nilV)) 12 37 0 0 .ex) = h8
  have g8 : Grow h7.next h7 h8 := by rw [← hh8]; exact Grow.new _ _
  have b8 : NodeB h8 h7.next NV.zero nilV := by rw [← hh8]; exact NodeB.new _ _ _
  obtain ⟨h9, s9, b9, g9, n9⟩ := b8.storeAll (k := h7.next) NV.zero (f := nilV) rfl (Nat.le_refl _)
  have m7 := g7.next
  have bA : NodeB h9 h4.next ⟨0, 2, 0, 0, 0, 0, 0, 0, 0, 0, 470⟩ e := ((b6.grow g7 (by omega)).grow g8 (by omega)).grow g9 (by omega)
  refine ⟨h9, ?_⟩
  simp only [symM, opFn, Nat.reduceLT, Nat.reduceBEq, symM, symL, u5, u6, bin_gtr, decide_eq_true (show (3 : Int) < (K : Int) by omega), decide_eq_true (show (17 : Int) < (K : Int) by omega), decide_eq_false (show ¬ (31 : Int) < (K : Int) by omega), bsx_gen, goBSX_some, bs_3, hh3, ev3, evOpt, cut, evCall_fn ft8 rfl, c4, alloc_N, hh5, s6, show decide ((0 : Int) < 2) = true from rfl, bin_sub, wm, cut1, c7, hh8, s9, show ((6 : Int) == 6) = true from rfl, evCall_fn ft6 rfl, C_aw 19 (by omega), bin_eql, bin_neq, show ((0 : Int) == 0) = true from rfl, show ((2 : Int) == 2) = true from rfl, l2, field_N, bA.loads, b_eql, show (((470 : Nat) : Int) == 0) = false from rfl, show (true == true) = true from rfl, bin_lss, decide_eq_false (show ¬ (K : Int) < 3 by omega), l1, htk, show (((min 3 K : Nat) : Int) == 3) = true by simp; omega]
  exact retB_one ft4 rfl get_same
set_option maxHeartbeats 4000000 in
theorem law_e (a b : Nat) (ha : a < 65536) (hb : b < 256) (hk : 31 < b % 33) (h : AH) : ∃ h', C 20 4 [.int .u16 (a : Int), .int .u8 (b : Int)] h = some (.bool true, h') := by
  rw [C_f rfl]
  generalize hK : b % 33 = K at hk
  have hK33 : K < 33 := by omega
  have hf : a % 300 < 300 := Nat.mod_lt _ (by decide)
  have w1 : IntKind.i64.wrap (b : Int) = (b : Int) := wz (by omega)
  have w2 : ∀ p q h, evBin T0 .rem 3 p q (iv b) (iv 33) h = some (iv (K : Nat)) := fun p q h => by rw [← hK]; exact bin_rem (n := 33) (by decide)
  generalize hh1 : h.new (.cells (PM.ofList []) 0 33 0 0 .ex) = h1
  have n1 : h1.next = h.next + 1 := by rw [← hh1]; rfl
  have o1 : OwnE h.next h1 (.slice (some ⟨h.next, 0, none⟩) 0 0) (fewL (a % 300) 0) := by
    rw [← hh1]
    exact .inr ⟨h.next, PM.ofList [], .ex, 0, Nat.le_refl _, Nat.lt_succ_self _, rfl, get_new_same _ _, rfl, fun i x hx => by simp [fewL, extsL] at hx, .inl ⟨rfl, rfl⟩⟩
  rw [frameB_eq ft4 rfl rfl]
  simp only [Try.f4, symM, opFn, Nat.reduceLT, Nat.reduceBEq, symM, symL, bs_e0, hh1, conv_i2i und_u8 und_int, w1, w2]
  generalize hX : codeB T0 X0 (C 19) _ ELw (.loop _) _ _ _ = X
  obtain ⟨t1, h2, e0, ⟨v, u5, u6, o2, hsl⟩, g2⟩ := use_exit hX (lawL a K ha hK33 nilV h.next K 0 _ h1 _ _ (by omega) (by omega) (by omega) o1 ⟨_, _, _, rfl⟩ (by simp only [symM, Nat.reduceBEq]) (by simp only [symM, Nat.reduceBEq]) (by simp only [symM, Nat.reduceBEq]) (by simp only [symM]; rfl))
  clear hX
  subst e0
  have lw := fewL_len (a % 300) K
  generalize hh3 : h2.new (.cells (PM.ofList [iv 470, iv 471, iv 472]) 3 3 0 0 .ex) = h3
  have g3 : Grow h2.next h2 h3 := by rw [← hh3]; exact Grow.new _ _
  have n3 : h3.next = h2.next + 1 := by rw [← hh3]; rfl
  have hr3 : RowE h2.next h3 v (fewL (a % 300) K) := o2.row.grow g3 (Nat.le_refl _)
  have hw3 : WinE h2.next h3 v (fewL (a % 300) K) := (o2.win hsl (by omega)).grow g3 (Nat.le_refl _)
  have pr : PreN h3 h2.next 3 (F3 3) := by rw [← hh3]; exact pre3 h2 3 (by omega)
  have hneed : (F3 3).length = needK (fewL (a % 300) K).length := by rw [F3_len (by omega), lw]; unfold needK; omega
  obtain ⟨e, wv, h4, c4, g4, oe, l1, l2⟩ := s_Plan 19 (by omega) v (fewL (a % 300) K) h2.next h2.next 3 (F3 3) h3 hr3 hw3 (by omega) (fewL_ok hf hK33) (fewL_run hf hK33) (by omega) (fewL_extG hf hK33) pr (by omega) hneed
    (fun q hq => by have := F3_mem hq; unfold dataN; simp; omega) F3_dup (fun q hq => fewL_free hf hK33 (F3_mem hq).1)
  have c4 : C 19 8 [v, preV h2.next 3 3] h3 = some (.tuple #[nodeV ⟨0, 2, 0, 0, 0, 0, 0, 0, 0, 0, 470⟩ e, wv, iv 0], h4) := c4
  have l2 : ∀ ty h', evBuiltin T0 .len #[38] ty [wv] h' = some (.value (iv 3), h') := fun ty h' => l2 ty h'
  have cut : ∀ h, evSliceX T0 34 (preV h2.next 3 3) none (some (iv 3)) none h = some (preV h2.next 3 3, h) := fun h => pre_cut (j := 3) (by rw [XB_val]; omega) (by omega)
  have htk : ((fewL (a % 300) K).take 3).length = min 3 K := by rw [List.length_take, lw]
  generalize hh5 : h4.new (.cells (PM.ofList (nodeL NV.zero nilV)) 12 37 0 0 .ex) = h5
  have g5 : Grow h4.next h4 h5 := by rw [← hh5]; exact Grow.new _ _
  have n5 : h5.next = h4.next + 1 := by rw [← hh5]; rfl
  have b5 : NodeB h5 h4.next NV.zero nilV := by rw [← hh5]; exact NodeB.new _ _ _
  obtain ⟨h6, s6, b6, g6, n6⟩ := b5.storeAll (k := h4.next) ⟨0, 2, 0, 0, 0, 0, 0, 0, 0, 0, 470⟩ (f := e) oe (Nat.le_refl _)
  have m4 := g4.next
  have hr6 : RowE h2.next h6 v (fewL (a % 300) K) := ((hr3.grow g4 (by omega)).grow g5 (by omega)).grow g6 (by omega)
  have hw6 : WinE h2.next h6 v (fewL (a % 300) K) := ((hw3.grow g4 (by omega)).grow g5 (by omega)).grow g6 (by omega)
  obtain ⟨h7, c7, g7⟩ := s_PlanFew 19 (by omega) v (fewL (a % 300) K) h2.next h2.next 3 2 h6 hr6 hw6 (by omega) (fewL_ok hf hK33) (by omega) (fewL_extG hf hK33) (by rw [lw]; unfold needK; omega)
  have cut1 : ∀ h, evSliceX T0 34 (preV h2.next 3 3) none (some (iv 2)) none h = some (preV h2.next 2 3, h) := fun h => pre_cut (j := 2) (by rw [XB_val]; omega) (by omega)
  have wm : IntKind.i64.wrap (3 - 1) = 2 := by decide
  generalize hh8 : h7.new (.cells (PM.ofList (nodeL NV.zero nilV)) 12 37 0 0 .ex) = h8
  have g8 : Grow h7.next h7 h8 := by rw [← hh8]; exact Grow.new _ _
  have b8 : NodeB h8 h7.next NV.zero nilV := by rw [← hh8]; exact NodeB.new _ _ _
  obtain ⟨h9, s9, b9, g9, n9⟩ := b8.storeAll (k := h7.next) NV.zero (f := nilV) rfl (Nat.le_refl _)
  have m7 := g7.next
  have bA : NodeB h9 h4.next ⟨0, 2, 0, 0, 0, 0, 0, 0, 0, 0, 470⟩ e := ((b6.grow g7 (by omega)).grow g8 (by omega)).grow g9 (by omega)
  refine ⟨h9, ?_⟩
  simp only [symM, opFn, Nat.reduceLT, Nat.reduceBEq, symM, symL, u5, u6, bin_gtr, decide_eq_true (show (3 : Int) < (K : Int) by omega), decide_eq_true (show (17 : Int) < (K : Int) by omega), decide_eq_true (show (31 : Int) < (K : Int) by omega), bsx_gen, goBSX_some, bs_3, hh3, ev3, evOpt, cut, evCall_fn ft8 rfl, c4, alloc_N, hh5, s6, show decide ((0 : Int) < 3) = true from rfl, bin_sub, wm, cut1, c7, hh8, s9, show ((6 : Int) == 6) = true from rfl, evCall_fn ft6 rfl, C_aw 19 (by omega), bin_eql, bin_neq, show ((0 : Int) == 0) = true from rfl, show ((3 : Int) == 3) = true from rfl, l2, field_N, bA.loads, b_eql, show (((470 : Nat) : Int) == 0) = false from rfl, show (true == true) = true from rfl, bin_lss, decide_eq_false (show ¬ (K : Int) < 3 by omega), l1, htk, show (((min 3 K : Nat) : Int) == 3) = true by simp; omega]
  exact retB_one ft4 rfl get_same
theorem law_S (a b : Nat) (ha : a < 65536) (hb : b < 256) (h : AH) : ∃ h', C 20 4 [.int .u16 (a : Int), .int .u8 (b : Int)] h = some (.bool true, h') := by
  by_cases h1 : b % 33 < 3
  · exact law_a a b ha hb h1 h
  · by_cases h2 : b % 33 = 3
    · exact law_b a b ha hb h2 h
    · by_cases h3 : b % 33 ≤ 17
      · exact law_c a b ha hb ⟨by omega, h3⟩ h
      · by_cases h4 : b % 33 ≤ 31
        · exact law_d a b ha hb ⟨by omega, h4⟩ h
        · exact law_e a b ha hb (by omega) h
end
end Go.Proofs.Ytglmahefcdhmgaa.Abs
