
/- The image's free blocks; blocks compared. -/
import Derived.Test.YtjiilfinllfmgaaGreatMake
namespace Go.Proofs.YtjiilfinllfmgaaGreat.Abs
open Go Go.Proofs
noncomputable section
variable {call : Abs.Callee}
set_option maxRecDepth 10000
theorem ft10 : T0.ft.get 10 = some Tryz.f10 := by kernel_rfl
theorem ft6 : T0.ft.get 6 = some Tryz.f6 := by kernel_rfl
theorem free_all : (List.range 480).all (fun i => Nat.blt i 59 || !bitB (markL 59) i) = true := by kernel_rfl
theorem free_at {i : Nat} (h1 : 59 ≤ i) (h2 : i < 480) : bitB (markL 59) i = false := by
  have := all_lt free_all i h2
  rw [show Nat.blt i 59 = false from (by rw [Bool.eq_false_iff]; intro q; rw [Nat.blt_eq] at q; omega), Bool.false_or] at this
  simpa using this
theorem down_made (B : Nat) (h1 : 64 ≤ B) (h2 : B ≤ 480) : downG (markL 59) 59 B = [(59, B - 59)] ∧ downE (markL 59).length 59 B = 0 := by
  have he : downE (markL 59).length 59 B = 0 := by
    unfold downE
    rw [markL_len, if_neg (by decide), if_neg (by omega)]
  refine ⟨?_, he⟩
  unfold downG
  rw [if_pos he, show ((B : Int).toNat) = B from rfl, show ((59 : Int).toNat) = 59 from rfl, gapsG_in _ 59 (B - 59) (B - 59) 59 (Nat.le_refl _) (fun i k1 k2 => by rw [free_at k1 (by omega)]; rfl), Nat.sub_self]
  show (bif Nat.blt 59 (59 + (B - 59)) then [(59, 59 + (B - 59) - 59)] else []) = _
  rw [show Nat.blt 59 (59 + (B - 59)) = true from by simp; omega, show 59 + (B - 59) - 59 = B - 59 by omega]
  rfl
abbrev DownC (call : Abs.Callee) : Prop := ∀ (bs : List Nat) (m : Value) (h : AH) (a b : Int), (∀ x ∈ bs, x < 256) → Row h.next h m (bytesV bs) 5 → ∃ v h', call 27 [m, iv a, iv b] h = some (.tuple #[v, iv (downE bs.length a b)], h') ∧ Own h.next h' v (runsD (downG bs a b)) 47 ∧ Grow h.next h h'
theorem plan_free : planB (regOps Tryz.f10 [1, 1, 1, 0]) 35 = some ([.one 0, .one 1, .one 2, .one 3, .one 4, .one 5, .eff [] 6 [0, 1, 2, 3, 4], .one 7, .eff [] 8 [], .one 9, .one 10, .one 11, .one 12, .one 13], []) := by kernel_rfl
theorem Free_S (hLim : ∀ (n pI B f : Nat) (bss : List (List Nat)) (h : AH), ImgOK n h pI B f bss → call 28 [pv pI 0] h = some (iv B, h)) (hD : DownC call) (n pI B f : Nat) (k1 : 64 ≤ B) (k2 : B ≤ 480) (bss : List (List Nat)) (h : AH) (hI : ImgOK n h pI B f bss) :
    ∃ h', frameB T0 X0 call 3000 10 [pv pI 0] h = some (iv (B - 59 : Nat), h') ∧ Grow h.next h h' := by
  have lim := hLim n pI B f bss h hI
  obtain ⟨hp, vf, vn, vb, vf', vn', vb', i1, i2, i3, i4⟩ := hI
  have ld := (img_loads i1).1
  obtain ⟨v, h1, a1, a2, a3⟩ := hD (markL 59) vf h 59 B (markL_lt 59) i4.row
  obtain ⟨e1, e2⟩ := down_made B k1 k2
  rw [e2] at a1
  rw [e1] at a2
  have a2 : Own h.next h1 v [cx ((59 : Nat) : Int) ((B - 59 : Nat) : Int)] 47 := a2
  have hlen : ∀ ty h', evBuiltin T0 .len #[65] ty [v] h' = some (.value (iv 1), h') := fun ty h' => a2.row.len und_c128s
  obtain ⟨p, q1, q2⟩ := a2.row.at und_c128s sz_c128 agg_c128 (i := 0) rfl
  have q1 : evIndexAddr T0 65 v (iv 0) = some p := q1
  have hmx : (if (59 : Int) > (B : Int) then (59 : Int) else (B : Int)) = B := if_neg (by omega)
  have hp4 := plan_free
  simp only [regOps, part, Tryz.f10, sub] at hp4
  have w0 : IntKind.i64.wrap (0 + ((B - 59 : Nat) : Int)) = ((B - 59 : Nat) : Int) := by rw [wz (by omega)]; omega
  refine ⟨h1, ?_, a3⟩
  rw [frameB_eq ft10 rfl rfl]
  simp only [Tryz.f10, symM, opFn, Nat.reduceLT, Nat.reduceBEq, symM, ptr_eql]
  rw [codeB_draw, draw_plan hp4 rfl]
  simp only [drawAll, opFn, Nat.reduceLT, Nat.reduceBEq, nil_pv, field_I, field_st, ld, i4.one1.2.2, evCall_fn ft28 rfl, lim, effE_cons, bi_max, hmx, evCall_fn ft27 rfl, a1, hlen]
  rw [loop_same, codeB_loop]
  simp only [symM, opFn, Nat.reduceLT, Nat.reduceBEq, symM, bin_lss, show decide ((0 : Int) < 1) = true from rfl, q1, q2, conv_f2i und_f64 und_int (zok_k (x := ((B - 59 : Nat) : Int)) (by omega)) (i64_range (show B - 59 ≤ 1048576 by omega)), bin_add, w0, show IntKind.i64.wrap (0 + 1) = 1 from rfl]
  rw [codeB_loop]
  simp only [symM, opFn, Nat.reduceLT, Nat.reduceBEq, symM, symL, bin_lss, show decide ((1 : Int) < 1) = false from rfl]
  exact retB_one ft10 rfl get_same
noncomputable def bodySm : Code := part Tryz.f6 [1, 1, 0, 1, 0, 0]
abbrev ESm : Env := ⟨6, 28, none⟩
theorem plan_same : planB (regOps Tryz.f6 [1, 1, 0, 1, 0, 0, 1, 0, 0, 0]) 28 = some ([.one 0, .one 1, .one 2, .one 3, .one 4, .one 5, .one 6, .one 7, .one 8, .one 9, .one 10], []) := by kernel_rfl
theorem smLp (n m : Nat) (v w : Value) (bss : List (List Nat)) (h : AH) (hv : BL n h v bss) (hw : BL m h w bss) (hl : bss.length < 900) :
    ∀ (k i : Nat) (tm : PM Value) (N : Nat), i + k = bss.length → k + 60 ≤ N → tm.get 0 = some v → tm.get 1 = some w → tm.get 5 = some (iv i) →
      ∃ tm' h', codeB T0 X0 call N ESm (.loop bodySm) tm h [] = .jump (.exit 0) tm' h' [] ∧ (h' = h) := by
  intro k
  induction k with
  | zero =>
    intro i tm N hi hN g0 g1 g5
    obtain ⟨N, rfl⟩ : ∃ a, N = a + 60 := ⟨N - 60, by omega⟩
    have hiB : i = bss.length := by omega
    subst hiB
    apply Exists.intro; apply Exists.intro
    refine ⟨?_, rfl⟩
    rw [codeB_loop]
    simp only [bodySm, part, Tryz.f6, sub, symM, opFn, Nat.reduceLT, Nat.reduceBEq, symM, g0, g5, hv.len, bin_lss, decide_eq_false (show ¬ (bss.length : Int) < (bss.length : Nat) by omega)]
    rfl
  | succ k ih =>
    intro i tm N hi hN g0 g1 g5
    obtain ⟨N, rfl⟩ : ∃ a, N = a + 60 := ⟨N - 60, by omega⟩
    have hil : i < bss.length := by omega
    have hx : bss[i]? = some bss[i] := List.getElem?_eq_getElem hil
    obtain ⟨p, x, a1, a2, a3⟩ := hv.at hx
    obtain ⟨q, u, b1, b2, b3⟩ := hw.at hx
    have hp6 := plan_same
    simp only [regOps, part, Tryz.f6, sub] at hp6
    have hne : ∀ p q h, evBin T0 .neq 9 p q (strB bss[i]) (strB bss[i]) h = some (.bool false) := fun p q h => by
      rw [s_neq a3.2.2.1 a3.2.2.1, decide_eq_true rfl]; rfl
    rw [show N + 60 = (N + 59) + 1 from rfl, codeB_loop]
    simp only [bodySm, part, Tryz.f6, sub, symM, opFn, Nat.reduceLT, Nat.reduceBEq, symM, g0, g5, hv.len, bin_lss, decide_eq_true (show (i : Int) < (bss.length : Nat) by omega)]
    rw [codeB_draw, draw_plan hp6 rfl]
    simp only [drawAll, opFn, Nat.reduceLT, Nat.reduceBEq, g0, g1, g5, a1, a2, b1, b2, conv_b2s a3.row, conv_b2s b3.row, hne, bin_add, wadd1 (show i ≤ 400000 by omega)]
    exact ih (i + 1) _ (N + 59) (by omega) (by omega) (by simp only [symM, Nat.reduceBEq, g0]) (by simp only [symM, Nat.reduceBEq, g1]) get_same
theorem BSame_S (n m : Nat) (v w : Value) (bss : List (List Nat)) (h : AH) (hv : BL n h v bss) (hw : BL m h w bss) (hl : bss.length < 900) :
    frameB T0 X0 call 3000 6 [v, w] h = some (.bool true, h) := by
  rw [frameB_eq ft6 rfl rfl]
  simp only [Tryz.f6, symM, opFn, Nat.reduceLT, Nat.reduceBEq, symM, symL, hv.len, hw.len, bin_neq, beq_self_eq_true]
  generalize hX : codeB T0 X0 call _ ESm (.loop _) _ _ _ = X
  obtain ⟨t2, h2, e1, e2⟩ := use_exit hX (smLp n m v w bss h hv hw hl bss.length 0 _ _ (by omega) (by omega) (by simp only [symM, Nat.reduceBEq]) (by simp only [symM, Nat.reduceBEq]) (by simp only [symM]; rfl))
  clear hX
  subst e1 e2
  simp only [symM, opFn, Nat.reduceLT, symM, symL]
  exact retB_one ft6 rfl get_same
end
end Go.Proofs.YtjiilfinllfmgaaGreat.Abs
namespace Go.Proofs.YtjiilfinllfmgaaGreat.Abs
open Go Go.Proofs
noncomputable section
variable {call : Abs.Callee}
set_option maxRecDepth 10000
theorem ft8 : T0.ft.get 8 = some Tryz.f8 := by kernel_rfl
noncomputable def bodyE0 : Code := part Tryz.f8 [1, 1, 0, 1, 0, 0]
noncomputable def bodyEm : Code := part Tryz.f8 [1, 1, 1, 1, 1, 1, 1, 1, 1, 0, 1, 0, 0]
abbrev EEm : Env := ⟨8, 82, none⟩
theorem e0Lp (n B f : Nat) (hB : B ≤ 480) : ∀ (k i : Nat) (v : Value) (h : AH) (tm : PM Value) (N : Nat), i + k = B → k + 60 ≤ N → n ≤ h.next → BL n h v (List.replicate i zb) →
    tm.get 0 = some (iv B) → tm.get 1 = some (iv f) → tm.get 5 = some v → tm.get 6 = some (iv i) →
    ∃ tm' h', codeB T0 X0 call N EEm (.loop bodyE0) tm h [] = .jump (.exit 0) tm' h' [] ∧ ((tm'.get 0 = some (iv B) ∧ tm'.get 1 = some (iv f) ∧ ∃ v', tm'.get 5 = some v' ∧ BL n h' v' (List.replicate B zb)) ∧ Grow n h h') := by
  intro k
  induction k with
  | zero =>
    intro i v h tm N hi hN hn hb g0 g1 g5 g6
    obtain ⟨N, rfl⟩ : ∃ a, N = a + 60 := ⟨N - 60, by omega⟩
    have hiB : i = B := by omega
    subst hiB
    apply Exists.intro; apply Exists.intro
    refine ⟨?_, ⟨?_, ?_, v, ?_, hb⟩, Grow.refl _ _⟩
    · rw [codeB_loop]
      simp only [bodyE0, part, Tryz.f8, sub, symM, opFn, Nat.reduceLT, Nat.reduceBEq, symM, g0, g6, bin_lss, decide_eq_false (show ¬ (i : Int) < (i : Nat) by omega)]
      rfl
    · simp only [symM, Nat.reduceBEq, g0]
    · simp only [symM, Nat.reduceBEq, g1]
    · simp only [symM, Nat.reduceBEq, g5]
  | succ k ih =>
    intro i v h tm N hi hN hn hb g0 g1 g5 g6
    obtain ⟨N, rfl⟩ : ∃ a, N = a + 60 := ⟨N - 60, by omega⟩
    obtain ⟨h1, w, a1, a2, a3⟩ := mkBlock h
    have n1 := a3.next
    obtain ⟨v', h2, b1, b2, b3, b4, b5⟩ := (hb.grow a3).append a2 (by simp; omega) (by omega) 28
    rw [show List.replicate i zb ++ [zb] = List.replicate (i + 1) zb from (List.replicate_succ' ..).symm] at b2
    rw [show N + 60 = (N + 59) + 1 from rfl, codeB_loop]
    simp only [bodyE0, part, Tryz.f8, sub, symM, opFn, Nat.reduceLT, Nat.reduceBEq, symM, g0, g5, g6, bin_lss, decide_eq_true (show (i : Int) < (B : Int) by omega), a1, bs_bk a2.one1.1, b1, bin_add, wadd1 (show i ≤ 400000 by omega)]
    have n2 := b3.next
    exact wrapE (ih (i + 1) v' h2 _ (N + 59) (by omega) (by omega) (by omega) b2 (by simp only [symM, Nat.reduceBEq, g0]) (by simp only [symM, Nat.reduceBEq, g1]) (by simp only [symM, Nat.reduceBEq]) get_same) ((a3.less hn).trans b3 (Nat.le_refl _))
/-- Two rows of bytes, one behind the other, in a new row. -/
theorem two_app {h : AH} {x y : Value} {a b : List Nat} (hx : Bks h x a) (hy : Bks h y b) (hl : a.length + b.length < 1000) :
    ∃ v1 h1 v2 h2, evBuiltin T0 .append #[38, 38] 38 [.slice (some ⟨h.next, 0, none⟩) 0 0, x] (h.new (.cells (PM.ofList []) 0 5 0 0 .ex)) = some (.value v1, h1) ∧ evBuiltin T0 .append #[38, 38] 38 [v1, y] h1 = some (.value v2, h2) ∧ Bks h2 v2 (a ++ b) ∧ Grow h.next h h2 := by
  obtain ⟨x0, x1, x2, p, x3, x4⟩ := hx
  obtain ⟨y0, y1, y2, q, y3, y4⟩ := hy
  obtain ⟨v1, p1, h1, a1, a2, a3, a4, a5⟩ := app_first x4 x3 x0 x1 38
  have o1 : Own h.next h1 v1 (bytesV a) 5 := a4.own a3 a2
  have o2 : Own 0 h1 y (bytesV b) 5 := (y4.own y3 (Nat.zero_le _)).grow a5
  obtain ⟨v2, h2, b1, b2, b3, _⟩ := app_own o1 o2 hl a5.next 38
  refine ⟨v1, h1, v2, h2, a1, b1, Bks.own b2 (by rw [List.length_append]; omega) (by rw [List.length_append]; exact hl) ?_, a5.trans b3 (Nat.le_refl _)⟩
  intro z hz
  rcases List.mem_append.1 hz with hz | hz
  · exact x2 z hz
  · exact y2 z hz
def zz : List Nat := encN NV.zero [] ++ encN NV.zero []
def wz2 : Nat → Nat → List (List Nat) → List (List Nat)
  | 0, _, bss => bss
  | k + 1, i, bss => wz2 k (i + 1) (bss.set i zz)
theorem wz2_len : ∀ k i bss, (wz2 k i bss).length = bss.length := by
  intro k
  induction k with
  | zero => intros; rfl
  | succ k ih => intro i bss; rw [wz2, ih, List.length_set]
theorem emLp (n : Nat) (v v9 v11 : Value) (b9 : List Nat) : ∀ (k i : Nat) (bss : List (List Nat)) (h : AH) (tm : PM Value) (N : Nat), i + k = 19 → k + 60 ≤ N → 19 ≤ bss.length → n ≤ h.next → BL n h v bss → Bks h v9 b9 → Bks h v11 (encN NV.zero []) →
    tm.get 5 = some v → tm.get 9 = some v9 → tm.get 11 = some v11 → tm.get 13 = some (iv i) →
    ∃ tm' h', codeB T0 X0 call N EEm (.loop bodyEm) tm h [] = .jump (.exit 2) tm' h' [] ∧ ((tm'.get 5 = some v ∧ tm'.get 9 = some v9 ∧ tm'.get 11 = some v11 ∧ BL n h' v (wz2 k i bss) ∧ Bks h' v9 b9 ∧ Bks h' v11 (encN NV.zero [])) ∧ Grow n h h') := by
  intro k
  induction k with
  | zero =>
    intro i bss h tm N hi hN hl hn hb h9 h11 g5 g9 g11 g13
    obtain ⟨N, rfl⟩ : ∃ a, N = a + 60 := ⟨N - 60, by omega⟩
    apply Exists.intro; apply Exists.intro
    refine ⟨?_, ⟨?_, ?_, ?_, hb, h9, h11⟩, Grow.refl _ _⟩
    · rw [codeB_loop]
      simp only [bodyEm, part, Tryz.f8, sub, symM, opFn, Nat.reduceLT, symM, g13, bin_lss, decide_eq_false (show ¬ (i : Int) < 19 by omega)]
      rfl
    · simp only [symM, Nat.reduceBEq, g5]
    · simp only [symM, Nat.reduceBEq, g9]
    · simp only [symM, Nat.reduceBEq, g11]
  | succ k ih =>
    intro i bss h tm N hi hN hl hn hb h9 h11 g5 g9 g11 g13
    obtain ⟨N, rfl⟩ : ∃ a, N = a + 60 := ⟨N - 60, by omega⟩
    obtain ⟨v1, h1, v2, h2, a1, a2, a3, a4⟩ := two_app h11 h11 (by rw [encN_len]; decide)
    have n2 := a4.next
    have hb2 := hb.grow a4
    obtain ⟨q, h3, u1, u2, u3, u4, u5, u6⟩ := hb2.store (i := i) (by omega) a3
    have k9 : Bks h3 v9 b9 := (h9.grow a4).keep (Nat.le_of_eq u5.symm) fun k hk hu => u6 k (hb2.off hu (by decide))
    have k11 : Bks h3 v11 (encN NV.zero []) := (h11.grow a4).keep (Nat.le_of_eq u5.symm) fun k hk hu => u6 k (hb2.off hu (by decide))
    rw [show N + 60 = (N + 59) + 1 from rfl, codeB_loop]
    simp only [bodyEm, part, Tryz.f8, sub, symM, opFn, Nat.reduceLT, Nat.reduceBEq, symM, g5, g11, g13, bin_lss, decide_eq_true (show (i : Int) < 19 by omega), bs_b0, a1, a2, u1, u2, bin_add, wadd1 (show i ≤ 400000 by omega)]
    exact wrapE (ih (i + 1) (bss.set i zz) h3 _ (N + 59) (by omega) (by omega) (by rw [List.length_set]; exact hl) (by omega) u3 k9 k11 (by simp only [symM, Nat.reduceBEq, g5]) (by simp only [symM, Nat.reduceBEq, g9]) (by simp only [symM, Nat.reduceBEq, g11]) get_same) ((a4.less hn).trans u4 (Nat.le_refl _))
theorem wr_get (f : Nat) : ∀ k j bss m, (wr f k j bss)[m]? = if 3 + j ≤ m ∧ m < 3 + j + k ∧ m < bss.length then some (wBlk f (m - 3)) else bss[m]? := by
  intro k
  induction k with
  | zero => intro j bss m; rw [wr, if_neg (by omega)]
  | succ k ih =>
    intro j bss m
    rw [wr, ih, List.length_set, List.getElem?_set]
    by_cases h : m = 3 + j
    · subst h
      rw [if_neg (by omega), if_pos rfl]
      by_cases h2 : 3 + j < bss.length
      · rw [if_pos h2, if_pos ⟨Nat.le_refl _, by omega, h2⟩, show 3 + j - 3 = j by omega]
      · rw [if_neg h2, if_neg (by omega)]
        exact (List.getElem?_eq_none (by omega)).symm
    · rw [if_neg (show ¬ 3 + j = m by omega)]
      by_cases h2 : 3 + (j + 1) ≤ m ∧ m < 3 + (j + 1) + k ∧ m < bss.length
      · rw [if_pos h2, if_pos (by omega)]
      · rw [if_neg h2, if_neg (by omega)]
theorem wz2_get : ∀ k i bss m, (wz2 k i bss)[m]? = if i ≤ m ∧ m < i + k ∧ m < bss.length then some zz else bss[m]? := by
  intro k
  induction k with
  | zero => intro i bss m; rw [wz2, if_neg (by omega)]
  | succ k ih =>
    intro i bss m
    rw [wz2, ih, List.length_set, List.getElem?_set]
    by_cases h : m = i
    · subst h
      rw [if_neg (by omega), if_pos rfl]
      by_cases h2 : m < bss.length
      · rw [if_pos h2, if_pos ⟨Nat.le_refl _, by omega, h2⟩]
      · rw [if_neg h2, if_neg (by omega)]
        exact (List.getElem?_eq_none (by omega)).symm
    · rw [if_neg (show ¬ i = m by omega)]
      by_cases h2 : i + 1 ≤ m ∧ m < i + 1 + k ∧ m < bss.length
      · rw [if_pos h2, if_pos (by omega)]
      · rw [if_neg h2, if_neg (by omega)]
/-- The document's blocks. -/
def emptyL (B f : Nat) : List (List Nat) := (wz2 16 3 ((((List.replicate B zb).set 0 (rsupBy B f)).set 1 rheadBy).set 2 (sealR (markL 59)))).set 3 (encN (rootN f) [] ++ encN NV.zero [])
theorem flag_same : sealR (markL 59) = flagBy := by
  unfold sealR flagBy sealB
  rw [show (setAt (List.replicate 64 0) 0 (markL 59)).take 60 = pad 60 (markL 59) from by decide]
theorem empty_made (B f : Nat) (hB : 64 ≤ B) (hf : f < 256) : emptyL B f = madeL B f := by
  apply List.ext_getElem?
  intro m
  unfold emptyL madeL
  rw [wr_get, List.getElem?_set, wz2_len, wz2_get]
  simp only [List.length_set, List.length_replicate, List.getElem?_set, sup_same B f hf, head_same, flag_same]
  by_cases h3 : m = 3
  · subst h3
    rw [if_pos rfl, if_pos (by omega), if_pos (by omega)]
    rfl
  · rw [if_neg (show ¬ 3 = m by omega)]
    by_cases hm : 3 ≤ m ∧ m < 3 + 16 ∧ m < B
    · rw [if_pos hm, if_pos (by omega)]
      unfold zz wBlk nodeAt
      rw [if_neg (show ¬ 2 * (m - 3) = 0 by omega)]
    · rw [if_neg hm, if_neg (show ¬ (3 + 0 ≤ m ∧ m < 3 + 0 + 16 ∧ m < B) by omega)]
      have p0 : 0 < B := by omega
      have p1 : 1 < B := by omega
      have p2 : 2 < B := by omega
      by_cases h2 : 2 = m
      · subst h2; simp [p2]
      · by_cases h1 : 1 = m
        · subst h1; simp [p1]
        · by_cases h0 : 0 = m
          · subst h0; simp [p0]
          · simp only [if_neg h2, if_neg h1, if_neg h0]
end
end Go.Proofs.YtjiilfinllfmgaaGreat.Abs
namespace Go.Proofs.YtjiilfinllfmgaaGreat.Abs
open Go Go.Proofs
noncomputable section
variable {call : Abs.Callee}
set_option maxRecDepth 10000
theorem plan_em : planB (regOps Tryz.f8 [1, 1, 1, 1, 1, 0]) 82 = some ([.eff [] 1 [], .eff [0, 2] 3 [], .one 4, .one 5, .one 6, .one 7, .one 8], []) := by kernel_rfl
abbrev RSEC (call : Abs.Callee) : Prop := ∀ (B f : Nat) (h : AH), 64 ≤ B → B ≤ 480 → 1 ≤ f → f ≤ 2 → ∃ v' h', call 21 [supV B f] h = some (.tuple #[v', iv 0], h') ∧ Own h.next h' v' (bytesV (rsupBy B f)) 5 ∧ Grow h.next h h'
abbrev RPHC (call : Abs.Callee) : Prop := ∀ h, ∃ v' h', call 22 [headV0] h = some (.tuple #[v', iv 0], h') ∧ Own h.next h' v' (bytesV rheadBy) 5 ∧ Grow h.next h h'
theorem bks64 {n : Nat} {h : AH} {w : Value} {bs : List Nat} (ho : Own n h w (bytesV bs) 5) (hl : bs.length = 64) (hb : ∀ x ∈ bs, x < 256) : Bks h w bs := Bks.own ho (by omega) (by omega) hb
theorem Bks.own0 {h : AH} {w : Value} {bs : List Nat} (hb : Bks h w bs) : Own 0 h w (bytesV bs) 5 := by
  obtain ⟨_, _, _, p, h1, h2⟩ := hb
  exact h2.own h1 (Nat.zero_le _)
theorem Empty_S (hSE : RSEC call) (hPH : RPHC call) (hRn : ∀ h, call 24 [iv 0, iv 59] h = some (cx ((0 : Nat) : Int) ((59 : Nat) : Int), h)) (hMk : MarkC call 23) (hSl : RSealC call) (hEn : EncC call 26) (B f : Nat) (k1 : 64 ≤ B) (k2 : B ≤ 480) (hf1 : 1 ≤ f) (hf2 : f ≤ 2) (h : AH) :
    ∃ v' h', frameB T0 X0 call 3000 8 [iv B, iv f] h = some (v', h') ∧ BL h.next h' v' (madeL B f) ∧ Grow h.next h h' := by
  have g1 := Grow.new h (.cells (PM.ofList []) 0 38 0 0 .ex)
  have b1 : BL h.next (h.new (.cells (PM.ofList []) 0 38 0 0 .ex)) (.slice (some ⟨h.next, 0, none⟩) 0 0) (List.replicate 0 zb) := ⟨[], Own.empty _ _ (Nat.le_refl _) _ _, rfl, fun i w bs hi _ => by simp at hi⟩
  rw [frameB_eq ft8 rfl rfl]
  simp only [Tryz.f8, symM, opFn, Nat.reduceLT, symM, symL, bs_bb0]
  generalize hX : codeB T0 X0 call _ EEm (.loop _) _ _ _ = X
  obtain ⟨t2, h2, c0, ⟨c1, c2, v, c3, c4⟩, c5⟩ := use_exit hX (e0Lp h.next B f k2 B 0 _ _ _ _ (by omega) (by omega) g1.next b1 (by simp only [symM, Nat.reduceBEq]) (by simp only [symM, Nat.reduceBEq]) (by simp only [symM, Nat.reduceBEq]) (by simp only [symM]; rfl))
  clear hX
  subst c0
  have G2 : Grow h.next h h2 := g1.trans c5 (Nat.le_refl _)
  have n2 := G2.next
  obtain ⟨v3, h3, d1, d2, d3⟩ := hSE B f h2 k1 k2 hf1 hf2
  have n3 := d3.next
  have K3 : Bks h3 v3 (rsupBy B f) := bks64 d2 (by rw [sup_same B f (by omega)]; exact (supBy_ok B f).1) (by rw [sup_same B f (by omega)]; exact (supBy_ok B f).2)
  obtain ⟨q4, h4, e1, e2, e3, e4, e5, _⟩ := (c4.grow d3).store (i := 0) (by simp; omega) K3
  have e1 : evIndexAddr T0 28 v (iv 0) = some q4 := e1
  obtain ⟨v5, h5, f1, f2, f3⟩ := hPH h4
  have n5 := f3.next
  have K5 : Bks h5 v5 rheadBy := bks64 f2 (by rw [head_same]; exact headBy_ok.1) (by rw [head_same]; exact headBy_ok.2)
  obtain ⟨q6, h6, r1, r2, r3, r4, r5, _⟩ := (e3.grow f3).store (i := 1) (by simp; omega) K5
  have r1 : evIndexAddr T0 28 v (iv 1) = some q6 := r1
  obtain ⟨h7, s1, s2, s3⟩ := make_bytes (h := h6) (k := 60) (by omega)
  have s1 : evMakeSlice T0 38 (iv 60) (iv 60) h6 = _ := s1
  obtain ⟨p7, p71, p72, p73⟩ := s2.toB (by simp)
  rw [← markL_0] at p73
  generalize hh8 : h7.new (.cells (PM.ofList [cx ((0 : Nat) : Int) ((59 : Nat) : Int)]) 1 47 0 0 .ex) = h8
  have g8 : Grow h7.next h7 h8 := by rw [← hh8]; exact Grow.new _ _
  have n7 := s3.next
  have n8 : h8.next = h7.next + 1 := by rw [← hh8]; rfl
  have cb : BoxL h8 h7.next 47 [cx ((0 : Nat) : Int) ((59 : Nat) : Int)] := by rw [← hh8]; exact BoxL.new _ _ _
  have hbs : evBuildSlice T0 65 1 [(0, cx ((0 : Nat) : Int) ((59 : Nat) : Int))] h7 = some (.slice (some ⟨h7.next, 0, none⟩) 1 1, h8) := by
    rw [← hh8]
    exact bs_cx
  obtain ⟨v9, p9, h9, t1, t3, t4, t5, t6⟩ := hMk p7 h7.next _ h8 (p73.grow g8 p72) (by omega) cb (by omega)
  have n9 := t6.next
  obtain ⟨v10, h10, u1, u2, u3⟩ := hSl h8.next (markL 59) v9 h9 (by rw [markL_len]; decide) (by rw [markL_len]; decide) (markL_lt 59) (t5.own t4 t3)
  have n10 := u3.next
  have G10 : Grow h6.next h6 h10 := ((s3.trans g8 n7).trans t6 (by omega)).trans u3 (by omega)
  have K10 : Bks h10 v10 (sealR (markL 59)) := bks64 u2 (by rw [flag_same]; exact flagBy_ok.1) (by rw [flag_same]; exact flagBy_ok.2)
  obtain ⟨q11, h11, w1, w2, w3, w4, w5, _⟩ := (r3.grow G10).store (i := 2) (by simp; omega) K10
  have w1 : evIndexAddr T0 28 v (iv 2) = some q11 := w1
  obtain ⟨v12, h12, x1, x2, x3⟩ := hEn (rootN f) h11 (soundR f hf1 hf2).1 (soundR f hf1 hf2).2
  have n12 := x3.next
  obtain ⟨v13, h13, y1, y2, y3⟩ := hEn NV.zero h12 soundZ.1 soundZ.2
  have n13 := y3.next
  have K12 : Bks h13 v12 (encN (rootN f) []) := (Bks.own x2 (by rw [encN_len]; decide) (by rw [encN_len]; decide) (encN_lt _)).grow y3
  have K13 : Bks h13 v13 (encN NV.zero []) := Bks.own y2 (by rw [encN_len]; decide) (by rw [encN_len]; decide) (encN_lt _)
  have B13 := (w3.grow x3).grow y3
  have hp := plan_em
  simp only [regOps, part, Tryz.f8, sub] at hp
  simp only [symM, opFn, Nat.reduceLT, Nat.reduceBEq, symM, symL, c1, c2, c3, build_Su, evCall_fn ft21 rfl, d1, e1, e2, build_Hd, evCall_fn ft22 rfl, f1, r1, r2]
  rw [codeB_draw, draw_plan hp rfl]
  simp only [drawAll, opFn, Nat.reduceLT, Nat.reduceBEq, c2, c3, evCall_fn ft24 rfl, hRn, goA_ms, goAM_some s1, goAB_some hbs, evCall_fn ft23 rfl, t1, evCall_fn ft25 rfl, u1, w1, w2, build_Ro, evCall_fn ft26 rfl, x1, build_N0, y1]
  rw [loop_same]
  generalize hX : codeB T0 X0 call _ EEm (.loop _) _ _ _ = X
  obtain ⟨t3', h14, z0, ⟨z1, z2, z3, z4, z5, z6⟩, z7⟩ := use_exit hX (emLp h.next v v12 v13 (encN (rootN f) []) 16 3 _ h13 _ _ (by omega) (by omega) (by simp; omega) (by omega) B13 K12 K13 (by simp only [symM, Nat.reduceBEq, c3]) (by simp only [symM, Nat.reduceBEq]) (by simp only [symM, Nat.reduceBEq]) (by simp only [symM]; rfl))
  clear hX
  subst z0
  have n14 := z7.next
  obtain ⟨va, ha, vc, hc, o1, o2, o3, o4⟩ := two_app z5 z6 (by rw [encN_len, encN_len]; decide)
  obtain ⟨q15, h15, l1, l2, l3, l4, l5, _⟩ := (z4.grow o4).store (i := 3) (by rw [wz2_len]; simp; omega) o3
  have l1 : evIndexAddr T0 28 v (iv 3) = some q15 := l1
  refine ⟨v, h15, ?_, ?_, ?_⟩
  · simp only [symM, opFn, Nat.reduceLT, Nat.reduceBEq, symM, symL, z1, z2, z3, bs_b0, o1, o2, l1, l2]
    exact retB_one ft8 rfl get_same
  · rw [← empty_made B f k1 (by omega)]
    exact l3
  · have X1 := G2.trans (d3.less (by omega : h.next ≤ h2.next)) (Nat.le_refl _)
    have X2 := (X1.trans e4 (Nat.le_refl _)).trans (f3.less (by omega)) (Nat.le_refl _)
    have X3 := (X2.trans r4 (Nat.le_refl _)).trans (G10.less (by omega)) (Nat.le_refl _)
    have X4 := ((X3.trans w4 (Nat.le_refl _)).trans (x3.less (by omega)) (Nat.le_refl _)).trans (y3.less (by omega)) (Nat.le_refl _)
    exact ((X4.trans z7 (Nat.le_refl _)).trans (o4.less (by omega)) (Nat.le_refl _)).trans l4 (Nat.le_refl _)
end
end Go.Proofs.YtjiilfinllfmgaaGreat.Abs
