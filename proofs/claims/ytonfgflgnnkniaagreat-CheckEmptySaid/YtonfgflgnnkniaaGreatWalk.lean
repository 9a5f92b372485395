
/- Rows of numbers: windows, copies, without zeros at the end. -/
import Derived.Test.YtonfgflgnnkniaaGreatOpen
namespace Go.Proofs.YtonfgflgnnkniaaGreat.Abs
open Go Go.Proofs
noncomputable section
variable {call : Abs.Callee}
set_option maxRecDepth 10000
theorem ft102 : T0.ft.get 102 = some Tryz.f102 := by kernel_rfl
theorem ft104 : T0.ft.get 104 = some Tryz.f104 := by kernel_rfl
/-- A row of numbers, or a window of it. -/
def RowI (n : Nat) (h : AH) (v : Value) (l : List Value) : Prop :=
  ∃ b o cap c m lo hi kd el k, v = .slice (some ⟨b, o, none⟩) l.length cap ∧ ((cap < XB ∧ k = cap) ∨ (cap = XB + k ∧ looseSz T0 h b 1 = true)) ∧ l.length ≤ k ∧ b < n ∧ h.get b = some (.cells c m el lo hi kd) ∧ o + l.length ≤ m ∧ ∀ (i : Nat) (x : Value), l[i]? = some x → c.get (o + i) = some x
theorem RowI.row {n : Nat} {h : AH} {v : Value} {l : List Value} (hv : RowI n h v l) : Row n h v l 3 := by
  obtain ⟨b, o, cap, c, m, lo, hi, kd, el, k, h1, h2, h3, h4, h5, h6, h7⟩ := hv
  exact .inr ⟨b, o, cap, c, m, lo, hi, kd, el, h1, h4, h5, h6, h7⟩
theorem Own.rowI {n : Nat} {h : AH} {v : Value} {l : List Value} (ho : Own n h v l 3) (h0 : l ≠ []) (hl : l.length < 100000) : RowI h.next h v l := by
  rcases ho with ⟨_, q⟩ | ⟨b, c, kd, cap, h1, h2, h3, h4, h5, h6⟩
  · exact absurd q h0
  · refine ⟨b, 0, cap, c, l.length, 0, 0, kd, 3, l.length, h3, ?_, Nat.le_refl _, h2, h4, by omega, fun i x hi => by rw [Nat.zero_add]; exact h5 i x hi⟩
    rcases h6 with ⟨_, rfl⟩ | ⟨rfl, rfl⟩
    · exact .inl ⟨by rw [XB_val]; omega, rfl⟩
    · refine .inr ⟨rfl, ?_⟩
      unfold looseSz
      rw [h4]
      simp only [sz_int]
      rfl
theorem RowI.cut {n hh : Nat} {h : AH} {v : Value} {l : List Value} (hr : RowI n h v l) (h0 : l ≠ []) (hle : hh ≤ l.length) :
    ∃ w, evSliceX T0 32 v none (some (iv hh)) none h = some (w, h) ∧ RowI n h w (l.take hh) := by
  obtain ⟨b, o, cap, c, m, l0, hi0, kd, el, k, rfl, h2, h3, h4, h5, h6, h7⟩ := hr
  have hpos : 0 < l.length := List.length_pos_iff.2 h0
  have hk : capOf cap = k := by
    rcases h2 with ⟨q, rfl⟩ | ⟨rfl, _⟩
    · exact capOf_lt q
    · exact capOf_ge _
  have hbnd : boundsA l.length k none (some (iv hh)) none = some (0, hh, k) := by
    simp only [boundsA, boundA, show natOf (iv (hh : Int)) = some hh from rfl, Nat.ble_eq_true_of_le (show hh ≤ k by omega), ifB_true]
  have hlen : (l.take hh).length = hh := by rw [List.length_take]; omega
  have hc : ∀ (i : Nat) (x : Value), (l.take hh)[i]? = some x → c.get (o + i) = some x := fun i x hi => by
    rw [List.getElem?_take] at hi
    split at hi
    · exact h7 i x hi
    · cases hi
  have hbq : Nat.beq k 0 = false := nbF (by simp; omega)
  rcases h2 with ⟨q, rfl⟩ | ⟨rfl, q⟩
  · refine ⟨.slice (some ⟨b, o, none⟩) hh k, ?_, b, o, k, c, m, l0, hi0, kd, el, k, by rw [hlen], .inl ⟨q, rfl⟩, by omega, h4, h5, by omega, hc⟩
    simp only [evSliceX, evSlice, und_ints, sz_int, evSliceS, hk, hbnd, Nat.ble_eq_true_of_le (show hh ≤ k by omega), ifB_true, ble_lt' q, ifB_false, offS, hbq, Nat.mul_one, Nat.sub_zero, Nat.add_zero]
  · refine ⟨.slice (some ⟨b, o, none⟩) hh (XB + k), ?_, b, o, XB + k, c, m, l0, hi0, kd, el, k, by rw [hlen], .inr ⟨rfl, q⟩, by omega, h4, h5, by omega, hc⟩
    simp only [evSliceX, evSlice, und_ints, sz_int, evSliceS, hk, hbnd, Nat.ble_eq_true_of_le (show hh ≤ k by omega), ifB_true, Nat.ble_eq_true_of_le (show XB ≤ XB + k by omega), q, offS, hbq, ifB_false, Nat.mul_one, Nat.sub_zero, Nat.add_zero]
theorem appended_row {n : Nat} {h : AH} {v : Value} {l : List Value} {z : Value} (hr : Row n h v l 3) : appendedA T0 32 (infoOf 3) z v h = some (l.length, l) := by
  rcases hr with ⟨rfl, rfl⟩ | ⟨b, o, cap, c, m, l0, h0, kd, el, rfl, h2, h3, h4, h5⟩
  · unfold appendedA
    simp only [und_ints, lenOfA]
    rfl
  · unfold appendedA
    simp only [und_ints, lenOfA]
    have hold : firstA (infoOf 3).size l.length h (.slice (some ⟨b, o, none⟩) l.length cap) = some l := by
      unfold firstA
      by_cases hk0 : l.length = 0
      · rw [hk0, show l = [] from List.length_eq_zero_iff.1 hk0]
        rfl
      · show ifB (Nat.beq l.length 0) (some []) (ifB (Nat.ble l.length l.length) (loadRow h b o (l.length * (infoOf 3).size)) none) = some l
        rw [nbF (by simpa using hk0), ifB_false, Nat.ble_eq_true_of_le (Nat.le_refl _), ifB_true, ti_int.2.1, Nat.mul_one]
        exact loadRow_of h3 h4 h5
    rw [hold]
    simp only
    rw [ti_int.2.1, Nat.mul_one, Nat.beq_refl, ifB_true]
theorem nil_eqI {a : Addr} {l c : Nat} {p q : Operand} {h : AH} : evBin T0 .eql 32 p q (.slice (some a) l c) nilV h = some (.bool false) := by kernel_rfl
theorem bs_i0 {h : AH} : evBuildSlice T0 32 0 [] h = some (.slice (some ⟨h.next, 0, none⟩) 0 0, h.new (.cells (PM.ofList []) 0 3 0 0 .ex)) := by kernel_rfl
theorem CloneI_S (b o cap l : Nat) (ls : List Value) (n : Nat) (h : AH) (hr : Row n h (.slice (some ⟨b, o, none⟩) l cap) ls 3) (hn : n ≤ h.next) (hall : ls.all oneCell = true) (hl : ls.length < 10000) :
    ∃ v' h', frameB T0 X0 call 3000 102 [.slice (some ⟨b, o, none⟩) l cap] h = some (v', h') ∧ Own h.next h' v' ls 3 ∧ Grow h.next h h' := by
  have g1 := Grow.new h (.cells (PM.ofList []) 0 3 0 0 .ex)
  have ho1 : OwnC 1 h.next (h.new (.cells (PM.ofList []) 0 3 0 0 .ex)) (.slice (some ⟨h.next, 0, none⟩) 0 0) 0 [] 3 := .inr ⟨h.next, PM.ofList [], .ex, 0, Nat.le_refl _, Nat.lt_succ_self _, rfl, get_new_same _ _, rfl, fun i x hx => by simp at hx, .inl ⟨rfl, rfl⟩⟩
  obtain ⟨v', h', e1, e2, e3, e4, e5⟩ := append_gen und_ints tt_int ti_int.1 ti_int.2.1 ti_int.2.2 ho1 (appended_row (hr.grow g1 hn)) (Nat.mul_one _).symm hall (by omega) g1.next 32
  have e2' : Own h.next h' v' ls 3 := by have := e2.own; simpa using this
  refine ⟨v', h', ?_, e2', g1.trans e3 (Nat.le_refl _)⟩
  rw [frameB_eq ft102 rfl rfl]
  simp only [Tryz.f102, symM, opFn, Nat.reduceLT, Nat.reduceBEq, symM, nil_eqI, bs_i0, e1]
  exact retB_one ft102 rfl get_same
abbrev CloneIC (call : Abs.Callee) : Prop := ∀ (b o cap l : Nat) (ls : List Value) (n : Nat) (h : AH), Row n h (.slice (some ⟨b, o, none⟩) l cap) ls 3 → n ≤ h.next → ls.all oneCell = true → ls.length < 10000 →
  ∃ v' h', call 102 [.slice (some ⟨b, o, none⟩) l cap] h = some (v', h') ∧ Own h.next h' v' ls 3 ∧ Grow h.next h h'
/-- Without zeros at the end. -/
def trimL (l : List Nat) : List Nat := (l.reverse.dropWhile (· == 0)).reverse
theorem trimL_nil : trimL [] = [] := rfl
theorem trimL_zero (l : List Nat) : trimL (l ++ [0]) = trimL l := by simp [trimL]
theorem trimL_pos (l : List Nat) {x : Nat} (h : x ≠ 0) : trimL (l ++ [x]) = l ++ [x] := by
  unfold trimL
  rw [List.reverse_append, List.reverse_singleton, List.singleton_append, List.dropWhile_cons_of_neg (by simpa using h)]
  simp
noncomputable def bodyTr : Code := part Tryz.f104 [1, 0, 0, 0]
abbrev ETr : Env := ⟨104, 22, none⟩
theorem intsV_len (l : List Nat) : (intsV l).length = l.length := by simp [intsV]
theorem intsV_one (l : List Nat) : (intsV l).all oneCell = true := by
  rw [List.all_eq_true]
  intro x hx
  obtain ⟨y, _, rfl⟩ := List.mem_map.1 hx
  rfl
theorem trLp (n : Nat) (h : AH) : ∀ (k : Nat) (l : List Nat) (v : Value) (tm : PM Value) (N : Nat), l.length = k → l.length < 10000 → k + 60 ≤ N → RowI n h v (intsV l) → tm.get 0 = some v →
    ∃ tm' h', codeB T0 X0 call N ETr (.loop bodyTr) tm h [] = .jump (.exit 0) tm' h' [] ∧ (h' = h ∧ ∃ w, tm'.get 0 = some w ∧ RowI n h w (intsV (trimL l))) := by
  intro k
  induction k with
  | zero =>
    intro l v tm N hk hl hN hr g0
    obtain ⟨N, rfl⟩ : ∃ a, N = a + 60 := ⟨N - 60, by omega⟩
    have hnil : l = [] := List.length_eq_zero_iff.1 hk
    subst hnil
    have hlen : ∀ ty h', evBuiltin T0 .len #[32] ty [v] h' = some (.value (iv 0), h') := fun ty h' => by rw [hr.row.len und_ints]; rfl
    apply Exists.intro; apply Exists.intro
    refine ⟨?_, rfl, v, ?_, hr⟩
    · rw [codeB_loop]
      simp only [bodyTr, part, Tryz.f104, sub, symM, opFn, Nat.reduceLT, Nat.reduceBEq, symM, g0, hlen, bin_gtr, show decide ((0 : Int) < 0) = false from rfl]
      rfl
    · simp only [symM, Nat.reduceBEq, g0]
  | succ k ih =>
    intro l v tm N hk hl hN hr g0
    obtain ⟨N, rfl⟩ : ∃ a, N = a + 60 := ⟨N - 60, by omega⟩
    obtain ⟨l', x, rfl⟩ : ∃ l' x, l = l' ++ [x] := ⟨l.dropLast, l.getLast (by intro q; simp [q] at hk), (List.dropLast_concat_getLast _).symm⟩
    have hk' : l'.length = k := by simp at hk; omega
    have hlen : ∀ ty h', evBuiltin T0 .len #[32] ty [v] h' = some (.value (iv ((k + 1 : Nat) : Int)), h') := fun ty h' => by rw [hr.row.len und_ints, intsV_len, hk]
    obtain ⟨p, a1, a2⟩ := hr.row.at und_ints sz_int agg_int (i := k) (x := iv x) (by
      rw [show intsV (l' ++ [x]) = intsV l' ++ [iv x] by simp [intsV], List.getElem?_append_right (by rw [intsV_len]; omega), intsV_len, hk', Nat.sub_self]; rfl)
    have w1 : IntKind.i64.wrap (((k + 1 : Nat) : Int) - 1) = (k : Int) := by rw [IntWalk.i64_in _ (by simp at hl; omega)]; omega
    by_cases h0 : x = 0
    · subst h0
      obtain ⟨w, s1, s2⟩ := hr.cut (hh := k) (by simp [intsV]) (by rw [intsV_len]; omega)
      rw [show (intsV (l' ++ [0])).take k = intsV l' by rw [show intsV (l' ++ [0]) = intsV l' ++ [iv 0] by simp [intsV], List.take_append_of_le_length (by rw [intsV_len]; omega), List.take_of_length_le (by rw [intsV_len]; omega)]] at s2
      rw [trimL_zero]
      rw [show N + 60 = (N + 59) + 1 from rfl, codeB_loop]
      simp only [bodyTr, part, Tryz.f104, sub, symM, opFn, Nat.reduceLT, Nat.reduceBEq, symM, g0, hlen, bin_gtr, decide_eq_true (show (0 : Int) < ((k + 1 : Nat) : Int) by omega), bin_sub, w1, a1, a2, bin_eql, show (((0 : Nat) : Int) == 0) = true from rfl, ev3, evOpt, s1]
      exact ih l' w _ (N + 59) hk' (by simp at hl; omega) (by omega) s2 (by simp only [symM])
    · rw [trimL_pos _ h0]
      apply Exists.intro; apply Exists.intro
      refine ⟨?_, rfl, v, ?_, hr⟩
      · rw [codeB_loop]
        simp only [bodyTr, part, Tryz.f104, sub, symM, opFn, Nat.reduceLT, Nat.reduceBEq, symM, g0, hlen, bin_gtr, decide_eq_true (show (0 : Int) < ((k + 1 : Nat) : Int) by omega), bin_sub, w1, a1, a2, bin_eql, show ((x : Int) == 0) = false from by simpa using h0]
        rfl
      · simp only [symM, Nat.reduceBEq, g0]
theorem Trim_S (hC : CloneIC call) (l : List Nat) (n : Nat) (v : Value) (h : AH) (hn : n ≤ h.next) (hr : RowI n h v (intsV l)) (hl : l.length < 2000) :
    ∃ v' h', frameB T0 X0 call 3000 104 [v] h = some (v', h') ∧ Own h.next h' v' (intsV (trimL l)) 3 ∧ Grow h.next h h' := by
  rw [frameB_eq ft104 rfl rfl]
  simp only [Tryz.f104, symM, opFn, Nat.reduceLT, symM, symL]
  generalize hX : codeB T0 X0 call _ ETr (.loop _) _ _ _ = X
  obtain ⟨t1, h1, e1, rfl, w, e2, e3⟩ := use_exit hX (trLp n h l.length l v _ _ rfl (by omega) (by omega) hr (by simp only [symM, Nat.reduceBEq]))
  clear hX
  subst e1
  have e3' := e3.row
  obtain ⟨b, o, cap, c, m, lo, hi, kd, el, k, rfl, h2⟩ := e3
  have hle : (trimL l).length ≤ l.length := by
    unfold trimL
    rw [List.length_reverse]
    exact Nat.le_trans (List.dropWhile_sublist _).length_le (by simp)
  obtain ⟨v', h', q1, q2, q3⟩ := hC b o cap _ _ n h1 e3' hn (intsV_one _) (by rw [intsV_len]; omega)
  refine ⟨v', h', ?_, q2, q3⟩
  simp only [symM, opFn, Nat.reduceLT, symM, symL, e2, evCall_fn ft102 rfl, q1]
  exact retB_one ft104 rfl get_same
end
end Go.Proofs.YtonfgflgnnkniaaGreat.Abs
namespace Go.Proofs.YtonfgflgnnkniaaGreat.Abs
open Go Go.Proofs
noncomputable section
variable {call : Abs.Callee}
set_option maxRecDepth 10000
theorem ft103 : T0.ft.get 103 = some Tryz.f103 := by kernel_rfl
theorem ft105 : T0.ft.get 105 = some Tryz.f105 := by kernel_rfl
theorem ft106 : T0.ft.get 106 = some Tryz.f106 := by kernel_rfl
theorem ft71 : T0.ft.get 71 = some Tryz.f71 := by kernel_rfl
theorem ft76 : T0.ft.get 76 = some Tryz.f76 := by kernel_rfl
theorem ft116 : T0.ft.get 116 = some Tryz.f116 := by kernel_rfl
theorem make_ints {h : AH} {k : Nat} (hk : k ≤ 1000) : ∃ h', evMakeSlice T0 32 (iv k) (iv k) h = some (.slice (some ⟨h.next, 0, none⟩) k k, h') ∧ Own h.next h' (.slice (some ⟨h.next, 0, none⟩) k k) (intsV (List.replicate k 0)) 3 ∧ Grow h.next h h' := by
  have hlen : (intsV (List.replicate k 0)).length = k := by simp [intsV]
  refine ⟨newCells h 3 (fillPM (iv 0) (k * (infoOf 3).size)) (k * (infoOf 3).size), ?_, ?_, Grow.new _ _⟩
  · have hb : (Nat.ble k k && (Nat.ble ((infoOf 3).bytes * k) 17592186044416 && Nat.ble k 17592186044416)) = true := by
      have h2 : (infoOf 3).bytes * k ≤ 64 * 1000 := Nat.mul_le_mul ti_int.2.2 hk
      rw [Nat.ble_eq_true_of_le (Nat.le_refl _), Nat.ble_eq_true_of_le (by omega), Nat.ble_eq_true_of_le (by omega)]
      rfl
    unfold evMakeSlice
    simp only [und_ints, tt_int, ti_int.1]
    rw [show natOf (iv k) = some k from rfl]
    simp only
    rw [hb, ifB_true]
  · rw [ti_int.2.1, Nat.mul_one]
    refine .inr ⟨h.next, fillPM (iv 0) k, .ex, k, Nat.le_refl _, Nat.lt_succ_self _, by rw [hlen], ?_, ?_, .inl ⟨rfl, by rw [hlen]⟩⟩
    · unfold newCells
      rw [get_new_same, hlen]
    · intro i x hx
      have hi : i < k := by
        have := (List.getElem?_eq_some_iff.1 hx).1
        rwa [hlen] at this
      have hx2 : x = iv 0 := by
        simp [intsV, hi] at hx
        exact hx.symm
      rw [hx2, fillPM_get _ _ _ hi]
      show some ((#[iv 0] : Array Value)[i % 1]!) = _
      rw [Nat.mod_one]
      rfl
theorem page0_S (r : Nat) (h : AH) : ∃ v' h', frameB T0 X0 call 3000 103 [pv r 0, iv 0] h = some (v', h') ∧ Own h.next h' v' (intsV (List.replicate 30 0)) 3 ∧ Grow h.next h h' := by
  obtain ⟨h1, e1, e2, e3⟩ := make_ints (h := h) (k := 30) (by decide)
  have e1 : evMakeSlice T0 32 (iv 30) (iv 30) h = some (.slice (some ⟨h.next, 0, none⟩) 30 30, h1) := e1
  refine ⟨_, h1, ?_, e2, e3⟩
  rw [frameB_eq ft103 rfl rfl]
  simp only [Tryz.f103, symM, opFn, Nat.reduceLT, Nat.reduceBEq, symM, bin_eql, show ((0 : Int) == 0) = true from rfl, e1]
  exact retB_one ft103 rfl get_same
/-- A slice of no numbers. -/
def EmpI (v : Value) : Prop := ∃ a c, v = .slice a 0 c
theorem EmpI.len {v : Value} (he : EmpI v) (ty : TypeId) (h : AH) : evBuiltin T0 .len #[32] ty [v] h = some (.value (iv 0), h) := by
  obtain ⟨a, c, rfl⟩ := he
  exact len_slice und_ints
theorem EmpI.one1 {v : Value} (he : EmpI v) : oneCell v = true ∧ v.cells.toList = [v] := by
  obtain ⟨a, c, rfl⟩ := he
  exact ⟨rfl, rfl⟩
theorem EmpI.nil : EmpI nilV := ⟨none, 0, rfl⟩
theorem Own.emp {n : Nat} {h : AH} {v : Value} {e : TypeId} (ho : Own n h v [] e) : EmpI v := by
  rcases ho with ⟨rfl, _⟩ | ⟨b, c, kd, cap, _, _, rfl, _⟩
  · exact EmpI.nil
  · exact ⟨_, _, rfl⟩
theorem mk_map {tm : PM Value} {h : AH} : evMakeMapX T0 tm 192 none h = some (.value (.map (some h.next)), h.new (.map [] 0)) := rfl
theorem PtrE_S (v : Value) (h : AH) (he : EmpI v) : ∃ h', frameB T0 X0 call 3000 105 [v] h = some (.bool true, h') ∧ Grow h.next h h' := by
  refine ⟨h.new (.map [] 0), ?_, Grow.new _ _⟩
  rw [frameB_eq ft105 rfl rfl]
  simp only [Tryz.f105, symM, opFn, Nat.reduceLT, Nat.reduceBEq, symM, symL, mk_map, he.len, codeB_loop, bin_lss, show decide ((0 : Int) < 0) = false from rfl, bin_leq, show decide ((0 : Int) ≤ 96) = true from rfl]
  exact retB_one ft105 rfl get_same
theorem Grow0_S (h : AH) : frameB T0 X0 call 3000 116 [nilV, iv 0] h = some (nilV, h) := by
  have hcap : ∀ ty, evBuiltin T0 .cap #[32] ty [nilV] h = some (.value (iv 0), h) := fun ty => by kernel_rfl
  have hlen : ∀ ty, evBuiltin T0 .len #[32] ty [nilV] h = some (.value (iv 0), h) := fun ty => by kernel_rfl
  rw [frameB_eq ft116 rfl rfl]
  simp only [Tryz.f116, symM, opFn, Nat.reduceLT, Nat.reduceBEq, symM, bin_lss, show decide ((0 : Int) < 0) = false from rfl, hcap, hlen, bin_sub, show IntKind.i64.wrap ((0 : Int) - 0) = 0 from by decide, bin_gtr]
  exact retB_one ft116 rfl get_same
theorem und_intss : und T0 167 = some (.slice 32) := by kernel_rfl
theorem sz_intsS : szOf T0 32 = some 1 := by kernel_rfl
theorem agg_ints : aggT T0 32 = some false := by kernel_rfl
theorem app_emp {v : Value} (he : EmpI v) (ty : TypeId) (h : AH) : evBuiltin T0 .append #[32, 32] ty [nilV, v] h = some (.value nilV, h) := by
  obtain ⟨a, c, rfl⟩ := he
  cases a with
  | none => kernel_rfl
  | some a => kernel_rfl
theorem Concat_S (hG : ∀ h, call 116 [nilV, iv 0] h = some (nilV, h)) (x y : Value) (b : Nat) (h : AH) (hb : BoxL h b 32 [x, y]) (hx : EmpI x) (hy : EmpI y) :
    frameB T0 X0 call 3000 76 [.slice (some ⟨b, 0, none⟩) 2 2] h = some (nilV, h) := by
  have hlen : ∀ ty h', evBuiltin T0 .len #[167] ty [.slice (some ⟨b, 0, none⟩) 2 2] h' = some (.value (iv 2), h') := fun ty h' => len_slice und_intss
  have i0 : evIndexAddr T0 167 (.slice (some ⟨b, 0, none⟩) 2 2) (iv 0) = some (pv b 0) := idx_slice (i := 0) und_intss sz_intsS (by omega)
  have i1 : evIndexAddr T0 167 (.slice (some ⟨b, 0, none⟩) 2 2) (iv 1) = some (pv b 1) := idx_slice (i := 1) und_intss sz_intsS (by omega)
  have l0 : evLoad T0 32 (pv b 0) h = some x := hb.load agg_ints rfl
  have l1 : evLoad T0 32 (pv b 1) h = some y := hb.load agg_ints rfl
  rw [frameB_eq ft76 rfl rfl]
  simp only [Tryz.f76, symM, opFn, Nat.reduceLT, Nat.reduceBEq, symM, symL, hlen, codeB_loop, bin_lss, show decide ((0 : Int) < 2) = true from rfl, show decide ((1 : Int) < 2) = true from rfl, show decide ((2 : Int) < 2) = false from rfl, show decide ((0 : Int) < 0) = false from rfl, i0, i1, l0, l1, hx.len, hy.len, bin_add, show IntKind.i64.wrap ((0 : Int) + 0) = 0 from by decide, show IntKind.i64.wrap ((0 : Int) + 1) = 1 from by decide, show IntKind.i64.wrap ((1 : Int) + 1) = 2 from by decide, evCall_fn ft116 rfl, hG, app_emp hx, app_emp hy]
  exact retB_one ft76 rfl get_same
abbrev ConcatC (call : Abs.Callee) : Prop := ∀ (x y : Value) (b : Nat) (h : AH), BoxL h b 32 [x, y] → EmpI x → EmpI y → call 76 [.slice (some ⟨b, 0, none⟩) 2 2] h = some (nilV, h)
theorem bs_2i {x y : Value} {h : AH} (hx : EmpI x) (hy : EmpI y) : evBuildSlice T0 167 2 [(0, x), (1, y)] h = some (.slice (some ⟨h.next, 0, none⟩) 2 2, h.new (.cells (PM.ofList [x, y]) 2 32 0 0 .ex)) := by
  obtain ⟨a, c, rfl⟩ := hx
  obtain ⟨a', c', rfl⟩ := hy
  kernel_rfl
theorem bs_2ix {x y : Value} {tm : PM Value} {i j : Nat} {h : AH} (hx : EmpI x) (hy : EmpI y) (h1 : tm.get i = some x) (h2 : tm.get j = some y) : evBuildSliceX T0 tm 167 2 [(0, .tmp i), (1, .tmp j)] h = some (.value (.slice (some ⟨h.next, 0, none⟩) 2 2), h.new (.cells (PM.ofList [x, y]) 2 32 0 0 .ex)) := by
  rw [bsx_gen]
  simp only [evParts, ev_tmp, h1, h2]
  rw [goBSX_some, bs_2i hx hy]
  rfl
theorem Apart_S (hC : ConcatC call) (x y : Value) (h : AH) (hx : EmpI x) (hy : EmpI y) : ∃ h', frameB T0 X0 call 3000 106 [x, y] h = some (.bool true, h') ∧ Grow h.next h h' := by
  generalize hh1 : h.new (.map [] 0) = h1
  have g1 : Grow h.next h h1 := by rw [← hh1]; exact Grow.new _ _
  have n1 : h1.next = h.next + 1 := by rw [← hh1]; rfl
  generalize hh2 : h1.new (.cells (PM.ofList [x, y]) 2 32 0 0 .ex) = h2
  have g2 : Grow h1.next h1 h2 := by rw [← hh2]; exact Grow.new _ _
  have b2 : BoxL h2 h1.next 32 [x, y] := by rw [← hh2]; exact BoxL.new _ _ _
  have c2 := hC x y h1.next h2 b2 hx hy
  refine ⟨h2, ?_, g1.trans g2 (by omega)⟩
  rw [frameB_eq ft106 rfl rfl]
  simp only [Tryz.f106, symM, opFn, Nat.reduceLT, Nat.reduceBEq, symM, symL, mk_map, hh1, bsx_gen, goBSX_some, evParts, bs_2i hx hy, hh2, evCall_fn ft76 rfl, c2, EmpI.nil.len, codeB_loop, bin_lss, show decide ((0 : Int) < 0) = false from rfl]
  exact retB_one ft106 rfl get_same
end
end Go.Proofs.YtonfgflgnnkniaaGreat.Abs
namespace Go.Proofs.YtonfgflgnnkniaaGreat.Abs
open Go Go.Proofs
noncomputable section
variable {call : Abs.Callee}
set_option maxRecDepth 10000
def rdL (w vp : Value) : List Value := [w, vp, nilV, .bool false]
theorem field_Rd {b : Nat} : evFieldAddr T0 152 (pv b 0) 0 = some (pv b 0) ∧ evFieldAddr T0 152 (pv b 0) 1 = some (pv b 1) ∧ evFieldAddr T0 152 (pv b 0) 2 = some (pv b 2) ∧ evFieldAddr T0 152 (pv b 0) 3 = some (pv b 3) := ⟨by kernel_rfl, by kernel_rfl, by kernel_rfl, by kernel_rfl⟩
theorem rd_loads {h : AH} {b : Nat} {w vp : Value} (hb : BoxL h b 152 (rdL w vp)) : evLoad T0 32 (pv b 1) h = some vp ∧ evLoad T0 32 (pv b 2) h = some nilV ∧ evLoad T0 4 (pv b 3) h = some (.bool false) :=
  ⟨hb.load agg_ints rfl, hb.load agg_ints rfl, hb.load agg_bool rfl⟩
theorem rd_store {h : AH} {b : Nat} {w vp v : Value} (hb : BoxL h b 152 (rdL w vp)) (hv : oneCell v = true ∧ v.cells.toList = [v]) : ∃ h', evStore T0 32 (pv b 1) v h = some h' ∧ BoxL h' b 152 (rdL w v) ∧ One b h h' := by
  obtain ⟨h', s1, s2, s3, s4⟩ := BoxL.store (n := b) (o := 1) (v := v) hb (ws := [v]) sz_intsS hv.2 (by simp) (by simp [hv.1]) (by simp [rdL]) (Nat.le_refl _)
  exact ⟨h', s1, s2, s4, evStore_keep s1⟩
theorem Own.one1 {n : Nat} {h : AH} {v : Value} {l : List Value} {e : TypeId} (ho : Own n h v l e) : oneCell v = true ∧ v.cells.toList = [v] := by
  rcases ho with ⟨rfl, _⟩ | ⟨b, c, kd, cap, _, _, rfl, _⟩ <;> exact ⟨rfl, rfl⟩
theorem Own.off_ge {n k : Nat} {h : AH} {v : Value} {l : List Value} {e : TypeId} (ho : Own n h v l e) (hk : k < n) : Off v k := by
  intro o l' c hv
  rcases ho with ⟨rfl, _⟩ | ⟨b, c, kd, cap, q1, q2, rfl, _⟩
  · cases hv
  · cases hv; omega
theorem Own.ones {n p q e : Nat} {h h' : AH} {v : Value} {l : List Value} (ho : Own n h v l e) (o : One p h h') (t : tyAt h p q) (hne : e ≠ q) : Own n h' v l e := by
  rcases ho with h1 | ⟨b, c, kd, cap, h1, h2, h3, h4, h5⟩
  · exact .inl h1
  · exact .inr ⟨b, c, kd, cap, h1, by rw [o.next]; exact h2, h3, (o.keep b (tyAt.ne (⟨_, _, _, _, _, h4⟩ : tyAt h b _) t hne)).trans h4, h5⟩
/-- A page of zeros put behind. -/
theorem app_page {n i j : Nat} {h : AH} {vp v : Value} (hp : Own n h vp (intsV (List.replicate i 0)) 3) (hv : Own n h v (intsV (List.replicate j 0)) 3) (hij : i + j < 10000) (hn : n ≤ h.next) (hj : 0 < j) (ty : TypeId) :
    ∃ v' h', evBuiltin T0 .append #[32, 32] ty [vp, v] h = some (.value v', h') ∧ Own h.next h' v' (intsV (List.replicate (i + j) 0)) 3 ∧ Grow n h h' ∧ (∀ k, k < h.next → Off vp k → h'.get k = h.get k) := by
  have hp' := hp.c
  rw [intsV_len, List.length_replicate] at hp'
  obtain ⟨v', h', e1, e2, e3, e4, e5⟩ := append_big und_ints tt_int ti_int.1 ti_int.2.1 (by have := ti_int.2.2; omega) hp' (appended_row hv.row) (by rw [Nat.mul_one]) (intsV_one _) (by rw [intsV_len, List.length_replicate]; omega) hn ty
  have e6 := (e5 (by rw [intsV_len, List.length_replicate]; exact hj)).own
  rw [show intsV (List.replicate i 0) ++ intsV (List.replicate j 0) = intsV (List.replicate (i + j) 0) by simp [intsV, ← List.replicate_append_replicate]] at e6
  exact ⟨v', h', e1, e6, e3, e4⟩
abbrev PageC (call : Abs.Callee) : Prop := ∀ (r : Nat) (h : AH), ∃ v' h', call 103 [pv r 0, iv 0] h = some (v', h') ∧ Own h.next h' v' (intsV (List.replicate 30 0)) 3 ∧ Grow h.next h h'
noncomputable def bodyRd : Code := part Tryz.f71 [1, 1, 1, 1, 0, 1, 0, 0]
abbrev ERd : Env := ⟨71, 92, none⟩
theorem plan_r4 : planB (regOps Tryz.f71 [1, 1, 1, 0]) 92 = some ([.one 0, .one 1, .one 2, .one 3, .one 4, .one 5, .one 6, .one 7, .eff [] 8 [0, 1, 2, 3, 4], .eff [] 9 [0], .one 10, .one 11, .eff [] 12 []], []) := by kernel_rfl
theorem plan_r8 : planB (regOps Tryz.f71 [1, 1, 1, 1, 0, 1, 0, 0, 1, 1, 0, 0, 1]) 92 = some ([.one 0, .one 1, .one 2, .one 3, .one 4, .one 5, .one 6, .eff [] 7 [0, 1, 2, 3, 4], .eff [] 8 [0], .one 9, .one 10, .eff [] 11 []], []) := by kernel_rfl
theorem plan_r11 : planB (regOps Tryz.f71 [1, 1, 1, 1, 1, 1, 0, 0]) 92 = some ([.one 0, .one 1, .one 2, .one 3, .one 4, .one 5, .one 6, .one 7, .one 8, .eff [] 9 [], .one 10, .one 11, .one 12, .one 13, .one 14, .one 15, .one 16, .one 17, .one 18, .one 19, .one 20, .eff [] 21 [], .one 22, .one 23], []) := by kernel_rfl
theorem plan_r13 : planB (regOps Tryz.f71 [1, 1, 1, 1, 1, 1, 1, 0]) 92 = some ([.one 0, .one 1, .one 2, .one 3, .one 4, .one 5, .one 6, .one 7, .one 8, .one 9, .one 10], []) := by kernel_rfl
theorem rdLp (hPg : PageC call) (n b b34 : Nat) (w v34 : Value) (hnb : n ≤ b) (hn34 : ∀ k, k ≠ b34 → Off v34 k) :
    ∀ (k i : Nat) (vp : Value) (h : AH) (tm : PM Value) (N : Nat), i + k = 30 → k + 60 ≤ N → n ≤ h.next → b < h.next → b34 < h.next → BoxL h b 152 (rdL w vp) → Own n h vp (intsV (List.replicate (34 + 30 * i) 0)) 3 → Own n h v34 (intsV (List.replicate 30 0)) 3 → Off vp b34 →
      tm.get 7 = some (pv b 0) → tm.get 34 = some v34 → tm.get 35 = some (iv 30) → tm.get 36 = some (iv i) →
      ∃ tm' h', codeB T0 X0 call N ERd (.loop bodyRd) tm h [] = .jump (.exit 0) tm' h' [] ∧ ((tm'.get 7 = some (pv b 0) ∧ ∃ vp', BoxL h' b 152 (rdL w vp') ∧ Own n h' vp' (intsV (List.replicate 934 0)) 3) ∧ Grow n h h') := by
  intro k
  induction k with
  | zero =>
    intro i vp h tm N hi hN hn hb h34 hB hp hv hoff g7 g34 g35 g36
    obtain ⟨N, rfl⟩ : ∃ a, N = a + 60 := ⟨N - 60, by omega⟩
    have hiB : i = 30 := by omega
    subst hiB
    apply Exists.intro; apply Exists.intro
    refine ⟨?_, ⟨?_, vp, hB, hp⟩, Grow.refl _ _⟩
    · rw [codeB_loop]
      simp only [bodyRd, part, Tryz.f71, sub, symM, opFn, Nat.reduceLT, symM, g35, g36, bin_lss, show decide (((30 : Nat) : Int) < 30) = false from rfl]
      rfl
    · simp only [symM, Nat.reduceBEq, g7]
  | succ k ih =>
    intro i vp h tm N hi hN hn hb h34 hB hp hv hoff g7 g34 g35 g36
    obtain ⟨N, rfl⟩ : ∃ a, N = a + 60 := ⟨N - 60, by omega⟩
    obtain ⟨p, a1, a2⟩ := hv.row.at und_ints sz_int agg_int (i := i) (x := iv 0) (by rw [intsV, List.map_replicate, List.getElem?_replicate, if_pos (by omega)]; rfl)
    obtain ⟨v1, h1, b1, b2, b3⟩ := hPg b h
    have n1 := b3.next
    have hB1 := hB.grow b3 hb
    have hp1 := hp.grow b3
    have hv1 := hv.grow b3
    obtain ⟨v2, h2, c1, c2, c3, c4⟩ := app_page hp1 (b2.less hn) (by omega) (by omega) (by omega) 32
    have n2 := c3.next
    have hB2 := hB1.keep (c4 b (by omega) (hp1.offT hB1.ty (by decide)))
    have hv2 : Own n h2 v34 (intsV (List.replicate 30 0)) 3 := by
      rcases hv1 with q | ⟨bb, c, kd, cap, q1, q2, q3, q4, q5⟩
      · exact .inl q
      · have hbb : bb = b34 := by
          refine Classical.byContradiction fun ne => ?_
          exact hn34 bb ne _ _ _ q3
        subst hbb
        exact .inr ⟨bb, c, kd, cap, q1, Nat.lt_of_lt_of_le q2 n2, q3, (c4 bb q2 hoff).trans q4, q5⟩
    obtain ⟨h3, d1, d2, d3⟩ := rd_store hB2 c2.one1
    have n3 := d3.next
    have hp3 := (c2.less (show n ≤ h1.next by omega)).ones d3 hB2.ty (by decide)
    have hv3 := hv2.ones d3 hB2.ty (by decide)
    rw [show 34 + 30 * i + 30 = 34 + 30 * (i + 1) by omega] at hp3
    have G3 : Grow n h h3 := ((b3.less hn).trans c3 (Nat.le_refl _)).trans (d3.grow hnb) (Nat.le_refl _)
    have ld := (rd_loads hB).1
    have ld1 := (rd_loads hB1).1
    have hpp := plan_r8
    simp only [regOps, part, Tryz.f71, sub] at hpp
    rw [show N + 60 = (N + 59) + 1 from rfl, codeB_loop]
    simp only [bodyRd, part, Tryz.f71, sub, symM, opFn, Nat.reduceLT, Nat.reduceBEq, symM, g34, g35, g36, bin_lss, decide_eq_true (show (i : Int) < 30 by omega), a1, a2]
    rw [codeB_draw, draw_plan hpp rfl]
    simp only [drawAll, opFn, Nat.reduceLT, Nat.reduceBEq, nil_pv, g7, g36, field_Rd, ld, ld1, hp.eqv, evCall_fn ft103 rfl, b1, effE_cons, c1, d1, bin_add, wadd1 (show i ≤ 400000 by omega)]
    exact wrapE (ih (i + 1) v2 h3 _ (N + 59) (by omega) (by omega) (by omega) (by omega) (by omega) d2 hp3 hv3 (c2.off_ge (by omega)) (by simp only [symM, Nat.reduceBEq, g7]) (by simp only [symM, Nat.reduceBEq, g34]) (by simp only [symM, Nat.reduceBEq, g35]) get_same) G3
theorem trimL_rep (k : Nat) : trimL (List.replicate k 0) = [] := by
  induction k with
  | zero => rfl
  | succ k ih => rw [List.replicate_succ', trimL_zero, ih]
theorem build_R {a o l c a' o' l' c' : Nat} {h : AH} : evBuild T0 152 [(0, .slice (some ⟨a, o, none⟩) l c), (1, .slice (some ⟨a', o', none⟩) l' c')] h = some (.agg (rdL (.slice (some ⟨a, o, none⟩) l c) (.slice (some ⟨a', o', none⟩) l' c')).toArray, h) := by kernel_rfl
theorem Own.only {n : Nat} {h : AH} {v : Value} {l : List Value} {e : TypeId} (ho : Own n h v l e) (h0 : l ≠ []) : ∃ b, n ≤ b ∧ b < h.next ∧ ∀ k, k ≠ b → Off v k := by
  rcases ho with ⟨_, q⟩ | ⟨b, c, kd, cap, q1, q2, rfl, _⟩
  · exact absurd q h0
  · exact ⟨b, q1, q2, fun k hk o l' c' hv => by cases hv; exact hk rfl⟩
abbrev TrimC (call : Abs.Callee) : Prop := ∀ (l : List Nat) (n : Nat) (v : Value) (h : AH), n ≤ h.next → RowI n h v (intsV l) → l.length < 2000 → ∃ v' h', call 104 [v] h = some (v', h') ∧ Own h.next h' v' (intsV (trimL l)) 3 ∧ Grow h.next h h'
abbrev PtrEC (call : Abs.Callee) : Prop := ∀ (v : Value) (h : AH), EmpI v → ∃ h', call 105 [v] h = some (.bool true, h') ∧ Grow h.next h h'
abbrev ApartC (call : Abs.Callee) : Prop := ∀ (x y : Value) (h : AH), EmpI x → EmpI y → ∃ h', call 106 [x, y] h = some (.bool true, h') ∧ Grow h.next h h'
theorem rp_nil4 : intsV (List.replicate 4 0) = [iv 0, iv 0, iv 0, iv 0] := rfl
theorem TRead_S (hCl : CloneIC call) (hPg : PageC call) (hTr : TrimC call) (hPt : PtrEC call) (hAp : ApartC call) (w : Value) (h : AH) (hw : SLv w) :
    ∃ v' h', frameB T0 X0 call 3000 71 [nodeV (rootN 1) nilV, w] h = some (.tuple #[v', nilV, iv 0], h') ∧ EmpI v' ∧ Grow h.next h h' := by
  generalize hh1 : h.new (.cells (PM.ofList (nodeL (rootN 1) nilV)) (nodeL (rootN 1) nilV).length 51 0 0 .ex) = h1
  have g1 : Grow h.next h h1 := by rw [← hh1]; exact Grow.new _ _
  have n1 : h1.next = h.next + 1 := by rw [← hh1]; rfl
  have nb1 : NodeB h1 h.next (rootN 1) nilV := by rw [← hh1]; exact NodeB.new _ _ _
  have hbx : rp (some (evNewVar h 51 (nodeV (rootN 1) nilV))) = some (.value (pv h.next 0), h1) := by rw [← hh1]; exact box_agg
  have ldN := nb1.loads
  have hrow : Row h1.next h1 (.slice (some ⟨h.next, 4, none⟩) 4 4) (intsV (List.replicate 4 0)) 3 := by
    obtain ⟨c, q1, q2⟩ := nb1
    exact .inr ⟨h.next, 4, 4, c, _, 0, 0, .ex, _, rfl, by omega, q1, by decide, fun i x hi => by
      match i, hi with
      | 0, hi => cases hi; exact q2 4 _ rfl
      | 1, hi => cases hi; exact q2 5 _ rfl
      | 2, hi => cases hi; exact q2 6 _ rfl
      | 3, hi => cases hi; exact q2 7 _ rfl
      | i + 4, hi => simp [intsV] at hi⟩
  obtain ⟨v2, h2, a1, a2, a3⟩ := hCl h.next 4 4 4 _ h1.next h1 hrow (Nat.le_refl _) (intsV_one _) (by decide)
  have n2 := a3.next
  generalize hh3 : h2.new (.cells (PM.ofList (rdL w v2)) (rdL w v2).length 152 0 0 .ex) = h3
  have g3 : Grow h2.next h2 h3 := by rw [← hh3]; exact Grow.new _ _
  have n3 : h3.next = h2.next + 1 := by rw [← hh3]; rfl
  have r3 : BoxL h3 h2.next 152 (rdL w v2) := by rw [← hh3]; exact BoxL.new _ _ _
  have hbx3 : rp (some (evNewVar h2 152 (.agg (rdL w v2).toArray))) = some (.value (pv h2.next 0), h3) := by rw [← hh3]; exact box_agg
  have hbR : ∀ h, evBuild T0 152 [(0, w), (1, v2)] h = some (.agg (rdL w v2).toArray, h) := fun h => by
    obtain ⟨_, _, _, rfl⟩ := hw
    rcases a2 with ⟨_, q⟩ | ⟨b, c, kd, cap, _, _, rfl, _⟩
    · simp [intsV] at q
    · exact build_R
  have p3 := (a2.grow g3).less (show h.next ≤ h1.next by omega)
  have nb3 : NodeB h3 h.next (rootN 1) nilV := (nb1.grow a3 (by omega)).grow g3 (by omega)
  obtain ⟨v4, h4, b1, b2, b3⟩ := hPg h2.next h3
  have n4 := b3.next
  have r4 := r3.grow b3 (by omega)
  have p4 := p3.grow b3
  have nb4 := nb3.grow b3 (by omega)
  obtain ⟨v5, h5, c1, c2, c3, c4⟩ := app_page p4 (b2.less (show h.next ≤ h3.next by omega)) (by decide) (by omega) (by decide) 32
  have n5 := c3.next
  have r5 := r4.keep (c4 h2.next (by omega) (p4.offT r4.ty (by decide)))
  have nb5 : NodeB h5 h.next (rootN 1) nilV := BoxL.keep nb4 (c4 h.next (by omega) (p4.offT (BoxL.ty nb4) (by decide)))
  obtain ⟨h6, d1, d2, d3⟩ := rd_store r5 c2.one1
  have n6 := d3.next
  have p6 := (c2.less (show h.next ≤ h4.next by omega)).ones d3 r5.ty (by decide)
  have nb6 : NodeB h6 h.next (rootN 1) nilV := BoxL.one nb5 d3 (by omega)
  obtain ⟨v34, h7, e1, e2, e3⟩ := hPg h2.next h6
  have n7 := e3.next
  obtain ⟨b34, o1, o2, o3⟩ := e2.only (by simp [intsV])
  have hlen34 : ∀ ty h', evBuiltin T0 .len #[32] ty [v34] h' = some (.value (iv 30), h') := fun ty h' => by rw [e2.row.len und_ints]; rfl
  have G7 : Grow h.next h h7 := by
    have x1 := g1.trans a3 (by omega)
    have x2 := x1.trans g3 (by omega)
    have x3 := x2.trans b3 (by omega)
    have x4 := x3.trans c3 (Nat.le_refl _)
    have x5 := x4.trans (d3.grow (show h.next ≤ h2.next by omega)) (Nat.le_refl _)
    exact x5.trans e3 (by omega)
  have ld3 := (rd_loads r3).1
  have ld4 := (rd_loads r4).1
  have ldN3 := nb3.loads
  have ldN6 := nb6.loads
  have hp4 := plan_r4
  simp only [regOps, part, Tryz.f71, sub] at hp4
  rw [frameB_eq ft71 rfl rfl]
  simp only [Tryz.f71, symM, opFn, Nat.reduceLT, Nat.reduceBEq, symM, hbx, field_N, ldN, bin_neq, show ((((rootN 1).f : Nat) : Int) == 1) = true from rfl, ev3, evOpt, slice_arr, evCall_fn ft102 rfl, a1, hbR, hbx3]
  rw [codeB_draw, draw_plan hp4 rfl]
  simp only [drawAll, opFn, Nat.reduceLT, Nat.reduceBEq, nil_pv, field_Rd, ld3, ld4, p3.eqv, field_N, ldN3, evCall_fn ft103 rfl, show ((rootN 1).si : Int) = 0 from rfl, b1, effE_cons, c1, d1]
  simp only [symM, opFn, Nat.reduceLT, Nat.reduceBEq, symM, symL, ldN6, show ((rootN 1).du : Int) = 0 from rfl, evCall_fn ft103 rfl, e1, hlen34]
  generalize hX : codeB T0 X0 call _ ERd (.loop _) _ _ _ = X
  obtain ⟨t1, h8, s1, ⟨s2, vp, s3, s4⟩, s5⟩ := use_exit hX (rdLp hPg h.next h2.next b34 w v34 (by omega) o3 30 0 v5 h7 _ _ (by omega) (by omega) (by omega) (by omega) (by omega) (d2.grow e3 (by omega)) (p6.grow e3) (e2.less (by omega)) (p6.apart (by omega)) (by simp only [symM, Nat.reduceBEq]) (by simp only [symM, Nat.reduceBEq]) (by simp only [symM, Nat.reduceBEq]) (by simp only [symM]; rfl))
  clear hX
  subst s1
  have n8 := s5.next
  obtain ⟨v9, h9, u1, u2, u3⟩ := hTr (List.replicate 934 0) h8.next vp h8 (Nat.le_refl _) (s4.rowI (by simp [intsV]) (by rw [intsV_len, List.length_replicate]; decide)) (by rw [List.length_replicate]; decide)
  rw [trimL_rep] at u2
  have hev := u2.eqv
  have u2 := u2.emp
  have n9 := u3.next
  have r9 := s3.grow u3 (by omega)
  obtain ⟨h10, y1, y2, y3⟩ := rd_store r9 u2.one1
  have n10 := y3.next
  obtain ⟨h11, z1, z2⟩ := hPt v9 h10 u2
  have n11 := z2.next
  have r11 := y2.grow z2 (by omega)
  obtain ⟨h12, k1, k2⟩ := hAp nilV v9 h11 EmpI.nil u2
  have n12 := k2.next
  have r12 := r11.grow k2 (by omega)
  have G12 : Grow h.next h h12 := by
    have x1 := G7.trans s5 (Nat.le_refl _)
    have x2 := x1.trans u3 (by omega)
    have x3 := x2.trans (y3.grow (show h.next ≤ h2.next by omega)) (Nat.le_refl _)
    have x4 := x3.trans z2 (by omega)
    exact x4.trans k2 (by omega)
  refine ⟨v9, h12, ?_, u2, G12⟩
  have l8 := (rd_loads s3).1
  have l10 := rd_loads y2
  have l11 := rd_loads r11
  have l12 := rd_loads r12
  have hp11 := plan_r11
  simp only [regOps, part, Tryz.f71, sub] at hp11
  have hp13 := plan_r13
  simp only [regOps, part, Tryz.f71, sub] at hp13
  simp only [symM, opFn, Nat.reduceLT, Nat.reduceBEq, symM, symL, s2, nil_pv, field_Rd, l8, evCall_fn ft104 rfl, u1, y1]
  rw [codeB_draw, draw_plan hp11 rfl]
  simp only [drawAll, opFn, Nat.reduceBEq, nil_pv, s2, field_Rd, l10, l11, evCall_fn ft105 rfl, z1, evCall_fn ft106 rfl, k1]
  rw [draw_plan hp13 rfl]
  simp only [drawAll, opFn, Nat.reduceBEq, nil_pv, s2, field_Rd, l12]
  exact retB_three ft71 rfl (by simp only [symM, Nat.reduceBEq]) (by simp only [symM, Nat.reduceBEq]) get_same
end
end Go.Proofs.YtonfgflgnnkniaaGreat.Abs
namespace Go.Proofs.YtonfgflgnnkniaaGreat.Abs
open Go Go.Proofs
noncomputable section
variable {call : Abs.Callee}
set_option maxRecDepth 10000
theorem ft73 : T0.ft.get 73 = some Tryz.f73 := by kernel_rfl
theorem ft74 : T0.ft.get 74 = some Tryz.f74 := by kernel_rfl
theorem ft114 : T0.ft.get 114 = some Tryz.f114 := by kernel_rfl
theorem ft113 : T0.ft.get 113 = some Tryz.f113 := by kernel_rfl
theorem ft79 : T0.ft.get 79 = some Tryz.f79 := by kernel_rfl
theorem retB_cell12 {T : Tab} {f : Nat} {tm : PM Value} {h : AH} {fd : Func} {t u s : Nat} {ty : TypeId} {p v w x : Value} (hf : T.ft.get f = some fd) (hr : fd.results = #[.cell t ty, .tmp u, .tmp s]) (hp : tm.get t = some p) (hv : evLoad T ty p h = some v) (hw : tm.get u = some w) (hx : tm.get s = some x) : retB T f tm h [] = some (.tuple #[v, w, x], h) := by
  unfold retB undef1
  simp only [resultA, hf, hr]
  show (match (match resultsA T h tm [.cell t ty, .tmp u, .tmp s] with | some l => some (one l) | none => none) with | some v => some (v, h) | none => none) = _
  unfold evLoad at hv
  split at hv
  · simp only [resultsA, hp, hv, hw, hx]
    rfl
  · cases hv
theorem retB_cell13 {T : Tab} {f : Nat} {tm : PM Value} {h : AH} {fd : Func} {t u s r : Nat} {ty : TypeId} {p v w x y : Value} (hf : T.ft.get f = some fd) (hr : fd.results = #[.cell t ty, .tmp u, .tmp s, .tmp r]) (hp : tm.get t = some p) (hv : evLoad T ty p h = some v) (hw : tm.get u = some w) (hx : tm.get s = some x) (hy : tm.get r = some y) : retB T f tm h [] = some (.tuple #[v, w, x, y], h) := by
  unfold retB undef1
  simp only [resultA, hf, hr]
  show (match (match resultsA T h tm [.cell t ty, .tmp u, .tmp s, .tmp r] with | some l => some (one l) | none => none) with | some v => some (v, h) | none => none) = _
  unfold evLoad at hv
  split at hv
  · simp only [resultsA, hp, hv, hw, hx, hy]
    rfl
  · cases hv
theorem nilE_eql {p q : Operand} {h : AH} : evBin T0 .eql 49 p q nilV nilV h = some (.bool true) := by kernel_rfl
theorem CloneE_S (h : AH) : frameB T0 X0 call 3000 79 [nilV] h = some (nilV, h) := by
  rw [frameB_eq ft79 rfl rfl]
  simp only [Tryz.f79, symM, opFn, Nat.reduceLT, Nat.reduceBEq, symM, nilE_eql]
  exact retB_one ft79 rfl get_same
abbrev Ext0C (call : Abs.Callee) : Prop := ∀ h : AH, ∃ h', call 89 [nilV] h = some (.bool true, h') ∧ Grow h.next h h'
theorem ESound_S (hE : Ext0C call) (h : AH) : ∃ h', frameB T0 X0 call 3000 113 [nilV] h = some (.bool true, h') ∧ Grow h.next h h' := by
  obtain ⟨h1, a1, a2⟩ := hE h
  refine ⟨h1, ?_, a2⟩
  rw [frameB_eq ft113 rfl rfl]
  simp only [Tryz.f113, symM, opFn, Nat.reduceLT, Nat.reduceBEq, symM, evCall_fn ft89 rfl, a1]
  exact retB_one ft113 rfl get_same
def z96 : List Value := List.replicate 96 (iv 0)
theorem z96_one : z96.all oneCell = true := by decide
theorem agg_96 : aggT T0 164 = some true := by kernel_rfl
theorem sz_96 : szOf T0 164 = some 96 := by kernel_rfl
theorem alloc_96 {h : AH} : evAlloc T0 164 h = some (pv h.next 0, h.new (.cells (PM.ofList z96) 96 164 0 0 .ex)) := by
  unfold evAlloc
  rw [show zeroOf T0 164 = some (.agg z96.toArray) from by kernel_rfl]
  rfl
theorem z96_load {h : AH} {b : Nat} (hb : BoxL h b 164 z96) : evLoad T0 164 (pv b 0) h = some (.agg z96.toArray) := hb.loadA (o := 0) (ws := z96) agg_96 sz_96 (Nat.le_refl _) (fun i x hi => by rw [Nat.zero_add]; exact hi)
theorem z96_store {h : AH} {b : Nat} (hb : BoxL h b 164 z96) : ∃ h', evStore T0 164 (pv b 0) (.agg z96.toArray) h = some h' ∧ BoxL h' b 164 z96 ∧ One b h h' := by
  obtain ⟨h', s1, s2, s3, s4⟩ := BoxL.store (n := b) (o := 0) (v := .agg z96.toArray) hb (ws := z96) sz_96 rfl (by decide) z96_one (Nat.le_refl _) (Nat.le_refl _)
  exact ⟨h', s1, s2, s4, evStore_keep s1⟩
theorem to0_S (h : AH) : ∃ h', frameB T0 X0 call 3000 114 [nilV] h = some (.agg z96.toArray, h') ∧ Grow h.next h h' := by
  generalize hh1 : h.new (.cells (PM.ofList z96) 96 164 0 0 .ex) = h1
  have g1 : Grow h.next h h1 := by rw [← hh1]; exact Grow.new _ _
  have n1 : h1.next = h.next + 1 := by rw [← hh1]; rfl
  have b1 : BoxL h1 h.next 164 z96 := by rw [← hh1]; exact BoxL.new _ _ _
  generalize hh2 : h1.new (.cells (PM.ofList z96) 96 164 0 0 .ex) = h2
  have g2 : Grow h1.next h1 h2 := by rw [← hh2]; exact Grow.new _ _
  have b2 : BoxL h2 h1.next 164 z96 := by rw [← hh2]; exact BoxL.new _ _ _
  have b12 := b1.grow g2 (by omega)
  obtain ⟨h3, s1, s2, s3⟩ := z96_store b12
  refine ⟨h3, ?_, (g1.trans g2 (by omega)).trans (s3.grow (Nat.le_refl _)) (Nat.le_refl _)⟩
  have hlen : ∀ ty h', evBuiltin T0 .len #[49] ty [nilV] h' = some (.value (iv 0), h') := fun ty h' => len_slice und_exts
  rw [frameB_eq ft114 rfl rfl]
  simp only [Tryz.f114, symM, opFn, Nat.reduceLT, Nat.reduceBEq, symM, symL, alloc_96, hh1, hh2, hlen, codeB_loop, bin_lss, show decide ((0 : Int) < 0) = false from rfl, z96_load b2, s1]
  exact retB_cell ft114 rfl (by simp only [symM, Nat.reduceBEq]) (z96_load s2)
theorem slice_96 {b : Nat} {h : AH} : evSliceX T0 164 (pv b 0) none none none h = some (.slice (some ⟨b, 0, none⟩) 96 96, h) := by kernel_rfl
abbrev ESndC (call : Abs.Callee) : Prop := ∀ h : AH, ∃ h', call 113 [nilV] h = some (.bool true, h') ∧ Grow h.next h h'
abbrev To0C (call : Abs.Callee) : Prop := ∀ h : AH, ∃ h', call 114 [nilV] h = some (.agg z96.toArray, h') ∧ Grow h.next h h'
theorem To_S (hS : ESndC call) (hT : To0C call) (hTr : TrimC call) (h : AH) : ∃ v' h', frameB T0 X0 call 3000 74 [nilV] h = some (.tuple #[v', iv 0], h') ∧ EmpI v' ∧ Grow h.next h h' := by
  obtain ⟨h1, a1, a2⟩ := hS h
  obtain ⟨h2, b1, b2⟩ := hT h1
  have n1 := a2.next
  have n2 := b2.next
  generalize hh3 : h2.new (.cells (PM.ofList z96) 96 164 0 0 .ex) = h3
  have g3 : Grow h2.next h2 h3 := by rw [← hh3]; exact Grow.new _ _
  have n3 : h3.next = h2.next + 1 := by rw [← hh3]; rfl
  have c3 : BoxL h3 h2.next 164 z96 := by rw [← hh3]; exact BoxL.new _ _ _
  obtain ⟨h4, s1, s2, s3⟩ := z96_store c3
  have n4 := s3.next
  have hr : RowI h4.next h4 (.slice (some ⟨h2.next, 0, none⟩) 96 96) (intsV (List.replicate 96 0)) := by
    obtain ⟨c, q1, q2⟩ := s2
    exact ⟨h2.next, 0, 96, c, _, 0, 0, .ex, _, 96, rfl, .inl ⟨by decide, rfl⟩, by decide, by omega, q1, by decide, fun i x hi => by rw [Nat.zero_add]; refine q2 i x ?_; rw [intsV, List.map_replicate] at hi; exact hi⟩
  obtain ⟨v5, h5, d1, d2, d3⟩ := hTr (List.replicate 96 0) h4.next _ h4 (Nat.le_refl _) hr (by rw [List.length_replicate]; decide)
  rw [trimL_rep] at d2
  refine ⟨v5, h5, ?_, d2.emp, ((((a2.trans b2 n1).trans g3 (by omega)).trans (s3.grow (show h.next ≤ h2.next by omega)) (Nat.le_refl _)).trans d3 (by omega))⟩
  rw [frameB_eq ft74 rfl rfl]
  simp only [Tryz.f74, symM, opFn, Nat.reduceLT, Nat.reduceBEq, symM, evCall_fn ft113 rfl, a1, evCall_fn ft114 rfl, b1, alloc_96, hh3, s1, ev3, evOpt, slice_96, evCall_fn ft104 rfl, d1]
  exact retB_two ft74 rfl (by simp only [symM, Nat.reduceBEq]) get_same
abbrev CloE0C (call : Abs.Callee) : Prop := ∀ h : AH, call 79 [nilV] h = some (nilV, h)
theorem plan_c4 : planB (regOps Tryz.f73 [1, 0, 1, 1, 0]) 81 = some ([.one 0, .one 1, .one 2, .one 3, .one 4, .one 5, .one 6, .one 7], []) := by kernel_rfl
theorem alloc_Es {h : AH} : evAlloc T0 49 h = some (pv h.next 0, h.new (.cells (PM.ofList [nilV]) 1 49 0 0 .ex)) := by
  unfold evAlloc
  rw [show zeroOf T0 49 = some nilV from by kernel_rfl]
  rfl
theorem es_store {h : AH} {b : Nat} (hb : BoxL h b 49 [nilV]) : ∃ h', evStore T0 49 (pv b 0) nilV h = some h' ∧ BoxL h' b 49 [nilV] ∧ One b h h' := by
  obtain ⟨h', s1, s2, s3, s4⟩ := BoxL.store (n := b) (o := 0) (v := nilV) hb (ws := [nilV]) sz_exts rfl (by decide) rfl (Nat.le_refl _) (Nat.le_refl _)
  exact ⟨h', s1, s2, s4, evStore_keep s1⟩
abbrev ContI0C (call : Abs.Callee) : Prop := ∀ (f : Value) (h : AH), call 75 [nilV, f] h = some (.bool false, h)
theorem CRead_S (hCl : CloE0C call) (hE : Ext0C call) (hCo : ContI0C call) (w : Value) (h : AH) : ∃ h', frameB T0 X0 call 3000 73 [nodeV (rootN 2) nilV, w] h = some (.tuple #[nilV, nilV, iv 0], h') ∧ Grow h.next h h' := by
  generalize hh1 : h.new (.cells (PM.ofList (nodeL (rootN 2) nilV)) (nodeL (rootN 2) nilV).length 51 0 0 .ex) = h1
  have g1 : Grow h.next h h1 := by rw [← hh1]; exact Grow.new _ _
  have n1 : h1.next = h.next + 1 := by rw [← hh1]; rfl
  have nb1 : NodeB h1 h.next (rootN 2) nilV := by rw [← hh1]; exact NodeB.new _ _ _
  have hbx : rp (some (evNewVar h 51 (nodeV (rootN 2) nilV))) = some (.value (pv h.next 0), h1) := by rw [← hh1]; exact box_agg
  generalize hh2 : h1.new (.cells (PM.ofList [nilV]) 1 49 0 0 .ex) = h2
  have g2 : Grow h1.next h1 h2 := by rw [← hh2]; exact Grow.new _ _
  have n2 : h2.next = h1.next + 1 := by rw [← hh2]; rfl
  have e2 : BoxL h2 h1.next 49 [nilV] := by rw [← hh2]; exact BoxL.new _ _ _
  have nb2 : NodeB h2 h.next (rootN 2) nilV := nb1.grow g2 (by omega)
  obtain ⟨h3, s1, s2, s3⟩ := es_store e2
  have n3 := s3.next
  have nb3 : NodeB h3 h.next (rootN 2) nilV := BoxL.one nb2 s3 (by omega)
  obtain ⟨h4, t1, t2⟩ := hE h3
  have n4 := t2.next
  have e4 := s2.grow t2 (by omega)
  obtain ⟨h5, u1, u2, u3⟩ := es_store e4
  have G3 : Grow h.next h h3 := (g1.trans g2 (by omega)).trans (s3.grow (show h.next ≤ h1.next by omega)) (Nat.le_refl _)
  refine ⟨h5, ?_, (G3.trans t2 (by omega)).trans (u3.grow (show h.next ≤ h1.next by omega)) (Nat.le_refl _)⟩
  have ld2 := nb2.loads
  have ld3 := nb3.loads
  have l3 : evLoad T0 49 (pv h1.next 0) h3 = some nilV := s2.load agg_exts rfl
  have l4 : evLoad T0 49 (pv h1.next 0) h4 = some nilV := e4.load agg_exts rfl
  have l5 : evLoad T0 49 (pv h1.next 0) h5 = some nilV := u2.load agg_exts rfl
  have hlen : ∀ ty h', evBuiltin T0 .len #[49] ty [nilV] h' = some (.value (iv 0), h') := fun ty h' => len_slice und_exts
  have hp := plan_c4
  simp only [regOps, part, Tryz.f73, sub] at hp
  rw [frameB_eq ft73 rfl rfl]
  simp only [Tryz.f73, symM, opFn, Nat.reduceLT, Nat.reduceBEq, symM, codeB_scope0, codeB_scope, hbx, alloc_Es, hh2, field_N, ld2, bin_neq, show ((((rootN 2).f : Nat) : Int) == 2) = true from rfl, evCall_fn ft79 rfl, hCl, s1]
  rw [codeB_draw, draw_plan hp rfl]
  simp only [drawAll, opFn, Nat.reduceLT, Nat.reduceBEq, field_N, ld3, hlen, bin_eql, show ((0 : Int) == 3) = false from rfl]
  simp only [symM, opFn, Nat.reduceLT, Nat.reduceBEq, symM, show ((rootN 2).c : Int) = 0 from rfl, bin_neq, show ((0 : Int) == 0) = true from rfl, l3, evCall_fn ft89 rfl, t1, evCall_fn ft75 rfl, hCo, l4, u1, unscope_ret]
  exact retB_cell12 ft73 rfl (by simp only [symM, Nat.reduceBEq]) l5 (by simp only [symM, Nat.reduceBEq]) get_same
end
end Go.Proofs.YtonfgflgnnkniaaGreat.Abs
namespace Go.Proofs.YtonfgflgnnkniaaGreat.Abs
open Go Go.Proofs
noncomputable section
variable {call : Abs.Callee}
set_option maxRecDepth 10000
theorem ft36 : T0.ft.get 36 = some Tryz.f36 := by kernel_rfl
abbrev DataC (call : Abs.Callee) : Prop := ∀ (pI B f : Nat) (bss : List (List Nat)) (h : AH), ImgR h pI B f bss → bss.length < 900 → 59 < bss.length → ∃ v' h', call 72 [pv pI 0] h = some (v', h') ∧ SLv v' ∧ Grow h.next h h'
abbrev TReadC (call : Abs.Callee) : Prop := ∀ (w : Value) (h : AH), SLv w → ∃ v' h', call 71 [nodeV (rootN 1) nilV, w] h = some (.tuple #[v', nilV, iv 0], h') ∧ EmpI v' ∧ Grow h.next h h'
abbrev CReadC (call : Abs.Callee) : Prop := ∀ (w : Value) (h : AH), ∃ h', call 73 [nodeV (rootN 2) nilV, w] h = some (.tuple #[nilV, nilV, iv 0], h') ∧ Grow h.next h h'
abbrev ToC (call : Abs.Callee) : Prop := ∀ h : AH, ∃ v' h', call 74 [nilV] h = some (.tuple #[v', iv 0], h') ∧ EmpI v' ∧ Grow h.next h h'
theorem plan_n6 : planB (regOps Tryz.f36 [1, 1, 0, 1, 1, 0, 1, 0]) 75 = some ([.one 0, .one 1, .eff [] 2 [0], .eff [] 3 [], .one 4, .one 5, .one 6, .one 7, .one 8, .one 9, .one 10], []) := by kernel_rfl
theorem plan_n9 : planB (regOps Tryz.f36 [1, 1, 0, 1, 1, 0, 1, 1, 1, 0, 1, 0]) 75 = some ([.one 0, .one 1, .eff [] 2 [0], .eff [] 3 [], .one 4, .one 5, .one 6, .one 7, .one 8, .one 9, .one 10], []) := by kernel_rfl
theorem agg_pI : aggT T0 23 = some false := by kernel_rfl
theorem box_pI {p : Nat} {h : AH} : rp (some (evNewVar h 23 (pv p 0))) = some (.value (pv h.next 0), h.new (.cells (PM.ofList [pv p 0]) 1 23 0 0 .ex)) := box_one rfl
/-- How Node ends: the checks of its blocks, and its result. -/
theorem Node_S (hD : DataC call) (hT : TReadC call) (hC : CReadC call) (hTo : ToC call) (hCc : ConcatC call) (hCo : ContI0C call) (hCl : CloE0C call) (pI B f i : Nat) (k1 : 64 ≤ B) (k2 : B ≤ 480) (hf1 : 1 ≤ f) (hf2 : f ≤ 2) (hi : i < 32) (h : AH) (hI : ImgR h pI B f (madeL B f)) :
    ∃ v' h', frameB T0 X0 call 3000 36 [pv pI 0, iv i] h = some (.tuple #[nodeV (nodeAt (rootN f) i) nilV, v', nilV, iv 0], h') ∧ EmpI v' ∧ Grow h.next h h' := by
  generalize hh1 : h.new (.cells (PM.ofList [pv pI 0]) 1 23 0 0 .ex) = h1
  have g1 : Grow h.next h h1 := by rw [← hh1]; exact Grow.new _ _
  have n1 : h1.next = h.next + 1 := by rw [← hh1]; rfl
  have p1 : BoxL h1 h.next 23 [pv pI 0] := by rw [← hh1]; exact BoxL.new _ _ _
  generalize hh2 : h1.new (.cells (PM.ofList (nodeL NV.zero nilV)) 12 51 0 0 .ex) = h2
  have g2 : Grow h1.next h1 h2 := by rw [← hh2]; exact Grow.new _ _
  have n2 : h2.next = h1.next + 1 := by rw [← hh2]; rfl
  have z2 : NodeB h2 h1.next NV.zero nilV := by rw [← hh2]; exact NodeB.new _ _ _
  have p2 := p1.grow g2 (by omega)
  have G2 : Grow h.next h h2 := g1.trans g2 (by omega)
  have I2 := hI.grow G2
  obtain ⟨i1, vf, vn, vb, ws, i2, i3, i4⟩ := I2
  obtain ⟨p, a1, a2⟩ := i4.at hi
  obtain ⟨h3, s1, s2, s3, s4⟩ := z2.storeAll (k := h.next) (nodeAt (rootN f) i) (f := nilV) rfl (by omega)
  have p3 := p2.one ⟨s4, evStore_keep s1⟩ (by omega)
  have G3 : Grow h.next h h3 := G2.trans s3 (Nat.le_refl _)
  have ldp2 : evLoad T0 23 (pv h.next 0) h2 = some (pv pI 0) := p2.load agg_pI rfl
  have ldp1 : ∀ {h' : AH}, BoxL h' h.next 23 [pv pI 0] → evLoad T0 23 (pv h.next 0) h' = some (pv pI 0) := fun hb => hb.load agg_pI rfl
  have ldn := (img_loads i2).2.1
  have ld3 := s2.loads
  have hb1 : decide ((i : Int) < 0) = false := decide_eq_false (by omega)
  have hb2 : decide ((32 : Int) ≤ (i : Int)) = false := decide_eq_false (by omega)
  -- what follows: pointers x, no own blocks, no error
  have fin : ∀ (x : Value) (h4 : AH), EmpI x → Grow h3.next h3 h4 → ∃ h5 h6 h7, h4.new (.cells (PM.ofList [x, nilV]) 2 32 0 0 .ex) = h5 ∧ call 76 [.slice (some ⟨h4.next, 0, none⟩) 2 2] h5 = some (nilV, h5) ∧ evLoad T0 49 (pv h1.next 10) h5 = some nilV ∧ evStore T0 49 (pv h1.next 10) nilV h5 = some h6 ∧ evLoad T0 51 (pv h1.next 0) h6 = some (nodeV (nodeAt (rootN f) i) nilV) ∧ evStore T0 51 (pv h1.next 0) (nodeV (nodeAt (rootN f) i) nilV) h6 = some h7 ∧ evLoad T0 51 (pv h1.next 0) h7 = some (nodeV (nodeAt (rootN f) i) nilV) ∧ Grow h.next h h7 := by
    intro x h4 hx q3
    have nn := q3.next
    have z4 := s2.grow q3 (by omega)
    have g5 := Grow.new h4 (.cells (PM.ofList [x, nilV]) 2 32 0 0 .ex)
    have z5 := z4.grow g5 (by omega)
    have n5 : (h4.new (.cells (PM.ofList [x, nilV]) 2 32 0 0 .ex)).next = h4.next + 1 := rfl
    obtain ⟨h6, t1, t2, t3, t4⟩ := z5.storeE (k := h.next) (f := nilV) rfl rfl (by omega)
    obtain ⟨h7, u1, u2, u3, u4⟩ := t2.storeAll (k := h.next) (nodeAt (rootN f) i) (f := nilV) rfl (by omega)
    exact ⟨_, h6, h7, rfl, hCc x nilV h4.next _ (BoxL.new _ _ _) hx EmpI.nil, z5.loads.2.2.2.2.2.2.2.2.2.2.1, t1, t2.loads.2.2.2.2.2.2.2.2.2.2.2.2.1, u1, u2.loads.2.2.2.2.2.2.2.2.2.2.2.2.1, (((G3.trans q3 (by omega)).trans g5 (by omega)).trans t3 (Nat.le_refl _)).trans u3 (Nat.le_refl _)⟩
  have hbl := madeL_len B f
  by_cases h0 : i = 0
  · subst h0
    have hn0 : nodeAt (rootN f) 0 = rootN f := rfl
    obtain ⟨w, h4, d1, d2, d3⟩ := hD pI B f _ h3 (hI.grow G3) (by omega) (by omega)
    have n4 := d3.next
    have ldp3 := ldp1 p3
    have ldp4 := ldp1 (p3.grow d3 (by omega))
    have ldn3 : evLoad T0 51 (pv h1.next 0) h3 = some (nodeV (rootN f) nilV) := s2.loads.2.2.2.2.2.2.2.2.2.2.2.2.1
    have ldn4 : evLoad T0 51 (pv h1.next 0) h4 = some (nodeV (rootN f) nilV) := (s2.grow d3 (by omega)).loads.2.2.2.2.2.2.2.2.2.2.2.2.1
    rcases (show f = 1 ∨ f = 2 by omega) with rfl | rfl
    · obtain ⟨x, h5, e1, e2, e3⟩ := hT w h4 d2
      obtain ⟨h6, h7, h8, q1, q2, q3, q4, q5, q6, q7, q8⟩ := fin x h5 e2 (d3.trans e3 n4)
      refine ⟨x, h8, ?_, e2, q8⟩
      have hp := plan_n6
      simp only [regOps, part, Tryz.f36, sub] at hp
      rw [frameB_eq ft36 rfl rfl]
      simp only [Tryz.f36, symM, opFn, Nat.reduceLT, Nat.reduceBEq, symM, box_pI, hh1, alloc_N, hh2, ldp2, ptr_eql, bin_lss, hb1, bin_geq, hb2, nil_pv, field_I, field_st, ldn, a1, a2, s1, field_N, ld3, bin_eql, show (((nodeAt (rootN 1) 0).f : Int) == 1) = true from rfl]
      rw [codeB_draw, draw_plan hp rfl]
      simp only [drawAll, opFn, Nat.reduceLT, Nat.reduceBEq, ldp3, ldn3, ldn4, evCall_fn ft72 rfl, d1, effE_cons, hn0, eqV_nodeV, evCall_fn ft71 rfl, e1]
      simp only [symM, opFn, Nat.reduceLT, Nat.reduceBEq, symM, bin_neq, show ((0 : Int) == 0) = true from rfl, bsx_gen, goBSX_some, evParts, bs_2i e2 EmpI.nil, q1, evCall_fn ft76 rfl, q2, evCall_fn ft75 rfl, hCo, field_N, q3, evCall_fn ft79 rfl, hCl, q4, q5, q6]
      exact retB_cell13 ft36 rfl (by simp only [symM, Nat.reduceBEq]) q7 (by simp only [symM, Nat.reduceBEq]) (by simp only [symM, Nat.reduceBEq]) get_same
    · obtain ⟨h5, e1, e3⟩ := hC w h4
      obtain ⟨x, h6, o1, o2, o3⟩ := hTo h5
      have n5 := e3.next
      obtain ⟨h7, h8, h9, q1, q2, q3, q4, q5, q6, q7, q8⟩ := fin x h6 o2 ((d3.trans e3 n4).trans o3 (by omega))
      refine ⟨x, h9, ?_, o2, q8⟩
      have hp := plan_n9
      simp only [regOps, part, Tryz.f36, sub] at hp
      rw [frameB_eq ft36 rfl rfl]
      simp only [Tryz.f36, symM, opFn, Nat.reduceLT, Nat.reduceBEq, symM, box_pI, hh1, alloc_N, hh2, ldp2, ptr_eql, bin_lss, hb1, bin_geq, hb2, nil_pv, field_I, field_st, ldn, a1, a2, s1, field_N, ld3, bin_eql, show (((nodeAt (rootN 2) 0).f : Int) == 1) = false from rfl, show (((nodeAt (rootN 2) 0).f : Int) == 2) = true from rfl]
      rw [codeB_draw, draw_plan hp rfl]
      simp only [drawAll, opFn, Nat.reduceLT, Nat.reduceBEq, ldp3, ldn3, ldn4, evCall_fn ft72 rfl, d1, effE_cons, hn0, eqV_nodeV, evCall_fn ft73 rfl, e1]
      simp only [symM, opFn, Nat.reduceLT, Nat.reduceBEq, symM, bin_eql, bin_neq, show ((0 : Int) == 0) = true from rfl, evCall_fn ft74 rfl, o1, bsx_gen, goBSX_some, evParts, bs_2i o2 EmpI.nil, q1, evCall_fn ft76 rfl, q2, evCall_fn ft75 rfl, hCo, field_N, q3, evCall_fn ft79 rfl, hCl, q4, q5, q6]
      exact retB_cell13 ft36 rfl (by simp only [symM, Nat.reduceBEq]) q7 (by simp only [symM, Nat.reduceBEq]) (by simp only [symM, Nat.reduceBEq]) get_same
  · have hz : nodeAt (rootN f) i = NV.zero := by unfold nodeAt; rw [if_neg h0]
    obtain ⟨h4, h5, h6, q1, q2, q3, q4, q5, q6, q7, q8⟩ := fin nilV h3 EmpI.nil (Grow.refl _ _)
    refine ⟨nilV, h6, ?_, EmpI.nil, q8⟩
    rw [hz] at a2 s1 ld3 q5 q6 q7 ⊢
    rw [frameB_eq ft36 rfl rfl]
    simp only [Tryz.f36, symM, opFn, Nat.reduceLT, Nat.reduceBEq, symM, box_pI, hh1, alloc_N, hh2, ldp2, ptr_eql, bin_lss, hb1, bin_geq, hb2, nil_pv, field_I, field_st, ldn, a1, a2, s1, field_N, ld3, bin_eql, show ((NV.zero.f : Int) == 1) = false from rfl, show ((NV.zero.f : Int) == 2) = false from rfl, bin_neq, show ((0 : Int) == 0) = true from rfl, bsx_gen, goBSX_some, evParts, bs_2i EmpI.nil EmpI.nil, q1, evCall_fn ft76 rfl, q2, evCall_fn ft75 rfl, hCo, q3, evCall_fn ft79 rfl, hCl, q4, q5, q6]
    exact retB_cell13 ft36 rfl (by simp only [symM, Nat.reduceBEq]) q7 (by simp only [symM, Nat.reduceBEq]) (by simp only [symM, Nat.reduceBEq]) get_same
end
end Go.Proofs.YtonfgflgnnkniaaGreat.Abs
namespace Go.Proofs.YtonfgflgnnkniaaGreat.Abs
open Go Go.Proofs
noncomputable section
variable {call : Abs.Callee}
set_option maxRecDepth 10000
theorem ft37 : T0.ft.get 37 = some Tryz.f37 := by kernel_rfl
theorem ft80 : T0.ft.get 80 = some Tryz.f80 := by kernel_rfl
theorem ft83 : T0.ft.get 83 = some Tryz.f83 := by kernel_rfl
theorem ft41 : T0.ft.get 41 = some Tryz.f41 := by kernel_rfl
theorem ft119 : T0.ft.get 119 = some Tryz.f119 := by kernel_rfl
theorem ft137 : T0.ft.get 137 = some Tryz.f137 := by kernel_rfl
theorem ft109 : T0.ft.get 109 = some Tryz.f109 := by kernel_rfl
theorem ft133 : T0.ft.get 133 = some Tryz.f133 := by kernel_rfl
theorem ft18 : T0.ft.get 18 = some Tryz.f18 := by kernel_rfl
/-- All but one block is kept. -/
structure GrowBut (p : Nat) (h h' : AH) : Prop where
  next : h.next ≤ h'.next
  keep : ∀ k, k < h.next → k ≠ p → h'.get k = h.get k
theorem GrowBut.refl (p : Nat) (h : AH) : GrowBut p h h := ⟨Nat.le_refl _, fun _ _ _ => rfl⟩
theorem GrowBut.trans {p : Nat} {a b c : AH} (x : GrowBut p a b) (y : GrowBut p b c) : GrowBut p a c :=
  ⟨Nat.le_trans x.next y.next, fun k hk hp => (y.keep k (Nat.lt_of_lt_of_le hk x.next) hp).trans (x.keep k hk hp)⟩
theorem Grow.but {h h' : AH} (g : Grow h.next h h') (p : Nat) : GrowBut p h h' := ⟨g.next, fun k hk _ => g.keep k hk⟩
theorem One.but {p : Nat} {h h' : AH} (o : One p h h') : GrowBut p h h' := ⟨Nat.le_of_eq o.next.symm, fun k _ hp => o.keep k hp⟩
theorem GrowBut.grow {p n : Nat} {h h' : AH} (g : GrowBut p h h') (hn : n ≤ p) (hn2 : n ≤ h.next) : Grow n h h' := ⟨g.next, fun k hk => g.keep k (by omega) (by omega)⟩
theorem Bks.but {p e : Nat} {h h' : AH} {v : Value} {bs : List Nat} (hb : Bks h v bs) (g : GrowBut p h h') (t : tyAt h p e) (hne : e ≠ 5) : Bks h' v bs :=
  hb.keep g.next fun k hk hu => g.keep k hk (tyAt.ne hu t (Ne.symm hne))
/-- A walker. -/
def wkL (pI : Nat) (vB vU : Value) (ls : List Nat) : List Value := [pv pI 0, vB, vU] ++ intsV ls ++ [.bool false]
def WkB (h : AH) (pW pI : Nat) (vB vU : Value) (ls : List Nat) : Prop := ls.length = 32 ∧ BoxL h pW 62 (wkL pI vB vU ls)
theorem wkL_len {pI : Nat} {vB vU : Value} {ls : List Nat} (hl : ls.length = 32) : (wkL pI vB vU ls).length = 36 := by simp [wkL, intsV, hl]
theorem wkL_link {pI i x : Nat} {vB vU : Value} {ls : List Nat} (hi : ls[i]? = some x) : (wkL pI vB vU ls)[3 + i]? = some (iv x) := by
  have hil := (List.getElem?_eq_some_iff.1 hi).1
  unfold wkL
  rw [List.append_assoc, List.getElem?_append_right (by simp), show 3 + i - [pv pI 0, vB, vU].length = i by simp, List.getElem?_append_left (by rw [intsV_len]; exact hil), intsV, List.getElem?_map, hi]
  rfl
theorem wkL_bad {pI : Nat} {vB vU : Value} {ls : List Nat} (hl : ls.length = 32) : (wkL pI vB vU ls)[35]? = some (.bool false) := by
  unfold wkL
  rw [List.append_assoc, List.getElem?_append_right (by simp), List.getElem?_append_right (by rw [intsV_len, hl]; simp), intsV_len, hl]
  rfl
theorem WkB.ty {h : AH} {pW pI : Nat} {vB vU : Value} {ls : List Nat} (hw : WkB h pW pI vB vU ls) : tyAt h pW 62 := hw.2.ty
theorem WkB.grow {h h' : AH} {pW pI : Nat} {vB vU : Value} {ls : List Nat} (hw : WkB h pW pI vB vU ls) (g : Grow h.next h h') (hp : pW < h.next) : WkB h' pW pI vB vU ls := ⟨hw.1, hw.2.grow g hp⟩
theorem field_Wk {b : Nat} : evFieldAddr T0 62 (pv b 0) 0 = some (pv b 0) ∧ evFieldAddr T0 62 (pv b 0) 1 = some (pv b 1) ∧ evFieldAddr T0 62 (pv b 0) 2 = some (pv b 2) ∧ evFieldAddr T0 62 (pv b 0) 3 = some (pv b 3) ∧ evFieldAddr T0 62 (pv b 0) 4 = some (pv b 35) :=
  ⟨by kernel_rfl, by kernel_rfl, by kernel_rfl, by kernel_rfl, by kernel_rfl⟩
theorem und_32 : und T0 60 = some (.array 32 3) := by kernel_rfl
theorem index_32 {b i : Nat} (hi : i < 32) : evIndexAddr T0 60 (pv b 3) (iv i) = some (pv b (3 + i)) := by
  simp only [evIndexAddr, und_32, show natOf (iv (i : Int)) = some i from rfl, sz_int, Nat.mul_one]
  rw [show Nat.blt i 32 = true from by rw [Nat.blt_eq]; exact hi, ifB_true]
theorem WkB.loads {h : AH} {pW pI : Nat} {vB vU : Value} {ls : List Nat} (hw : WkB h pW pI vB vU ls) :
    evLoad T0 23 (pv pW 0) h = some (pv pI 0) ∧ evLoad T0 30 (pv pW 1) h = some vB ∧ evLoad T0 38 (pv pW 2) h = some vU ∧ evLoad T0 4 (pv pW 35) h = some (.bool false) :=
  ⟨hw.2.load agg_pI rfl, hw.2.load agg_blocks rfl, hw.2.load agg_bytes rfl, hw.2.load agg_bool (wkL_bad hw.1)⟩
theorem WkB.link {h : AH} {pW pI i x : Nat} {vB vU : Value} {ls : List Nat} (hw : WkB h pW pI vB vU ls) (hi : ls[i]? = some x) : evLoad T0 3 (pv pW (3 + i)) h = some (iv x) := hw.2.load agg_int (wkL_link hi)
theorem WkB.fail {h : AH} {pW pI : Nat} {vB vU : Value} {ls : List Nat} (hw : WkB h pW pI vB vU ls) : ∃ h', evStore T0 4 (pv pW 35) (.bool false) h = some h' ∧ WkB h' pW pI vB vU ls ∧ One pW h h' := by
  obtain ⟨h', s1, s2, s3, s4⟩ := BoxL.store (n := pW) (o := 35) (v := .bool false) hw.2 (ws := [.bool false]) sz_bool rfl (by simp) rfl (by rw [wkL_len hw.1]; decide) (Nat.le_refl _)
  refine ⟨h', s1, ⟨hw.1, ?_⟩, s4, evStore_keep s1⟩
  have e : (wkL pI vB vU ls).take 35 ++ [.bool false] ++ (wkL pI vB vU ls).drop (35 + [Value.bool false].length) = wkL pI vB vU ls := by
    have e1 : (wkL pI vB vU ls).take 35 = [pv pI 0, vB, vU] ++ intsV ls := by
      unfold wkL
      rw [List.take_append_of_le_length (by simp [intsV, hw.1]), List.take_of_length_le (by simp [intsV, hw.1])]
    rw [e1, List.drop_eq_nil_of_le (by rw [wkL_len hw.1]; decide), List.append_nil]
    rfl
  rw [e] at s2
  exact s2
theorem WkB.setLink {h : AH} {pW pI x : Nat} {vB vU : Value} {l : List Nat} {y : Nat} (hw : WkB h pW pI vB vU (y :: l)) : ∃ h', evStore T0 3 (pv pW 3) (iv x) h = some h' ∧ WkB h' pW pI vB vU (x :: l) ∧ One pW h h' := by
  obtain ⟨h', s1, s2, s3, s4⟩ := BoxL.store (n := pW) (o := 3) (v := iv x) hw.2 (ws := [iv x]) sz_int rfl (by simp) rfl (by rw [wkL_len hw.1]; exact (by decide : 3 + 1 ≤ 36)) (Nat.le_refl _)
  exact ⟨h', s1, ⟨by simpa using hw.1, s2⟩, s4, evStore_keep s1⟩
theorem WkB.setUsed {h : AH} {pW pI : Nat} {vB vU v : Value} {ls : List Nat} (hw : WkB h pW pI vB vU ls) (hv : oneCell v = true ∧ v.cells.toList = [v]) : ∃ h', evStore T0 38 (pv pW 2) v h = some h' ∧ WkB h' pW pI vB v ls ∧ One pW h h' := by
  obtain ⟨h', s1, s2, s3, s4⟩ := BoxL.store (n := pW) (o := 2) (v := v) hw.2 (ws := [v]) sz_bytes hv.2 (by simp) (by simp [hv.1]) (by rw [wkL_len hw.1]; exact (by decide : 2 + 1 ≤ 36)) (Nat.le_refl _)
  exact ⟨h', s1, ⟨hw.1, s2⟩, s4, evStore_keep s1⟩
theorem fail_S (pW pI : Nat) (vB vU : Value) (ls : List Nat) (h : AH) (hw : WkB h pW pI vB vU ls) : ∃ h', frameB T0 X0 call 3000 37 [pv pW 0, .bool true] h = some (.bool true, h') ∧ WkB h' pW pI vB vU ls ∧ One pW h h' := by
  obtain ⟨h', s1, s2, s3⟩ := hw.fail
  refine ⟨h', ?_, s2, s3⟩
  have ld := hw.loads
  rw [frameB_eq ft37 rfl rfl]
  simp only [Tryz.f37, symM, opFn, Nat.reduceLT, Nat.reduceBEq, symM, nil_pv, field_Wk, ld, s1]
  exact retB_one ft37 rfl get_same
theorem need_S (p : Value) (v : Value) (h : AH) (hv : EmpI v) : frameB T0 X0 call 3000 80 [p, v] h = some (.tuple #[], h) := by
  rw [frameB_eq ft80 rfl rfl]
  simp only [Tryz.f80, symM, opFn, Nat.reduceLT, Nat.reduceBEq, symM, symL, hv.len, codeB_loop, bin_lss, show decide ((0 : Int) < 0) = false from rfl]
  exact retB_zero ft80 rfl
theorem IdxI0_S (v : Value) (h : AH) (hv : EmpI v) : frameB T0 X0 call 3000 133 [v, iv 0] h = some (iv (-1), h) := by
  rw [frameB_eq ft133 rfl rfl]
  simp only [Tryz.f133, symM, opFn, Nat.reduceLT, Nat.reduceBEq, symM, symL, hv.len, codeB_loop, bin_lss, show decide ((0 : Int) < 0) = false from rfl]
  exact retB_one ft133 rfl get_same
theorem ContI_S (hI : ∀ (v : Value) (h : AH), EmpI v → call 133 [v, iv 0] h = some (iv (-1), h)) (v : Value) (h : AH) (hv : EmpI v) : frameB T0 X0 call 3000 109 [v, iv 0] h = some (.bool false, h) := by
  rw [frameB_eq ft109 rfl rfl]
  simp only [Tryz.f109, symM, opFn, Nat.reduceLT, Nat.reduceBEq, symM, evCall_fn ft133 rfl, hI v h hv, bin_geq, show decide ((0 : Int) ≤ -1) = false from rfl]
  exact retB_one ft109 rfl get_same
theorem GrowE_S (h : AH) : frameB T0 X0 call 3000 137 [nilV, iv 0] h = some (nilV, h) := by
  have hcap : ∀ ty, evBuiltin T0 .cap #[171] ty [nilV] h = some (.value (iv 0), h) := fun ty => by kernel_rfl
  have hlen : ∀ ty, evBuiltin T0 .len #[171] ty [nilV] h = some (.value (iv 0), h) := fun ty => by kernel_rfl
  rw [frameB_eq ft137 rfl rfl]
  simp only [Tryz.f137, symM, opFn, Nat.reduceLT, Nat.reduceBEq, symM, bin_lss, show decide ((0 : Int) < 0) = false from rfl, hcap, hlen, bin_sub, show IntKind.i64.wrap ((0 : Int) - 0) = 0 from by decide, bin_gtr]
  exact retB_one ft137 rfl get_same
theorem ConcatE_S (hG : ∀ h, call 137 [nilV, iv 0] h = some (nilV, h)) (h : AH) : frameB T0 X0 call 3000 119 [nilV] h = some (nilV, h) := by
  have hlen : ∀ ty h', evBuiltin T0 .len #[170] ty [nilV] h' = some (.value (iv 0), h') := fun ty h' => by kernel_rfl
  rw [frameB_eq ft119 rfl rfl]
  simp only [Tryz.f119, symM, opFn, Nat.reduceLT, Nat.reduceBEq, symM, symL, hlen, codeB_loop, bin_lss, show decide ((0 : Int) < 0) = false from rfl, evCall_fn ft137 rfl, hG]
  exact retB_one ft119 rfl get_same
/-- Rows of bytes that are one. -/
noncomputable def bodyEb : Code := part Tryz.f41 [1, 1, 0, 1, 0, 0]
abbrev EEb : Env := ⟨41, 26, none⟩
theorem plan_eb : planB (regOps Tryz.f41 [1, 1, 0, 1, 0, 0, 1, 1, 0, 0, 1, 0]) 26 = some ([.one 0, .one 1, .one 2, .one 3, .one 4, .one 5, .one 6, .one 7, .one 8], []) := by kernel_rfl
theorem ebLp (n m : Nat) (v w : Value) (bs : List Nat) (h : AH) (hv : Row n h v (bytesV bs) 5) (hw : Row m h w (bytesV bs) 5) (hl : bs.length < 1000) :
    ∀ (k i : Nat) (tm : PM Value) (N : Nat), i + k = bs.length → k + 60 ≤ N → tm.get 0 = some v → tm.get 1 = some w → tm.get 12 = some (iv bs.length) → tm.get 13 = some (iv i) →
      ∃ tm' h', codeB T0 X0 call N EEb (.loop bodyEb) tm h [] = .jump (.exit 0) tm' h' [] ∧ h' = h := by
  intro k
  induction k with
  | zero =>
    intro i tm N hi hN g0 g1 g12 g13
    obtain ⟨N, rfl⟩ : ∃ a, N = a + 60 := ⟨N - 60, by omega⟩
    apply Exists.intro; apply Exists.intro
    refine ⟨?_, rfl⟩
    rw [codeB_loop]
    simp only [bodyEb, part, Tryz.f41, sub, symM, opFn, Nat.reduceLT, symM, g12, g13, bin_lss, decide_eq_false (show ¬ (i : Int) < (bs.length : Nat) by omega)]
    rfl
  | succ k ih =>
    intro i tm N hi hN g0 g1 g12 g13
    obtain ⟨N, rfl⟩ : ∃ a, N = a + 60 := ⟨N - 60, by omega⟩
    have hil : i < bs.length := by omega
    have hx : (bytesV bs)[i]? = some (bv bs[i]) := by simp [bytesV, hil]
    obtain ⟨p, a1, a2⟩ := hv.at und_bytes sz_u8 agg_u8 hx
    obtain ⟨q, b1, b2⟩ := hw.at und_bytes sz_u8 agg_u8 hx
    have hp := plan_eb
    simp only [regOps, part, Tryz.f41, sub] at hp
    rw [show N + 60 = (N + 59) + 1 from rfl, codeB_loop]
    simp only [bodyEb, part, Tryz.f41, sub, symM, opFn, Nat.reduceLT, Nat.reduceBEq, symM, g12, g13, bin_lss, decide_eq_true (show (i : Int) < (bs.length : Nat) by omega)]
    rw [codeB_draw, draw_plan hp rfl]
    simp only [drawAll, opFn, Nat.reduceBEq, g0, g1, a1, a2, b1, b2, bin_neq, beq_self_eq_true]
    simp only [symM, opFn, Nat.reduceLT, symM, g13, bin_add, wadd1 (show i ≤ 400000 by omega)]
    exact ih (i + 1) _ (N + 59) (by omega) (by omega) (by simp only [symM, Nat.reduceBEq, g0]) (by simp only [symM, Nat.reduceBEq, g1]) (by simp only [symM, Nat.reduceBEq, g12]) get_same
theorem EqB_S (n m : Nat) (v w : Value) (bs : List Nat) (h : AH) (hv : Row n h v (bytesV bs) 5) (hw : Row m h w (bytesV bs) 5) (hl : bs.length < 1000) : frameB T0 X0 call 3000 41 [v, w] h = some (.bool true, h) := by
  have hlen : ∀ ty h', evBuiltin T0 .len #[38] ty [v] h' = some (.value (iv bs.length), h') := fun ty h' => by rw [hv.len und_bytes, bytesV_len]
  have hlen2 : ∀ ty h', evBuiltin T0 .len #[38] ty [w] h' = some (.value (iv bs.length), h') := fun ty h' => by rw [hw.len und_bytes, bytesV_len]
  rw [frameB_eq ft41 rfl rfl]
  simp only [Tryz.f41, symM, opFn, Nat.reduceLT, Nat.reduceBEq, symM, symL, hlen, hlen2, bin_neq, beq_self_eq_true]
  generalize hX : codeB T0 X0 call _ EEb (.loop _) _ _ _ = X
  obtain ⟨t1, h1, e1, e2⟩ := use_exit hX (ebLp n m v w bs h hv hw hl bs.length 0 _ _ (by omega) (by omega) (by simp only [symM, Nat.reduceBEq]) (by simp only [symM, Nat.reduceBEq]) (by simp only [symM, Nat.reduceBEq]) (by simp only [symM]; rfl))
  clear hX
  subst e1 e2
  simp only [symM, opFn, Nat.reduceLT, symM, symL]
  exact retB_one ft41 rfl get_same
theorem CUp_S (hup : ∀ (bs : List Nat) (m : Value) (k n : Nat) (h : AH), (∀ x ∈ bs, x < 256) → Row k h m (bytesV bs) 5 → n / 8 < bs.length → n < 9000 → call 42 [m, iv n] h = some (.bool (bitB bs n), h)) (bs : List Nat) (hbs : ∀ x ∈ bs, x < 256) (m : Value) (k n : Nat) (h : AH) (hm : Row k h m (bytesV bs) 5) (hl : bs.length = 60) (hn : n < 480) :
    frameB T0 X0 call 3000 18 [m, iv n] h = some (.tuple #[.bool (bitB bs n), iv 0], h) := by
  have hlen : ∀ ty h', evBuiltin T0 .len #[38] ty [m] h' = some (.value (iv 60), h') := fun ty h' => by rw [hm.len und_bytes, bytesV_len, hl]; rfl
  rw [frameB_eq ft18 rfl rfl]
  simp only [Tryz.f18, symM, opFn, Nat.reduceLT, Nat.reduceBEq, symM, hlen, bin_neq, show ((60 : Int) == 60) = true from rfl, bin_lss, decide_eq_false (show ¬ (n : Int) < 0 by omega), bin_geq, decide_eq_false (show ¬ (480 : Int) ≤ n by omega), evCall_fn ft42 rfl, hup bs m k n h hbs hm (by omega) (by omega)]
  exact retB_two ft18 rfl (by simp only [symM, Nat.reduceBEq]) get_same
end
end Go.Proofs.YtonfgflgnnkniaaGreat.Abs
namespace Go.Proofs.YtonfgflgnnkniaaGreat.Abs
open Go Go.Proofs
noncomputable section
variable {call : Abs.Callee}
set_option maxRecDepth 10000
theorem ft38 : T0.ft.get 38 = some Tryz.f38 := by kernel_rfl
theorem ft39 : T0.ft.get 39 = some Tryz.f39 := by kernel_rfl
theorem ft40 : T0.ft.get 40 = some Tryz.f40 := by kernel_rfl
abbrev FailC (call : Abs.Callee) : Prop := ∀ (pW pI : Nat) (vB vU : Value) (ls : List Nat) (h : AH), WkB h pW pI vB vU ls → ∃ h', call 37 [pv pW 0, .bool true] h = some (.bool true, h') ∧ WkB h' pW pI vB vU ls ∧ One pW h h'
abbrev ContIC (call : Abs.Callee) : Prop := ∀ (v : Value) (h : AH), EmpI v → call 109 [v, iv 0] h = some (.bool false, h)
abbrev ConcatEC (call : Abs.Callee) : Prop := ∀ h : AH, call 119 [nilV] h = some (nilV, h)
theorem mk_map2 {tm : PM Value} {h : AH} : evMakeMapX T0 tm 174 none h = some (.value (.map (some h.next)), h.new (.map [] 0)) := rfl
theorem dir_S (hF : FailC call) (hCo : ContIC call) (hCE : ConcatEC call) (pW pI f : Nat) (vB vU x : Value) (ls : List Nat) (h : AH) (hx : EmpI x) (hp : pW < h.next) (hw : WkB h pW pI vB vU ls) :
    ∃ h', frameB T0 X0 call 3000 83 [pv pW 0, nodeV (rootN f) nilV, x] h = some (.tuple #[], h') ∧ WkB h' pW pI vB vU ls ∧ GrowBut pW h h' := by
  generalize hh1 : h.new (.cells (PM.ofList (nodeL (rootN f) nilV)) (nodeL (rootN f) nilV).length 51 0 0 .ex) = h1
  have g1 : Grow h.next h h1 := by rw [← hh1]; exact Grow.new _ _
  have n1 : h1.next = h.next + 1 := by rw [← hh1]; rfl
  have nb1 : NodeB h1 h.next (rootN f) nilV := by rw [← hh1]; exact NodeB.new _ _ _
  have hbx : rp (some (evNewVar h 51 (nodeV (rootN f) nilV))) = some (.value (pv h.next 0), h1) := by rw [← hh1]; exact box_agg
  obtain ⟨h2, a1, a2, a3⟩ := hF pW pI vB vU ls h1 (hw.grow g1 hp)
  have n2 := a3.next
  have g3 := Grow.new h2 (.map [] 0)
  refine ⟨h2.new (.map [] 0), ?_, a2.grow g3 (by omega), ((g1.but pW).trans a3.but).trans (g3.but pW)⟩
  have ld := nb1.loads
  have hlen0 : ∀ ty h', evBuiltin T0 .len #[170] ty [nilV] h' = some (.value (iv 0), h') := fun ty h' => by kernel_rfl
  have hlen1 : ∀ ty h', evBuiltin T0 .len #[171] ty [nilV] h' = some (.value (iv 0), h') := fun ty h' => by kernel_rfl
  rw [frameB_eq ft83 rfl rfl]
  simp only [Tryz.f83, symM, opFn, Nat.reduceLT, Nat.reduceBEq, symM, symL, hbx, field_N, ld, show ((rootN f).s : Int) = 0 from rfl, hx.len, bin_mul, show IntKind.i64.wrap ((0 : Int) * 64) = 0 from by decide, bin_eql, show ((0 : Int) == 0) = true from rfl, evCall_fn ft109 rfl, hCo x _ hx, evCall_fn ft37 rfl, a1, codeB_loop, bin_lss, show decide ((0 : Int) < 0) = false from rfl, mk_map2, evCall_fn ft119 rfl, hCE, hlen1]
  exact retB_zero ft83 rfl
abbrev NodeC (call : Abs.Callee) : Prop := ∀ (pI B f i : Nat) (h : AH), 64 ≤ B → B ≤ 480 → 1 ≤ f → f ≤ 2 → i < 32 → ImgR h pI B f (madeL B f) → ∃ v' h', call 36 [pv pI 0, iv i] h = some (.tuple #[nodeV (nodeAt (rootN f) i) nilV, v', nilV, iv 0], h') ∧ EmpI v' ∧ Grow h.next h h'
abbrev NeedWC (call : Abs.Callee) : Prop := ∀ (p v : Value) (h : AH), EmpI v → call 80 [p, v] h = some (.tuple #[], h)
abbrev DirC (call : Abs.Callee) : Prop := ∀ (pW pI f : Nat) (vB vU x : Value) (ls : List Nat) (h : AH), EmpI x → pW < h.next → WkB h pW pI vB vU ls → ∃ h', call 83 [pv pW 0, nodeV (rootN f) nilV, x] h = some (.tuple #[], h') ∧ WkB h' pW pI vB vU ls ∧ GrowBut pW h h'
theorem plan_w2 : planB (regOps Tryz.f38 [1, 1, 0]) 108 = some ([.one 0, .one 1, .one 2, .one 3, .one 4, .one 5, .one 6, .one 7, .one 8, .one 9, .eff [] 10 []], []) := by kernel_rfl
theorem quo64 : ∀ p q h, evBin T0 .quo 3 p q (iv 0) (iv 64) h = some (iv 0) := fun p q h => by
  rw [show iv 0 = iv ((0 : Nat) : Int) from rfl, show iv 64 = iv ((64 : Nat) : Int) from rfl, bin_quo (n := 64) (by decide)]
  rfl
theorem wnode_S (hF : FailC call) (hN : NodeC call) (hNd : NeedWC call) (hDir : DirC call) (pW pI B f : Nat) (k1 : 64 ≤ B) (k2 : B ≤ 480) (hf1 : 1 ≤ f) (hf2 : f ≤ 2) (vB vU : Value) (l : List Nat) (h : AH) (hI : ImgR h pI B f (madeL B f)) (hp : pW < h.next) (hw : WkB h pW pI vB vU (0 :: l)) :
    ∃ h', frameB T0 X0 call 3000 38 [pv pW 0, iv 0] h = some (.tuple #[], h') ∧ WkB h' pW pI vB vU (1 :: l) ∧ GrowBut pW h h' := by
  obtain ⟨x, h1, a1, a2, a3⟩ := hN pI B f 0 h k1 k2 hf1 hf2 (by decide) hI
  have a1 : call 36 [pv pI 0, iv 0] h = some (.tuple #[nodeV (rootN f) nilV, x, nilV, iv 0], h1) := a1
  have n1 := a3.next
  generalize hh2 : h1.new (.cells (PM.ofList (nodeL NV.zero nilV)) 12 51 0 0 .ex) = h2
  have g2 : Grow h1.next h1 h2 := by rw [← hh2]; exact Grow.new _ _
  have n2 : h2.next = h1.next + 1 := by rw [← hh2]; rfl
  have z2 : NodeB h2 h1.next NV.zero nilV := by rw [← hh2]; exact NodeB.new _ _ _
  obtain ⟨h3, s1, s2, s3, s4⟩ := z2.storeAll (k := h1.next) (rootN f) (f := nilV) rfl (Nat.le_refl _)
  have G3 : Grow h.next h h3 := a3.trans (g2.trans s3 (Nat.le_refl _)) n1
  have w3 := hw.grow G3 hp
  obtain ⟨h4, b1, b2, b3⟩ := hF pW pI vB vU _ h3 w3
  have n4 := b3.next
  have nb4 : NodeB h4 h1.next (rootN f) nilV := BoxL.one s2 b3 (by omega)
  obtain ⟨h5, c1, c2, c3⟩ := b2.setLink (x := 1)
  have n5 := c3.next
  have c1 : evStore T0 3 (pv pW 3) (iv 1) h4 = some h5 := c1
  have nb5 : NodeB h5 h1.next (rootN f) nilV := BoxL.one nb4 c3 (by omega)
  obtain ⟨h6, d1, d2, d3⟩ := hF pW pI vB vU _ h5 c2
  have n6 := d3.next
  have nb6 : NodeB h6 h1.next (rootN f) nilV := BoxL.one nb5 d3 (by omega)
  obtain ⟨h7, e1, e2, e3⟩ := hDir pW pI f vB vU x _ h6 a2 (by omega) d2
  refine ⟨h7, ?_, e2, ((((G3.but pW).trans b3.but).trans c3.but).trans d3.but).trans e3⟩
  have ldw := hw.loads
  have ld3 := s2.loads
  have ld4 := nb4.loads
  have ld5 := nb5.loads
  have ld6 := nb6.loads
  have ix : evIndexAddr T0 60 (pv pW 3) (iv 0) = some (pv pW 3) := index_32 (i := 0) (by decide)
  have k4 : evLoad T0 3 (pv pW 3) h4 = some (iv 0) := b2.link (i := 0) rfl
  have k5 : evLoad T0 3 (pv pW 3) h5 = some (iv 1) := c2.link (i := 0) rfl
  have ldn6 : evLoad T0 51 (pv h1.next 0) h6 = some (nodeV (rootN f) nilV) := ld6.2.2.2.2.2.2.2.2.2.2.2.2.1
  have hpl := plan_w2
  simp only [regOps, part, Tryz.f38, sub] at hpl
  rw [frameB_eq ft38 rfl rfl]
  simp only [Tryz.f38, symM, opFn, Nat.reduceLT, Nat.reduceBEq, symM, nil_pv, field_Wk, ldw, evCall_fn ft36 rfl, a1, alloc_N, hh2, s1, bin_eql, show ((0 : Int) == 0) = true from rfl, field_N, ld3, bin_neq, show ((((rootN f).k : Nat) : Int) == 0) = false from rfl, evCall_fn ft37 rfl, b1]
  rw [codeB_draw, draw_plan hpl rfl]
  simp only [drawAll, opFn, Nat.reduceLT, Nat.reduceBEq, nil_pv, field_Wk, ix, k4, bin_add, show IntKind.i64.wrap ((0 : Int) + 1) = 1 from by decide, c1]
  simp only [symM, opFn, Nat.reduceLT, Nat.reduceBEq, symM, k5, bin_gtr, show decide ((1 : Int) < 1) = false from rfl, evCall_fn ft80 rfl, hNd _ x _ a2, hNd _ nilV _ EmpI.nil, field_N, ld5, show (((rootN f).s : Nat) : Int) = 0 from rfl, a2.len, bin_sub, show IntKind.i64.wrap ((0 : Int) - 1) = -1 from by decide, bin_mul, show IntKind.i64.wrap ((-1 : Int) * 64) = -64 from by decide, show decide ((-64 : Int) < 0) = true from rfl, evCall_fn ft37 rfl, d1, ld6]
  simp only [symM, opFn, Nat.reduceLT, Nat.reduceBEq, symM, quo64, bin_lss, bin_eql, show decide ((0 : Int) < 0) = false from rfl, field_N, ld6, a2.len, show ((((rootN f).k : Nat) : Int) == 2) = true from rfl, evCall_fn ft83 rfl, e1]
  exact retB_zero ft38 rfl
abbrev SuperRC (call : Abs.Callee) : Prop := ∀ (pI B f : Nat) (bss : List (List Nat)) (h : AH), ImgR h pI B f bss → ∃ h', call 16 [pv pI 0] h = some (supV B f, h') ∧ Grow h.next h h'
theorem SuperR_S (pI B f : Nat) (bss : List (List Nat)) (h : AH) (hI : ImgR h pI B f bss) :
    ∃ h', frameB T0 X0 call 3000 16 [pv pI 0] h = some (supV B f, h') ∧ Grow h.next h h' := by
  obtain ⟨hp, vf, vn, vb, ws, i1, i2, i3⟩ := hI
  generalize hh1 : h.new (.cells (PM.ofList (supL 0 0)) 5 37 0 0 .ex) = h1
  have g1 : Grow h.next h h1 := by rw [← hh1]; exact Grow.new _ _
  have s1 : BoxL h1 h.next 37 (supL 0 0) := by rw [← hh1]; exact BoxL.new _ _ _
  have ld := (img_loads (i1.grow g1 hp)).2.2.2.1
  obtain ⟨h2, d1, d2, d3, d4⟩ := BoxL.store (n := h.next) (o := 0) (v := supV B f) s1 (ws := supL B f) sz_Sup rfl (by simp [supL]) rfl (Nat.le_refl _) (Nat.le_refl _)
  have d2 : SupB h2 h.next B f := d2
  refine ⟨h2, ?_, g1.trans d3 (Nat.le_refl _)⟩
  rw [frameB_eq ft16 rfl rfl]
  simp only [Tryz.f16, symM, opFn, Nat.reduceLT, Nat.reduceBEq, symM, alloc_Su, hh1, ptr_eql, nil_pv, field_I, field_st, ld, d1]
  exact retB_cell ft16 rfl (by simp only [symM, Nat.reduceBEq]) d2.loads.2.2.2.2.2
theorem field_Fm {b f : Nat} : evField T0 37 (supV b f) 1 = some (iv f) := by kernel_rfl
theorem field_Su {b : Nat} : evFieldAddr T0 37 (pv b 0) 1 = some (pv b 1) ∧ evFieldAddr T0 37 (pv b 0) 2 = some (pv b 2) ∧ evFieldAddr T0 37 (pv b 0) 3 = some (pv b 3) ∧ evFieldAddr T0 37 (pv b 0) 4 = some (pv b 4) := ⟨by kernel_rfl, by kernel_rfl, by kernel_rfl, by kernel_rfl⟩
theorem jobs_S (hF : FailC call) (hS : SuperRC call) (pW pI B f : Nat) (hf1 : 1 ≤ f) (hf2 : f ≤ 2) (vB vU : Value) (ls : List Nat) (h : AH) (hI : ImgR h pI B f (madeL B f)) (hp : pW < h.next) (hw : WkB h pW pI vB vU ls) :
    ∃ h', frameB T0 X0 call 3000 40 [pv pW 0] h = some (.tuple #[], h') ∧ WkB h' pW pI vB vU ls ∧ GrowBut pW h h' := by
  obtain ⟨h1, a1, a2⟩ := hS pI B f _ h hI
  have n1 := a2.next
  generalize hh2 : h1.new (.cells (PM.ofList (supL 0 0)) 5 37 0 0 .ex) = h2
  have g2 : Grow h1.next h1 h2 := by rw [← hh2]; exact Grow.new _ _
  have n2 : h2.next = h1.next + 1 := by rw [← hh2]; rfl
  have s2 : SupB h2 h1.next 0 0 := by rw [← hh2]; exact BoxL.new _ _ _
  obtain ⟨h3, d1, d2, d3⟩ := s2.storeAll (b' := B) (f' := f)
  have n3 := d3.next
  have G3 : Grow h.next h h3 := (a2.trans g2 n1).trans (d3.grow (show h.next ≤ h1.next by omega)) (Nat.le_refl _)
  obtain ⟨h4, b1, b2, b3⟩ := hF pW pI vB vU ls h3 (hw.grow G3 hp)
  refine ⟨h4, ?_, b2, (G3.but pW).trans b3.but⟩
  have ldw := hw.loads
  have e1 : evLoad T0 3 (pv h1.next 1) h3 = some (iv f) := d2.load agg_int (i := 1) rfl
  have e2 : evLoad T0 3 (pv h1.next 2) h3 = some (iv 0) := d2.load agg_int (i := 2) rfl
  have e3 : evLoad T0 3 (pv h1.next 3) h3 = some (iv 0) := d2.load agg_int (i := 3) rfl
  have e4 : evLoad T0 3 (pv h1.next 4) h3 = some (iv 0) := d2.load agg_int (i := 4) rfl
  rw [frameB_eq ft40 rfl rfl]
  simp only [Tryz.f40, symM, opFn, Nat.reduceLT, Nat.reduceBEq, symM, nil_pv, field_Wk, ldw, evCall_fn ft16 rfl, a1, alloc_Su, hh2, d1, field_Su, e1, e2, e3, e4, bin_eql, bin_neq, show ((0 : Int) == 0) = true from rfl, show ((f : Int) == 3) = false from by simpa using (show ¬ (f : Int) = 3 by omega), evCall_fn ft37 rfl, b1]
  exact retB_zero ft40 rfl
end
end Go.Proofs.YtonfgflgnnkniaaGreat.Abs
namespace Go.Proofs.YtonfgflgnnkniaaGreat.Abs
open Go Go.Proofs
noncomputable section
variable {call : Abs.Callee}
set_option maxRecDepth 10000
def lk32 : List Nat := 1 :: List.replicate 31 0
theorem lk_at (f i : Nat) (hi : i < 32) : lk32[i]? = some (nodeAt (rootN f) i).l := by
  unfold lk32 nodeAt
  cases i with
  | zero => rfl
  | succ i =>
    rw [if_neg (by omega), List.getElem?_cons_succ, List.getElem?_replicate, if_pos (by omega)]
    rfl
noncomputable def bodyFo : Code := part Tryz.f39 [1, 1, 0, 0]
abbrev EFo : Env := ⟨39, 72, none⟩
theorem plan_f5 : planB (regOps Tryz.f39 [1, 1, 0, 0, 1, 1, 0, 0, 1, 1]) 72 = some ([.one 0, .one 1, .one 2, .one 3, .one 4, .one 5, .one 6, .one 7, .one 8, .one 9, .one 10, .one 11, .one 12, .one 13, .one 14, .one 15, .one 16, .one 17, .one 18, .one 19, .one 20, .one 21, .one 22, .one 23, .one 24, .one 25, .one 26, .one 27, .one 28, .one 29, .one 30, .one 31, .one 32, .one 33, .one 34, .one 35, .one 36, .one 37, .one 38, .one 39, .one 40, .one 41, .eff [] 42 []], []) := by kernel_rfl
theorem bool_eql {a b : Bool} {p q : Operand} {h : AH} : evBin T0 .eql 4 p q (.bool a) (.bool b) h = some (.bool (a == b)) := by
  cases a <;> cases b <;> kernel_rfl
theorem wrapB {A B : PM Value → AH → Prop} {p : Nat} {a b : AH} (H : ∃ t c, A t c ∧ (B t c ∧ GrowBut p b c)) (g : GrowBut p a b) : ∃ t c, A t c ∧ (B t c ∧ GrowBut p a c) := by
  obtain ⟨t, c, h1, h2, h3⟩ := H
  exact ⟨t, c, h1, h2, g.trans h3⟩
theorem foLp (hF : FailC call) (hN : NodeC call) (pW pI B f : Nat) (k1 : 64 ≤ B) (k2 : B ≤ 480) (hf1 : 1 ≤ f) (hf2 : f ≤ 2) (vB vU : Value) (hA : AH) (hI : ImgR hA pI B f (madeL B f)) (hAp : hA.next ≤ pW) :
    ∀ (k i : Nat) (h : AH) (tm : PM Value) (N : Nat), i + k = 32 → k + 100 ≤ N → Grow hA.next hA h → pW < h.next → WkB h pW pI vB vU lk32 →
      tm.get 0 = some (pv pW 0) → tm.get 2 = some (iv f) → tm.get 14 = some (iv i) →
      ∃ tm' h', codeB T0 X0 call N EFo (.loop bodyFo) tm h [] = .jump (.exit 0) tm' h' [] ∧ (WkB h' pW pI vB vU lk32 ∧ GrowBut pW h h') := by
  intro k
  induction k with
  | zero =>
    intro i h tm N hi hNn hG hp hw g0 g2 g14
    obtain ⟨N, rfl⟩ : ∃ a, N = a + 100 := ⟨N - 100, by omega⟩
    have hiB : i = 32 := by omega
    subst hiB
    apply Exists.intro; apply Exists.intro
    refine ⟨?_, hw, GrowBut.refl _ _⟩
    rw [codeB_loop]
    simp only [bodyFo, part, Tryz.f39, sub, symM, opFn, Nat.reduceLT, symM, g14, bin_lss, show decide (((32 : Nat) : Int) < 32) = false from rfl]
    rfl
  | succ k ih =>
    intro i h tm N hi hNn hG hp hw g0 g2 g14
    obtain ⟨N, rfl⟩ : ∃ a, N = a + 100 := ⟨N - 100, by omega⟩
    obtain ⟨x, h1, a1, a2, a3⟩ := hN pI B f i h k1 k2 hf1 hf2 (by omega) (hI.grow hG)
    have n1 := a3.next
    generalize hh2 : h1.new (.cells (PM.ofList (nodeL NV.zero nilV)) 12 51 0 0 .ex) = h2
    have g2' : Grow h1.next h1 h2 := by rw [← hh2]; exact Grow.new _ _
    have n2 : h2.next = h1.next + 1 := by rw [← hh2]; rfl
    have z2 : NodeB h2 h1.next NV.zero nilV := by rw [← hh2]; exact NodeB.new _ _ _
    obtain ⟨h3, s1, s2, s3, s4⟩ := z2.storeAll (k := h1.next) (nodeAt (rootN f) i) (f := nilV) rfl (Nat.le_refl _)
    have G3 : Grow h.next h h3 := a3.trans (g2'.trans s3 (Nat.le_refl _)) n1
    have n3 := G3.next
    have w3 := hw.grow G3 hp
    obtain ⟨h4, b1, b2, b3⟩ := hF pW pI vB vU _ h3 w3
    have n4 := b3.next
    have GB : GrowBut pW h h4 := (G3.but pW).trans b3.but
    have ldw := hw.loads
    have ldn := s2.loads
    have ix := index_32 (b := pW) (i := i) (by omega)
    have lk := w3.link (lk_at f i (by omega))
    have hp5 := plan_f5
    simp only [regOps, part, Tryz.f39, sub] at hp5
    rw [show N + 100 = (N + 99) + 1 from rfl, codeB_loop]
    simp only [bodyFo, part, Tryz.f39, sub, symM, opFn, Nat.reduceLT, Nat.reduceBEq, symM, g0, g14, bin_lss, decide_eq_true (show (i : Int) < 32 by omega), nil_pv, field_Wk, ldw, evCall_fn ft36 rfl, a1, alloc_N, hh2, s1]
    rw [codeB_draw, draw_plan hp5 rfl]
    by_cases h0 : i = 0
    · subst h0
      have lk : evLoad T0 3 (pv pW (3 + 0)) h3 = some (iv 1) := lk
      have ldk : evLoad T0 3 (pv h1.next 0) h3 = some (iv 2) := ldn.1
      have ldf : evLoad T0 3 (pv h1.next 1) h3 = some (iv f) := ldn.2.1
      have ldl : evLoad T0 3 (pv h1.next 2) h3 = some (iv 1) := ldn.2.2.1
      simp only [drawAll, opFn, Nat.reduceBEq, g0, g2, g14, nil_pv, field_Wk, field_N, ldk, ldf, ldl, ix, lk, bin_eql, show ((0 : Int) == 0) = true from rfl, show ((2 : Int) == 0) = false from rfl, show ((1 : Int) == 0) = false from rfl, show ((1 : Int) == 1) = true from rfl, bool_eql, beq_self_eq_true, show ((f : Int) == 3) = false from by simpa using (show ¬ (f : Int) = 3 by omega), evCall_fn ft37 rfl, b1]
      simp only [symM, opFn, Nat.reduceLT, symM, bin_add, wadd1 (show 0 ≤ 400000 by omega)]
      exact wrapB (ih (0 + 1) h4 _ (N + 99) (by omega) (by omega) (hG.trans (GB.grow hAp hG.next) (Nat.le_refl _)) (by omega) b2 (by simp only [symM, Nat.reduceBEq, g0]) (by simp only [symM, Nat.reduceBEq, g2]) get_same) GB
    · have hz : nodeAt (rootN f) i = NV.zero := by unfold nodeAt; rw [if_neg h0]
      rw [hz] at lk ldn
      have lk : evLoad T0 3 (pv pW (3 + i)) h3 = some (iv 0) := lk
      have ldk : evLoad T0 3 (pv h1.next 0) h3 = some (iv 0) := ldn.1
      have ldl : evLoad T0 3 (pv h1.next 2) h3 = some (iv 0) := ldn.2.2.1
      simp only [drawAll, opFn, Nat.reduceBEq, g0, g14, nil_pv, field_Wk, field_N, ldk, ldl, ix, lk, bin_eql, show ((0 : Int) == 0) = true from rfl, bool_eql, beq_self_eq_true, evCall_fn ft37 rfl, b1]
      simp only [symM, opFn, Nat.reduceLT, symM, bin_add, wadd1 (show i ≤ 400000 by omega)]
      exact wrapB (ih (i + 1) h4 _ (N + 99) (by omega) (by omega) (hG.trans (GB.grow hAp hG.next) (Nat.le_refl _)) (by omega) b2 (by simp only [symM, Nat.reduceBEq, g0]) (by simp only [symM, Nat.reduceBEq, g2]) get_same) GB
theorem formats_S (hF : FailC call) (hN : NodeC call) (hS : SuperRC call) (pW pI B f : Nat) (k1 : 64 ≤ B) (k2 : B ≤ 480) (hf1 : 1 ≤ f) (hf2 : f ≤ 2) (vB vU : Value) (hA h : AH) (hI : ImgR hA pI B f (madeL B f)) (hAp : hA.next ≤ pW) (hG : Grow hA.next hA h) (hp : pW < h.next) (hw : WkB h pW pI vB vU lk32) :
    ∃ h', frameB T0 X0 call 3000 39 [pv pW 0] h = some (.tuple #[], h') ∧ WkB h' pW pI vB vU lk32 ∧ GrowBut pW h h' := by
  obtain ⟨h1, a1, a2⟩ := hS pI B f _ h (hI.grow hG)
  have n1 := a2.next
  have ldw := hw.loads
  rw [frameB_eq ft39 rfl rfl]
  simp only [Tryz.f39, symM, opFn, Nat.reduceLT, symM, symL, nil_pv, field_Wk, ldw, evCall_fn ft16 rfl, a1, field_Fm]
  generalize hX : codeB T0 X0 call _ EFo (.loop _) _ _ _ = X
  obtain ⟨t2, h2, e1, e2, e3⟩ := use_exit hX (foLp hF hN pW pI B f k1 k2 hf1 hf2 vB vU hA hI hAp 32 0 h1 _ _ (by omega) (by omega) (hG.trans (a2.less hG.next) (Nat.le_refl _)) (by omega) (hw.grow a2 hp) (by simp only [symM, Nat.reduceBEq]) (by simp only [symM, Nat.reduceBEq]) (by simp only [symM]; rfl))
  clear hX
  subst e1
  refine ⟨h2, ?_, e2, (a2.but pW).trans e3⟩
  simp only [symM, symM, symL]
  exact retB_zero ft39 rfl
end
end Go.Proofs.YtonfgflgnnkniaaGreat.Abs
namespace Go.Proofs.YtonfgflgnnkniaaGreat.Abs
open Go Go.Proofs
noncomputable section
variable {call : Abs.Callee}
set_option maxRecDepth 10000
theorem ft15 : T0.ft.get 15 = some Tryz.f15 := by kernel_rfl
theorem ft6 : T0.ft.get 6 = some Tryz.f6 := by kernel_rfl
theorem ft8 : T0.ft.get 8 = some Tryz.f8 := by kernel_rfl
abbrev OpenC (call : Abs.Callee) : Prop := ∀ (B f : Nat) (v : Value) (h : AH), 64 ≤ B → B ≤ 480 → 1 ≤ f → f ≤ 2 → WB h v (madeL B f) → ∃ pI h', call 35 [v] h = some (.tuple #[pv pI 0, iv 0], h') ∧ ImgR h' pI B f (madeL B f) ∧ h.next ≤ pI ∧ Grow h.next h h'
abbrev WnodeC (call : Abs.Callee) : Prop := ∀ (pW pI B f : Nat) (vB vU : Value) (l : List Nat) (h : AH), 64 ≤ B → B ≤ 480 → 1 ≤ f → f ≤ 2 → ImgR h pI B f (madeL B f) → pW < h.next → WkB h pW pI vB vU (0 :: l) → ∃ h', call 38 [pv pW 0, iv 0] h = some (.tuple #[], h') ∧ WkB h' pW pI vB vU (1 :: l) ∧ GrowBut pW h h'
abbrev FormC (call : Abs.Callee) : Prop := ∀ (pW pI B f : Nat) (vB vU : Value) (hA h : AH), 64 ≤ B → B ≤ 480 → 1 ≤ f → f ≤ 2 → ImgR hA pI B f (madeL B f) → hA.next ≤ pW → Grow hA.next hA h → pW < h.next → WkB h pW pI vB vU lk32 → ∃ h', call 39 [pv pW 0] h = some (.tuple #[], h') ∧ WkB h' pW pI vB vU lk32 ∧ GrowBut pW h h'
abbrev JobsC (call : Abs.Callee) : Prop := ∀ (pW pI B f : Nat) (vB vU : Value) (ls : List Nat) (h : AH), 1 ≤ f → f ≤ 2 → ImgR h pI B f (madeL B f) → pW < h.next → WkB h pW pI vB vU ls → ∃ h', call 40 [pv pW 0] h = some (.tuple #[], h') ∧ WkB h' pW pI vB vU ls ∧ GrowBut pW h h'
abbrev EqBC (call : Abs.Callee) : Prop := ∀ (n m : Nat) (v w : Value) (bs : List Nat) (h : AH), Row n h v (bytesV bs) 5 → Row m h w (bytesV bs) 5 → bs.length < 1000 → call 41 [v, w] h = some (.bool true, h)
theorem build_Wk {p b o l c : Nat} {h : AH} : evBuild T0 62 [(0, pv p 0), (1, .slice (some ⟨b, o, none⟩) l c)] h = some (.agg (wkL p (.slice (some ⟨b, o, none⟩) l c) nilV (List.replicate 32 0)).toArray, h) := by kernel_rfl
theorem box_Wk {l : List Value} {h : AH} : rp (some (evNewVar h 62 (.agg l.toArray))) = some (.value (pv h.next 0), h.new (.cells (PM.ofList l) l.length 62 0 0 .ex)) := box_agg
theorem WB.build {h : AH} {v : Value} {bss : List (List Nat)} (hv : WB h v bss) (h0 : bss.length ≠ 0) (p : Nat) (h' : AH) : evBuild T0 62 [(0, pv p 0), (1, v)] h' = some (.agg (wkL p v nilV (List.replicate 32 0)).toArray, h') := by
  obtain ⟨vs, h1, h2, _⟩ := hv
  rcases h1 with ⟨_, rfl⟩ | ⟨b, o, cap, c, k, lo, hi, kd, el, rfl, _⟩
  · exact absurd h2.symm h0
  · exact build_Wk
theorem ptrW_neq {b : Nat} {p q : Operand} {h : AH} : evBin T0 .neq 56 p q (pv b 0) (.pointer none) h = some (.bool true) := by kernel_rfl
theorem plan_wk : planB (regOps Tryz.f15 [1, 1, 1, 1, 1, 1, 1, 1, 1, 1, 0]) 76 = some ([.one 0, .one 1, .one 2, .one 3, .one 4, .one 5, .one 6, .one 7, .one 8, .one 9], []) := by kernel_rfl
theorem walk_S (hO : OpenC call) (hNew : NewC call) (hMk : MarkC call 9) (hN : NodeC call) (hF : FailC call) (hWn : WnodeC call) (hFo : FormC call) (hJ : JobsC call) (hEq : EqBC call) (B f : Nat) (k1 : 64 ≤ B) (k2 : B ≤ 480) (hf1 : 1 ≤ f) (hf2 : f ≤ 2) (v : Value) (h : AH) (hv : WB h v (madeL B f)) :
    ∃ pW pI vU h', frameB T0 X0 call 3000 15 [v] h = some (.tuple #[pv pW 0, iv 0], h') ∧ WkB h' pW pI v vU lk32 ∧ pW < h'.next ∧ Bks h' vU (markL 59) ∧ ImgR h' pI B f (madeL B f) ∧ Grow h.next h h' := by
  obtain ⟨pI, h1, a1, a2, a3, a4⟩ := hO B f v h k1 k2 hf1 hf2 hv
  have n1 := a4.next
  have hbW := hv.build (by rw [madeL_len]; omega) pI h1
  generalize hh2 : h1.new (.cells (PM.ofList (wkL pI v nilV (List.replicate 32 0))) (wkL pI v nilV (List.replicate 32 0)).length 62 0 0 .ex) = h2
  have g2 : Grow h1.next h1 h2 := by rw [← hh2]; exact Grow.new _ _
  have n2 : h2.next = h1.next + 1 := by rw [← hh2]; rfl
  have w2 : WkB h2 h1.next pI v nilV (List.replicate 32 0) := ⟨rfl, by rw [← hh2]; exact BoxL.new _ _ _⟩
  obtain ⟨v3, p3, h3, b1, b2, b3, b4, b5⟩ := hNew h2
  have n3 := b5.next
  generalize hh4 : h3.new (.cells (PM.ofList [cx ((0 : Nat) : Int) ((59 : Nat) : Int)]) 1 47 0 0 .ex) = h4
  have g4 : Grow h3.next h3 h4 := by rw [← hh4]; exact Grow.new _ _
  have n4 : h4.next = h3.next + 1 := by rw [← hh4]; rfl
  have cb : BoxL h4 h3.next 47 [cx ((0 : Nat) : Int) ((59 : Nat) : Int)] := by rw [← hh4]; exact BoxL.new _ _ _
  have hbs : evBuildSlice T0 66 1 [(0, .complex .f64 0 4633500329122463744)] h3 = some (.slice (some ⟨h3.next, 0, none⟩) 1 1, h4) := by
    rw [← hh4, ← zd_59]
    exact bs_cx (a := ((0 : Nat) : Int)) (b := ((59 : Nat) : Int))
  obtain ⟨vU, p5, h5, c1, c2, c3, c4, c5⟩ := hMk p3 h3.next v3 h4 (b4.grow g4 b3) (by omega) cb (by omega)
  have n5 := c5.next
  have F5 : Bks h5 vU (markL 59) := ⟨by rw [markL_len]; decide, by rw [markL_len]; decide, markL_lt 59, p5, c3, c4⟩
  have w5 := ((w2.grow b5 (by omega)).grow g4 (by omega)).grow c5 (by omega)
  obtain ⟨h6, d1, d2, d3⟩ := w5.setUsed ⟨F5.one1.1, F5.one1.2.1⟩
  have n6 := d3.next
  have F6 := F5.but d3.but w5.ty (by decide)
  have G5 : Grow h1.next h1 h5 := ((g2.trans b5 (by omega)).trans g4 (by omega)).trans c5 (by omega)
  have G6 : Grow h1.next h1 h6 := G5.trans (d3.grow (Nat.le_refl _)) (Nat.le_refl _)
  obtain ⟨x, h7, e1, e2, e3⟩ := hN pI B f 0 h6 k1 k2 hf1 hf2 (by decide) (a2.grow G6)
  have e1 : call 36 [pv pI 0, iv 0] h6 = some (.tuple #[nodeV (rootN f) nilV, x, nilV, iv 0], h7) := e1
  have n7 := e3.next
  generalize hh8 : h7.new (.cells (PM.ofList (nodeL NV.zero nilV)) 12 51 0 0 .ex) = h8
  have g8 : Grow h7.next h7 h8 := by rw [← hh8]; exact Grow.new _ _
  have n8 : h8.next = h7.next + 1 := by rw [← hh8]; rfl
  have z8 : NodeB h8 h7.next NV.zero nilV := by rw [← hh8]; exact NodeB.new _ _ _
  obtain ⟨h9, s1, s2, s3, s4⟩ := z8.storeAll (k := h7.next) (rootN f) (f := nilV) rfl (Nat.le_refl _)
  have G69 : Grow h6.next h6 h9 := e3.trans (g8.trans s3 (Nat.le_refl _)) n7
  have n9 := G69.next
  obtain ⟨h10, q1, q2, q3⟩ := hF h1.next pI v vU _ h9 (d2.grow G69 (by omega))
  have n10 := q3.next
  have F9 := F6.grow G69
  have F10 := F9.but q3.but (d2.grow G69 (by omega)).ty (by decide)
  have G10 : Grow h1.next h1 h10 := (G6.trans G69 (by omega)).trans (q3.grow (Nat.le_refl _)) (Nat.le_refl _)
  obtain ⟨h11, r1, r2, r3⟩ := hWn h1.next pI B f v vU (List.replicate 31 0) h10 k1 k2 hf1 hf2 (a2.grow G10) (by omega) q2
  have n11 := r3.next
  have F11 := F10.but r3 q2.ty (by decide)
  have G11 : Grow h1.next h1 h11 := G10.trans (r3.grow (Nat.le_refl _) (by omega)) (Nat.le_refl _)
  obtain ⟨h12, u1, u2, u3⟩ := hFo h1.next pI B f v vU h1 h11 k1 k2 hf1 hf2 a2 (Nat.le_refl _) G11 (by omega) r2
  have n12 := u3.next
  have F12 := F11.but u3 r2.ty (by decide)
  have G12 : Grow h1.next h1 h12 := G11.trans (u3.grow (Nat.le_refl _) (by omega)) (Nat.le_refl _)
  obtain ⟨h13, y1, y2, y3⟩ := hJ h1.next pI B f v vU lk32 h12 hf1 hf2 (a2.grow G12) (by omega) u2
  have n13 := y3.next
  have F13 := F12.but y3 u2.ty (by decide)
  have G13 : Grow h1.next h1 h13 := G12.trans (y3.grow (Nat.le_refl _) (by omega)) (Nat.le_refl _)
  have H13 : Grow h.next h h13 := a4.trans G13 n1
  obtain ⟨p2, w2', x2, _, x3⟩ := hv.ats (made_012 B f k1).2.2
  have x2 : evIndexAddr T0 30 v (iv 2) = some p2 := x2
  obtain ⟨x4, x5⟩ := x3 h13 H13
  obtain ⟨w3, z1, z2⟩ := x5.win (lov := none) (hiv := some (iv 60)) (lo := 0) (hh := 60) (.inr ⟨rfl, rfl⟩) (.inl rfl) (by omega) (by rw [flagBy_ok.1]; decide)
  rw [List.drop_zero, Nat.sub_zero, flag_take] at z2
  have eq := hEq _ _ w3 vU (markL 59) h13 z2.row F13.row (by rw [markL_len]; decide)
  have lenU : ∀ ty h', evBuiltin T0 .len #[38] ty [vU] h' = some (.value (iv 60), h') := fun ty h' => by rw [F13.row.len und_bytes, bytesV_len, markL_len]; rfl
  refine ⟨h1.next, pI, vU, h13, ?_, y2, by omega, F13, a2.grow G13, H13⟩
  have ld2 := (w2.grow ((b5.trans g4 (by omega)).trans c5 (by omega)) (by omega)).loads
  have ld6 := d2.loads
  have ld9 := s2.loads
  have ld13 := y2.loads
  have hp := plan_wk
  simp only [regOps, part, Tryz.f15, sub] at hp
  rw [frameB_eq ft15 rfl rfl]
  simp only [Tryz.f15, symM, opFn, Nat.reduceLT, Nat.reduceBEq, symM, evCall_fn ft35 rfl, a1, bin_neq, show ((0 : Int) == 0) = true from rfl, hbW, box_Wk, hh2, evCall_fn ft10 rfl, b1, hbs, evCall_fn ft9 rfl, c1, nil_pv, field_Wk, d1, ld6, evCall_fn ft36 rfl, e1, alloc_N, hh8, s1, field_N, ld9, bin_eql, show ((((rootN f).k : Nat) : Int) == 2) = true from rfl, evCall_fn ft37 rfl, q1, evCall_fn ft38 rfl, r1, evCall_fn ft39 rfl, u1, evCall_fn ft40 rfl, y1]
  rw [codeB_draw, draw_plan hp rfl]
  simp only [drawAll, opFn, Nat.reduceLT, Nat.reduceBEq, x2, x4, nil_pv, field_Wk, ld13, lenU, ev3, evOpt, z1]
  simp only [symM, opFn, Nat.reduceLT, Nat.reduceBEq, symM, evCall_fn ft41 rfl, eq]
  exact retB_two ft15 rfl (by simp only [symM, Nat.reduceBEq]) get_same
end
end Go.Proofs.YtonfgflgnnkniaaGreat.Abs
namespace Go.Proofs.YtonfgflgnnkniaaGreat.Abs
open Go Go.Proofs
noncomputable section
variable {call : Abs.Callee}
set_option maxRecDepth 10000
abbrev WalkC (call : Abs.Callee) : Prop := ∀ (B f : Nat) (v : Value) (h : AH), 64 ≤ B → B ≤ 480 → 1 ≤ f → f ≤ 2 → WB h v (madeL B f) → ∃ pW pI vU h', call 15 [v] h = some (.tuple #[pv pW 0, iv 0], h') ∧ WkB h' pW pI v vU lk32 ∧ pW < h'.next ∧ Bks h' vU (markL 59) ∧ ImgR h' pI B f (madeL B f) ∧ Grow h.next h h'
theorem Check_S (hW : WalkC call) (hS : SuperRC call) (B f : Nat) (k1 : 64 ≤ B) (k2 : B ≤ 480) (hf1 : 1 ≤ f) (hf2 : f ≤ 2) (v : Value) (h : AH) (hv : WB h v (madeL B f)) :
    ∃ h', frameB T0 X0 call 3000 6 [v] h = some (.tuple #[iv f, iv 0], h') ∧ Grow h.next h h' := by
  obtain ⟨pW, pI, vU, h1, a1, a2, a3, a4, a5, a6⟩ := hW B f v h k1 k2 hf1 hf2 hv
  obtain ⟨h2, b1, b2⟩ := hS pI B f _ h1 a5
  refine ⟨h2, ?_, a6.trans b2 a6.next⟩
  have ld := a2.loads
  rw [frameB_eq ft6 rfl rfl]
  simp only [Tryz.f6, symM, opFn, Nat.reduceLT, Nat.reduceBEq, symM, evCall_fn ft15 rfl, a1, bin_neq, show ((0 : Int) == 0) = true from rfl, nil_pv, field_Wk, ld, evCall_fn ft16 rfl, b1, field_Fm]
  exact retB_two ft6 rfl (by simp only [symM, Nat.reduceBEq]) get_same
theorem used_all : (List.range 480).all (fun i => bitB (markL 59) i == Nat.blt i 59) = true := by kernel_rfl
theorem used_at {i : Nat} (hi : i < 480) : bitB (markL 59) i = decide (i < 59) := by
  have := all_lt used_all i hi
  rw [beq_iff_eq] at this
  rw [this]
  by_cases h : i < 59
  · rw [decide_eq_true h, Nat.blt_eq]; exact h
  · rw [decide_eq_false h]
    cases hb : Nat.blt i 59 with
    | false => rfl
    | true => rw [Nat.blt_eq] at hb; exact absurd hb h
abbrev CUpC (call : Abs.Callee) : Prop := ∀ (bs : List Nat) (m : Value) (k n : Nat) (h : AH), (∀ x ∈ bs, x < 256) → Row k h m (bytesV bs) 5 → bs.length = 60 → n < 480 → call 18 [m, iv n] h = some (.tuple #[.bool (bitB bs n), iv 0], h)
noncomputable def bodyUs : Code := part Tryz.f8 [1, 1, 1, 1, 0, 1, 0, 0]
abbrev EUs : Env := ⟨8, 37, none⟩
theorem usLp (hU : CUpC call) (pW pI n : Nat) (v vU : Value) (hp : pW < n) :
    ∀ (k i : Nat) (w : Value) (h : AH) (tm : PM Value) (N : Nat), i + k = 480 → k + 60 ≤ N → n ≤ h.next → WkB h pW pI v vU lk32 → (∃ m, m ≤ n ∧ Row m h vU (bytesV (markL 59)) 5) → Own n h w (intsV (List.range (min i 59))) 3 →
      tm.get 4 = some (pv pW 0) → tm.get 6 = some w → tm.get 18 = some (iv i) →
      ∃ tm' h', codeB T0 X0 call N EUs (.loop bodyUs) tm h [] = .jump (.exit 0) tm' h' [] ∧ ((∃ w', tm'.get 6 = some w' ∧ Own n h' w' (intsV (List.range 59)) 3) ∧ Grow n h h') := by
  intro k
  induction k with
  | zero =>
    intro i w h tm N hi hN hn hw hr ho g4 g6 g18
    obtain ⟨N, rfl⟩ : ∃ a, N = a + 60 := ⟨N - 60, by omega⟩
    have hiB : i = 480 := by omega
    subst hiB
    apply Exists.intro; apply Exists.intro
    refine ⟨?_, ⟨w, ?_, ho⟩, Grow.refl _ _⟩
    · rw [codeB_loop]
      simp only [bodyUs, part, Tryz.f8, sub, symM, opFn, Nat.reduceLT, symM, g18, bin_lss, show decide (((480 : Nat) : Int) < 480) = false from rfl]
      rfl
    · simp only [symM, Nat.reduceBEq, g6]
  | succ k ih =>
    intro i w h tm N hi hN hn hw hr ho g4 g6 g18
    obtain ⟨N, rfl⟩ : ∃ a, N = a + 60 := ⟨N - 60, by omega⟩
    obtain ⟨m, hm, hrow⟩ := hr
    have cu := hU (markL 59) vU m i h (markL_lt 59) hrow (markL_len 59) (by omega)
    rw [used_at (by omega)] at cu
    have ldw := hw.loads
    rw [show N + 60 = (N + 59) + 1 from rfl, codeB_loop]
    by_cases h59 : i < 59
    · rw [decide_eq_true h59] at cu
      obtain ⟨w', h1, b1, b2, b3⟩ := app_int ho i (by rw [List.length_range]; omega) hn 32
      rw [show min i 59 = i by omega, ← List.range_succ, show i.succ = min (i + 1) 59 by omega] at b2
      simp only [bodyUs, part, Tryz.f8, sub, symM, opFn, Nat.reduceLT, Nat.reduceBEq, symM, g4, g6, g18, bin_lss, decide_eq_true (show (i : Int) < 480 by omega), nil_pv, field_Wk, ldw, evCall_fn ft18 rfl, cu, bs_int1, b1, bin_add, wadd1 (show i ≤ 400000 by omega)]
      exact wrapE (ih (i + 1) w' h1 _ (N + 59) (by omega) (by omega) (Nat.le_trans hn b3.next) ⟨hw.1, hw.2.grow b3 hp⟩ ⟨m, hm, hrow.grow b3 hm⟩ b2 (by simp only [symM, Nat.reduceBEq, g4]) (by simp only [symM, Nat.reduceBEq]) get_same) b3
    · rw [decide_eq_false h59] at cu
      rw [show min i 59 = min (i + 1) 59 by omega] at ho
      simp only [bodyUs, part, Tryz.f8, sub, symM, opFn, Nat.reduceLT, Nat.reduceBEq, symM, g4, g18, bin_lss, decide_eq_true (show (i : Int) < 480 by omega), nil_pv, field_Wk, ldw, evCall_fn ft18 rfl, cu, bin_add, wadd1 (show i ≤ 400000 by omega)]
      exact ih (i + 1) w h _ (N + 59) (by omega) (by omega) hn hw ⟨m, hm, hrow⟩ ho (by simp only [symM, Nat.reduceBEq, g4]) (by simp only [symM, Nat.reduceBEq, g6]) get_same
theorem Used_S (hW : WalkC call) (hU : CUpC call) (B f : Nat) (k1 : 64 ≤ B) (k2 : B ≤ 480) (hf1 : 1 ≤ f) (hf2 : f ≤ 2) (v : Value) (h : AH) (hv : WB h v (madeL B f)) :
    ∃ w h', frameB T0 X0 call 3000 8 [v] h = some (.tuple #[w, iv 0], h') ∧ Own h.next h' w (intsV (List.range 59)) 3 ∧ Grow h.next h h' := by
  obtain ⟨pW, pI, vU, h1, a1, a2, a3, a4, a5, a6⟩ := hW B f v h k1 k2 hf1 hf2 hv
  have n1 := a6.next
  rw [frameB_eq ft8 rfl rfl]
  simp only [Tryz.f8, symM, opFn, Nat.reduceLT, Nat.reduceBEq, symM, symL, evCall_fn ft15 rfl, a1, bin_neq, show ((0 : Int) == 0) = true from rfl]
  generalize hX : codeB T0 X0 call _ EUs (.loop _) _ _ _ = X
  obtain ⟨t2, h2, e1, ⟨w, e2, e3⟩, e4⟩ := use_exit hX (usLp hU pW pI h1.next v vU a3 480 0 nilV h1 _ _ (by omega) (by omega) (Nat.le_refl _) a2 ⟨h1.next, Nat.le_refl _, a4.row⟩ (Own.nil _ _ _) (by simp only [symM, Nat.reduceBEq]) (by simp only [symM, Nat.reduceBEq]) (by simp only [symM]; rfl))
  clear hX
  subst e1
  refine ⟨w, h2, ?_, e3.less n1, a6.trans e4 n1⟩
  simp only [symM, opFn, Nat.reduceLT, symM, symL, e2]
  exact retB_two ft8 rfl (by simp only [symM, Nat.reduceBEq]) get_same
end
end Go.Proofs.YtonfgflgnnkniaaGreat.Abs
