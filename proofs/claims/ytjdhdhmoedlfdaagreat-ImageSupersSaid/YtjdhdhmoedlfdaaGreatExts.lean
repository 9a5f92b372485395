
/- The pointers of a node; data blocks; slices.ContainsFunc. -/
import Derived.Test.YtjdhdhmoedlfdaaGreatBytes
namespace Go.Proofs.YtjdhdhmoedlfdaaGreat.Abs
open Go Go.Proofs
noncomputable section
variable {call : Abs.Callee}
set_option maxRecDepth 10000
theorem ft125 : T0.ft.get 125 = some Tryz.f125 := by kernel_rfl
theorem ft53 : T0.ft.get 53 = some Tryz.f53 := by kernel_rfl
theorem ft167 : T0.ft.get 167 = some Tryz.f167 := by kernel_rfl
theorem ft139 : T0.ft.get 139 = some Tryz.f139 := by kernel_rfl
theorem ft144 : T0.ft.get 144 = some Tryz.f144 := by kernel_rfl
theorem ft119 : T0.ft.get 119 = some Tryz.f119 := by kernel_rfl
theorem ft172 : T0.ft.get 172 = some Tryz.f172 := by kernel_rfl
theorem ft147 : T0.ft.get 147 = some Tryz.f147 := by kernel_rfl
theorem ft146 : T0.ft.get 146 = some Tryz.f146 := by kernel_rfl
theorem ft148 : T0.ft.get 148 = some Tryz.f148 := by kernel_rfl
noncomputable def bodyII : Code := part Tryz.f125 [1, 0, 1, 0, 0]
abbrev EIdxI : Env := ⟨125, 19, none⟩
theorem loopII (s : Value) (L : List Value) (n0 : Nat) (h : AH) (g : Nat) (cap : List Value) (fd : Func) (c : Code) (hg : T0.ft.get g = some fd) (hgb : fd.body = some c) (p : Value → Bool) (hs : Row n0 h s L 3) (hL : L.length < 1000000)
    (hp : ∀ x ∈ L, call g (x :: cap) h = some (.bool (p x), h)) :
    ∀ (l : List Value) (i : Nat) (tm : PM Value) (N : Nat), L.drop i = l → i + l.length = L.length → l.length + 20 ≤ N → tm.get 0 = some s → tm.get 1 = some (.func (.func g) #[] cap.toArray) → tm.get 7 = some (iv L.length) → tm.get 8 = some (iv i) →
      ∃ tm', (codeB T0 X0 call N EIdxI (.loop bodyII) tm h [] = .jump .ret tm' h [] ∧ tm'.get 4 = some (iv (idxF p l i))) ∨ (codeB T0 X0 call N EIdxI (.loop bodyII) tm h [] = .jump (.exit 0) tm' h [] ∧ idxF p l i = -1) := by
  intro l
  induction l with
  | nil =>
    intro i tm N hd hi hN h0 h1 h7 h8
    obtain ⟨N, rfl⟩ : ∃ a, N = a + 20 := ⟨N - 20, by simp at hN; omega⟩
    have hlt : decide ((i : Int) < (L.length : Nat)) = false := decide_eq_false (by simp at hi; omega)
    apply Exists.intro
    right
    refine ⟨?_, rfl⟩
    rw [codeB_loop]
    simp only [bodyII, part, Tryz.f125, sub, symM, opFn, Nat.reduceLT, h7, h8, bin_lss, hlt]
    rfl
  | cons x l ih =>
    intro i tm N hd hi hN h0 h1 h7 h8
    obtain ⟨N, rfl⟩ : ∃ a, N = a + 20 := ⟨N - 20, by simp at hN; omega⟩
    have hlt : decide ((i : Int) < (L.length : Nat)) = true := decide_eq_true (by simp at hi; omega)
    have hx : L[i]? = some x := by have := congrArg (fun l => l[0]?) hd; simpa using this
    obtain ⟨q, e1, e2⟩ := hs.at und_ints sz_int agg_int hx
    have hcall := hp x (List.mem_of_getElem? hx)
    have hw : IntKind.i64.wrap ((i : Int) + 1) = ((i + 1 : Nat) : Int) := by rw [IntWalk.i64_in _ (by simp at hi; omega)]; simp
    cases hb : p x with
    | true =>
      apply Exists.intro
      left
      apply And.intro
      · rw [codeB_loop]
        simp only [bodyII, part, Tryz.f125, sub, symM, opFn, Nat.reduceLT, Nat.reduceBEq, h0, h1, h7, h8, bin_lss, hlt, e1, e2, evCall_clo hg hgb, List.cons_append, List.nil_append, hcall, hb]
        rfl
      · simp only [symM, idxF, hb, cond_true]
    | false =>
      rw [show N + 20 = (N + 19) + 1 from rfl, codeB_loop]
      simp only [bodyII, part, Tryz.f125, sub, symM, opFn, Nat.reduceLT, Nat.reduceBEq, h0, h1, h7, h8, bin_lss, hlt, e1, e2, evCall_clo hg hgb, List.cons_append, List.nil_append, hcall, hb, bin_add, hw]
      rw [show idxF p (x :: l) i = idxF p l (i + 1) from by rw [idxF, hb]; rfl]
      exact ih (i + 1) _ (N + 19) (by rw [← List.drop_drop, hd]; rfl) (by simp at hi ⊢; omega) (by simp at hN ⊢; omega) (by simp only [symM, Nat.reduceBEq, h0]) (by simp only [symM, Nat.reduceBEq, h1]) (by simp only [symM, Nat.reduceBEq, h7]) get_same
theorem IndexI_S (s : Value) (L : List Value) (n0 : Nat) (h : AH) (g : Nat) (cap : List Value) (fd : Func) (c : Code) (hg : T0.ft.get g = some fd) (hgb : fd.body = some c) (p : Value → Bool) (hs : Row n0 h s L 3) (hL : L.length < 900)
    (hp : ∀ x ∈ L, call g (x :: cap) h = some (.bool (p x), h)) : frameB T0 X0 call 3000 125 [s, .func (.func g) #[] cap.toArray] h = some (iv (idxF p L 0), h) := by
  rw [frameB_eq ft125 rfl rfl]
  have hL2 := fun tm N => loopII s L n0 h g cap fd c hg hgb p hs (by omega) hp L 0 tm N rfl (by simp)
  simp only [Tryz.f125, symM, opFn, Nat.reduceLT, Nat.reduceBEq, hs.len und_ints]
  refine bind_loopJ (b := bodyII) (Q := fun x => ∃ tm', (x = .jump .ret tm' h [] ∧ tm'.get 4 = some (iv (idxF p L 0))) ∨ (x = .jump (.exit 0) tm' h [] ∧ idxF p L 0 = -1)) (P := fun x => endF T0 125 x = some (iv (idxF p L 0), h)) ?_ ?_
  · exact hL2 _ _ (by omega) (by simp only [symM, Nat.reduceBEq]) (by simp only [symM, Nat.reduceBEq]) (by simp only [symM, Nat.reduceBEq]) (by simp only [symM]; rfl)
  · intro x ⟨tm', hx⟩
    rcases hx with ⟨rfl, h4⟩ | ⟨rfl, h4⟩
    · simp only [symM]
      exact retB_one ft125 rfl h4
    · rw [h4]
      simp only [symM]
      exact retB_one ft125 rfl get_same
theorem idxF_any (p : Value → Bool) : ∀ (L : List Value) (i : Nat), decide ((0 : Int) ≤ idxF p L i) = L.any p
  | [], i => rfl
  | x :: L, i => by
    rw [idxF, List.any_cons]
    cases p x with
    | true => rw [cond_true, Bool.true_or]; exact decide_eq_true (by omega)
    | false => rw [cond_false, Bool.false_or]; exact idxF_any p L (i + 1)
theorem ContainsI_S (v f : Value) (L : List Value) (p : Value → Bool) (h : AH) (hI : call 125 [v, f] h = some (iv (idxF p L 0), h)) :
    frameB T0 X0 call 3000 53 [v, f] h = some (.bool (L.any p), h) := by
  rw [frameB_eq ft53 rfl rfl]
  simp only [Tryz.f53, symM, opFn, Nat.reduceLT, Nat.reduceBEq, evCall_fn ft125 rfl, hI, bin_geq, idxF_any]
  exact retB_one ft53 rfl get_same
theorem Contains_S (v f : Value) (L : List Value) (p : Value → Bool) (h : AH) (hI : call 155 [v, f] h = some (iv (idxF p L 0), h)) :
    frameB T0 X0 call 3000 167 [v, f] h = some (.bool (L.any p), h) := by
  rw [frameB_eq ft167 rfl rfl]
  simp only [Tryz.f167, symM, opFn, Nat.reduceLT, Nat.reduceBEq, evCall_fn ft155 rfl, hI, bin_geq, idxF_any]
  exact retB_one ft167 rfl get_same
def dataN (n : Nat) : Bool := decide (59 ≤ n ∧ n < 480)
def namedN (n : Nat) : Bool := decide (n = 0) || dataN n
theorem Data_S (n : Nat) (h : AH) : frameB T0 X0 call 3000 119 [iv n] h = some (.bool (dataN n), h) := by
  rw [frameB_eq ft119 rfl rfl]
  unfold dataN
  by_cases h1 : 59 ≤ n
  · by_cases h2 : n < 480
    · rw [decide_eq_true (show 59 ≤ n ∧ n < 480 from ⟨h1, h2⟩)]
      simp only [Tryz.f119, symM, opFn, Nat.reduceLT, Nat.reduceBEq, bin_geq, bin_lss, decide_eq_true (show (59 : Int) ≤ n by omega), decide_eq_true (show (n : Int) < 480 by omega)]
      exact retB_one ft119 rfl get_same
    · rw [decide_eq_false (show ¬ (59 ≤ n ∧ n < 480) by omega)]
      simp only [Tryz.f119, symM, opFn, Nat.reduceLT, Nat.reduceBEq, bin_geq, bin_lss, decide_eq_true (show (59 : Int) ≤ n by omega), decide_eq_false (show ¬ (n : Int) < 480 by omega)]
      exact retB_one ft119 rfl get_same
  · rw [decide_eq_false (show ¬ (59 ≤ n ∧ n < 480) by omega)]
    simp only [Tryz.f119, symM, opFn, Nat.reduceLT, Nat.reduceBEq, symM, bin_geq, decide_eq_false (show ¬ (59 : Int) ≤ n by omega)]
    exact retB_one ft119 rfl get_same
theorem rData_S (n : Nat) (h : AH) : frameB T0 X0 call 3000 172 [iv n] h = some (.bool (dataN n), h) := by
  rw [frameB_eq ft172 rfl rfl]
  unfold dataN
  by_cases h1 : 59 ≤ n
  · by_cases h2 : n < 480
    · rw [decide_eq_true (show 59 ≤ n ∧ n < 480 from ⟨h1, h2⟩)]
      simp only [Tryz.f172, symM, opFn, Nat.reduceLT, Nat.reduceBEq, bin_geq, bin_lss, decide_eq_true (show (59 : Int) ≤ n by omega), decide_eq_true (show (n : Int) < 480 by omega)]
      exact retB_one ft172 rfl get_same
    · rw [decide_eq_false (show ¬ (59 ≤ n ∧ n < 480) by omega)]
      simp only [Tryz.f172, symM, opFn, Nat.reduceLT, Nat.reduceBEq, bin_geq, bin_lss, decide_eq_true (show (59 : Int) ≤ n by omega), decide_eq_false (show ¬ (n : Int) < 480 by omega)]
      exact retB_one ft172 rfl get_same
  · rw [decide_eq_false (show ¬ (59 ≤ n ∧ n < 480) by omega)]
    simp only [Tryz.f172, symM, opFn, Nat.reduceLT, Nat.reduceBEq, symM, bin_geq, decide_eq_false (show ¬ (59 : Int) ≤ n by omega)]
    exact retB_one ft172 rfl get_same
theorem named_S (hD : ∀ (n : Nat) (h : AH), call 119 [iv n] h = some (.bool (dataN n), h)) (n : Nat) (h : AH) : frameB T0 X0 call 3000 147 [iv n] h = some (.bool (namedN n), h) := by
  rw [frameB_eq ft147 rfl rfl]
  unfold namedN
  by_cases h1 : n = 0
  · rw [decide_eq_true h1, Bool.true_or]
    simp only [Tryz.f147, symM, opFn, Nat.reduceLT, Nat.reduceBEq, symM, bin_eql, eqT (show (n : Int) = 0 by omega)]
    exact retB_one ft147 rfl get_same
  · rw [decide_eq_false h1, Bool.false_or]
    simp only [Tryz.f147, symM, opFn, Nat.reduceLT, Nat.reduceBEq, symM, bin_eql, eqF (show ¬ (n : Int) = 0 by omega), evCall_fn ft119 rfl, hD]
    exact retB_one ft147 rfl get_same
theorem Snd1_S (hN : ∀ (n : Nat) (h : AH), call 147 [iv n] h = some (.bool (namedN n), h)) (n : Nat) (h : AH) : frameB T0 X0 call 3000 146 [iv n] h = some (.bool (!namedN n), h) := by
  rw [frameB_eq ft146 rfl rfl]
  simp only [Tryz.f146, symM, opFn, Nat.reduceLT, Nat.reduceBEq, symM, evCall_fn ft147 rfl, hN]
  exact retB_one ft146 rfl get_same
theorem Snd2_S (n : Nat) (h : AH) : frameB T0 X0 call 3000 148 [iv n] h = some (.bool (!decide (n = 0)), h) := by
  rw [frameB_eq ft148 rfl rfl]
  have : ((n : Int) == 0) = decide (n = 0) := by
    by_cases h1 : n = 0
    · rw [decide_eq_true h1, eqT (by omega)]
    · rw [decide_eq_false h1, eqF (by omega)]
  simp only [Tryz.f148, symM, opFn, Nat.reduceLT, Nat.reduceBEq, symM, bin_neq, this]
  exact retB_one ft148 rfl get_same
def intsV (l : List Nat) : List Value := l.map fun (x : Nat) => iv x
def ptrs (n : NV) : List Nat := [n.d0, n.d1, n.d2, n.d3, n.si, n.du]
theorem append_exact {T : Tab} {sT xT e : TypeId} {i : TypeInfo} {z : Value} {s : Nat} (hs : und T sT = some (.slice e)) (hi : T.tt.get e = some i) (hz : i.zero = some z) (h1 : i.size = s) (hb : i.bytes ≤ 64)
    {n : Nat} {h : AH} {x : Value} {b o k m N : Nat} {c : PM Value} {el lo hi2 : Nat} {kd : BKind} {cs new : List Value} (hg : h.get b = some (.cells c N el lo hi2 kd)) (hcs : cs.length = k * s) (hN : o + k * s ≤ N) (hk : 0 < k) (hc : ∀ (j : Nat) (y : Value), cs[j]? = some y → c.get (o + j) = some y)
    (happ : appendedA T xT i z x h = some (m, new)) (hm : new.length = m * s) (h0 : 0 < m) (hl : k + m < 1000000) (hn : n ≤ h.next) (ty : TypeId) :
    ∃ v' h', evBuiltin T .append #[sT, xT] ty [.slice (some ⟨b, o, none⟩) k k, x] h = some (.value v', h') ∧ OwnC s n h' v' (k + m) (cs ++ new) e ∧ Grow n h h' := by
  subst h1
  have hbnd : (Nat.ble ((k + m) * i.bytes) 17592186044416 && Nat.ble (k + m) 17592186044416) = true := by
    have h2 : (k + m) * i.bytes ≤ 1000000 * 64 := Nat.mul_le_mul (by omega) hb
    rw [Nat.ble_eq_true_of_le (by omega), Nat.ble_eq_true_of_le (by omega)]
    rfl
  have hold : firstA i.size k h (.slice (some ⟨b, o, none⟩) k k) = some cs := by
    unfold firstA
    show ifB (Nat.beq k 0) (some []) (ifB (Nat.ble k k) (loadRow h b o (k * i.size)) none) = some cs
    rw [show Nat.beq k 0 = false from by cases k with | zero => omega | succ k => rfl, ifB_false, Nat.ble_eq_true_of_le (Nat.le_refl _), ifB_true, ← hcs]
    exact loadRow_of hg (by omega) hc
  refine ⟨_, _, ?_, .inr ⟨h.next, PM.ofList (cs ++ new), .loose, XB + (k + m), hn, Nat.lt_succ_self _, rfl, get_new_same _ _, by rw [List.length_append, hcs, hm, Nat.add_mul], fun i y hy => by rw [PM.get_ofList]; exact hy, .inr ⟨rfl, rfl⟩⟩, (Grow.new h _).less hn⟩
  show (match evAppend T sT xT (.slice (some ⟨b, o, none⟩) k k) x h with
      | some p => (some (Out.value p.1, p.2) : Res)
      | none => none) = _
  have hcap : capOf k = k := by unfold capOf; rw [ble_no (by rw [XB_val]; omega)]; rfl
  unfold evAppend
  simp only [hs, hi, hz, happ, appendTo, hcap]
  rw [ble_no (by omega : k < k + m), ifB_false, hbnd, ifB_true, hold]
  simp only
  rw [ble_no (by rw [XB_val]; omega : k < XB)]
  rfl
theorem und_arr4 : und T0 45 = some (.array 4 3) := by kernel_rfl
theorem slice_arr {b : Nat} {h : AH} : evSliceX T0 45 (pv b 4) none none none h = some (.slice (some ⟨b, 4, none⟩) 4 4, h) := by
  simp only [evSliceX, evSlice, und_arr4, sz_int]
  rfl
theorem all_S (n : NV) (e : Value) (h : AH) : ∃ v' h', frameB T0 X0 call 3000 144 [nodeV n e] h = some (v', h') ∧ Own h.next h' v' (intsV (ptrs n)) 3 ∧ Grow h.next h h' := by
  generalize hh1 : h.new (.cells (PM.ofList (nodeL n e)) (nodeL n e).length 48 0 0 .ex) = h1
  have g1 : Grow h.next h h1 := by rw [← hh1]; exact Grow.new _ _
  have hb1 : NodeB h1 h.next n e := by rw [← hh1]; exact NodeB.new _ _ _
  have q := hb1.loads
  have hbn : ∀ h, rp (some (evNewVar h 48 (nodeV n e))) = some (.value (pv h.next 0), h.new (.cells (PM.ofList (nodeL n e)) (nodeL n e).length 48 0 0 .ex)) := fun h => box_agg
  refine ⟨_, _, ?_, (Own.built (n := h1.next) (h := h1) (e := 3) (intsV (ptrs n)) (Nat.le_refl _)).less g1.next, g1.trans ((Grow.new _ _).less g1.next) (Nat.le_refl _)⟩
  rw [frameB_eq ft144 rfl rfl]
  simp only [Tryz.f144, symM, opFn, Nat.reduceLT, Nat.reduceBEq, symM, hbn, hh1, field_N, index_A, q, bsx_gen, goBSX_some, bs_int6]
  exact retB_one ft144 rfl get_same
theorem plan_ptr : planB (regOps Tryz.f139 [1, 0]) 11 = some ([.one 0, .one 1, .one 2, .one 3, .one 4, .one 5, .eff [6] 7 [], .one 8], []) := by kernel_rfl
theorem pointers_S (n : NV) (e : Value) (h : AH) : ∃ v' h', frameB T0 X0 call 3000 139 [nodeV n e] h = some (v', h') ∧ Own h.next h' v' (intsV (ptrs n)) 3 ∧ Grow h.next h h' := by
  generalize hh1 : h.new (.cells (PM.ofList (nodeL n e)) (nodeL n e).length 48 0 0 .ex) = h1
  have g1 : Grow h.next h h1 := by rw [← hh1]; exact Grow.new _ _
  have hb1 : NodeB h1 h.next n e := by rw [← hh1]; exact NodeB.new _ _ _
  have l1 : h.next < h1.next := by rw [← hh1]; exact Nat.lt_succ_self _
  have q := hb1.loads
  have hbn : ∀ h, rp (some (evNewVar h 48 (nodeV n e))) = some (.value (pv h.next 0), h.new (.cells (PM.ofList (nodeL n e)) (nodeL n e).length 48 0 0 .ex)) := fun h => box_agg
  generalize hh2 : h1.new (.cells (PM.ofList [iv n.si, iv n.du]) 2 3 0 0 .ex) = h2
  have g2 : Grow h1.next h1 h2 := by rw [← hh2]; exact Grow.new _ _
  have hx : OwnC 1 h1.next h2 (.slice (some ⟨h1.next, 0, none⟩) 2 2) 2 [iv n.si, iv n.du] 3 := by
    rw [← hh2]; exact (Own.built (n := h1.next) (h := h1) (e := 3) [iv n.si, iv n.du] (Nat.le_refl _)).c
  rw [← ti_int.2.1] at hx
  obtain ⟨c, c1, c2⟩ := hb1.grow g2 l1
  obtain ⟨v3, h3, e1, e2, e3⟩ := append_exact und_ints tt_int ti_int.1 ti_int.2.1 ti_int.2.2 (n := h.next) (cs := [iv n.d0, iv n.d1, iv n.d2, iv n.d3]) c1 (k := 4) (o := 4) rfl (by simp [nodeL]) (by omega) (fun j y hj => c2 (4 + j) y (by
      match j with
      | 0 | 1 | 2 | 3 => exact hj
      | j + 4 => simp at hj)) (appended_own und_ints hx) rfl (by omega) (by omega) (Nat.le_trans g1.next g2.next) 31
  refine ⟨v3, h3, ?_, by have := e2.own; exact this, (g1.trans g2 g1.next).trans e3 (Nat.le_refl _)⟩
  have hp := plan_ptr
  simp only [regOps, part, Tryz.f139, sub] at hp
  have hb2 : evBuildSlice T0 31 2 [(0, iv n.si), (1, iv n.du)] h1 = some (.slice (some ⟨h1.next, 0, none⟩) 2 2, h2) := by rw [← hh2]; exact bs_int2
  rw [frameB_eq ft139 rfl rfl]
  simp only [Tryz.f139, symM, opFn, Nat.reduceLT, symM, hbn, hh1]
  rw [codeB_draw, draw_plan hp rfl]
  simp only [drawAll, opFn, Nat.reduceBEq, ev3, evOpt, field_N, q, slice_arr]
  rw [goA_bsn (vs := [(0, iv n.si), (1, iv n.du)]) (by simp only [drawAll, Nat.reduceBEq]) hb2]
  simp only [drawAll, opFn, Nat.reduceBEq, e1]
  exact retB_one ft139 rfl get_same
end
end Go.Proofs.YtjdhdhmoedlfdaaGreat.Abs
namespace Go.Proofs.YtjdhdhmoedlfdaaGreat.Abs
open Go Go.Proofs
noncomputable section
variable {call : Abs.Callee}
set_option maxRecDepth 10000
theorem ft120 : T0.ft.get 120 = some Tryz.f120 := by kernel_rfl
theorem ft168 : T0.ft.get 168 = some Tryz.f168 := by kernel_rfl
theorem ft169 : T0.ft.get 169 = some Tryz.f169 := by kernel_rfl
def meetX (r x : XV) : Bool := decide (r.x < x.x + x.y ∧ x.x < r.x + r.y)
def badX (en : Nat) (nx : Int) (x : XV) : Bool := !(runOK x.x x.y) || (decide (x.x < 59) || (decide (x.a < en) || ((decide (x.a = en) && decide ((x.x : Int) = nx)) || decide (96 < x.a + x.y))))
def extG : Nat → Int → List XV → List XV → Bool
  | _, _, _, [] => true
  | en, nx, prev, x :: l => !badX en nx x && (!(prev.any fun r => meetX r x) && extG (x.a + x.y) ((x.x + x.y : Nat) : Int) (prev ++ [x]) l)
theorem bi_max {T : Tab} {ts : Array TypeId} {ty : TypeId} {k : IntKind} {x y : Int} {h : AH} : evBuiltin T .max ts ty [.int k x, .int k y] h = some (.value (.int k (if y > x then y else x)), h) := by
  simp only [evBuiltin, flatOp]
  rfl
theorem runOK_b {x y : Nat} (h : runOK x y = true) : 1 ≤ y ∧ x + y ≤ 480 := of_decide_eq_true h
theorem Meet_S (hS : ∀ (x y : Nat) h, x ≤ 1048576 → y ≤ 1048576 → call 107 [cx x y] h = some (.bool (runOK x y), h)) (hp : ∀ (x y : Nat) h, x ≤ 1048576 → y ≤ 1048576 → call 108 [cx x y] h = some (.tuple #[iv x, iv y], h))
    (hm : ∀ (x y : Int) h, zok x = true → zok y = true → call 163 [iv x, iv y] h = some (make1V x y, h))
    (r x : XV) (hr : runOK r.x r.y = true) (hx : runOK x.x x.y = true) (h : AH) :
    ∃ a b : Int, frameB T0 X0 call 3000 169 [cx r.x r.y, cx x.x x.y] h = some (make1V a b, h) ∧ zok a = true ∧ zok b = true ∧ decide (0 < b) = meetX r x := by
  have b1 := runOK_b hr
  have b2 := runOK_b hx
  have w1 : IntKind.i64.wrap ((r.x : Int) + r.y) = (r.x : Int) + r.y := wz (by omega)
  have w2 : IntKind.i64.wrap ((x.x : Int) + x.y) = (x.x : Int) + x.y := wz (by omega)
  have m1 : -1000 ≤ (if (x.x : Int) > r.x then (x.x : Int) else r.x) ∧ (if (x.x : Int) > r.x then (x.x : Int) else r.x) ≤ 1000 := by split <;> omega
  have m2 : -1000 ≤ (if (x.x : Int) + x.y < (r.x : Int) + r.y then (x.x : Int) + x.y else (r.x : Int) + r.y) ∧ (if (x.x : Int) + x.y < (r.x : Int) + r.y then (x.x : Int) + x.y else (r.x : Int) + r.y) ≤ 1000 := by split <;> omega
  have w3 : IntKind.i64.wrap ((if (x.x : Int) + x.y < (r.x : Int) + r.y then (x.x : Int) + x.y else (r.x : Int) + r.y) - (if (x.x : Int) > r.x then (x.x : Int) else r.x)) = _ := wz (by omega)
  have z1 : zok (if (x.x : Int) > r.x then (x.x : Int) else r.x) = true := zok_k (by omega)
  have z2 : zok ((if (x.x : Int) + x.y < (r.x : Int) + r.y then (x.x : Int) + x.y else (r.x : Int) + r.y) - (if (x.x : Int) > r.x then (x.x : Int) else r.x)) = true := zok_k (by omega)
  refine ⟨_, _, ?_, z1, z2, ?_⟩
  · rw [frameB_eq ft169 rfl rfl]
    simp only [Tryz.f169, symM, opFn, Nat.reduceLT, Nat.reduceBEq, symM, evCall_fn ft107 rfl, evCall_fn ft108 rfl, evCall_fn ft163 rfl, hS r.x r.y _ (by omega) (by omega), hS x.x x.y _ (by omega) (by omega), hr, hx, hp r.x r.y _ (by omega) (by omega), hp x.x x.y _ (by omega) (by omega), bi_max, bi_min, bin_add, bin_sub, w1, w2, w3, hm _ _ _ z1 z2]
    exact retB_one ft169 rfl get_same
  · unfold meetX
    apply decide_eq_decide.2
    constructor
    · intro h0
      split at h0 <;> split at h0 <;> omega
    · intro h0
      split <;> split <;> omega
theorem zd0 : zd 0 = 0 := by decide
theorem neq_make {t : TypeId} {p q : Operand} {h : AH} {a b : Int} (ha : zok a = true) (hb : zok b = true) : evBin T0 .neq t p q (make1V a b) (.complex .f64 0 0) h = some (.bool (decide (0 < b))) := by
  unfold make1V
  have h0 : (.complex .f64 0 0 : Value) = cx 0 0 := by unfold cx; rw [zd0]
  by_cases hb0 : b ≤ 0
  · rw [if_pos hb0, h0, c_neq (by decide) (by decide) (by decide) (by decide), decide_eq_false (show ¬ 0 < b by omega)]
    rfl
  · rw [if_neg hb0, h0, c_neq ha hb (by decide) (by decide), decide_eq_true (show 0 < b by omega), decide_eq_false (show ¬ b = 0 by omega), Bool.and_false]
    rfl
theorem Ext1_S (hM : ∀ (r x : XV) (h : AH), runOK r.x r.y = true → runOK x.x x.y = true → ∃ a b : Int, call 169 [cx r.x r.y, cx x.x x.y] h = some (make1V a b, h) ∧ zok a = true ∧ zok b = true ∧ decide (0 < b) = meetX r x)
    (r x : XV) (hr : runOK r.x r.y = true) (hx : runOK x.x x.y = true) (b : Nat) (h : AH) (hb : BoxL h b 107 [iv x.a, cx x.x x.y]) :
    frameB T0 X0 call 3000 168 [cx r.x r.y, pv b 0] h = some (.bool (meetX r x), h) := by
  obtain ⟨p, q, e1, z1, z2, e2⟩ := hM r x h hr hx
  rw [frameB_eq ft168 rfl rfl]
  simp only [Tryz.f168, symM, opFn, Nat.reduceLT, Nat.reduceBEq, symM, field_E1, Nat.zero_add, (BoxE.load hb).2.2, evCall_fn ft169 rfl, e1, neq_make z1 z2, e2]
  exact retB_one ft168 rfl get_same
def runsV (xs : List XV) : List Value := xs.map fun x => cx x.x x.y
theorem bs_run {x y : Int} {h : AH} : evBuildSlice T0 83 1 [(0, cx x y)] h = some (.slice (some ⟨h.next, 0, none⟩) 1 1, h.new (.cells (PM.ofList [cx x y]) 1 84 0 0 .ex)) := bs_one und_c128s sz_c128 zero_c128 rfl rfl
theorem BoxL.same {h h' : AH} {b el : Nat} {l : List Value} (hb : BoxL h b el l) (e : h'.get b = h.get b) : BoxL h' b el l := by
  obtain ⟨c, h1, h2⟩ := hb
  exact ⟨c, e.trans h1, h2⟩
theorem wrapG {P : PM Value → AH → Prop} {n : Nat} {a b : AH} (H : ∃ t c, P t c ∧ Grow n b c) (g : Grow n a b) : ∃ t c, P t c ∧ Grow n a c := by
  obtain ⟨t, c, h1, h2⟩ := H
  exact ⟨t, c, h1, g.trans h2 (Nat.le_refl _)⟩
noncomputable def bodyEx : Code := part Tryz.f120 [1, 1, 1, 1, 0, 1, 0, 0]
abbrev EEx : Env := ⟨120, 73, none⟩
theorem extLoop (hP : ∀ (x y : Nat) (h : AH), x ≤ 1048576 → y ≤ 1048576 → call 43 [cx x y] h = some (partsV x y, h))
    (hC : ∀ (v : Value) (prev : List XV) (x : XV) (n0 : Nat) (h : AH) (b : Nat), Row n0 h v (runsV prev) 84 → prev.length < 200 → BoxL h b 107 [iv x.a, cx x.x x.y] → (∀ r ∈ prev, runOK r.x r.y = true) → runOK x.x x.y = true →
      call 167 [v, .func (.func 168) #[] #[pv b 0]] h = some (.bool (prev.any fun r => meetX r x), h))
    (v : Value) (xs : List XV) (n0 n1 : Nat) (hn01 : n0 ≤ n1) (hx : ∀ x ∈ xs, okX x) (hL : xs.length ≤ 96) :
    ∀ (l prev : List XV) (i en : Nat) (nx : Int) (tm : PM Value) (h : AH) (rv : Value) (N : Nat), xs.drop i = l → i + l.length = xs.length → prev.length = i → (∀ r ∈ prev, runOK r.x r.y = true) → l.length + 60 ≤ N → n1 ≤ h.next → RowE n0 h v xs → Own n1 h rv (runsV prev) 84 →
      tm.get 3 = some (iv en) → tm.get 4 = some (iv nx) → tm.get 5 = some rv → tm.get 14 = some v → tm.get 15 = some (iv xs.length) → tm.get 16 = some (iv i) →
      ∃ tm' h', ((codeB T0 X0 call N EEx (.loop bodyEx) tm h [] = .jump .ret tm' h' [] ∧ tm'.get 2 = some (.bool false) ∧ extG en nx prev l = false) ∨ (codeB T0 X0 call N EEx (.loop bodyEx) tm h [] = .jump (.exit 0) tm' h' [] ∧ extG en nx prev l = true)) ∧ Grow n1 h h' := by
  intro l
  induction l with
  | nil =>
    intro prev i en nx tm h rv N hd hi hpl hpr hN hn hv ho g3 g4 g5 g14 g15 g16
    obtain ⟨N, rfl⟩ : ∃ a, N = a + 60 := ⟨N - 60, by simp at hN; omega⟩
    apply Exists.intro; apply Exists.intro
    refine ⟨.inr ⟨?_, rfl⟩, Grow.refl _ _⟩
    rw [codeB_loop]
    simp only [bodyEx, part, Tryz.f120, sub, symM, opFn, Nat.reduceLT, g15, g16, bin_lss, decide_eq_false (show ¬ (i : Int) < (xs.length : Nat) by simp at hi; omega)]
    rfl
  | cons x l ih =>
    intro prev i en nx tm h rv N hd hi hpl hpr hN hn hv ho g3 g4 g5 g14 g15 g16
    obtain ⟨N, rfl⟩ : ∃ a, N = a + 60 := ⟨N - 60, by simp at hN; omega⟩
    have hx1 : xs[i]? = some x := by have := congrArg (fun l => l[0]?) hd; simpa using this
    have hil : i < xs.length := by simp at hi; omega
    have hlt := decide_eq_true (show (i : Int) < (xs.length : Nat) by omega)
    obtain ⟨k1, k2, k3⟩ := hx x (List.mem_of_getElem? hx1)
    obtain ⟨b1, o1, p1, p2, _, _⟩ := hv.at hx1
    generalize hh1 : h.new (.cells (PM.ofList [iv 0, .complex .f64 0 0]) 2 107 0 0 .ex) = h1
    have q1 : Grow h.next h h1 := by rw [← hh1]; exact Grow.new _ _
    have hb1 : BoxL h1 h.next 107 [iv 0, .complex .f64 0 0] := by rw [← hh1]; exact BoxL.new _ _ _
    obtain ⟨h2, s1, s2, s3, s4⟩ := BoxE.store hb1 x (Nat.le_refl _)
    have q2 : Grow h.next h h2 := q1.trans s3 (Nat.le_refl _)
    have q2' : Grow n1 h h2 := q2.less hn
    obtain ⟨f1, f2, f3⟩ := BoxE.load s2
    have hPx := hP x.x x.y h2 (by omega) (by omega)
    have w96 : IntKind.i64.wrap (96 - (x.y : Int)) = 96 - (x.y : Int) := wz (by omega)
    cases hrun : runOK x.x x.y with
    | false =>
      apply Exists.intro; apply Exists.intro
      refine ⟨.inl ⟨?_, ?_, by unfold extG badX; rw [hrun]; rfl⟩, q2'⟩
      rw [codeB_loop]
      simp only [bodyEx, part, Tryz.f120, sub, symM, opFn, Nat.reduceLT, Nat.reduceBEq, symM, g14, g15, g16, bin_lss, hlt, p1, p2, alloc_E, hh1, s1, field_E1, Nat.zero_add, f3, evCall_fn ft43 rfl, hPx, partsV, hrun, cond_false, bin_neq, show ((2 : Int) == 0) = false from rfl]
      rfl
      simp only [symM]
    | true =>
      have rb := runOK_b hrun
      by_cases c2 : x.x < 59
      · apply Exists.intro; apply Exists.intro
        refine ⟨.inl ⟨?_, ?_, by unfold extG badX; rw [hrun, decide_eq_true c2]; rfl⟩, q2'⟩
        rw [codeB_loop]
        simp only [bodyEx, part, Tryz.f120, sub, symM, opFn, Nat.reduceLT, Nat.reduceBEq, symM, g14, g15, g16, bin_lss, hlt, p1, p2, alloc_E, hh1, s1, field_E1, Nat.zero_add, f3, evCall_fn ft43 rfl, hPx, partsV, hrun, cond_true, bin_neq, show ((0 : Int) == 0) = true from rfl, decide_eq_true (show (x.x : Int) < 59 by omega)]
        rfl
        simp only [symM]
      have d2 := decide_eq_false (show ¬ (x.x : Int) < 59 by omega)
      by_cases c3 : x.a < en
      · apply Exists.intro; apply Exists.intro
        refine ⟨.inl ⟨?_, ?_, by unfold extG badX; rw [hrun, decide_eq_false c2, decide_eq_true c3]; rfl⟩, q2'⟩
        rw [codeB_loop]
        simp only [bodyEx, part, Tryz.f120, sub, symM, opFn, Nat.reduceLT, Nat.reduceBEq, symM, g3, g14, g15, g16, bin_lss, hlt, p1, p2, alloc_E, hh1, s1, field_E1, field_E0, Nat.zero_add, f2, f3, evCall_fn ft43 rfl, hPx, partsV, hrun, cond_true, bin_neq, show ((0 : Int) == 0) = true from rfl, d2, decide_eq_true (show (x.a : Int) < en by omega)]
        rfl
        simp only [symM]
      have d3 := decide_eq_false (show ¬ (x.a : Int) < en by omega)
      by_cases c4 : x.a = en
      · have d4 := eqT (a := (x.a : Int)) (b := en) (by omega)
        by_cases c4b : (x.x : Int) = nx
        · apply Exists.intro; apply Exists.intro
          refine ⟨.inl ⟨?_, ?_, by unfold extG badX; rw [hrun, decide_eq_false c2, decide_eq_false c3, decide_eq_true c4, decide_eq_true c4b]; rfl⟩, q2'⟩
          rw [codeB_loop]
          simp only [bodyEx, part, Tryz.f120, sub, symM, opFn, Nat.reduceLT, Nat.reduceBEq, symM, g3, g4, g14, g15, g16, bin_lss, hlt, p1, p2, alloc_E, hh1, s1, field_E1, field_E0, Nat.zero_add, f2, f3, evCall_fn ft43 rfl, hPx, partsV, hrun, cond_true, bin_neq, bin_eql, show ((0 : Int) == 0) = true from rfl, d2, d3, d4, eqT c4b]
          rfl
          simp only [symM]
        by_cases c5 : 96 < x.a + x.y
        · apply Exists.intro; apply Exists.intro
          refine ⟨.inl ⟨?_, ?_, by unfold extG badX; rw [hrun, decide_eq_false c2, decide_eq_false c3, decide_eq_true c4, decide_eq_false c4b, decide_eq_true c5]; rfl⟩, q2'⟩
          rw [codeB_loop]
          simp only [bodyEx, part, Tryz.f120, sub, symM, opFn, Nat.reduceLT, Nat.reduceBEq, symM, g3, g4, g14, g15, g16, bin_lss, hlt, p1, p2, alloc_E, hh1, s1, field_E1, field_E0, Nat.zero_add, f2, f3, evCall_fn ft43 rfl, hPx, partsV, hrun, cond_true, bin_neq, bin_eql, bin_gtr, bin_sub, w96, show ((0 : Int) == 0) = true from rfl, d2, d3, d4, eqF c4b, decide_eq_true (show 96 - (x.y : Int) < x.a by omega)]
          rfl
          simp only [symM]
        have hrow := (ho.grow q2).row
        have hcall := hC rv prev x h2.next h2 h.next hrow (by omega) s2 hpr hrun
        have hbad : badX en nx x = false := by
          unfold badX
          rw [hrun, decide_eq_false c2, decide_eq_false c3, decide_eq_true c4, decide_eq_false c4b, decide_eq_false c5]
          rfl
        cases hany : (prev.any fun r => meetX r x) with
        | true =>
          rw [hany] at hcall
          apply Exists.intro; apply Exists.intro
          refine ⟨.inl ⟨?_, ?_, by unfold extG; rw [hany, hbad]; rfl⟩, q2'⟩
          rw [codeB_loop]
          simp only [bodyEx, part, Tryz.f120, sub, symM, opFn, Nat.reduceLT, Nat.reduceBEq, symM, g3, g4, g5, g14, g15, g16, bin_lss, hlt, p1, p2, alloc_E, hh1, s1, field_E1, field_E0, Nat.zero_add, f2, f3, evCall_fn ft43 rfl, hPx, partsV, hrun, cond_true, bin_neq, bin_eql, bin_gtr, bin_sub, w96, show ((0 : Int) == 0) = true from rfl, d2, d3, d4, eqF c4b, decide_eq_false (show ¬ 96 - (x.y : Int) < x.a by omega), evCall_fn ft167 rfl, hcall]
          rfl
          simp only [symM]
        | false =>
          rw [hany] at hcall
          obtain ⟨v3, h3, a1, a2', a3, a4⟩ := append_one2 und_c128s tt_c128 ti_c128.1 ti_c128.2.1 ti_c128.2.2 (ho.grow q2) (x := cx x.x x.y) rfl (by simp [runsV]; omega) (Nat.le_trans hn q2'.next) 83
          have wa : IntKind.i64.wrap ((x.a : Int) + x.y) = ((x.a + x.y : Nat) : Int) := wadd (by omega)
          have wb : IntKind.i64.wrap ((x.x : Int) + x.y) = ((x.x + x.y : Nat) : Int) := wadd (by omega)
          have n2 : h.next < h2.next := by rw [s4, ← hh1]; exact Nat.lt_succ_self _
          have a2 := a2'.less (Nat.le_trans hn q2.next)
          obtain ⟨u1, u2, u3⟩ := BoxE.load (s2.same (a4 h.next n2 (ho.apart (Nat.le_refl _))))
          rw [show N + 60 = (N + 59) + 1 from rfl, codeB_loop]
          simp only [bodyEx, part, Tryz.f120, sub, symM, opFn, Nat.reduceLT, Nat.reduceBEq, symM, g3, g4, g5, g14, g15, g16, bin_lss, hlt, p1, p2, alloc_E, hh1, s1, field_E1, field_E0, Nat.zero_add, f2, f3, evCall_fn ft43 rfl, hPx, partsV, hrun, cond_true, bin_neq, bin_eql, bin_gtr, bin_sub, w96, show ((0 : Int) == 0) = true from rfl, d2, d3, d4, eqF c4b, decide_eq_false (show ¬ 96 - (x.y : Int) < x.a by omega), evCall_fn ft167 rfl, hcall, bs_run, a1, u2, bin_add, wa, wb, wadd1 (show i ≤ 400000 by omega)]
          rw [show extG en nx prev (x :: l) = extG (x.a + x.y) ((x.x + x.y : Nat) : Int) (prev ++ [x]) l by rw [extG, hany, hbad]; rfl]
          exact wrapG (ih (prev ++ [x]) (i + 1) (x.a + x.y) ((x.x + x.y : Nat) : Int) _ h3 v3 (N + 59) (by rw [← List.drop_drop, hd]; rfl) (by simp at hi ⊢; omega) (by simp; omega) (by intro r hr; rcases List.mem_append.1 hr with hr | hr; exact hpr r hr; simp at hr; subst hr; exact hrun) (by simp at hN ⊢; omega) (Nat.le_trans hn (q2'.trans a3 (Nat.le_refl _)).next) (hv.grow (q2'.trans a3 (Nat.le_refl _)) hn01) (by simpa [runsV] using a2)
            (by simp only [symM, Nat.reduceBEq]) (by simp only [symM, Nat.reduceBEq]) (by simp only [symM, Nat.reduceBEq]) (by simp only [symM, Nat.reduceBEq, g14]) (by simp only [symM, Nat.reduceBEq, g15]) get_same) (q2'.trans a3 (Nat.le_refl _))
      · have d4 := eqF (a := (x.a : Int)) (b := en) (by omega)
        by_cases c5 : 96 < x.a + x.y
        · apply Exists.intro; apply Exists.intro
          refine ⟨.inl ⟨?_, ?_, by unfold extG badX; rw [hrun, decide_eq_false c2, decide_eq_false c3, decide_eq_false c4, decide_eq_true c5]; rfl⟩, q2'⟩
          rw [codeB_loop]
          simp only [bodyEx, part, Tryz.f120, sub, symM, opFn, Nat.reduceLT, Nat.reduceBEq, symM, g3, g14, g15, g16, bin_lss, hlt, p1, p2, alloc_E, hh1, s1, field_E1, field_E0, Nat.zero_add, f2, f3, evCall_fn ft43 rfl, hPx, partsV, hrun, cond_true, bin_neq, bin_eql, bin_gtr, bin_sub, w96, show ((0 : Int) == 0) = true from rfl, d2, d3, d4, decide_eq_true (show 96 - (x.y : Int) < x.a by omega)]
          rfl
          simp only [symM]
        have hrow := (ho.grow q2).row
        have hcall := hC rv prev x h2.next h2 h.next hrow (by omega) s2 hpr hrun
        have hbad : badX en nx x = false := by
          unfold badX
          rw [hrun, decide_eq_false c2, decide_eq_false c3, decide_eq_false c4, decide_eq_false c5]
          rfl
        cases hany : (prev.any fun r => meetX r x) with
        | true =>
          rw [hany] at hcall
          apply Exists.intro; apply Exists.intro
          refine ⟨.inl ⟨?_, ?_, by unfold extG; rw [hany, hbad]; rfl⟩, q2'⟩
          rw [codeB_loop]
          simp only [bodyEx, part, Tryz.f120, sub, symM, opFn, Nat.reduceLT, Nat.reduceBEq, symM, g3, g5, g14, g15, g16, bin_lss, hlt, p1, p2, alloc_E, hh1, s1, field_E1, field_E0, Nat.zero_add, f2, f3, evCall_fn ft43 rfl, hPx, partsV, hrun, cond_true, bin_neq, bin_eql, bin_gtr, bin_sub, w96, show ((0 : Int) == 0) = true from rfl, d2, d3, d4, decide_eq_false (show ¬ 96 - (x.y : Int) < x.a by omega), evCall_fn ft167 rfl, hcall]
          rfl
          simp only [symM]
        | false =>
          rw [hany] at hcall
          obtain ⟨v3, h3, a1, a2', a3, a4⟩ := append_one2 und_c128s tt_c128 ti_c128.1 ti_c128.2.1 ti_c128.2.2 (ho.grow q2) (x := cx x.x x.y) rfl (by simp [runsV]; omega) (Nat.le_trans hn q2'.next) 83
          have wa : IntKind.i64.wrap ((x.a : Int) + x.y) = ((x.a + x.y : Nat) : Int) := wadd (by omega)
          have wb : IntKind.i64.wrap ((x.x : Int) + x.y) = ((x.x + x.y : Nat) : Int) := wadd (by omega)
          have n2 : h.next < h2.next := by rw [s4, ← hh1]; exact Nat.lt_succ_self _
          have a2 := a2'.less (Nat.le_trans hn q2.next)
          obtain ⟨u1, u2, u3⟩ := BoxE.load (s2.same (a4 h.next n2 (ho.apart (Nat.le_refl _))))
          rw [show N + 60 = (N + 59) + 1 from rfl, codeB_loop]
          simp only [bodyEx, part, Tryz.f120, sub, symM, opFn, Nat.reduceLT, Nat.reduceBEq, symM, g3, g5, g14, g15, g16, bin_lss, hlt, p1, p2, alloc_E, hh1, s1, field_E1, field_E0, Nat.zero_add, f2, f3, evCall_fn ft43 rfl, hPx, partsV, hrun, cond_true, bin_neq, bin_eql, bin_gtr, bin_sub, w96, show ((0 : Int) == 0) = true from rfl, d2, d3, d4, decide_eq_false (show ¬ 96 - (x.y : Int) < x.a by omega), evCall_fn ft167 rfl, hcall, bs_run, a1, u2, bin_add, wa, wb, wadd1 (show i ≤ 400000 by omega)]
          rw [show extG en nx prev (x :: l) = extG (x.a + x.y) ((x.x + x.y : Nat) : Int) (prev ++ [x]) l by rw [extG, hany, hbad]; rfl]
          exact wrapG (ih (prev ++ [x]) (i + 1) (x.a + x.y) ((x.x + x.y : Nat) : Int) _ h3 v3 (N + 59) (by rw [← List.drop_drop, hd]; rfl) (by simp at hi ⊢; omega) (by simp; omega) (by intro r hr; rcases List.mem_append.1 hr with hr | hr; exact hpr r hr; simp at hr; subst hr; exact hrun) (by simp at hN ⊢; omega) (Nat.le_trans hn (q2'.trans a3 (Nat.le_refl _)).next) (hv.grow (q2'.trans a3 (Nat.le_refl _)) hn01) (by simpa [runsV] using a2)
            (by simp only [symM, Nat.reduceBEq]) (by simp only [symM, Nat.reduceBEq]) (by simp only [symM, Nat.reduceBEq]) (by simp only [symM, Nat.reduceBEq, g14]) (by simp only [symM, Nat.reduceBEq, g15]) get_same) (q2'.trans a3 (Nat.le_refl _))
theorem Extents_S (hP : ∀ (x y : Nat) (h : AH), x ≤ 1048576 → y ≤ 1048576 → call 43 [cx x y] h = some (partsV x y, h))
    (hC : ∀ (v : Value) (prev : List XV) (x : XV) (n0 : Nat) (h : AH) (b : Nat), Row n0 h v (runsV prev) 84 → prev.length < 200 → BoxL h b 107 [iv x.a, cx x.x x.y] → (∀ r ∈ prev, runOK r.x r.y = true) → runOK x.x x.y = true →
      call 167 [v, .func (.func 168) #[] #[pv b 0]] h = some (.bool (prev.any fun r => meetX r x), h))
    (v : Value) (xs : List XV) (n0 : Nat) (h : AH) (hn : n0 ≤ h.next) (hx : ∀ x ∈ xs, okX x) (hL : xs.length ≤ 96) (hv : RowE n0 h v xs) :
    ∃ h', frameB T0 X0 call 3000 120 [v] h = some (.bool (extG 0 (-1) [] xs), h') ∧ Grow h.next h h' := by
  rw [frameB_eq ft120 rfl rfl]
  simp only [Tryz.f120, symM, opFn, Nat.reduceLT, Nat.reduceBEq, symM, symL, hv.len, bin_gtr, decide_eq_false (show ¬ (96 : Int) < (xs.length : Nat) by omega)]
  generalize hX : codeB T0 X0 call _ EEx (.loop _) _ _ _ = X
  obtain ⟨t1, h1, e1, g1⟩ := use_loop (P := fun X => ∃ tm' h', ((X = .jump .ret tm' h' [] ∧ tm'.get 2 = some (.bool false) ∧ extG 0 (-1) [] xs = false) ∨ (X = .jump (.exit 0) tm' h' [] ∧ extG 0 (-1) [] xs = true)) ∧ Grow h.next h h') hX
    (extLoop hP hC v xs n0 h.next hn hx hL xs [] 0 0 (-1) _ h nilV _ rfl (by simp) rfl (by simp) (by omega) (Nat.le_refl _) hv (Own.nil _ _ _) (by simp only [symM, Nat.reduceBEq]; rfl) (by simp only [symM, Nat.reduceBEq]) (by simp only [symM, Nat.reduceBEq]) (by simp only [symM, Nat.reduceBEq]) (by simp only [symM, Nat.reduceBEq]) (by simp only [symM]; rfl))
  clear hX
  refine ⟨h1, ?_, g1⟩
  rcases e1 with ⟨e1, e2, e3⟩ | ⟨e1, e3⟩
  · subst e1
    rw [e3]
    simp only [symM, symM]
    exact retB_one ft120 rfl e2
  · subst e1
    rw [e3]
    simp only [symM, opFn, Nat.reduceLT, symM, symL]
    exact retB_one ft120 rfl get_same
end
end Go.Proofs.YtjdhdhmoedlfdaaGreat.Abs
