
/- Boxes of several cells; slices of our own whose elements have several cells; what append does to them. -/
import Derived.Test.YtglmahefcdhmgaaNum
namespace Go.Proofs.Ytglmahefcdhmgaa.Abs
open Go Go.Proofs
noncomputable section
variable {call : Abs.Callee}
set_option maxRecDepth 10000
/-- A block of our own that bears these cells. -/
def BoxL (h : AH) (b el : Nat) (l : List Value) : Prop := ∃ c, h.get b = some (.cells c l.length el 0 0 .ex) ∧ ∀ (i : Nat) (x : Value), l[i]? = some x → c.get i = some x
theorem BoxL.new (h : AH) (el : Nat) (l : List Value) : BoxL (h.new (.cells (PM.ofList l) l.length el 0 0 .ex)) h.next el l := ⟨_, get_new_same _ _, fun i x hi => by rw [PM.get_ofList]; exact hi⟩
theorem BoxL.grow {n : Nat} {h h' : AH} {b el : Nat} {l : List Value} (hb : BoxL h b el l) (g : Grow n h h') (hn : b < n) : BoxL h' b el l := by
  obtain ⟨c, h1, h2⟩ := hb
  exact ⟨c, (g.keep b hn).trans h1, h2⟩
theorem BoxL.load {h : AH} {b el t i : Nat} {l : List Value} {x : Value} (hb : BoxL h b el l) (ha : aggT T0 t = some false) (hi : l[i]? = some x) : evLoad T0 t (.pointer (some ⟨b, i, none⟩)) h = some x := by
  obtain ⟨c, h1, h2⟩ := hb
  exact load_one ha h1 (List.getElem?_eq_some_iff.1 hi).1 (h2 i x hi)
theorem BoxL.loadA {h : AH} {b el t o : Nat} {l ws : List Value} (hb : BoxL h b el l) (ha : aggT T0 t = some true) (hs : szOf T0 t = some ws.length) (ho : o + ws.length ≤ l.length) (hw : ∀ i x, ws[i]? = some x → l[o + i]? = some x) : evLoad T0 t (.pointer (some ⟨b, o, none⟩)) h = some (.agg ws.toArray) := by
  obtain ⟨c, h1, h2⟩ := hb
  simp only [evLoad, loadVarA, ha, hs]
  rw [loadRow_of (l := ws) h1 ho (fun i x hi => h2 _ _ (hw i x hi))]
theorem BoxL.store {n : Nat} {h : AH} {b el t o : Nat} {l ws : List Value} {v : Value} (hb : BoxL h b el l) (hs : szOf T0 t = some ws.length) (hv : v.cells.toList = ws) (h0 : ws ≠ []) (hall : ws.all oneCell = true) (ho : o + ws.length ≤ l.length) (hn : n ≤ b) :
    ∃ h', evStore T0 t (.pointer (some ⟨b, o, none⟩)) v h = some h' ∧ BoxL h' b el (l.take o ++ ws ++ l.drop (o + ws.length)) ∧ Grow n h h' ∧ h'.next = h.next := by
  obtain ⟨c, h1, h2⟩ := hb
  have hlen : (l.take o ++ ws ++ l.drop (o + ws.length)).length = l.length := by simp; omega
  refine ⟨h.set b (.cells (storeN c o ws) l.length el 0 0 .ex), ?_, ⟨_, by rw [AH.get_set, if_pos rfl, hlen], ?_⟩, Grow.set h _ hn, rfl⟩
  · simp only [evStore, storeVarA, hs, hv]
    rw [Nat.beq_refl, ifB_true]
    cases ws with
    | nil => exact absurd rfl h0
    | cons w ws =>
      have hw : writable o (w :: ws).length l.length 0 0 = true := by
        unfold writable
        simp at ho ⊢; omega
      simp only [storeRow, h1, hw, hall, Bool.and_self, ifB_true]
  · intro i x hi
    rw [storeN_get]
    by_cases c1 : i < o
    · rw [if_neg (by omega)]
      refine h2 i x ?_
      rw [List.append_assoc, List.getElem?_append_left (by simp; omega), List.getElem?_take, if_pos c1] at hi
      exact hi
    · by_cases c2 : i < o + ws.length
      · rw [if_pos (by omega)]
        rw [List.append_assoc, List.getElem?_append_right (by simp; omega), List.getElem?_append_left (by simp; omega)] at hi
        rw [show (l.take o).length = o by simp; omega] at hi
        exact hi
      · rw [if_neg (by omega)]
        refine h2 i x ?_
        rw [List.getElem?_append_right (by simp; omega), List.getElem?_drop] at hi
        rw [show (l.take o ++ ws).length = o + ws.length by simp; omega] at hi
        rwa [show o + ws.length + (i - (o + ws.length)) = i by omega] at hi
theorem box_agg {h : AH} {e : TypeId} {l : List Value} : rp (some (evNewVar h e (.agg l.toArray))) = some (.value (.pointer (some ⟨h.next, 0, none⟩)), h.new (.cells (PM.ofList l) l.length e 0 0 .ex)) := rfl

/-- A slice of our own of elements of a size. -/
def OwnC (s n : Nat) (h : AH) (v : Value) (k : Nat) (cs : List Value) (e : TypeId) : Prop :=
  (v = .slice none 0 0 ∧ k = 0 ∧ cs = []) ∨ ∃ b c kd cap, n ≤ b ∧ b < h.next ∧ v = .slice (some ⟨b, 0, none⟩) k cap ∧ h.get b = some (.cells c (k * s) e 0 0 kd) ∧ cs.length = k * s ∧ (∀ (i : Nat) (x : Value), cs[i]? = some x → c.get i = some x) ∧
    ((kd = .ex ∧ cap = k) ∨ (kd = .loose ∧ cap = XB + k))
theorem OwnC.grow {s n : Nat} {h h' : AH} {v : Value} {k : Nat} {cs : List Value} {e : TypeId} (ho : OwnC s n h v k cs e) (g : Grow h.next h h') : OwnC s n h' v k cs e := by
  rcases ho with h1 | ⟨b, c, kd, cap, h1, h2, h3, h4, h5⟩
  · exact .inl h1
  · exact .inr ⟨b, c, kd, cap, h1, Nat.lt_of_lt_of_le h2 g.next, h3, (g.keep b h2).trans h4, h5⟩
theorem OwnC.less {s n m : Nat} {h : AH} {v : Value} {k : Nat} {cs : List Value} {e : TypeId} (ho : OwnC s m h v k cs e) (hn : n ≤ m) : OwnC s n h v k cs e := by
  rcases ho with h1 | ⟨b, c, kd, cap, h1, h2⟩
  · exact .inl h1
  · exact .inr ⟨b, c, kd, cap, Nat.le_trans hn h1, h2⟩
theorem Own.c {n : Nat} {h : AH} {v : Value} {l : List Value} {e : TypeId} (ho : Own n h v l e) : OwnC 1 n h v l.length l e := by
  rcases ho with ⟨rfl, rfl⟩ | ⟨b, c, kd, cap, h1, h2, h3, h4, h5, h6⟩
  · exact .inl ⟨rfl, rfl, rfl⟩
  · exact .inr ⟨b, c, kd, cap, h1, h2, h3, by rw [Nat.mul_one]; exact h4, (Nat.mul_one _).symm, h5, h6⟩
theorem OwnC.own {n : Nat} {h : AH} {v : Value} {k : Nat} {l : List Value} {e : TypeId} (ho : OwnC 1 n h v k l e) : Own n h v l e := by
  rcases ho with ⟨rfl, rfl, rfl⟩ | ⟨b, c, kd, cap, h1, h2, h3, h4, h5, h6, h7⟩
  · exact .inl ⟨rfl, rfl⟩
  · rw [Nat.mul_one] at h4 h5
    subst h5
    exact .inr ⟨b, c, kd, cap, h1, h2, h3, h4, h6, h7⟩
/-- Something is put behind a slice of our own. -/
theorem append_gen {T : Tab} {sT xT e : TypeId} {i : TypeInfo} {z : Value} {s : Nat} (hs : und T sT = some (.slice e)) (hi : T.tt.get e = some i) (hz : i.zero = some z) (h1 : i.size = s) (hb : i.bytes ≤ 64)
    {n : Nat} {h : AH} {v x : Value} {k m : Nat} {cs new : List Value} (hv : OwnC s n h v k cs e) (happ : appendedA T xT i z x h = some (m, new)) (hm : new.length = m * s) (hall : new.all oneCell = true) (hl : k + m < 1000000) (hn : n ≤ h.next) (ty : TypeId) :
    ∃ v' h', evBuiltin T .append #[sT, xT] ty [v, x] h = some (.value v', h') ∧ OwnC s n h' v' (k + m) (cs ++ new) e ∧ Grow n h h' ∧ (∀ k, k < h.next → Off v k → h'.get k = h.get k) ∧ (0 < m → OwnC s h.next h' v' (k + m) (cs ++ new) e) := by
  subst h1
  have hev : ∀ {p : Value × AH}, evAppend T sT xT v x h = some p → evBuiltin T .append #[sT, xT] ty [v, x] h = some (.value p.1, p.2) := by
    intro p hp
    show (match evAppend T sT xT v x h with
      | some p => (some (Out.value p.1, p.2) : Res)
      | none => none) = _
    rw [hp]
  have hbnd : (Nat.ble ((k + m) * i.bytes) 17592186044416 && Nat.ble (k + m) 17592186044416) = true := by
    have h2 : (k + m) * i.bytes ≤ 1000000 * 64 := Nat.mul_le_mul (by omega) hb
    rw [Nat.ble_eq_true_of_le (by omega), Nat.ble_eq_true_of_le (by omega)]
    rfl
  have key : ∀ (hh : AH), cs.length = k * i.size → Grow n h hh → n ≤ hh.next → hh.next = h.next → (∀ k, k < h.next → Off v k → hh.get k = h.get k) → ∃ v' h', (some (Out.value (grown hh e (k + m) ((k + m) * i.size) (cs ++ new)).1, (grown hh e (k + m) ((k + m) * i.size) (cs ++ new)).2) : Res) = some (.value v', h') ∧ OwnC i.size n h' v' (k + m) (cs ++ new) e ∧ Grow n h h' ∧ (∀ k, k < h.next → Off v k → h'.get k = h.get k) ∧ (0 < m → OwnC i.size h.next h' v' (k + m) (cs ++ new) e) := by
    intro hh hcs g hnn hnx hkp
    have own : ∀ n', n' ≤ hh.next → OwnC i.size n' (grown hh e (k + m) ((k + m) * i.size) (cs ++ new)).2 (grown hh e (k + m) ((k + m) * i.size) (cs ++ new)).1 (k + m) (cs ++ new) e := fun n' hn' => .inr ⟨hh.next, PM.ofList (cs ++ new), .loose, XB + (k + m), hn', Nat.lt_succ_self _, rfl, get_new_same _ _, by rw [List.length_append, hcs, hm, Nat.add_mul], fun i y hy => by rw [PM.get_ofList]; exact hy, .inr ⟨rfl, rfl⟩⟩
    exact ⟨_, _, rfl, own n hnn, g.trans ((Grow.new hh _).less hnn) (Nat.le_refl _), fun k hk ho => ((Grow.new hh _).keep k (by omega)).trans (hkp k hk ho), fun _ => own h.next (by omega)⟩
  by_cases h0 : m = 0
  · subst h0
    have hnil : new = [] := List.length_eq_zero_iff.1 (by rw [hm, Nat.zero_mul])
    subst hnil
    refine ⟨v, h, ?_, by rw [List.append_nil]; exact hv, Grow.refl _ _, fun _ _ _ => rfl, fun q => absurd q (by omega)⟩
    rcases hv with ⟨rfl, rfl, rfl⟩ | ⟨b, c, kd, cap, q1, q2, rfl, q4, q5, q6, q7⟩
    · apply hev (p := (_, h))
      unfold evAppend
      simp only [hs, hi, hz, happ, appendTo]
      rfl
    · apply hev (p := (_, h))
      unfold evAppend
      have hc : Nat.ble (k + 0) (capOf cap) = true := by
        apply Nat.ble_eq_true_of_le
        rcases q7 with ⟨_, rfl⟩ | ⟨_, rfl⟩
        · unfold capOf; rw [ble_no (by rw [XB_val]; omega)]; exact Nat.le_refl _
        · rw [capOf_ge]; exact Nat.le_refl _
      simp only [hs, hi, hz, happ, appendTo]
      rw [hc]
      rfl
  · rcases hv with ⟨rfl, rfl, rfl⟩ | ⟨b, c, kd, cap, q1, q2, rfl, q4, q5, q6, q7⟩
    · obtain ⟨v', h', k1, k2⟩ := key h (by simp) (Grow.refl _ _) hn rfl (fun _ _ _ => rfl)
      refine ⟨v', h', ?_, k2⟩
      rw [← k1]
      apply hev
      unfold evAppend
      simp only [hs, hi, hz, happ, appendTo]
      rw [ble_no (by show 0 < 0 + m; omega), ifB_false, hbnd]
      rfl
    · have hold : firstA i.size k h (.slice (some ⟨b, 0, none⟩) k cap) = some cs := by
        unfold firstA
        by_cases hk0 : k = 0
        · subst hk0
          rw [show cs = [] from List.length_eq_zero_iff.1 (by rw [q5, Nat.zero_mul])]
          rfl
        · show ifB (Nat.beq k 0) (some []) (ifB (Nat.ble k k) (loadRow h b 0 (k * i.size)) none) = some cs
          rw [show Nat.beq k 0 = false from by cases k with | zero => exact absurd rfl hk0 | succ k => rfl, ifB_false, Nat.ble_eq_true_of_le (Nat.le_refl _), ifB_true, ← q5]
          exact loadRow_of (m := k * i.size) (c := c) q4 (by omega) (fun i y hy => by rw [Nat.zero_add]; exact q6 i y hy)
      rcases q7 with ⟨rfl, rfl⟩ | ⟨rfl, rfl⟩
      · obtain ⟨v', h', k1, k2⟩ := key _ q5 (Grow.refl _ _) hn rfl (fun _ _ _ => rfl)
        refine ⟨v', h', ?_, k2⟩
        rw [← k1]
        apply hev
        have hc : capOf cap = cap := by unfold capOf; rw [ble_no (by rw [XB_val]; omega)]; rfl
        unfold evAppend
        simp only [hs, hi, hz, happ, appendTo, hc]
        rw [ble_no (by omega : cap < cap + m), ifB_false, hbnd, ifB_true, hold]
        simp only
        rw [ble_no (by rw [XB_val]; omega : cap < XB)]
        rfl
      · have gdel : Grow n h (h.del b) := by
          refine ⟨Nat.le_refl _, fun k hk => ?_⟩
          rw [AH.get_del, if_neg (by omega)]
        obtain ⟨v', h', k1, k2⟩ := key _ q5 gdel hn rfl (fun k hk ho => by rw [AH.get_del, if_neg (fun q => by subst q; exact ho _ _ _ rfl)])
        refine ⟨v', h', ?_, k2⟩
        rw [← k1]
        apply hev
        unfold evAppend
        simp only [hs, hi, hz, happ, appendTo, capOf_ge]
        rw [ble_no (by omega : k < k + m), ifB_false, hbnd, ifB_true, hold]
        simp only
        rw [Nat.ble_eq_true_of_le (by omega : XB ≤ XB + k), ifB_true]
        have hl : looseEl h b e = true := by
          unfold looseEl
          rw [q4]
          show (Nat.beq e e && Nat.ble 0 0) = true
          rw [Nat.beq_refl]; rfl
        rw [hl, hall]
        rfl
/-- What is put behind: the elements of another slice. -/
theorem appended_slice {T : Tab} {xT e : TypeId} {i : TypeInfo} {z : Value} {h : AH} {b k cap : Nat} {c : PM Value} {N : Nat} {el lo hi : Nat} {kd : BKind} {new : List Value} (hx : und T xT = some (.slice e)) (hb : h.get b = some (.cells c N el lo hi kd)) (hn : new.length = k * i.size) (hN : k * i.size ≤ N) (hc : ∀ (j : Nat) (x : Value), new[j]? = some x → c.get j = some x) :
    appendedA T xT i z (.slice (some ⟨b, 0, none⟩) k cap) h = some (k, new) := by
  unfold appendedA
  simp only [hx, lenOfA]
  have hold : firstA i.size k h (.slice (some ⟨b, 0, none⟩) k cap) = some new := by
    unfold firstA
    by_cases hk0 : k = 0
    · subst hk0
      rw [show new = [] from List.length_eq_zero_iff.1 (by rw [hn, Nat.zero_mul])]
      rfl
    · show ifB (Nat.beq k 0) (some []) (ifB (Nat.ble k k) (loadRow h b 0 (k * i.size)) none) = some new
      rw [show Nat.beq k 0 = false from by cases k with | zero => exact absurd rfl hk0 | succ k => rfl, ifB_false, Nat.ble_eq_true_of_le (Nat.le_refl _), ifB_true, ← hn]
      exact loadRow_of hb (by omega) (fun i y hy => by rw [Nat.zero_add]; exact hc i y hy)
  rw [hold]
  simp only
  rw [hn, Nat.beq_refl, ifB_true]
theorem appended_own {T : Tab} {xT e : TypeId} {i : TypeInfo} {z : Value} {n : Nat} {h : AH} {v : Value} {k : Nat} {new : List Value} (hx : und T xT = some (.slice e)) (ho : OwnC i.size n h v k new e) : appendedA T xT i z v h = some (k, new) := by
  rcases ho with ⟨rfl, rfl, rfl⟩ | ⟨b, c, kd, cap, q1, q2, rfl, q4, q5, q6, q7⟩
  · unfold appendedA
    simp only [hx, lenOfA]
    rw [Nat.zero_mul]
    rfl
  · exact appended_slice hx q4 q5 (Nat.le_refl _) q6
/-- What is put behind: so many zeros. -/
theorem appended_zeros {T : Tab} {xT : TypeId} {i : TypeInfo} {z : Value} {h : AH} {m : Nat} (hx : und T xT = some (.int .i64)) (hm : m ≤ 17592186044416) (hb : m * i.bytes ≤ 17592186044416) :
    appendedA T xT i z (.int .i64 (m : Int)) h = some (m, zeros z (m * i.size)) := by
  unfold appendedA
  simp only [hx]
  simp only [show natOf (.int .i64 (m : Int)) = some m from rfl]
  rw [Nat.ble_eq_true_of_le hm, Nat.ble_eq_true_of_le hb]
  rfl
end
end Go.Proofs.Ytglmahefcdhmgaa.Abs
namespace Go.Proofs.Ytglmahefcdhmgaa.Abs
open Go Go.Proofs
noncomputable section
variable {call : Abs.Callee}
set_option maxRecDepth 10000
/-- An extent. -/
structure XV where
  a : Nat
  x : Nat
  y : Nat
/-- A node but for its extents. -/
structure NV where
  k : Nat
  f : Nat
  l : Nat
  s : Nat
  d0 : Nat
  d1 : Nat
  d2 : Nat
  d3 : Nat
  si : Nat
  du : Nat
  c : Nat
abbrev pv (b o : Nat) : Value := .pointer (some ⟨b, o, none⟩)
abbrev nilV : Value := .slice none 0 0
abbrev extV (x : XV) : Value := .agg #[iv x.a, cx x.x x.y]
def nodeL (n : NV) (e : Value) : List Value := [iv n.k, iv n.f, iv n.l, iv n.s, iv n.d0, iv n.d1, iv n.d2, iv n.d3, iv n.si, iv n.du, e, iv n.c]
abbrev arrV (n : NV) : Value := .agg #[iv n.d0, iv n.d1, iv n.d2, iv n.d3]
def nodeV (n : NV) (e : Value) : Value := .agg (nodeL n e).toArray
def NV.zero : NV := ⟨0, 0, 0, 0, 0, 0, 0, 0, 0, 0, 0⟩
theorem und_exts : und T0 29 = some (.slice 33) := by kernel_rfl
theorem und_ints : und T0 34 = some (.slice 3) := by kernel_rfl
theorem sz_Ext : szOf T0 33 = some 2 := by kernel_rfl
theorem sz_Node : szOf T0 37 = some 12 := by kernel_rfl
theorem sz_arr4 : szOf T0 35 = some 4 := by kernel_rfl
theorem sz_exts : szOf T0 29 = some 1 := by kernel_rfl
theorem sz_int : szOf T0 3 = some 1 := by kernel_rfl
theorem agg_Ext : aggT T0 33 = some true := by kernel_rfl
theorem agg_Node : aggT T0 37 = some true := by kernel_rfl
theorem agg_arr4 : aggT T0 35 = some true := by kernel_rfl
theorem agg_exts : aggT T0 29 = some false := by kernel_rfl
theorem zero_int : zeroOf T0 3 = some (iv 0) := by kernel_rfl
theorem zero_u8 : zeroOf T0 5 = some (.int .u8 0) := by kernel_rfl
theorem tt_int : T0.tt.get 3 = some (infoOf 3) := by kernel_rfl
theorem ti_int : (infoOf 3).zero = some (iv 0) ∧ (infoOf 3).size = 1 ∧ (infoOf 3).bytes ≤ 64 := ⟨by kernel_rfl, by kernel_rfl, Nat.le_of_ble_eq_true (by kernel_rfl)⟩
theorem tt_u8 : T0.tt.get 5 = some (infoOf 5) := by kernel_rfl
theorem ti_u8 : (infoOf 5).zero = some (.int .u8 0) ∧ (infoOf 5).size = 1 ∧ (infoOf 5).bytes ≤ 64 := ⟨by kernel_rfl, by kernel_rfl, Nat.le_of_ble_eq_true (by kernel_rfl)⟩
theorem tt_Ext : T0.tt.get 33 = some (infoOf 33) := by kernel_rfl
theorem ti_Ext : (infoOf 33).zero = some (.agg #[iv 0, .complex .f64 0 0]) ∧ (infoOf 33).size = 2 ∧ (infoOf 33).bytes ≤ 64 := ⟨by kernel_rfl, by kernel_rfl, Nat.le_of_ble_eq_true (by kernel_rfl)⟩
theorem alloc_N {h : AH} : evAlloc T0 37 h = some (pv h.next 0, h.new (.cells (PM.ofList (nodeL NV.zero nilV)) 12 37 0 0 .ex)) := by
  unfold evAlloc
  rw [show zeroOf T0 37 = some (nodeV NV.zero nilV) from by kernel_rfl]
  rfl
theorem build_N0 {h : AH} : evBuild T0 37 [] h = some (nodeV NV.zero nilV, h) := by kernel_rfl
theorem build_N4 {a b c d : Nat} {h : AH} : evBuild T0 37 [(0, iv a), (1, iv b), (2, iv c), (3, iv d)] h = some (nodeV ⟨a, b, c, d, 0, 0, 0, 0, 0, 0, 0⟩ nilV, h) := by kernel_rfl
theorem alloc_E {h : AH} : evAlloc T0 33 h = some (pv h.next 0, h.new (.cells (PM.ofList [iv 0, .complex .f64 0 0]) 2 33 0 0 .ex)) := by
  unfold evAlloc
  rw [show zeroOf T0 33 = some (.agg #[iv 0, .complex .f64 0 0]) from by kernel_rfl]
  rfl
theorem build_E0 {h : AH} : evBuild T0 33 [] h = some (.agg #[iv 0, .complex .f64 0 0], h) := by kernel_rfl
theorem build_E {a : Nat} {x y : Nat} {h : AH} : evBuild T0 33 [(0, iv a), (1, .complex .f64 x y)] h = some (.agg #[iv a, .complex .f64 x y], h) := by kernel_rfl
theorem field_N {b : Nat} : evFieldAddr T0 37 (pv b 0) 0 = some (pv b 0) ∧ evFieldAddr T0 37 (pv b 0) 1 = some (pv b 1) ∧ evFieldAddr T0 37 (pv b 0) 2 = some (pv b 2) ∧ evFieldAddr T0 37 (pv b 0) 3 = some (pv b 3) ∧
    evFieldAddr T0 37 (pv b 0) 4 = some (pv b 4) ∧ evFieldAddr T0 37 (pv b 0) 5 = some (pv b 8) ∧ evFieldAddr T0 37 (pv b 0) 6 = some (pv b 9) ∧ evFieldAddr T0 37 (pv b 0) 7 = some (pv b 10) ∧ evFieldAddr T0 37 (pv b 0) 8 = some (pv b 11) :=
  ⟨by kernel_rfl, by kernel_rfl, by kernel_rfl, by kernel_rfl, by kernel_rfl, by kernel_rfl, by kernel_rfl, by kernel_rfl, by kernel_rfl⟩
theorem field_E0 {b o : Nat} : evFieldAddr T0 33 (pv b o) 0 = some (pv b o) := by kernel_rfl
theorem field_E1 {b o : Nat} : evFieldAddr T0 33 (pv b o) 1 = some (pv b (o + 1)) := by kernel_rfl
theorem index_A {b : Nat} : evIndexAddr T0 35 (pv b 4) (iv 0) = some (pv b 4) ∧ evIndexAddr T0 35 (pv b 4) (iv 1) = some (pv b 5) ∧ evIndexAddr T0 35 (pv b 4) (iv 2) = some (pv b 6) ∧ evIndexAddr T0 35 (pv b 4) (iv 3) = some (pv b 7) :=
  ⟨by kernel_rfl, by kernel_rfl, by kernel_rfl, by kernel_rfl⟩
/-- A node of our own. -/
def NodeB (h : AH) (b : Nat) (n : NV) (e : Value) : Prop := BoxL h b 37 (nodeL n e)
theorem NodeB.new (h : AH) (n : NV) (e : Value) : NodeB (h.new (.cells (PM.ofList (nodeL n e)) (nodeL n e).length 37 0 0 .ex)) h.next n e := BoxL.new _ _ _
theorem NodeB.grow {m : Nat} {h h' : AH} {b : Nat} {n : NV} {e : Value} (hb : NodeB h b n e) (g : Grow m h h') (hn : b < m) : NodeB h' b n e := BoxL.grow hb g hn
theorem NodeB.loads {h : AH} {b : Nat} {n : NV} {e : Value} (hb : NodeB h b n e) :
    evLoad T0 3 (pv b 0) h = some (iv n.k) ∧ evLoad T0 3 (pv b 1) h = some (iv n.f) ∧ evLoad T0 3 (pv b 2) h = some (iv n.l) ∧ evLoad T0 3 (pv b 3) h = some (iv n.s) ∧
    evLoad T0 3 (pv b 4) h = some (iv n.d0) ∧ evLoad T0 3 (pv b 5) h = some (iv n.d1) ∧ evLoad T0 3 (pv b 6) h = some (iv n.d2) ∧ evLoad T0 3 (pv b 7) h = some (iv n.d3) ∧
    evLoad T0 3 (pv b 8) h = some (iv n.si) ∧ evLoad T0 3 (pv b 9) h = some (iv n.du) ∧ evLoad T0 29 (pv b 10) h = some e ∧ evLoad T0 3 (pv b 11) h = some (iv n.c) ∧
    evLoad T0 37 (pv b 0) h = some (nodeV n e) ∧ evLoad T0 35 (pv b 4) h = some (arrV n) :=
  ⟨hb.load agg_int rfl, hb.load agg_int rfl, hb.load agg_int rfl, hb.load agg_int rfl, hb.load agg_int rfl, hb.load agg_int rfl, hb.load agg_int rfl, hb.load agg_int rfl, hb.load agg_int rfl, hb.load agg_int rfl, hb.load agg_exts rfl, hb.load agg_int rfl,
   hb.loadA (ws := nodeL n e) agg_Node sz_Node (by simp) (fun i x hi => by rwa [Nat.zero_add]), hb.loadA (ws := [iv n.d0, iv n.d1, iv n.d2, iv n.d3]) agg_arr4 sz_arr4 (by simp [nodeL]) (fun i x hi => by rw [Nat.add_comm]; match i with | 0 | 1 | 2 | 3 => exact hi | i + 4 => simp at hi)⟩
/-- A slice of extents that may be read. -/
def RowE (n : Nat) (h : AH) (v : Value) (xs : List XV) : Prop :=
  (v = nilV ∧ xs = []) ∨ ∃ b o cap c m lo hi kd el, v = .slice (some ⟨b, o, none⟩) xs.length cap ∧ b < n ∧ h.get b = some (.cells c m el lo hi kd) ∧ o + 2 * xs.length ≤ m ∧ ∀ (i : Nat) (x : XV), xs[i]? = some x → c.get (o + i * 2) = some (iv x.a) ∧ c.get (o + i * 2 + 1) = some (cx x.x x.y)
theorem RowE.nil (n : Nat) (h : AH) : RowE n h nilV [] := .inl ⟨rfl, rfl⟩
theorem RowE.grow {n m : Nat} {h h' : AH} {v : Value} {xs : List XV} (hr : RowE n h v xs) (g : Grow m h h') (hn : n ≤ m) : RowE n h' v xs := by
  rcases hr with h1 | ⟨b, o, cap, c, k, lo, hi, kd, el, h1, h2, h3, h4⟩
  · exact .inl h1
  · exact .inr ⟨b, o, cap, c, k, lo, hi, kd, el, h1, h2, (g.keep b (by omega)).trans h3, h4⟩
theorem RowE.more {n k : Nat} {h : AH} {v : Value} {xs : List XV} (hr : RowE n h v xs) (hn : n ≤ k) : RowE k h v xs := by
  rcases hr with h1 | ⟨b, o, cap, c, m, lo, hi, kd, el, h1, h2, h3⟩
  · exact .inl h1
  · exact .inr ⟨b, o, cap, c, m, lo, hi, kd, el, h1, by omega, h3⟩
theorem RowE.len {n : Nat} {h h' : AH} {v : Value} {xs : List XV} {ty : TypeId} (hr : RowE n h v xs) : evBuiltin T0 .len #[29] ty [v] h' = some (.value (iv (xs.length : Nat)), h') := by
  rcases hr with ⟨rfl, rfl⟩ | ⟨b, o, cap, c, k, lo, hi, kd, el, rfl, _⟩
  · exact len_slice und_exts
  · exact len_slice und_exts
theorem RowE.eqv {n : Nat} {h : AH} {v : Value} {xs : List XV} (hr : RowE n h v xs) : eqV v v = true := by
  rcases hr with ⟨rfl, rfl⟩ | ⟨b, o, cap, c, k, lo, hi, kd, el, rfl, _⟩
  · rfl
  · exact eqV_slice
theorem RowE.at {n : Nat} {h : AH} {v : Value} {xs : List XV} (hr : RowE n h v xs) {i : Nat} {x : XV} (hi : xs[i]? = some x) :
    ∃ b o, evIndexAddr T0 29 v (iv (i : Nat)) = some (pv b o) ∧ evLoad T0 33 (pv b o) h = some (extV x) ∧ evLoad T0 3 (pv b o) h = some (iv x.a) ∧ evLoad T0 30 (pv b (o + 1)) h = some (cx x.x x.y) := by
  have hl := (List.getElem?_eq_some_iff.1 hi).1
  rcases hr with ⟨rfl, rfl⟩ | ⟨b, o, cap, c, m, lo, hi2, kd, el, rfl, h2, h3, h4, h5⟩
  · simp at hi
  · obtain ⟨q1, q2⟩ := h5 i x hi
    refine ⟨b, o + i * 2, idx_slice und_exts sz_Ext hl, ?_, load_one agg_int h3 (by omega) q1, load_one agg_c128 h3 (by omega) q2⟩
    simp only [evLoad, loadVarA, agg_Ext, sz_Ext]
    rw [show loadRow h b (o + i * 2) 2 = some [iv x.a, cx x.x x.y] from loadRow_of (l := [iv x.a, cx x.x x.y]) h3 (by simp; omega) (fun j w hj => match j with
      | 0 => by simp at hj; subst hj; exact q1
      | 1 => by simp at hj; subst hj; exact q2
      | j + 2 => by simp at hj)]
/-- The cells of extents. -/
def extsL (xs : List XV) : List Value := xs.flatMap fun x => [iv x.a, cx x.x x.y]
theorem extsL_len (xs : List XV) : (extsL xs).length = xs.length * 2 := by
  induction xs with
  | nil => rfl
  | cons x xs ih => simp only [extsL, List.flatMap_cons, List.length_append, List.length_cons, List.length_nil] at ih ⊢; omega
theorem extsL_at (xs : List XV) : ∀ (i : Nat) (x : XV), xs[i]? = some x → (extsL xs)[i * 2]? = some (iv x.a) ∧ (extsL xs)[i * 2 + 1]? = some (cx x.x x.y) := by
  induction xs with
  | nil => intro i x hi; simp at hi
  | cons y ys ih =>
    intro i x hi
    cases i with
    | zero => simp at hi; subst hi; exact ⟨rfl, rfl⟩
    | succ i =>
      have := ih i x (by simpa using hi)
      rw [show (i + 1) * 2 = i * 2 + 2 by omega]
      exact this
/-- A slice of extents of our own. -/
def OwnE (n : Nat) (h : AH) (v : Value) (xs : List XV) : Prop := OwnC 2 n h v xs.length (extsL xs) 33
theorem OwnE.nil (n : Nat) (h : AH) : OwnE n h nilV [] := .inl ⟨rfl, rfl, rfl⟩
theorem OwnE.row {n : Nat} {h : AH} {v : Value} {xs : List XV} (ho : OwnE n h v xs) : RowE h.next h v xs := by
  rcases ho with ⟨rfl, h0, _⟩ | ⟨b, c, kd, cap, h1, h2, h3, h4, h5, h6, _⟩
  · exact .inl ⟨rfl, List.length_eq_zero_iff.1 h0⟩
  · refine .inr ⟨b, 0, cap, c, _, 0, 0, kd, _, h3, h2, h4, by omega, fun i x hi => ?_⟩
    obtain ⟨q1, q2⟩ := extsL_at xs i x hi
    rw [Nat.zero_add]
    exact ⟨h6 _ _ q1, h6 _ _ q2⟩
theorem OwnE.grow {n : Nat} {h h' : AH} {v : Value} {xs : List XV} (ho : OwnE n h v xs) (g : Grow h.next h h') : OwnE n h' v xs := OwnC.grow ho g
theorem OwnE.less {n m : Nat} {h : AH} {v : Value} {xs : List XV} (ho : OwnE m h v xs) (hn : n ≤ m) : OwnE n h v xs := OwnC.less ho hn
theorem bs_ext {x : XV} {h : AH} : evBuildSlice T0 29 1 [(0, extV x)] h = some (.slice (some ⟨h.next, 0, none⟩) 1 1, h.new (.cells (PM.ofList [iv x.a, cx x.x x.y]) 2 33 0 0 .ex)) := by
  unfold evBuildSlice
  simp only [und_exts, sz_Ext, show zeroOf T0 33 = some (.agg #[iv 0, .complex .f64 0 0]) from by kernel_rfl]
  rfl
theorem OwnE.append {n : Nat} {h : AH} {v : Value} {xs : List XV} (ho : OwnE n h v xs) (x : XV) (hl : xs.length < 1000) (hn : n ≤ h.next) (ty : TypeId) :
    ∃ v' h', evBuiltin T0 .append #[29, 29] ty [v, .slice (some ⟨h.next, 0, none⟩) 1 1] (h.new (.cells (PM.ofList [iv x.a, cx x.x x.y]) 2 33 0 0 .ex)) = some (.value v', h') ∧ OwnE n h' v' (xs ++ [x]) ∧ Grow n h h' := by
  have g := Grow.new h (.cells (PM.ofList [iv x.a, cx x.x x.y]) 2 33 0 0 .ex)
  obtain ⟨v', h', e1, e2, e3, _⟩ := append_gen und_exts tt_Ext ti_Ext.1 ti_Ext.2.1 ti_Ext.2.2 (ho.grow g)
    (appended_slice (k := 1) (cap := 1) (new := [iv x.a, cx x.x x.y]) und_exts (get_new_same _ _) (by rw [ti_Ext.2.1]; rfl) (by rw [ti_Ext.2.1]; exact Nat.le_refl _) (fun j w hj => by rw [PM.get_ofList]; exact hj)) rfl rfl (by omega) (Nat.le_succ_of_le hn) ty
  refine ⟨v', h', e1, ?_, (g.less hn).trans e3 (Nat.le_refl _)⟩
  unfold OwnE
  rw [List.length_append, show extsL (xs ++ [x]) = extsL xs ++ [iv x.a, cx x.x x.y] by simp [extsL]]
  exact e2
end
end Go.Proofs.Ytglmahefcdhmgaa.Abs
