/- Ground for the texts about acts: blocks and slices of our own; texts. -/
import Derived.Test.YtknchhnibjfocaaDoorLibrary
namespace Go.Proofs.YtknchhnibjfocaaDoor.Abs
open Go Go.Proofs
noncomputable section
variable {call : Abs.Callee}
set_option maxRecDepth 10000
abbrev iv (x : Int) : Value := .int .i64 x
abbrev bv (x : UInt8) : Value := .int .u8 (x.toNat : Int)
abbrev nilV : Value := .slice none 0 0
abbrev ptr (b : Nat) : Value := .pointer (some ⟨b, 0, none⟩)
def Off (v : Value) (k : Nat) : Prop := ∀ o l c, v ≠ .slice (some ⟨k, o, none⟩) l c
theorem nilCheck_ptr {b : Nat} : evNilCheck (ptr b) = some (ptr b) := rfl
/-- A block of our own that bears these cells. -/
def BoxL (h : AH) (b el : Nat) (l : List Value) : Prop := ∃ c, h.get b = some (.cells c l.length el 0 0 .ex) ∧ ∀ (i : Nat) (x : Value), l[i]? = some x → c.get i = some x
theorem BoxL.new (h : AH) (el : Nat) (l : List Value) : BoxL (h.new (.cells (PM.ofList l) l.length el 0 0 .ex)) h.next el l := ⟨_, get_new_same _ _, fun i x hi => by rw [PM.get_ofList]; exact hi⟩
theorem BoxL.grow {n : Nat} {h h' : AH} {b el : Nat} {l : List Value} (hb : BoxL h b el l) (g : Grow n h h') (hn : b < n) : BoxL h' b el l := by
  obtain ⟨c, h1, h2⟩ := hb
  exact ⟨c, (g.keep b hn).trans h1, h2⟩
theorem BoxL.load {h : AH} {b el t i : Nat} {l : List Value} {x : Value} (hb : BoxL h b el l) (ha : aggT T0 t = some false) (hi : l[i]? = some x) : evLoad T0 t (.pointer (some ⟨b, i, none⟩)) h = some x := by
  obtain ⟨c, h1, h2⟩ := hb
  exact load_one ha h1 (List.getElem?_eq_some_iff.1 hi).1 (h2 i x hi)
theorem BoxL.loadA {h : AH} {b el t o : Nat} {l ws : List Value} (hb : BoxL h b el l) (ha : aggT T0 t = some true) (hs : szOf T0 t = some ws.length) (ho : o + ws.length ≤ l.length) (hw : ∀ i x, ws[i]? = some x → l[o + i]? = some x) : evLoad T0 t (.pointer (some ⟨b, o, none⟩)) h = some (.agg ws.toArray) := by
  obtain ⟨c, h1, h2⟩ := hb
  simp only [evLoad, loadVarA, ha, hs]
  rw [loadRow_of (l := ws) h1 ho (fun i x hi => h2 _ _ (hw i x hi))]
theorem BoxL.store {n : Nat} {h : AH} {b el t o : Nat} {l ws : List Value} {v : Value} (hb : BoxL h b el l) (hs : szOf T0 t = some ws.length) (hv : v.cells.toList = ws) (h0 : ws ≠ []) (hall : ws.all oneCell = true) (ho : o + ws.length ≤ l.length) (hn : n ≤ b) :
    ∃ h', evStore T0 t (.pointer (some ⟨b, o, none⟩)) v h = some h' ∧ BoxL h' b el (l.take o ++ ws ++ l.drop (o + ws.length)) ∧ Grow n h h' ∧ h'.next = h.next := by
  obtain ⟨c, h1, h2⟩ := hb
  have hlen : (l.take o ++ ws ++ l.drop (o + ws.length)).length = l.length := by simp; omega
  refine ⟨h.set b (.cells (storeN c o ws) l.length el 0 0 .ex), ?_, ⟨_, by rw [AH.get_set, if_pos rfl, hlen], ?_⟩, Grow.set h _ hn, rfl⟩
  · simp only [evStore, storeVarA, hs, hv]
    rw [Nat.beq_refl, ifB_true]
    cases ws with
    | nil => exact absurd rfl h0
    | cons w ws =>
      have hw : writable o (w :: ws).length l.length 0 0 = true := by
        unfold writable
        simp at ho ⊢; omega
      simp only [storeRow, h1, hw, hall, Bool.and_self, ifB_true]
  · intro i x hi
    rw [storeN_get]
    by_cases c1 : i < o
    · rw [if_neg (by omega)]
      refine h2 i x ?_
      rw [List.append_assoc, List.getElem?_append_left (by simp; omega), List.getElem?_take, if_pos c1] at hi
      exact hi
    · by_cases c2 : i < o + ws.length
      · rw [if_pos (by omega)]
        rw [List.append_assoc, List.getElem?_append_right (by simp; omega), List.getElem?_append_left (by simp; omega)] at hi
        rw [show (l.take o).length = o by simp; omega] at hi
        exact hi
      · rw [if_neg (by omega)]
        refine h2 i x ?_
        rw [List.getElem?_append_right (by simp; omega), List.getElem?_drop] at hi
        rw [show (l.take o ++ ws).length = o + ws.length by simp; omega] at hi
        rwa [show o + ws.length + (i - (o + ws.length)) = i by omega] at hi
theorem box_agg {h : AH} {e : TypeId} {l : List Value} : rp (some (evNewVar h e (.agg l.toArray))) = some (.value (.pointer (some ⟨h.next, 0, none⟩)), h.new (.cells (PM.ofList l) l.length e 0 0 .ex)) := rfl

/-- A slice of our own of elements of a size. -/
def OwnC (s n : Nat) (h : AH) (v : Value) (k : Nat) (cs : List Value) (e : TypeId) : Prop :=
  (v = .slice none 0 0 ∧ k = 0 ∧ cs = []) ∨ ∃ b c kd cap, n ≤ b ∧ b < h.next ∧ v = .slice (some ⟨b, 0, none⟩) k cap ∧ h.get b = some (.cells c (k * s) e 0 0 kd) ∧ cs.length = k * s ∧ (∀ (i : Nat) (x : Value), cs[i]? = some x → c.get i = some x) ∧
    ((kd = .ex ∧ cap = k) ∨ (kd = .loose ∧ cap = XB + k))
theorem OwnC.grow {s n : Nat} {h h' : AH} {v : Value} {k : Nat} {cs : List Value} {e : TypeId} (ho : OwnC s n h v k cs e) (g : Grow h.next h h') : OwnC s n h' v k cs e := by
  rcases ho with h1 | ⟨b, c, kd, cap, h1, h2, h3, h4, h5⟩
  · exact .inl h1
  · exact .inr ⟨b, c, kd, cap, h1, Nat.lt_of_lt_of_le h2 g.next, h3, (g.keep b h2).trans h4, h5⟩
theorem OwnC.less {s n m : Nat} {h : AH} {v : Value} {k : Nat} {cs : List Value} {e : TypeId} (ho : OwnC s m h v k cs e) (hn : n ≤ m) : OwnC s n h v k cs e := by
  rcases ho with h1 | ⟨b, c, kd, cap, h1, h2⟩
  · exact .inl h1
  · exact .inr ⟨b, c, kd, cap, Nat.le_trans hn h1, h2⟩
theorem Own.c {n : Nat} {h : AH} {v : Value} {l : List Value} {e : TypeId} (ho : Own n h v l e) : OwnC 1 n h v l.length l e := by
  rcases ho with ⟨rfl, rfl⟩ | ⟨b, c, kd, cap, h1, h2, h3, h4, h5, h6⟩
  · exact .inl ⟨rfl, rfl, rfl⟩
  · exact .inr ⟨b, c, kd, cap, h1, h2, h3, by rw [Nat.mul_one]; exact h4, (Nat.mul_one _).symm, h5, h6⟩
theorem OwnC.own {n : Nat} {h : AH} {v : Value} {k : Nat} {l : List Value} {e : TypeId} (ho : OwnC 1 n h v k l e) : Own n h v l e := by
  rcases ho with ⟨rfl, rfl, rfl⟩ | ⟨b, c, kd, cap, h1, h2, h3, h4, h5, h6, h7⟩
  · exact .inl ⟨rfl, rfl⟩
  · rw [Nat.mul_one] at h4 h5
    subst h5
    exact .inr ⟨b, c, kd, cap, h1, h2, h3, h4, h6, h7⟩
/-- Something is put behind a slice of our own. -/
theorem append_gen {T : Tab} {sT xT e : TypeId} {i : TypeInfo} {z : Value} {s : Nat} (hs : und T sT = some (.slice e)) (hi : T.tt.get e = some i) (hz : i.zero = some z) (h1 : i.size = s) (hb : i.bytes ≤ 100)
    {n : Nat} {h : AH} {v x : Value} {k m : Nat} {cs new : List Value} (hv : OwnC s n h v k cs e) (happ : appendedA T xT i z x h = some (m, new)) (hm : new.length = m * s) (hall : new.all oneCell = true) (hl : k + m < 100000000000) (hn : n ≤ h.next) (ty : TypeId) :
    ∃ v' h', evBuiltin T .append #[sT, xT] ty [v, x] h = some (.value v', h') ∧ OwnC s n h' v' (k + m) (cs ++ new) e ∧ Grow n h h' ∧ (∀ k, k < h.next → Off v k → h'.get k = h.get k) ∧ (0 < m → OwnC s h.next h' v' (k + m) (cs ++ new) e) := by
  subst h1
  have hev : ∀ {p : Value × AH}, evAppend T sT xT v x h = some p → evBuiltin T .append #[sT, xT] ty [v, x] h = some (.value p.1, p.2) := by
    intro p hp
    show (match evAppend T sT xT v x h with
      | some p => (some (Out.value p.1, p.2) : Res)
      | none => none) = _
    rw [hp]
  have hbnd : (Nat.ble ((k + m) * i.bytes) 17592186044416 && Nat.ble (k + m) 17592186044416) = true := by
    have h2 : (k + m) * i.bytes ≤ 100000000000 * 100 := Nat.mul_le_mul (by omega) hb
    rw [Nat.ble_eq_true_of_le (by omega), Nat.ble_eq_true_of_le (by omega)]
    rfl
  have key : ∀ (hh : AH), cs.length = k * i.size → Grow n h hh → n ≤ hh.next → hh.next = h.next → (∀ k, k < h.next → Off v k → hh.get k = h.get k) → ∃ v' h', (some (Out.value (grown hh e (k + m) ((k + m) * i.size) (cs ++ new)).1, (grown hh e (k + m) ((k + m) * i.size) (cs ++ new)).2) : Res) = some (.value v', h') ∧ OwnC i.size n h' v' (k + m) (cs ++ new) e ∧ Grow n h h' ∧ (∀ k, k < h.next → Off v k → h'.get k = h.get k) ∧ (0 < m → OwnC i.size h.next h' v' (k + m) (cs ++ new) e) := by
    intro hh hcs g hnn hnx hkp
    have own : ∀ n', n' ≤ hh.next → OwnC i.size n' (grown hh e (k + m) ((k + m) * i.size) (cs ++ new)).2 (grown hh e (k + m) ((k + m) * i.size) (cs ++ new)).1 (k + m) (cs ++ new) e := fun n' hn' => .inr ⟨hh.next, PM.ofList (cs ++ new), .loose, XB + (k + m), hn', Nat.lt_succ_self _, rfl, get_new_same _ _, by rw [List.length_append, hcs, hm, Nat.add_mul], fun i y hy => by rw [PM.get_ofList]; exact hy, .inr ⟨rfl, rfl⟩⟩
    exact ⟨_, _, rfl, own n hnn, g.trans ((Grow.new hh _).less hnn) (Nat.le_refl _), fun k hk ho => ((Grow.new hh _).keep k (by omega)).trans (hkp k hk ho), fun _ => own h.next (by omega)⟩
  by_cases h0 : m = 0
  · subst h0
    have hnil : new = [] := List.length_eq_zero_iff.1 (by rw [hm, Nat.zero_mul])
    subst hnil
    refine ⟨v, h, ?_, by rw [List.append_nil]; exact hv, Grow.refl _ _, fun _ _ _ => rfl, fun q => absurd q (by omega)⟩
    rcases hv with ⟨rfl, rfl, rfl⟩ | ⟨b, c, kd, cap, q1, q2, rfl, q4, q5, q6, q7⟩
    · apply hev (p := (_, h))
      unfold evAppend
      simp only [hs, hi, hz, happ, appendTo]
      rfl
    · apply hev (p := (_, h))
      unfold evAppend
      have hc : Nat.ble (k + 0) (capOf cap) = true := by
        apply Nat.ble_eq_true_of_le
        rcases q7 with ⟨_, rfl⟩ | ⟨_, rfl⟩
        · unfold capOf; rw [ble_no (by rw [XB_val]; omega)]; exact Nat.le_refl _
        · rw [capOf_ge]; exact Nat.le_refl _
      simp only [hs, hi, hz, happ, appendTo]
      rw [hc]
      rfl
  · rcases hv with ⟨rfl, rfl, rfl⟩ | ⟨b, c, kd, cap, q1, q2, rfl, q4, q5, q6, q7⟩
    · obtain ⟨v', h', k1, k2⟩ := key h (by simp) (Grow.refl _ _) hn rfl (fun _ _ _ => rfl)
      refine ⟨v', h', ?_, k2⟩
      rw [← k1]
      apply hev
      unfold evAppend
      simp only [hs, hi, hz, happ, appendTo]
      rw [ble_no (by show 0 < 0 + m; omega), ifB_false, hbnd]
      rfl
    · have hold : firstA i.size k h (.slice (some ⟨b, 0, none⟩) k cap) = some cs := by
        unfold firstA
        by_cases hk0 : k = 0
        · subst hk0
          rw [show cs = [] from List.length_eq_zero_iff.1 (by rw [q5, Nat.zero_mul])]
          rfl
        · show ifB (Nat.beq k 0) (some []) (ifB (Nat.ble k k) (loadRow h b 0 (k * i.size)) none) = some cs
          rw [show Nat.beq k 0 = false from by cases k with | zero => exact absurd rfl hk0 | succ k => rfl, ifB_false, Nat.ble_eq_true_of_le (Nat.le_refl _), ifB_true, ← q5]
          exact loadRow_of (m := k * i.size) (c := c) q4 (by omega) (fun i y hy => by rw [Nat.zero_add]; exact q6 i y hy)
      rcases q7 with ⟨rfl, rfl⟩ | ⟨rfl, rfl⟩
      · obtain ⟨v', h', k1, k2⟩ := key _ q5 (Grow.refl _ _) hn rfl (fun _ _ _ => rfl)
        refine ⟨v', h', ?_, k2⟩
        rw [← k1]
        apply hev
        have hc : capOf cap = cap := by unfold capOf; rw [ble_no (by rw [XB_val]; omega)]; rfl
        unfold evAppend
        simp only [hs, hi, hz, happ, appendTo, hc]
        rw [ble_no (by omega : cap < cap + m), ifB_false, hbnd, ifB_true, hold]
        simp only
        rw [ble_no (by rw [XB_val]; omega : cap < XB)]
        rfl
      · have gdel : Grow n h (h.del b) := by
          refine ⟨Nat.le_refl _, fun k hk => ?_⟩
          rw [AH.get_del, if_neg (by omega)]
        obtain ⟨v', h', k1, k2⟩ := key _ q5 gdel hn rfl (fun k hk ho => by rw [AH.get_del, if_neg (fun q => by subst q; exact ho _ _ _ rfl)])
        refine ⟨v', h', ?_, k2⟩
        rw [← k1]
        apply hev
        unfold evAppend
        simp only [hs, hi, hz, happ, appendTo, capOf_ge]
        rw [ble_no (by omega : k < k + m), ifB_false, hbnd, ifB_true, hold]
        simp only
        rw [Nat.ble_eq_true_of_le (by omega : XB ≤ XB + k), ifB_true]
        have hl : looseEl h b e = true := by
          unfold looseEl
          rw [q4]
          show (Nat.beq e e && Nat.ble 0 0) = true
          rw [Nat.beq_refl]; rfl
        rw [hl, hall]
        rfl
/-- What is put behind: the elements of another slice. -/
theorem appended_slice {T : Tab} {xT e : TypeId} {i : TypeInfo} {z : Value} {h : AH} {b k cap : Nat} {c : PM Value} {N : Nat} {el lo hi : Nat} {kd : BKind} {new : List Value} (hx : und T xT = some (.slice e)) (hb : h.get b = some (.cells c N el lo hi kd)) (hn : new.length = k * i.size) (hN : k * i.size ≤ N) (hc : ∀ (j : Nat) (x : Value), new[j]? = some x → c.get j = some x) :
    appendedA T xT i z (.slice (some ⟨b, 0, none⟩) k cap) h = some (k, new) := by
  unfold appendedA
  simp only [hx, lenOfA]
  have hold : firstA i.size k h (.slice (some ⟨b, 0, none⟩) k cap) = some new := by
    unfold firstA
    by_cases hk0 : k = 0
    · subst hk0
      rw [show new = [] from List.length_eq_zero_iff.1 (by rw [hn, Nat.zero_mul])]
      rfl
    · show ifB (Nat.beq k 0) (some []) (ifB (Nat.ble k k) (loadRow h b 0 (k * i.size)) none) = some new
      rw [show Nat.beq k 0 = false from by cases k with | zero => exact absurd rfl hk0 | succ k => rfl, ifB_false, Nat.ble_eq_true_of_le (Nat.le_refl _), ifB_true, ← hn]
      exact loadRow_of hb (by omega) (fun i y hy => by rw [Nat.zero_add]; exact hc i y hy)
  rw [hold]
  simp only
  rw [hn, Nat.beq_refl, ifB_true]
theorem appended_own {T : Tab} {xT e : TypeId} {i : TypeInfo} {z : Value} {n : Nat} {h : AH} {v : Value} {k : Nat} {new : List Value} (hx : und T xT = some (.slice e)) (ho : OwnC i.size n h v k new e) : appendedA T xT i z v h = some (k, new) := by
  rcases ho with ⟨rfl, rfl, rfl⟩ | ⟨b, c, kd, cap, q1, q2, rfl, q4, q5, q6, q7⟩
  · unfold appendedA
    simp only [hx, lenOfA]
    rw [Nat.zero_mul]
    rfl
  · exact appended_slice hx q4 q5 (Nat.le_refl _) q6

/- Texts. -/
abbrev sv (l : List UInt8) : Value := .string ⟨l.toArray⟩
theorem sv_of (s : ByteArray) : Value.string s = sv s.data.toList := by simp
theorem und_str : und T0 9 = some .string := by kernel_rfl
theorem und_int : und T0 3 = some (.int .i64) := by kernel_rfl
theorem und_u8 : und T0 5 = some (.int .u8) := by kernel_rfl
theorem und_u64 : und T0 69 = some (.int .u64) := by kernel_rfl
theorem und_bytes : und T0 22 = some (.slice 5) := by kernel_rfl
theorem und_strs : und T0 46 = some (.slice 9) := by kernel_rfl
theorem und_acts : und T0 34 = some (.slice 24) := by kernel_rfl
theorem sz_u8 : szOf T0 5 = some 1 := by kernel_rfl
theorem sz_str : szOf T0 9 = some 1 := by kernel_rfl
theorem sz_act : szOf T0 24 = some 6 := by kernel_rfl
theorem agg_u8 : aggT T0 5 = some false := by kernel_rfl
theorem agg_str : aggT T0 9 = some false := by kernel_rfl
theorem agg_int : aggT T0 3 = some false := by kernel_rfl
theorem agg_bytes : aggT T0 22 = some false := by kernel_rfl
theorem agg_act : aggT T0 24 = some true := by kernel_rfl
def infoOf (t : Nat) : TypeInfo := (Tryd.prog.types[t]?).getD default
theorem tt_u8 : T0.tt.get 5 = some (infoOf 5) := by kernel_rfl
theorem ti_u8 : (infoOf 5).zero = some (.int .u8 0) ∧ (infoOf 5).size = 1 ∧ (infoOf 5).bytes ≤ 100 := ⟨by kernel_rfl, by kernel_rfl, Nat.le_of_ble_eq_true (by kernel_rfl)⟩
theorem tt_str : T0.tt.get 9 = some (infoOf 9) := by kernel_rfl
theorem ti_str : (infoOf 9).zero = some (.string .empty) ∧ (infoOf 9).size = 1 ∧ (infoOf 9).bytes ≤ 100 := ⟨by kernel_rfl, by kernel_rfl, Nat.le_of_ble_eq_true (by kernel_rfl)⟩
theorem len_str {ty : TypeId} {l : List UInt8} {h : AH} : evBuiltin T0 .len #[9] ty [sv l] h = some (.value (iv l.length), h) := by
  unfold evBuiltin evLen
  simp only [show (#[9] : Array Nat)[0]? = some 9 from rfl, und_str]
  rfl
theorem idx_str {l : List UInt8} {i : Nat} {b : UInt8} (hi : l[i]? = some b) : evIndex T0 9 (sv l) (iv (i : Nat)) = some (bv b) := by
  unfold evIndex
  simp only [und_str, show natOf (iv (i : Nat)) = some i from rfl, hi]
theorem prun_bind {α β : Type} {P : Program} {a : α} {s : Sem α} {k : α → Sem β} (h : prun P s = some a) : prun P (s >>= k) = prun P (k a) := by
  show prun P (Sem.bind s k) = _
  induction s with
  | pure x => simp only [prun, Option.some.injEq] at h; subst h; rfl
  | program g ih => exact ih P h
  | mark m g ih => exact ih h
  | _ => simp [prun] at h
theorem bin_sadd {t : TypeId} {p q : Operand} {a b : List UInt8} {h : AH} (hl : a.length + b.length ≤ 9223372036854775807) : evBin T0 .add t p q (sv a) (sv b) h = some (sv (a ++ b)) := by
  have hs : slowBin T0 .add t p q (sv a) (sv b) = some (sv (a ++ b)) := by
    unfold slowBin
    have : prun T0.P (do eqGuard .add t p q (sv a) (sv b); binOp .add t (sv a) (sv b) : Sem Value) = some (sv (a ++ b)) := by
      show prun T0.P (Op.stringOp .add ⟨a.toArray⟩ ⟨b.toArray⟩) = _
      unfold Op.stringOp
      have h1 : ¬ (((⟨a.toArray⟩ : ByteArray).size + (⟨b.toArray⟩ : ByteArray).size : Nat) : Int) > IntKind.i64.max := by
        have : (⟨a.toArray⟩ : ByteArray).size = a.length := by simp [ByteArray.size]
        have h2 : (⟨b.toArray⟩ : ByteArray).size = b.length := by simp [ByteArray.size]
        rw [this, h2, show IntKind.i64.max = 9223372036854775807 from rfl]; omega
      simp only [h1, if_false]
      show some (Value.string _) = _
      congr 2
    rw [this]; rfl
  show ifB (flat (sv a) && flat (sv b)) (slowBin T0 .add t p q (sv a) (sv b)) (refBin T0 .add t (sv a) (sv b) h) = _
  rw [hs]; rfl
theorem toList_sv (a : List UInt8) : (⟨a.toArray⟩ : ByteArray).toList = a := by rw [Lib.toList_data]
theorem bin_seql {t : TypeId} {p q : Operand} {a b : List UInt8} {h : AH} : evBin T0 .eql t p q (sv a) (sv b) h = some (.bool (a == b)) := by
  have hs : slowBin T0 .eql t p q (sv a) (sv b) = some (.bool (a == b)) := by
    unfold slowBin
    have : prun T0.P (do eqGuard .eql t p q (sv a) (sv b); binOp .eql t (sv a) (sv b) : Sem Value) = some (.bool (a == b)) := by
      show prun T0.P (Op.stringOp .eql ⟨a.toArray⟩ ⟨b.toArray⟩) = _
      unfold Op.stringOp
      simp only [toList_sv]
      rfl
    rw [this]; rfl
  show ifB (flat (sv a) && flat (sv b)) (slowBin T0 .eql t p q (sv a) (sv b)) (refBin T0 .eql t (sv a) (sv b) h) = _
  rw [hs]; rfl
theorem bin_sneq {t : TypeId} {p q : Operand} {a b : List UInt8} {h : AH} : evBin T0 .neq t p q (sv a) (sv b) h = some (.bool (!(a == b))) := by
  have hs : slowBin T0 .neq t p q (sv a) (sv b) = some (.bool (!(a == b))) := by
    unfold slowBin
    have : prun T0.P (do eqGuard .neq t p q (sv a) (sv b); binOp .neq t (sv a) (sv b) : Sem Value) = some (.bool (!(a == b))) := by
      show prun T0.P (Op.stringOp .neq ⟨a.toArray⟩ ⟨b.toArray⟩) = _
      unfold Op.stringOp
      simp only [toList_sv]
      rfl
    rw [this]; rfl
  show ifB (flat (sv a) && flat (sv b)) (slowBin T0 .neq t p q (sv a) (sv b)) (refBin T0 .neq t (sv a) (sv b) h) = _
  rw [hs]; rfl
end
end Go.Proofs.YtknchhnibjfocaaDoor.Abs
namespace Go.Proofs.YtknchhnibjfocaaDoor.Abs
open Go Go.Proofs
noncomputable section
variable {call : Abs.Callee}
set_option maxRecDepth 10000
theorem pu_str : Tryd.prog.underlying 9 = some .string := by kernel_rfl
theorem pu_u8 : Tryd.prog.underlying 5 = some (.int .u8) := by kernel_rfl
theorem pu_bytes : Tryd.prog.underlying 22 = some (.slice 5) := by kernel_rfl
theorem prun_und {t : TypeId} {d : TypeDesc} (h : Tryd.prog.underlying t = some d) : prun Tryd.prog (underlying t) = some d := by
  show prun Tryd.prog (Sem.bind program _) = _
  simp only [program, Sem.bind, prun, h]
  rfl
theorem prun_bound {a n : Nat} {c : BoundsCode} (h : a ≤ n) : prun Tryd.prog (Instr.sliceBound (iv (a : Nat)) n c) = some a := by
  have h1 : (0 : Int) ≤ (a : Int) ∧ (a : Int) ≤ (n : Nat) := by omega
  show prun Tryd.prog (if 0 ≤ (a : Int) ∧ (a : Int) ≤ (n : Nat) then pure (a : Int).toNat else boundsPanic .i64 (a : Int) n c) = _
  rw [if_pos h1]; rfl
theorem prun_pure {α : Type} {P : Program} {a : α} : prun P (pure a : Sem α) = some a := rfl
theorem sv_extract (l : List UInt8) (a b : Nat) : Value.string ((⟨l.toArray⟩ : ByteArray).extract a b) = sv ((l.take b).drop a) := by
  congr 1
  apply ByteArray.ext
  apply Array.ext'
  rw [Lib.extract_data]
  simp [List.drop_take]
theorem sv_size (l : List UInt8) : (⟨l.toArray⟩ : ByteArray).size = l.length := by simp [ByteArray.size]
theorem slice_run {s : ByteArray} {lo hi : Option Value} {a b : Nat} (h : prun Tryd.prog (Instr.sliceBounds false s.size s.size lo hi none) = some (a, b, s.size)) : prun Tryd.prog (Instr.sliceAt 9 (.string s) lo hi none) = some (.string (s.extract a b)) := by
  unfold Instr.sliceAt
  rw [prun_bind (prun_und pu_str)]
  simp only
  unfold Instr.slice
  rw [prun_bind (prun_und pu_str)]
  simp only [Option.isSome_none, Bool.false_eq_true, if_false]
  rw [prun_bind h]
  rfl
theorem slice_str {l : List UInt8} {a b : Nat} {h : AH} (h1 : a ≤ b) (h2 : b ≤ l.length) : evSliceX T0 9 (sv l) (some (iv (a : Nat))) (some (iv (b : Nat))) none h = some (sv ((l.take b).drop a), h) := by
  have hb : prun Tryd.prog (Instr.sliceBounds false (⟨l.toArray⟩ : ByteArray).size (⟨l.toArray⟩ : ByteArray).size (some (iv (a : Nat))) (some (iv (b : Nat))) none) = some (a, b, (⟨l.toArray⟩ : ByteArray).size) := by
    unfold Instr.sliceBounds
    simp only
    rw [prun_bind (prun_pure (a := (⟨l.toArray⟩ : ByteArray).size)), prun_bind (prun_bound (by rw [sv_size]; exact h2)), prun_bind (prun_bound h1)]
    rfl
  show ifB (flatO (some (iv (a : Nat))) && (flatO (some (iv (b : Nat))) && flatO none)) (flatOp T0 (Instr.sliceAt 9 (sv l) (some (iv (a : Nat))) (some (iv (b : Nat))) none) h) none = _
  unfold flatOp
  rw [show T0.P = Tryd.prog from rfl, slice_run hb, ← sv_extract]
  rfl
theorem slice_to {l : List UInt8} {b : Nat} {h : AH} (h2 : b ≤ l.length) : evSliceX T0 9 (sv l) none (some (iv (b : Nat))) none h = some (sv (l.take b), h) := by
  have hb : prun Tryd.prog (Instr.sliceBounds false (⟨l.toArray⟩ : ByteArray).size (⟨l.toArray⟩ : ByteArray).size none (some (iv (b : Nat))) none) = some (0, b, (⟨l.toArray⟩ : ByteArray).size) := by
    unfold Instr.sliceBounds
    simp only
    rw [prun_bind (prun_pure (a := (⟨l.toArray⟩ : ByteArray).size)), prun_bind (prun_bound (by rw [sv_size]; exact h2)), prun_bind (prun_pure (a := 0))]
    rfl
  show ifB (flatO none && (flatO (some (iv (b : Nat))) && flatO none)) (flatOp T0 (Instr.sliceAt 9 (sv l) none (some (iv (b : Nat))) none) h) none = _
  unfold flatOp
  rw [show T0.P = Tryd.prog from rfl, slice_run hb, sv_extract, List.drop_zero]
  rfl
theorem slice_from {l : List UInt8} {a : Nat} {h : AH} (h2 : a ≤ l.length) : evSliceX T0 9 (sv l) (some (iv (a : Nat))) none none h = some (sv (l.drop a), h) := by
  have hb : prun Tryd.prog (Instr.sliceBounds false (⟨l.toArray⟩ : ByteArray).size (⟨l.toArray⟩ : ByteArray).size (some (iv (a : Nat))) none none) = some (a, (⟨l.toArray⟩ : ByteArray).size, (⟨l.toArray⟩ : ByteArray).size) := by
    unfold Instr.sliceBounds
    simp only
    rw [prun_bind (prun_pure (a := (⟨l.toArray⟩ : ByteArray).size)), prun_bind (prun_pure (a := (⟨l.toArray⟩ : ByteArray).size)), prun_bind (prun_bound (by rw [sv_size]; exact h2))]
    rfl
  show ifB (flatO (some (iv (a : Nat))) && (flatO none && flatO none)) (flatOp T0 (Instr.sliceAt 9 (sv l) (some (iv (a : Nat))) none none) h) none = _
  unfold flatOp
  rw [show T0.P = Tryd.prog from rfl, slice_run hb, sv_extract, sv_size, List.take_length]
  rfl
/- A byte below 128 as a text. -/
theorem enc_ascii {b : UInt8} (hb : b.toNat < 128) : Utf8.encode (b.toNat : Int) = ⟨#[b]⟩ := by
  have hv : Utf8.valid (b.toNat : Int) = true := by
    unfold Utf8.valid
    simp; omega
  unfold Utf8.encode
  simp only [hv, if_true, Int.toNat_natCast]
  rw [if_pos (by omega)]
  simp
theorem conv_chr {b : UInt8} (hb : b.toNat < 128) {h : AH} : evConvert T0 5 9 (bv b) h = some (sv [b], h) := by
  unfold evConvert
  simp only [und_u8, und_str]
  unfold flatOp
  have : prun Tryd.prog (convert 5 9 (bv b)) = some (sv [b]) := by
    unfold convert
    rw [prun_bind (prun_und pu_u8), prun_bind (prun_und pu_str)]
    show some (Value.string (Utf8.encode (b.toNat : Int))) = _
    rw [enc_ascii hb]
  rw [show T0.P = Tryd.prog from rfl, this]
  rfl
/- Bytes as a text. -/
theorem bytesA_vals (l : List UInt8) : bytesA (byteVals l) = some l := by
  induction l with
  | nil => rfl
  | cons b l ih =>
    show bytesA (.int .u8 (b.toNat : Int) :: byteVals l) = _
    have : byteOf (.int .u8 (b.toNat : Int)) = some b := by simp [byteOf]
    simp only [bytesA, ih, this]
theorem conv_bytes {n : Nat} {v : Value} {l : List UInt8} {h : AH} (ho : Row n h v (byteVals l) 5) : evConvert T0 22 9 v h = some (sv l, h) := by
  have key : evToString h v = some (sv l) := by
    rcases ho with ⟨rfl, hl⟩ | ⟨b, o, cap, c, m, lo, hi, kd, el, rfl, h2, h3, h4, h5⟩
    · have : l = [] := by simpa [byteVals] using hl
      subst this; rfl
    · unfold evToString
      have hload : ifB (Nat.beq (byteVals l).length 0) (some []) (loadRow h b o (byteVals l).length) = some (byteVals l) := by
        cases l with
        | nil => rfl
        | cons x l => exact loadRow_of h3 h4 h5
      simp only [hload, bytesA_vals]
  unfold evConvert
  have hs : ∃ a n c, v = .slice a n c := by
    rcases ho with ⟨rfl, hl⟩ | ⟨b, o, cap, c, m, lo, hi, kd, el, rfl, _⟩ <;> exact ⟨_, _, _, rfl⟩
  obtain ⟨a, n, c, rfl⟩ := hs
  simp only [und_bytes, und_str, und_u8, key]
end
end Go.Proofs.YtknchhnibjfocaaDoor.Abs
namespace Go.Proofs.YtknchhnibjfocaaDoor.Abs
open Go Go.Proofs
noncomputable section
variable {call : Abs.Callee}
set_option maxRecDepth 10000
theorem ft36 : T0.ft.get 36 = some Tryd.f36 := by kernel_rfl
theorem ft40 : T0.ft.get 40 = some Tryd.f40 := by kernel_rfl
theorem ft44 : T0.ft.get 44 = some Tryd.f44 := by kernel_rfl
/-- May a byte stand as it is? -/
def plainB (b : UInt8) : Bool := decide (32 < b.toNat) && (decide (b.toNat < 127) && decide (b.toNat ≠ 37))
theorem plain_S (b : UInt8) (h : AH) : frameB T0 X0 call 3000 36 [bv b] h = some (.bool (plainB b), h) := by
  rw [frameB_eq ft36 rfl rfl]
  unfold plainB
  by_cases h1 : 32 < b.toNat
  · have e1 : decide ((32 : Int) < (b.toNat : Int)) = true := decide_eq_true (by omega)
    by_cases h2 : b.toNat < 127
    · have e2 : decide ((b.toNat : Int) < 127) = true := decide_eq_true (by omega)
      simp only [Tryd.f36, symM, opFn, Nat.reduceLT, Nat.reduceBEq, bin_gtr, bin_lss, bin_neq, e1, e2]
      rw [decide_eq_true h1, decide_eq_true h2, Bool.true_and, Bool.true_and]
      refine (retB_one ft36 rfl get_same).trans ?_
      congr 3
      by_cases h3 : b.toNat = 37
      · rw [h3]; rfl
      · rw [decide_eq_true h3]
        have : ((b.toNat : Int) == 37) = false := by rw [beq_eq_false_iff_ne]; omega
        rw [this]; rfl
    · have e2 : decide ((b.toNat : Int) < 127) = false := decide_eq_false (by omega)
      simp only [Tryd.f36, symM, opFn, Nat.reduceLT, Nat.reduceBEq, bin_gtr, bin_lss, e1, e2]
      rw [decide_eq_false h2, Bool.false_and, Bool.and_false]
      exact retB_one ft36 rfl get_same
  · have e1 : decide ((32 : Int) < (b.toNat : Int)) = false := decide_eq_false (by omega)
    simp only [Tryd.f36, symM, opFn, Nat.reduceLT, Nat.reduceBEq, bin_gtr, e1]
    rw [decide_eq_false h1, Bool.false_and]
    exact retB_one ft36 rfl get_same
theorem rplain_S (b : UInt8) (h : AH) : frameB T0 X0 call 3000 40 [bv b] h = some (.bool (plainB b), h) := by
  rw [frameB_eq ft40 rfl rfl]
  unfold plainB
  by_cases h1 : 32 < b.toNat
  · have e1 : decide ((33 : Int) ≤ (b.toNat : Int)) = true := decide_eq_true (by omega)
    by_cases h2 : b.toNat < 127
    · have e2 : decide ((b.toNat : Int) ≤ 126) = true := decide_eq_true (by omega)
      simp only [Tryd.f40, symM, opFn, Nat.reduceLT, Nat.reduceBEq, bin_geq, bin_leq, bin_neq, e1, e2]
      rw [decide_eq_true h1, decide_eq_true h2, Bool.true_and, Bool.true_and]
      refine (retB_one ft40 rfl get_same).trans ?_
      congr 3
      by_cases h3 : b.toNat = 37
      · rw [h3]; rfl
      · rw [decide_eq_true h3]
        have : ((b.toNat : Int) == 37) = false := by rw [beq_eq_false_iff_ne]; omega
        rw [this]; rfl
    · have e2 : decide ((b.toNat : Int) ≤ 126) = false := decide_eq_false (by omega)
      simp only [Tryd.f40, symM, opFn, Nat.reduceLT, Nat.reduceBEq, bin_geq, bin_leq, e1, e2]
      rw [decide_eq_false h2, Bool.false_and, Bool.and_false]
      exact retB_one ft40 rfl get_same
  · have e1 : decide ((33 : Int) ≤ (b.toNat : Int)) = false := decide_eq_false (by omega)
    simp only [Tryd.f40, symM, opFn, Nat.reduceLT, Nat.reduceBEq, bin_geq, e1]
    rw [decide_eq_false h1, Bool.false_and]
    exact retB_one ft40 rfl get_same
/-- A digit of the sixteen; -1: none. -/
def digB (b : UInt8) : Int := if 48 ≤ b.toNat ∧ b.toNat ≤ 57 then (b.toNat : Int) - 48 else if 97 ≤ b.toNat ∧ b.toNat ≤ 102 then (b.toNat : Int) - 87 else -1
theorem w64 {x : Int} (h : -9223372036854775808 ≤ x ∧ x ≤ 9223372036854775807) : IntKind.i64.wrap x = x := IntWalk.i64_in x h
theorem w8 {x : Int} (h : 0 ≤ x ∧ x ≤ 255) : IntKind.u8.wrap x = x := IntWalk.u8_in x h
theorem conv_u8int {x : Int} {h : AH} : evConvert T0 5 3 (.int .u8 x) h = some (.int .i64 (IntKind.i64.wrap x), h) := conv_i2i und_u8 und_int
theorem conv_intu8 {x : Int} {h : AH} : evConvert T0 3 5 (.int .i64 x) h = some (.int .u8 (IntKind.u8.wrap x), h) := conv_i2i und_int und_u8
theorem rdigit_S (b : UInt8) (h : AH) : frameB T0 X0 call 3000 44 [bv b] h = some (iv (digB b), h) := by
  rw [frameB_eq ft44 rfl rfl]
  have hb : b.toNat < 256 := b.toNat_lt
  unfold digB
  by_cases h1 : 48 ≤ b.toNat
  · have e1 : decide ((48 : Int) ≤ (b.toNat : Int)) = true := decide_eq_true (by omega)
    by_cases h2 : b.toNat ≤ 57
    · have e2 : decide ((b.toNat : Int) ≤ 57) = true := decide_eq_true (by omega)
      have w1 : IntKind.u8.wrap ((b.toNat : Int) - 48) = (b.toNat : Int) - 48 := w8 (by omega)
      have w2 : IntKind.i64.wrap ((b.toNat : Int) - 48) = (b.toNat : Int) - 48 := w64 (by omega)
      simp only [Tryd.f44, symM, opFn, Nat.reduceLT, Nat.reduceBEq, bin_geq, bin_leq, bin_sub, conv_u8int, e1, e2, w1, w2]
      rw [if_pos ⟨h1, h2⟩]
      exact retB_one ft44 rfl get_same
    · have e2 : decide ((b.toNat : Int) ≤ 57) = false := decide_eq_false (by omega)
      rw [if_neg (by omega)]
      by_cases h3 : 97 ≤ b.toNat
      · have e3 : decide ((97 : Int) ≤ (b.toNat : Int)) = true := decide_eq_true (by omega)
        by_cases h4 : b.toNat ≤ 102
        · have e4 : decide ((b.toNat : Int) ≤ 102) = true := decide_eq_true (by omega)
          have w1 : IntKind.u8.wrap ((b.toNat : Int) - 97) = (b.toNat : Int) - 97 := w8 (by omega)
          have w2 : IntKind.i64.wrap ((b.toNat : Int) - 97) = (b.toNat : Int) - 97 := w64 (by omega)
          have w3 : IntKind.i64.wrap ((b.toNat : Int) - 97 + 10) = (b.toNat : Int) - 87 := by rw [w64 (by omega)]; omega
          simp only [Tryd.f44, symM, opFn, Nat.reduceLT, Nat.reduceBEq, bin_geq, bin_leq, bin_sub, bin_add, conv_u8int, e1, e2, e3, e4, w1, w2, w3]
          rw [if_pos ⟨h3, h4⟩]
          exact retB_one ft44 rfl get_same
        · have e4 : decide ((b.toNat : Int) ≤ 102) = false := decide_eq_false (by omega)
          simp only [Tryd.f44, symM, opFn, Nat.reduceLT, Nat.reduceBEq, bin_geq, bin_leq, e1, e2, e3, e4]
          rw [if_neg (by omega)]
          exact retB_one ft44 rfl get_same
      · have e3 : decide ((97 : Int) ≤ (b.toNat : Int)) = false := decide_eq_false (by omega)
        simp only [Tryd.f44, symM, opFn, Nat.reduceLT, Nat.reduceBEq, bin_geq, bin_leq, e1, e2, e3]
        rw [if_neg (by omega)]
        exact retB_one ft44 rfl get_same
  · have e1 : decide ((48 : Int) ≤ (b.toNat : Int)) = false := decide_eq_false (by omega)
    have e3 : decide ((97 : Int) ≤ (b.toNat : Int)) = false := decide_eq_false (by omega)
    simp only [Tryd.f44, symM, opFn, Nat.reduceLT, Nat.reduceBEq, bin_geq, e1, e3]
    rw [if_neg (by omega), if_neg (by omega)]
    exact retB_one ft44 rfl get_same
end
end Go.Proofs.YtknchhnibjfocaaDoor.Abs
namespace Go.Proofs.YtknchhnibjfocaaDoor.Abs
open Go Go.Proofs
noncomputable section
variable {call : Abs.Callee}
set_option maxRecDepth 10000
/-- The library's functions answer as they are known to. -/
structure LibC (call : Abs.Callee) : Prop where
  copy : ∀ args h r, sCopy args h = some r → call 45 args h = some r
  str : ∀ args h r, sString args h = some r → call 34 args h = some r
  itoa : ∀ args h r, sItoa args h = some r → call 21 args h = some r
  index : ∀ args h r, sIndex args h = some r → call 42 args h = some r
  atoi : ∀ args h r, sAtoi args h = some r → call 43 args h = some r
  split : ∀ args h r, sSplit args h = some r → call 26 args h = some r
  join : ∀ args h r, sJoin args h = some r → call 22 args h = some r
abbrev BT : Nat := 57
theorem ft37 : T0.ft.get 37 = some Tryd.f37 := by kernel_rfl
theorem ft33 : T0.ft.get 33 = some Tryd.f33 := by kernel_rfl
theorem ft32 : T0.ft.get 32 = some Tryd.f32 := by kernel_rfl
theorem ft45 : T0.ft.get 45 = some Tryd.f45 := by kernel_rfl
theorem ft34 : T0.ft.get 34 = some Tryd.f34 := by kernel_rfl
theorem ft21 : T0.ft.get 21 = some Tryd.f21 := by kernel_rfl
theorem ft42 : T0.ft.get 42 = some Tryd.f42 := by kernel_rfl
theorem ft43 : T0.ft.get 43 = some Tryd.f43 := by kernel_rfl
theorem ft26 : T0.ft.get 26 = some Tryd.f26 := by kernel_rfl
theorem ft22 : T0.ft.get 22 = some Tryd.f22 := by kernel_rfl
theorem field_B {b : Nat} : evFieldAddr T0 BT (ptr b) 0 = some (.pointer (some ⟨b, 0, none⟩)) ∧ evFieldAddr T0 BT (ptr b) 1 = some (.pointer (some ⟨b, 1, none⟩)) := ⟨by kernel_rfl, by kernel_rfl⟩
theorem zero_u8 : zeroOf T0 5 = some (.int .u8 0) := by kernel_rfl
theorem bs_u8 {x : UInt8} {h : AH} : evBuildSlice T0 22 1 [(0, bv x)] h = some (.slice (some ⟨h.next, 0, none⟩) 1 1, h.new (.cells (PM.ofList [bv x]) 1 5 0 0 .ex)) := bs_one und_bytes sz_u8 zero_u8 rfl rfl
theorem OwnC.apart {s n : Nat} {h h' : AH} {v : Value} {k b : Nat} {cs : List Value} {e e' m lo hi : Nat} {c : PM Value} {kd : BKind} (ho : OwnC s n h v k cs e) (hb : h.get b = some (.cells c m e' lo hi kd)) (hne : e ≠ e') (hn : h.next ≤ h'.next) (hg : ∀ k, k ≠ b → h'.get k = h.get k) : OwnC s n h' v k cs e := by
  rcases ho with h1 | ⟨g, c2, kd2, cap, h1, h2, h3, h4, h5⟩
  · exact .inl h1
  · have hgb : g ≠ b := by intro hh; subst hh; rw [hb] at h4; cases h4; exact hne rfl
    exact .inr ⟨g, c2, kd2, cap, h1, Nat.lt_of_lt_of_le h2 hn, h3, (hg g hgb).trans h4, h5⟩
theorem OwnC.off {s n : Nat} {h : AH} {v : Value} {k b : Nat} {cs : List Value} {e e' m lo hi : Nat} {c : PM Value} {kd : BKind} (ho : OwnC s n h v k cs e) (hb : h.get b = some (.cells c m e' lo hi kd)) (hne : e ≠ e') : Off v b := by
  rcases ho with ⟨rfl, _⟩ | ⟨g, c2, kd2, cap, h1, h2, rfl, h4, h5⟩
  · intro o l c hh; cases hh
  · intro o l c hh
    cases hh
    rw [hb] at h4; cases h4; exact hne rfl
theorem ev_nilI {T : Tab} {tm : PM Value} : ev T tm (.const .nilIface) = some .nilIface := rfl
/-- The memory grows; a block may change. -/
structure GrowX (n b : Nat) (h h' : AH) : Prop where
  next : h.next ≤ h'.next
  keep : ∀ k, k < n → k ≠ b → h'.get k = h.get k
theorem GrowX.refl (n b : Nat) (h : AH) : GrowX n b h h := ⟨Nat.le_refl _, fun _ _ _ => rfl⟩
theorem GrowX.trans {n b : Nat} {x y z : AH} (h : GrowX n b x y) (g : GrowX n b y z) : GrowX n b x z := ⟨Nat.le_trans h.next g.next, fun k hk hb => (g.keep k hk hb).trans (h.keep k hk hb)⟩
theorem Grow.x {n m b : Nat} {h h' : AH} (g : Grow n h h') (hn : m ≤ n) : GrowX m b h h' := ⟨g.next, fun k hk _ => g.keep k (by omega)⟩
theorem GrowX.low {n b m : Nat} {h h' : AH} (g : GrowX n b h h') (hb : m ≤ b) (hn : m ≤ n) : Grow m h h' := ⟨g.next, fun k hk => g.keep k (by omega) (by omega)⟩
theorem Row.growX {n m b : Nat} {h h' : AH} {v : Value} {l : List Value} {e : TypeId} (hr : Row n h v l e) (g : GrowX m b h h') (hn : n ≤ m) (hb : ∀ o k c, v ≠ .slice (some ⟨b, o, none⟩) k c) : Row n h' v l e := by
  rcases hr with h1 | ⟨b2, o, cap, c, k, lo, hi, kd, el, h1, h2, h3, h4⟩
  · exact .inl h1
  · exact .inr ⟨b2, o, cap, c, k, lo, hi, kd, el, h1, h2, (g.keep b2 (by omega) (fun q => hb _ _ _ (q ▸ h1))).trans h3, h4⟩
/-- A builder of our own, and what it holds. -/
def BldA (n : Nat) (h : AH) (b : Nat) (l : List UInt8) : Prop :=
  n ≤ h.next ∧ b < h.next ∧ ∃ p v, BoxL h b BT [p, v] ∧ (p = .pointer none ∨ p = ptr b) ∧ OwnC 1 n h v l.length (byteVals l) 5 ∧ (l = [] → v = nilV)
theorem BldA.grow {n : Nat} {h h' : AH} {b : Nat} {l : List UInt8} (hb : BldA n h b l) (g : Grow h.next h h') : BldA n h' b l := by
  obtain ⟨h1, h2, p, v, h3, h4, h5, h6⟩ := hb
  exact ⟨Nat.le_trans h1 g.next, Nat.lt_of_lt_of_le h2 g.next, p, v, h3.grow g h2, h4, h5.grow g, h6⟩
theorem copy_S (hL : LibC call) {n b : Nat} {l : List UInt8} {h : AH} (hb : BldA n h b l) : ∃ h' v, call 45 [ptr b] h = some (.tuple #[], h') ∧ BoxL h' b BT [ptr b, v] ∧ OwnC 1 n h' v l.length (byteVals l) 5 ∧ GrowX n b h h' ∧ h'.next = h.next ∧ ∀ k, k ≠ b → h'.get k = h.get k := by
  obtain ⟨h1, h2, p, v, h3, h4, h5, h6⟩ := hb
  obtain ⟨c, q1, q2⟩ := h3
  rcases h4 with rfl | rfl
  · refine ⟨h.set b (.cells (c.set 0 (ptr b)) 2 BT 0 0 .ex), v, hL.copy _ _ _ ?_, ⟨_, by rw [AH.get_set, if_pos rfl]; rfl, ?_⟩, ?_, ⟨Nat.le_refl _, fun k _ hk => by rw [AH.get_set, if_neg hk]⟩, rfl, fun k hk => by rw [AH.get_set, if_neg hk]⟩
    · unfold sCopy
      simp only [q1, List.length_cons, List.length_nil, q2 0 _ rfl]
    · intro i x hi
      rw [PM.get_set]
      match i with
      | 0 => simp at hi; subst hi; rfl
      | 1 => simp at hi; subst hi; exact q2 1 _ rfl
      | i + 2 => simp at hi
    · exact h5.apart q1 (by decide) (Nat.le_refl _) (fun k hk => by rw [AH.get_set, if_neg hk])
  · refine ⟨h, v, hL.copy _ _ _ ?_, ⟨c, q1, q2⟩, h5, GrowX.refl _ _ _, rfl, fun _ _ => rfl⟩
    unfold sCopy
    simp only [q1, List.length_cons, List.length_nil, q2 0 _ rfl]
    rw [Nat.beq_refl]; rfl
theorem byteVals_len (l : List UInt8) : (byteVals l).length = l.length := by simp [byteVals]
theorem byteVals_app (a b : List UInt8) : byteVals (a ++ b) = byteVals a ++ byteVals b := by simp [byteVals]
theorem byteVals_one (l : List UInt8) : (byteVals l).all oneCell = true := by
  rw [List.all_eq_true]; intro x hx; unfold byteVals at hx; rw [List.mem_map] at hx; obtain ⟨b, _, rfl⟩ := hx; rfl
/-- What is appended to a builder's bytes. -/
theorem bld_put {n b : Nat} {l new : List UInt8} {h h2 : AH} {v x : Value} {xT : TypeId} (h1 : n ≤ h.next) (hlt : b < h.next) (hbx : BoxL h b BT [ptr b, v]) (ho : OwnC 1 n h v l.length (byteVals l) 5) (g2 : Grow h.next h h2)
    (happ : appendedA T0 xT (infoOf 5) (.int .u8 0) x h2 = some (new.length, byteVals new)) (hl : l.length + new.length < 100000000000) (hne : new ≠ []) (ty : TypeId) :
    ∃ v' h3 h4, evBuiltin T0 .append #[22, xT] ty [v, x] h2 = some (.value v', h3) ∧ evStore T0 22 (.pointer (some ⟨b, 1, none⟩)) v' h3 = some h4 ∧ BldA n h4 b (l ++ new) ∧ GrowX n b h h4 := by
  obtain ⟨t1, t2, t3⟩ := ti_u8
  obtain ⟨v', h3, a1, a2, a3, a4, _⟩ := append_gen und_bytes tt_u8 t1 t2 t3 (ho.grow g2) happ (by rw [byteVals_len, Nat.mul_one]) (byteVals_one new) hl (Nat.le_trans h1 g2.next) ty
  have hb2 : BoxL h2 b BT [ptr b, v] := hbx.grow g2 hlt
  obtain ⟨c, q1, q2⟩ := hb2
  have hoff : Off v b := (ho.grow g2).off q1 (by decide)
  have hlt2 : b < h2.next := Nat.lt_of_lt_of_le hlt g2.next
  have hb3 : BoxL h3 b BT [ptr b, v] := ⟨c, (a4 b hlt2 hoff).trans q1, q2⟩
  have hcv : v'.cells.toList = [v'] := by
    rcases a2 with ⟨rfl, _⟩ | ⟨_, _, _, _, _, _, rfl, _⟩ <;> rfl
  have hov : oneCell v' = true := by
    rcases a2 with ⟨rfl, _⟩ | ⟨_, _, _, _, _, _, rfl, _⟩ <;> rfl
  obtain ⟨h4, s1, s2, s3, s4⟩ := hb3.store (t := 22) (o := 1) (ws := [v']) (n := 0) (by kernel_rfl) hcv (by simp) (by simp [hov]) (by simp) (Nat.zero_le _)
  have hk4 : ∀ k, k ≠ b → h4.get k = h3.get k := by
    intro k hk
    simp only [evStore, storeVarA, show szOf T0 22 = some 1 from by kernel_rfl, hcv] at s1
    rw [show Nat.beq [v'].length 1 = true from rfl, ifB_true] at s1
    simp only [storeRow, (a4 b hlt2 hoff).trans q1] at s1
    obtain ⟨_, e2⟩ := ifB_some s1
    rw [← Option.some.inj e2, AH.get_set, if_neg hk]
  refine ⟨v', h3, h4, a1, s1, ⟨?_, ?_, ptr b, v', ?_, .inr rfl, ?_, fun q => absurd (List.append_eq_nil_iff.1 q).2 hne⟩, ?_⟩
  · rw [s4]; exact Nat.le_trans h1 (Nat.le_trans g2.next a3.next)
  · rw [s4]; exact Nat.lt_of_lt_of_le hlt2 a3.next
  · exact s2
  · rw [List.length_append, byteVals_app]
    exact a2.apart ((a4 b hlt2 hoff).trans q1) (by decide) (by omega) hk4
  · exact (((g2.less h1).trans a3 (Nat.le_refl _)).x (Nat.le_refl _)).trans ⟨s3.next, fun k _ hk => hk4 k hk⟩
theorem WriteByte_S (hL : LibC call) {n b : Nat} {l : List UInt8} {h : AH} (hb : BldA n h b l) (x : UInt8) (hl : l.length + 1 < 100000000000) :
    ∃ h', frameB T0 X0 call 3000 37 [ptr b, bv x] h = some (.nilIface, h') ∧ BldA n h' b (l ++ [x]) ∧ GrowX n b h h' := by
  obtain ⟨h1, v, e1, e2, e3, e4, e5, e6⟩ := copy_S hL hb
  obtain ⟨hn, hlt, _⟩ := hb
  have g2 : Grow h1.next h1 (h1.new (.cells (PM.ofList [bv x]) 1 5 0 0 .ex)) := Grow.new h1 _
  have happ : appendedA T0 22 (infoOf 5) (.int .u8 0) (.slice (some ⟨h1.next, 0, none⟩) 1 1) (h1.new (.cells (PM.ofList [bv x]) 1 5 0 0 .ex)) = some ([x].length, byteVals [x]) := by
    refine appended_slice und_bytes (get_new_same _ _) ?_ ?_ ?_
    · rw [byteVals_len, ti_u8.2.1]; rfl
    · rw [ti_u8.2.1]; exact Nat.le_refl _
    · intro j y hj; rw [PM.get_ofList]; exact hj
  obtain ⟨v', h3, h4, a1, a2, a3, a4⟩ := bld_put (new := [x]) (by rw [e5]; exact hn) (by rw [e5]; exact hlt) e2 e3 g2 happ hl (by simp) 22
  refine ⟨h4, ?_, a3, e4.trans a4⟩
  rw [frameB_eq ft37 rfl rfl]
  have hld : evLoad T0 22 (.pointer (some ⟨b, 1, none⟩)) h1 = some v := e2.load (i := 1) agg_bytes rfl
  simp only [Tryd.f37, symM, opFn, Nat.reduceLT, Nat.reduceBEq, evCall_fn ft45 rfl, e1, nilCheck_ptr, field_B.2, hld, bs_u8, a1, a2, ev_nilI]
  exact retB_one ft37 rfl get_same
theorem app_str {z : Value} {s : List UInt8} {h : AH} : appendedA T0 9 (infoOf 5) z (sv s) h = some (s.length, byteVals s) := by
  unfold appendedA
  simp only [und_str]
  have h1 : lenOfA (sv s) = some s.length := by show some (⟨s.toArray⟩ : ByteArray).size = _; rw [sv_size]
  have h2 : firstA (infoOf 5).size s.length h (sv s) = some (byteVals s) := by
    show some (byteVals (s.take s.length)) = _
    rw [List.take_length]
  rw [h1]
  simp only [h2]
  rw [ti_u8.2.1, Nat.mul_one, byteVals_len, Nat.beq_refl]; rfl
theorem WriteString_S (hL : LibC call) {n b : Nat} {l : List UInt8} {h : AH} (hb : BldA n h b l) (s : List UInt8) (hs : s ≠ []) (hl : l.length + s.length < 100000000000) :
    ∃ h', frameB T0 X0 call 3000 33 [ptr b, sv s] h = some (.tuple #[iv s.length, .nilIface], h') ∧ BldA n h' b (l ++ s) ∧ GrowX n b h h' := by
  obtain ⟨h1, v, e1, e2, e3, e4, e5, e6⟩ := copy_S hL hb
  obtain ⟨hn, hlt, _⟩ := hb
  obtain ⟨v', h3, h4, a1, a2, a3, a4⟩ := bld_put (new := s) (by rw [e5]; exact hn) (by rw [e5]; exact hlt) e2 e3 (Grow.refl _ _) app_str hl hs 22
  refine ⟨h4, ?_, a3, e4.trans a4⟩
  rw [frameB_eq ft33 rfl rfl]
  have hld : evLoad T0 22 (.pointer (some ⟨b, 1, none⟩)) h1 = some v := e2.load (i := 1) agg_bytes rfl
  simp only [Tryd.f33, symM, opFn, Nat.reduceLT, Nat.reduceBEq, evCall_fn ft45 rfl, e1, nilCheck_ptr, field_B.2, hld, a1, a2, ev_nilI, len_str]
  exact retB_two ft33 rfl (by simp only [symM, Nat.reduceBEq]) (by simp only [symM])
theorem Len_S {n b : Nat} {l : List UInt8} {h : AH} (hb : BldA n h b l) : frameB T0 X0 call 3000 32 [ptr b] h = some (iv l.length, h) := by
  obtain ⟨h1, h2, p, v, h3, h4, h5, _⟩ := hb
  rw [frameB_eq ft32 rfl rfl]
  have hld : evLoad T0 22 (.pointer (some ⟨b, 1, none⟩)) h = some v := h3.load (i := 1) agg_bytes rfl
  have hlen : ∀ ty, evBuiltin T0 .len #[22] ty [v] h = some (.value (iv l.length), h) := by
    intro ty
    rcases h5 with ⟨rfl, hk, _⟩ | ⟨_, _, _, _, _, _, rfl, _⟩
    · rw [hk]; exact len_slice und_bytes
    · exact len_slice und_bytes
  simp only [Tryd.f32, symM, opFn, Nat.reduceLT, Nat.reduceBEq, nilCheck_ptr, field_B.2, hld, hlen]
  exact retB_one ft32 rfl get_same
theorem String_S (hL : LibC call) {n b : Nat} {l : List UInt8} {h : AH} (hb : BldA n h b l) (hl : l.length < 100000000000) : ∃ h', call 34 [ptr b] h = some (sv l, h') ∧ Grow n h h' := by
  obtain ⟨h1, h2, p, v, ⟨c, q1, q2⟩, h4, h5, h6⟩ := hb
  have hc1 : c.get 1 = some v := q2 1 v rfl
  rcases h5 with ⟨rfl, hk, hcs⟩ | ⟨g, cg, kd, cap, g1, g2, rfl, g4, g5, g6, g7⟩
  · have : l = [] := List.length_eq_zero_iff.1 hk
    subst this
    refine ⟨h, hL.str _ _ _ ?_, Grow.refl _ _⟩
    unfold sString
    simp only [q1, List.length_cons, List.length_nil, hc1]
    rfl
  · have hne : l ≠ [] := fun q => by have := h6 q; cases this
    have hpos : 0 < l.length := List.length_pos_iff.2 hne
    have hro : (AObj.cells cg (l.length * 1) 5 0 0 kd).ro = false := by rcases g7 with ⟨rfl, _⟩ | ⟨rfl, _⟩ <;> rfl
    have hld : loadN cg 0 l.length = some (byteVals l) := by
      have := loadN_of (c := cg) (byteVals l) 0 (fun i x hi => by rw [Nat.zero_add]; exact g6 i x hi)
      rwa [byteVals_len] at this
    have hcap : l.length ≤ cap := by rcases g7 with ⟨_, rfl⟩ | ⟨_, rfl⟩ <;> omega
    refine ⟨h.set g (.cells cg (l.length * 1) 5 0 (l.length * 1 + 1) .ro), hL.str _ _ _ ?_, Grow.set h _ g1⟩
    unfold sString
    simp only [q1, List.length_cons, List.length_nil, hc1]
    rw [show Nat.blt 0 l.length = true from Nat.ble_eq_true_of_le hpos, Nat.ble_eq_true_of_le hcap]
    show strAt h g l.length = _
    unfold strAt
    simp only [g4, hro, Bool.not_false, ifB_true, hld, u8s_map, byteVals]
    rw [Nat.mul_one, Nat.ble_eq_true_of_le (Nat.le_refl _), Nat.ble_eq_true_of_le (by omega)]
    rfl
end
end Go.Proofs.YtknchhnibjfocaaDoor.Abs
namespace Go.Proofs.YtknchhnibjfocaaDoor.Abs
open Go Go.Proofs
noncomputable section
variable {call : Abs.Callee}
set_option maxRecDepth 10000
theorem ft20 : T0.ft.get 20 = some Tryd.f20 := by kernel_rfl
theorem ft24 : T0.ft.get 24 = some Tryd.f24 := by kernel_rfl
theorem nbF {a b : Nat} (h : (a == b) = false) : Nat.beq a b = false := by
  cases hb : Nat.beq a b with
  | false => rfl
  | true => have := Nat.eq_of_beq_eq_true hb; subst this; simp at h
theorem symL : type_of% (And.intro @loop_same (And.intro @unblock_exit (And.intro @Nat.beq_refl @nbF))) := And.intro @loop_same (And.intro @unblock_exit (And.intro @Nat.beq_refl @nbF))
/-- An inner loop that was left. -/
theorem use_exit {N : Nat} {E : Env} {b : Code} {tm : PM Value} {h : AH} {df : List Nat} {i : Nat} {X : CO} {Q : PM Value → AH → Prop} (hX : codeB T0 X0 call N E (.loop b) tm h df = X)
    (H : ∃ tm' h', codeB T0 X0 call N E (.loop b) tm h df = .jump (.exit i) tm' h' df ∧ Q tm' h') : ∃ tm' h', X = .jump (.exit i) tm' h' df ∧ Q tm' h' := hX ▸ H
theorem wadd1 {a : Nat} (h : a ≤ 1000000000000000) : IntKind.i64.wrap ((a : Int) + 1) = ((a + 1 : Nat) : Int) := by rw [w64 (by omega)]; omega
def regOps (c : Func) (p : List Nat) : Array Oper := part c p |> fun | .region _ ops _ => ops | _ => #[]
abbrev hexL : List UInt8 := [48, 49, 50, 51, 52, 53, 54, 55, 56, 57, 97, 98, 99, 100, 101, 102]
def hexd (k : Nat) : UInt8 := hexL.getD k 0
theorem hexd_at {k : Nat} (hk : k < 16) : hexL[k]? = some (hexd k) := by
  unfold hexd; rw [List.getD_eq_getElem?_getD, List.getElem?_eq_getElem (by simpa using hk)]; rfl
theorem hexd_lt {k : Nat} (hk : k < 16) : (hexd k).toNat < 128 := by
  have : ∀ k : _root_.Fin 16, (hexd k.val).toNat < 128 := by decide
  exact this ⟨k, hk⟩
/-- A byte, and a text, as one word. -/
def wordB (b : UInt8) : List UInt8 := if plainB b then [b] else [37, hexd (b.toNat / 16), hexd (b.toNat % 16)]
def wordT (l : List UInt8) : List UInt8 := l.flatMap wordB
def wordL (l : List UInt8) : List UInt8 := if l = [] then [37] else wordT l
theorem wordB_len (b : UInt8) : (wordB b).length ≤ 3 := by unfold wordB; split <;> simp
theorem wordB_ne (b : UInt8) : wordB b ≠ [] := by unfold wordB; split <;> simp
theorem wordT_len (l : List UInt8) : (wordT l).length ≤ 3 * l.length := by
  induction l with
  | nil => simp [wordT]
  | cons b l ih =>
    have := wordB_len b
    unfold wordT at ih ⊢
    rw [List.flatMap_cons, List.length_append, List.length_cons]
    omega
theorem wordT_app (a : List UInt8) (b : UInt8) : wordT (a ++ [b]) = wordT a ++ wordB b := by unfold wordT; simp
theorem conv_toBytes {l : List UInt8} {h : AH} : evConvert T0 9 22 (sv l) h = some (.slice (some ⟨h.next, 0, none⟩) l.length (XB + l.length), h.new (.cells (PM.ofList (byteVals l)) l.length 5 l.length (l.length + 1) .loose)) := by
  unfold evConvert
  simp only [und_str, und_bytes, und_u8, sz_u8]
  unfold evToBytes
  simp
theorem bytesRow (l : List UInt8) (h : AH) : Row (h.next + 1) (h.new (.cells (PM.ofList (byteVals l)) l.length 5 l.length (l.length + 1) .loose)) (.slice (some ⟨h.next, 0, none⟩) l.length (XB + l.length)) (byteVals l) 5 := by
  refine .inr ⟨h.next, 0, XB + l.length, _, l.length, _, _, .loose, 5, by rw [byteVals_len], Nat.lt_succ_self _, get_new_same _ _, by rw [byteVals_len]; omega, fun i x hi => by rw [Nat.zero_add, PM.get_ofList]; exact hi⟩
theorem alloc_B {h : AH} : evAlloc T0 BT h = some (ptr h.next, h.new (.cells (PM.ofList [.pointer none, nilV]) 2 BT 0 0 .ex)) := by
  unfold evAlloc
  rw [show zeroOf T0 BT = some (.agg #[.pointer none, nilV]) from by kernel_rfl]
  rfl
theorem bin_shr4 {t : TypeId} {p q : Operand} {m : Nat} {h : AH} : evBin T0 .shr t p q (.int .u8 (m : Int)) (.int .u64 4) h = some (.int .u8 ((m >>> 4 : Nat) : Int)) := bin_shr (n := 4) (by decide)
theorem bin_and15 {t : TypeId} {p q : Operand} {m : Nat} {h : AH} (hm : m < 256) : evBin T0 .and t p q (.int .u8 (m : Int)) (.int .u8 15) h = some (.int .u8 ((m % 16 : Nat) : Int)) := by
  have h1 : evBin T0 .and t p q (.int .u8 (m : Int)) (.int .u8 15) h = some (.int .u8 (IntKind.u8.wrap ((m &&& 15 : Nat) : Int))) := bin_and (n := 15) (by show m < 2 ^ 8; omega) (by decide)
  rw [h1, show m &&& 15 = m % 16 from Nat.and_two_pow_sub_one_eq_mod m 4, w8 (by omega)]
theorem idx_k {l : List UInt8} {k : IntKind} {i : Nat} {b : UInt8} (hi : l[i]? = some b) : evIndex T0 9 (sv l) (.int k (i : Nat)) = some (bv b) := by
  unfold evIndex
  simp only [und_str, show natOf (.int k (i : Nat)) = some i from rfl, hi]
theorem at_u8 {n : Nat} {h : AH} {v : Value} {l : List UInt8} (hr : Row n h v (byteVals l) 5) {i : Nat} {b : UInt8} (hi : l[i]? = some b) : ∃ p, evIndexAddr T0 22 v (iv (i : Nat)) = some p ∧ evLoad T0 5 p h = some (bv b) :=
  hr.at und_bytes sz_u8 agg_u8 (by simp [byteVals, hi])
theorem byteAt {L : List UInt8} {i : Nat} {b : UInt8} {l : List UInt8} (h : L.drop i = b :: l) : L[i]? = some b := by
  have := congrArg (fun l => l[0]?) h; simpa using this
theorem takeSucc {L : List UInt8} {i : Nat} {b : UInt8} {l : List UInt8} (h : L.drop i = b :: l) : L.take (i + 1) = L.take i ++ [b] := by
  rw [List.take_add_one, byteAt h]; rfl
theorem wrapX {X : CO} {n b i : Nat} {h h1 : AH} {P : PM Value → AH → Prop} (g : GrowX n b h h1) (H : ∃ tm' h', X = .jump (.exit i) tm' h' [] ∧ P tm' h' ∧ GrowX n b h1 h') : ∃ tm' h', X = .jump (.exit i) tm' h' [] ∧ P tm' h' ∧ GrowX n b h h' := by
  obtain ⟨tm', h', q1, q2, q3⟩ := H
  exact ⟨tm', h', q1, q2, g.trans q3⟩
noncomputable def bodyW : Code := part Tryd.f20 [1, 1, 1, 0, 1, 0, 0]
abbrev EW : Env := ⟨20, 32, none⟩
theorem plan_Word : planB (regOps Tryd.f20 [1, 1, 1, 0, 1, 0, 0, 1, 1, 0, 0, 1, 1, 1]) 32 = some ([.one 0, .one 1, .one 2, .one 3, .one 4, .one 5, .one 6, .one 7, .one 8, .one 9, .eff [] 10 []], []) := by kernel_rfl
abbrev PlainC (call : Abs.Callee) (f : Nat) : Prop := ∀ (b : UInt8) (h : AH), call f [bv b] h = some (.bool (plainB b), h)
abbrev WByteC (call : Abs.Callee) : Prop := ∀ (n b : Nat) (l : List UInt8) (h : AH) (x : UInt8), BldA n h b l → l.length + 1 < 100000000000 → ∃ h', call 37 [ptr b, bv x] h = some (.nilIface, h') ∧ BldA n h' b (l ++ [x]) ∧ GrowX n b h h'
abbrev WStrC (call : Abs.Callee) : Prop := ∀ (n b : Nat) (l : List UInt8) (h : AH) (s : List UInt8), BldA n h b l → s ≠ [] → l.length + s.length < 100000000000 → ∃ h', call 33 [ptr b, sv s] h = some (.tuple #[iv s.length, .nilIface], h') ∧ BldA n h' b (l ++ s) ∧ GrowX n b h h'
theorem wordLp (hP : PlainC call 36) (hB : WByteC call) (hS : WStrC call) (L : List UInt8) (hL : L.length < 10000000000) (n b : Nat) (s : Value) :
    ∀ (l : List UInt8) (i : Nat) (tm : PM Value) (h : AH) (N : Nat), L.drop i = l → i + l.length = L.length → l.length + 60 ≤ N → tm.get 3 = some (ptr b) → tm.get 9 = some s → tm.get 10 = some (iv L.length) → tm.get 11 = some (iv i) →
      Row n h s (byteVals L) 5 → (∀ o k c, s ≠ .slice (some ⟨b, o, none⟩) k c) → BldA n h b (wordT (L.take i)) →
      ∃ tm' h', codeB T0 X0 call N EW (.loop bodyW) tm h [] = .jump (.exit 0) tm' h' [] ∧ (tm'.get 3 = some (ptr b) ∧ BldA n h' b (wordT L)) ∧ GrowX n b h h' := by
  intro l
  induction l with
  | nil =>
    intro i tm h N hd hi hN g3 g9 g10 g11 hr hne hb
    obtain ⟨N, rfl⟩ : ∃ a, N = a + 60 := ⟨N - 60, by omega⟩
    have hiL : i = L.length := by simpa using hi
    subst hiL
    rw [List.take_length] at hb
    apply Exists.intro; apply Exists.intro
    refine ⟨?_, ⟨?_, hb⟩, GrowX.refl _ _ _⟩
    · rw [codeB_loop]
      simp only [bodyW, part, Tryd.f20, sub, symM, opFn, Nat.reduceLT, g10, g11, bin_lss, decide_eq_false (show ¬ ((L.length : Nat) : Int) < (L.length : Nat) by omega)]
      rfl
    · simp only [symM, Nat.reduceBEq, g3]
  | cons x l ih =>
    intro i tm h N hd hi hN g3 g9 g10 g11 hr hne hb
    obtain ⟨N, rfl⟩ : ∃ a, N = a + 60 := ⟨N - 60, by omega⟩
    have hlt : decide ((i : Int) < (L.length : Nat)) = true := decide_eq_true (by simp at hi; omega)
    obtain ⟨q, e1, e2⟩ := at_u8 hr (byteAt hd)
    have hw := wadd1 (a := i) (by simp at hi; omega)
    have hx : x.toNat < 256 := x.toNat_lt
    have htk := takeSucc hd
    have hlen : (wordT (L.take i)).length + 3 < 100000000000 := by
      have := wordT_len (L.take i)
      rw [List.length_take] at this
      omega
    have hnext : L.drop (i + 1) = l := by rw [← List.drop_drop, hd]; rfl
    rw [show N + 60 = (N + 59) + 1 from rfl, codeB_loop]
    by_cases hp : plainB x = true
    · obtain ⟨h1, c1, c2, c3⟩ := hB n b _ h x hb (by omega)
      simp only [bodyW, part, Tryd.f20, sub, symM, opFn, Nat.reduceLT, Nat.reduceBEq, g3, g9, g10, g11, bin_lss, hlt, e1, e2, evCall_fn ft36 rfl, hP, hp, evCall_fn ft37 rfl, c1, bin_add, hw]
      exact wrapX c3 (ih (i + 1) _ h1 (N + 59) hnext (by simp at hi ⊢; omega) (by simp at hN ⊢; omega) (by simp only [symM, Nat.reduceBEq, g3]) (by simp only [symM, Nat.reduceBEq, g9]) (by simp only [symM, Nat.reduceBEq, g10]) get_same (hr.growX c3 (Nat.le_refl _) hne) hne
        (by rw [htk, wordT_app, wordB, if_pos hp]; exact c2))
    · have hpf : plainB x = false := by simpa using hp
      have k1 : x.toNat >>> 4 = x.toNat / 16 := Nat.shiftRight_eq_div_pow _ 4
      have i1 := idx_k (k := .u8) (hexd_at (show x.toNat / 16 < 16 by omega))
      have i2 := idx_k (k := .u8) (hexd_at (show x.toNat % 16 < 16 by omega))
      have j1 := conv_chr (hexd_lt (show x.toNat / 16 < 16 by omega)) (h := h)
      have j2 := conv_chr (hexd_lt (show x.toNat % 16 < 16 by omega)) (h := h)
      have s1 : ∀ t p q, evBin T0 .add t p q (sv [37]) (sv [hexd (x.toNat / 16)]) h = some (sv [37, hexd (x.toNat / 16)]) := fun t p q => bin_sadd (by simp)
      have s2 : ∀ t p q, evBin T0 .add t p q (sv [37, hexd (x.toNat / 16)]) (sv [hexd (x.toNat % 16)]) h = some (sv [37, hexd (x.toNat / 16), hexd (x.toNat % 16)]) := fun t p q => bin_sadd (by simp)
      obtain ⟨h1, c1, c2, c3⟩ := hS n b _ h [37, hexd (x.toNat / 16), hexd (x.toNat % 16)] hb (by simp) (by simpa using hlen)
      have hpl := plan_Word
      simp only [regOps, part, Tryd.f20, sub] at hpl
      simp only [bodyW, part, Tryd.f20, sub, symM, opFn, Nat.reduceLT, Nat.reduceBEq, g9, g10, g11, bin_lss, hlt, e1, e2, evCall_fn ft36 rfl, hP, hpf, codeB_draw]
      rw [draw_plan hpl rfl]
      simp only [drawAll, opFn, Nat.reduceLT, Nat.reduceBEq, g3, g11, bin_shr4, bin_and15 hx, k1, i1, i2, j1, j2, s1, s2, evCall_fn ft33 rfl, c1, bin_add, hw]
      exact wrapX c3 (ih (i + 1) _ h1 (N + 59) hnext (by simp at hi ⊢; omega) (by simp at hN ⊢; omega) (by simp only [symM, Nat.reduceBEq, g3]) (by simp only [symM, Nat.reduceBEq, g9]) (by simp only [symM, Nat.reduceBEq, g10]) get_same (hr.growX c3 (Nat.le_refl _) hne) hne
        (by rw [htk, wordT_app, wordB, if_neg hp]; exact c2))
theorem Word_S (hL : LibC call) (hP : PlainC call 36) (hB : WByteC call) (hS : WStrC call) (M : Nat) (l : List UInt8) (h : AH) (hl : l.length ≤ M) (hM : M < 10000000000) :
    ∃ h', frameB T0 X0 call (M + 3000) 20 [sv l] h = some (sv (wordL l), h') ∧ Grow h.next h h' := by
  generalize hh1 : h.new (.cells (PM.ofList [.pointer none, nilV]) 2 BT 0 0 .ex) = h1
  have g1 : Grow h.next h h1 := by rw [← hh1]; exact Grow.new _ _
  have n1 : h1.next = h.next + 1 := by rw [← hh1]; rfl
  have hal : evAlloc T0 BT h = some (ptr h.next, h1) := by rw [← hh1]; exact alloc_B
  by_cases h0 : l = []
  · subst h0
    refine ⟨h1, ?_, g1⟩
    rw [frameB_eq ft20 rfl rfl]
    simp only [Tryd.f20, symM, opFn, Nat.reduceLT, Nat.reduceBEq, hal, bin_seql, show (([] : List UInt8) == []) = true from rfl]
    exact retB_one ft20 rfl get_same
  · generalize hh2 : h1.new (.cells (PM.ofList (byteVals l)) l.length 5 l.length (l.length + 1) .loose) = h2
    have n2 : h2.next = h1.next + 1 := by rw [← hh2]; rfl
    have g2 : Grow h1.next h1 h2 := by rw [← hh2]; exact Grow.new _ _
    have hcv : evConvert T0 9 22 (sv l) h1 = some (.slice (some ⟨h1.next, 0, none⟩) l.length (XB + l.length), h2) := by rw [← hh2]; exact conv_toBytes
    have hrow : Row h2.next h2 (.slice (some ⟨h1.next, 0, none⟩) l.length (XB + l.length)) (byteVals l) 5 := by rw [n2, ← hh2]; exact bytesRow l h1
    have hlen : ∀ ty, evBuiltin T0 .len #[22] ty [.slice (some ⟨h1.next, 0, none⟩) l.length (XB + l.length)] h2 = some (.value (iv l.length), h2) := fun ty => len_slice und_bytes
    have hb1 : BoxL h1 h.next BT [.pointer none, nilV] := by rw [← hh1]; exact BoxL.new h BT [.pointer none, nilV]
    have hbld : BldA h2.next h2 h.next (wordT (l.take 0)) := ⟨Nat.le_refl _, by omega, .pointer none, nilV, hb1.grow g2 (by omega), .inl rfl, .inl ⟨rfl, rfl, rfl⟩, fun _ => rfl⟩
    have hne : ∀ o k c, (.slice (some ⟨h1.next, 0, none⟩) l.length (XB + l.length) : Value) ≠ .slice (some ⟨h.next, o, none⟩) k c := by
      intro o k c q
      have := congrArg (fun v => match v with | .slice (some a) _ _ => a.block | _ => 0) q
      simp at this; omega
    have hb0 : (l == []) = false := by simpa using h0
    have key : ∀ tm N, M + 60 ≤ N → tm.get 3 = some (ptr h.next) → tm.get 9 = some (.slice (some ⟨h1.next, 0, none⟩) l.length (XB + l.length)) → tm.get 10 = some (iv l.length) → tm.get 11 = some (iv 0) →
        ∃ tm' h', codeB T0 X0 call N EW (.loop bodyW) tm h2 [] = .jump (.exit 0) tm' h' [] ∧ (tm'.get 3 = some (ptr h.next) ∧ BldA h2.next h' h.next (wordT l)) ∧ GrowX h2.next h.next h2 h' :=
      fun tm N hN q3 q9 q10 q11 => wordLp hP hB hS l (by omega) h2.next h.next _ l 0 tm h2 N rfl (by simp) (by omega) q3 q9 q10 q11 hrow hne hbld
    have fin : ∀ (tm' : PM Value) (h' : AH), (tm'.get 3 = some (ptr h.next) ∧ BldA h2.next h' h.next (wordT l)) ∧ GrowX h2.next h.next h2 h' → ∃ h'', call 34 [ptr h.next] h' = some (sv (wordT l), h'') ∧ Grow h.next h h'' := by
      intro tm' h' ⟨⟨_, q2⟩, q3⟩
      have hwl := wordT_len l
      obtain ⟨h'', c1, c2⟩ := String_S hL q2 (by omega)
      exact ⟨h'', c1, ((g1.trans (g2.less (by omega)) (Nat.le_refl _)).trans (q3.low (Nat.le_refl _) (by omega)) (Nat.le_refl _)).trans (c2.less (by omega)) (Nat.le_refl _)⟩
    rw [frameB_eq ft20 rfl rfl]
    simp only [Tryd.f20, symM, opFn, Nat.reduceLT, Nat.reduceBEq, hal, bin_seql, hb0, hcv, hlen]
    refine bind_loop (b := bodyW) (Q := fun tm' h' => (tm'.get 3 = some (ptr h.next) ∧ BldA h2.next h' h.next (wordT l)) ∧ GrowX h2.next h.next h2 h') (P := fun x => ∃ h', endF T0 20 x = some (sv (wordL l), h') ∧ Grow h.next h h') ?_ ?_
    · exact key _ _ (by omega) (by simp only [symM, Nat.reduceBEq]) (by simp only [symM, Nat.reduceBEq]) (by simp only [symM, Nat.reduceBEq]) get_same
    · intro tm' h' hq
      obtain ⟨h'', c1, c2⟩ := fin tm' h' hq
      refine ⟨h'', ?_, c2⟩
      have g3 := hq.1.1
      simp only [symM, opFn, Nat.reduceLT, g3, evCall_fn ft34 rfl, c1]
      rw [show wordL l = wordT l from by unfold wordL; rw [if_neg h0]]
      exact retB_one ft20 rfl get_same
end
end Go.Proofs.YtknchhnibjfocaaDoor.Abs
namespace Go.Proofs.YtknchhnibjfocaaDoor.Abs
open Go Go.Proofs
noncomputable section
variable {call : Abs.Callee}
set_option maxRecDepth 10000
/- Allocations of any kind in drawn regions. -/
def goAX (T : Tab) (ops : Array Oper) (al : List Nat) (d : Nat) (tm : PM Value) (h : AH) (r : Option (Value × AH)) : Option (PM Value × AH) := match r with
  | some (w, h') => runAl T ops al (tm.set d w) h'
  | none => none
theorem goAX_some {T : Tab} {ops : Array Oper} {al : List Nat} {d : Nat} {tm : PM Value} {h h' : AH} {w : Value} : goAX T ops al d tm h (some (w, h')) = runAl T ops al (tm.set d w) h' := rfl
def goBN (T : Tab) (t n : Nat) (h : AH) : Option (List (Nat × Value)) → Option (Value × AH)
  | some vs => evBuildSlice T t n vs h
  | none => none
theorem goBN_some {T : Tab} {t n : Nat} {h : AH} {vs : List (Nat × Value)} : goBN T t n h (some vs) = evBuildSlice T t n vs h := rfl
theorem goA_bsN {T : Tab} {ops : Array Oper} {tm : PM Value} {h : AH} {al : List Nat} {d : Nat} {t n : Nat} {ps : List (Nat × Operand)} {ty : TypeId} {pos : String} {after : Array Edge} {g : Option (Nat × Bool)} :
    goA T ops al tm h (some ⟨some d, .buildSlice t n ps.toArray, ty, pos, after, g⟩) = goAX T ops al d tm h (goBN T t n h (evParts T tm ps)) := by
  unfold goA
  simp only [allocOf, mv_bs]
  cases evParts T tm ps with
  | none => rfl
  | some vs =>
    simp only [goBN]
    unfold evBuildSlice
    cases und T t with
    | none => rfl
    | some ds =>
      cases ds <;> try rfl
      rename_i e
      simp only
      cases szOf T e with
      | none => rfl
      | some s =>
        simp only
        cases zeroOf T e with
        | none => rfl
        | some z =>
          simp only
          cases hc : (Nat.ble (n * s) 16777216 && Nat.blt n XB) with
          | false => rfl
          | true =>
            simp only [ifB_true]
            cases fillA (fun i => some (i * s, s)) (zeros z (n * s)) vs with
            | none => rfl
            | some l => rfl
theorem goA_al {T : Tab} {ops : Array Oper} {tm : PM Value} {h : AH} {al : List Nat} {d t : Nat} {ty : TypeId} {pos : String} {after : Array Edge} {g : Option (Nat × Bool)} :
    goA T ops al tm h (some ⟨some d, .alloc t, ty, pos, after, g⟩) = goAX T ops al d tm h (evAlloc T t h) := by
  unfold goA
  simp only [allocOf, mv_al]
  unfold evAlloc
  cases zeroOf T t <;> rfl
def goAV (T : Tab) (ops : Array Oper) (al : List Nat) (d : Nat) (tm : PM Value) (h : AH) : Option Value → Option (PM Value × AH)
  | some v => runAl T ops al (tm.set d v) h
  | none => none
theorem goAV_some {T : Tab} {ops : Array Oper} {al : List Nat} {d : Nat} {tm : PM Value} {h : AH} {v : Value} : goAV T ops al d tm h (some v) = runAl T ops al (tm.set d v) h := rfl
theorem goA_mv {T : Tab} {ops : Array Oper} {tm : PM Value} {h : AH} {al : List Nat} {d s : Nat} {ty : TypeId} {pos : String} {after : Array Edge} :
    goA T ops al tm h (some ⟨some d, .assign (.tmp s), ty, pos, after, none⟩) = goAV T ops al d tm h (tm.get s) := by
  unfold goA
  have hm : mvOf tm ⟨some d, .assign (.tmp s), ty, pos, after, none⟩ = tm.get s := rfl
  simp only [allocOf, hm]
  cases tm.get s <;> rfl
theorem symA : type_of% (And.intro @goA_bsN (And.intro @goAX_some (And.intro @goBN_some (And.intro @goA_al (And.intro @goA_mv @goAV_some))))) := And.intro @goA_bsN (And.intro @goAX_some (And.intro @goBN_some (And.intro @goA_al (And.intro @goA_mv @goAV_some))))
theorem bs_u80 {h : AH} : evBuildSlice T0 22 0 [] h = some (.slice (some ⟨h.next, 0, none⟩) 0 0, h.new (.cells (PM.ofList []) 0 5 0 0 .ex)) := bs_zero und_bytes sz_u8 zero_u8
theorem bs_u83 {a b c : UInt8} {h : AH} : evBuildSlice T0 22 3 [(0, bv a), (1, bv b), (2, bv c)] h = some (.slice (some ⟨h.next, 0, none⟩) 3 3, h.new (.cells (PM.ofList [bv a, bv b, bv c]) 3 5 0 0 .ex)) := by
  unfold evBuildSlice
  simp only [und_bytes, sz_u8, zero_u8]
  rfl
theorem app_new {z : Value} (l : List UInt8) {h : AH} {k : Nat} (hk : k = l.length) : appendedA T0 22 (infoOf 5) z (.slice (some ⟨h.next, 0, none⟩) k k) (h.new (.cells (PM.ofList (byteVals l)) k 5 0 0 .ex)) = some (l.length, byteVals l) := by
  subst hk
  refine appended_slice und_bytes (get_new_same _ _) ?_ ?_ ?_
  · rw [byteVals_len, ti_u8.2.1, Nat.mul_one]
  · rw [ti_u8.2.1, Nat.mul_one]; exact Nat.le_refl _
  · intro j y hj; rw [PM.get_ofList]; exact hj
/-- A slice of bytes of our own, more put behind it. -/
theorem put_bytes {n k : Nat} {h : AH} {v : Value} {l new : List UInt8} (ho : OwnC 1 n h v l.length (byteVals l) 5) (hk : k = new.length) (hl : l.length + new.length < 100000000000) (hn : n ≤ h.next) (ty : TypeId) :
    ∃ v' h', evBuiltin T0 .append #[22, 22] ty [v, .slice (some ⟨h.next, 0, none⟩) k k] (h.new (.cells (PM.ofList (byteVals new)) k 5 0 0 .ex)) = some (.value v', h') ∧ OwnC 1 n h' v' (l ++ new).length (byteVals (l ++ new)) 5 ∧ Grow n h h' := by
  obtain ⟨t1, t2, t3⟩ := ti_u8
  have g := Grow.new h (.cells (PM.ofList (byteVals new)) k 5 0 0 .ex)
  obtain ⟨v', h', a1, a2, a3, _⟩ := append_gen und_bytes tt_u8 t1 t2 t3 (ho.grow g) (app_new new hk) (by rw [byteVals_len, Nat.mul_one]) (byteVals_one new) hl (Nat.le_trans hn g.next) ty
  refine ⟨v', h', a1, ?_, (g.less hn).trans a3 (Nat.le_refl _)⟩
  rw [List.length_append, byteVals_app]; exact a2
theorem OwnC.row1 {n k : Nat} {h : AH} {v : Value} {l : List UInt8} (ho : OwnC 1 n h v k (byteVals l) 5) : Row h.next h v (byteVals l) 5 := ho.own.row
noncomputable def bodyRW : Code := part Tryd.f24 [1, 1, 1, 1, 0, 1, 0, 0]
abbrev ERW : Env := ⟨24, 42, none⟩
theorem plan_rWord : planB (regOps Tryd.f24 [1, 1, 1, 1, 0, 1, 0, 0, 1, 0, 0, 1, 1]) 42 = some ([.one 0, .one 1, .one 2, .one 3, .one 4, .one 5, .one 6, .one 7, .one 8, .one 9, .one 10, .one 11, .one 12, .eff [13] 14 [], .one 15], []) := by kernel_rfl
theorem wrapG {X : CO} {n i : Nat} {h h1 : AH} {P : PM Value → AH → Prop} (g : Grow n h h1) (H : ∃ tm' h', X = .jump (.exit i) tm' h' [] ∧ P tm' h' ∧ Grow n h1 h') : ∃ tm' h', X = .jump (.exit i) tm' h' [] ∧ P tm' h' ∧ Grow n h h' := by
  obtain ⟨tm', h', q1, q2, q3⟩ := H
  exact ⟨tm', h', q1, q2, g.trans q3 (Nat.le_refl _)⟩
theorem quo16 {t : TypeId} {p q : Operand} {m : Nat} {h : AH} (hm : m < 256) : evBin T0 .quo t p q (.int .u8 (m : Int)) (.int .u8 16) h = some (.int .u8 ((m / 16 : Nat) : Int)) := by
  have h1 : evBin T0 .quo t p q (.int .u8 (m : Int)) (.int .u8 16) h = some (.int .u8 (IntKind.u8.wrap ((m / 16 : Nat) : Int))) := bin_quo (n := 16) (by decide)
  rw [h1, w8 (by omega)]
theorem rem16 {t : TypeId} {p q : Operand} {m : Nat} {h : AH} : evBin T0 .rem t p q (.int .u8 (m : Int)) (.int .u8 16) h = some (.int .u8 ((m % 16 : Nat) : Int)) := bin_rem (n := 16) (by decide)
theorem rwordLp (hP : PlainC call 40) (L : List UInt8) (hL : L.length < 10000000000) (n : Nat) :
    ∀ (l : List UInt8) (i : Nat) (tm : PM Value) (h : AH) (N : Nat) (v : Value), L.drop i = l → i + l.length = L.length → l.length + 60 ≤ N → tm.get 0 = some (sv L) → tm.get 3 = some (sv hexL) → tm.get 4 = some v → tm.get 5 = some (iv i) →
      OwnC 1 n h v (wordT (L.take i)).length (byteVals (wordT (L.take i))) 5 → n ≤ h.next →
      ∃ tm' h', codeB T0 X0 call N ERW (.loop bodyRW) tm h [] = .jump (.exit 0) tm' h' [] ∧ (∃ v', tm'.get 4 = some v' ∧ OwnC 1 n h' v' (wordT L).length (byteVals (wordT L)) 5) ∧ Grow n h h' := by
  intro l
  induction l with
  | nil =>
    intro i tm h N v hd hi hN g0 g3 g4 g5 ho hn
    obtain ⟨N, rfl⟩ : ∃ a, N = a + 60 := ⟨N - 60, by omega⟩
    have hiL : i = L.length := by simpa using hi
    subst hiL
    rw [List.take_length] at ho
    apply Exists.intro; apply Exists.intro
    refine ⟨?_, ⟨v, ?_, ho⟩, Grow.refl _ _⟩
    · rw [codeB_loop]
      simp only [bodyRW, part, Tryd.f24, sub, symM, opFn, Nat.reduceLT, Nat.reduceBEq, g0, g5, len_str, bin_lss, decide_eq_false (show ¬ ((L.length : Nat) : Int) < (L.length : Nat) by omega)]
      rfl
    · simp only [symM, Nat.reduceBEq, g4]
  | cons x l ih =>
    intro i tm h N v hd hi hN g0 g3 g4 g5 ho hn
    obtain ⟨N, rfl⟩ : ∃ a, N = a + 60 := ⟨N - 60, by omega⟩
    have hlt : decide ((i : Int) < (L.length : Nat)) = true := decide_eq_true (by simp at hi; omega)
    have hw := wadd1 (a := i) (by simp at hi; omega)
    have hx : x.toNat < 256 := x.toNat_lt
    have htk := takeSucc hd
    have ix := idx_str (byteAt hd)
    have hlen : (wordT (L.take i)).length + 3 < 100000000000 := by
      have := wordT_len (L.take i)
      rw [List.length_take] at this
      omega
    have hnext : L.drop (i + 1) = l := by rw [← List.drop_drop, hd]; rfl
    rw [show N + 60 = (N + 59) + 1 from rfl, codeB_loop]
    by_cases hp : plainB x = true
    · obtain ⟨v1, h1, a1, a2, a3⟩ := put_bytes (new := [x]) (k := 1) ho rfl (by simp; omega) hn 22
      simp only [byteVals, List.map_cons, List.map_nil] at a1
      simp only [bodyRW, part, Tryd.f24, sub, symM, opFn, Nat.reduceLT, Nat.reduceBEq, g0, g4, g5, len_str, bin_lss, hlt, ix, evCall_fn ft40 rfl, hP, hp, bs_u8, a1, bin_add, hw]
      exact wrapG a3 (ih (i + 1) _ h1 (N + 59) v1 hnext (by simp at hi ⊢; omega) (by simp at hN ⊢; omega) (by simp only [symM, Nat.reduceBEq, g0]) (by simp only [symM, Nat.reduceBEq, g3]) (by simp only [symM, Nat.reduceBEq]) get_same (by rw [htk, wordT_app, wordB, if_pos hp]; exact a2) (Nat.le_trans hn a3.next))
    · have hpf : plainB x = false := by simpa using hp
      have i1 := idx_k (k := .u8) (hexd_at (show x.toNat / 16 < 16 by omega))
      have i2 := idx_k (k := .u8) (hexd_at (show x.toNat % 16 < 16 by omega))
      obtain ⟨v1, h1, a1, a2, a3⟩ := put_bytes (new := [37, hexd (x.toNat / 16), hexd (x.toNat % 16)]) (k := 3) ho rfl (by simpa using hlen) hn 22
      simp only [byteVals, List.map_cons, List.map_nil] at a1
      have a1' : evBuiltin T0 .append #[22, 22] 22 [v, .slice (some ⟨h.next, 0, none⟩) 3 3] (h.new (.cells (PM.ofList [.int .u8 37, bv (hexd (x.toNat / 16)), bv (hexd (x.toNat % 16))]) 3 5 0 0 .ex)) = some (.value v1, h1) := a1
      have b3 : evBuildSlice T0 22 3 [(0, .int .u8 37), (1, bv (hexd (x.toNat / 16))), (2, bv (hexd (x.toNat % 16)))] h = some (.slice (some ⟨h.next, 0, none⟩) 3 3, h.new (.cells (PM.ofList [.int .u8 37, bv (hexd (x.toNat / 16)), bv (hexd (x.toNat % 16))]) 3 5 0 0 .ex)) := bs_u83 (a := 37)
      have hpl := plan_rWord
      simp only [regOps, part, Tryd.f24, sub] at hpl
      simp only [bodyRW, part, Tryd.f24, sub, symM, opFn, Nat.reduceLT, Nat.reduceBEq, g0, g5, len_str, bin_lss, hlt, ix, evCall_fn ft40 rfl, hP, hpf, codeB_draw]
      rw [draw_plan hpl rfl]
      simp only [drawAll, opFn, Nat.reduceLT, Nat.reduceBEq, symA, g0, g3, g4, g5, ix, quo16 hx, rem16, i1, i2, b3, a1', bin_add, hw]
      exact wrapG a3 (ih (i + 1) _ h1 (N + 59) v1 hnext (by simp at hi ⊢; omega) (by simp at hN ⊢; omega) (by simp only [symM, Nat.reduceBEq, g0]) (by simp only [symM, Nat.reduceBEq, g3]) (by simp only [symM, Nat.reduceBEq]) get_same (by rw [htk, wordT_app, wordB, if_neg hp]; exact a2) (Nat.le_trans hn a3.next))
theorem rWord_S (hP : PlainC call 40) (M : Nat) (l : List UInt8) (h : AH) (hl : l.length ≤ M) (hM : M < 10000000000) :
    ∃ h', frameB T0 X0 call (M + 3000) 24 [sv l] h = some (sv (wordL l), h') ∧ Grow h.next h h' := by
  by_cases h0 : l = []
  · subst h0
    refine ⟨h, ?_, Grow.refl _ _⟩
    rw [frameB_eq ft24 rfl rfl]
    simp only [Tryd.f24, symM, opFn, Nat.reduceLT, Nat.reduceBEq, bin_seql, show (([] : List UInt8) == []) = true from rfl]
    exact retB_one ft24 rfl get_same
  · generalize hh1 : h.new (.cells (PM.ofList []) 0 5 0 0 .ex) = h1
    have g1 : Grow h.next h h1 := by rw [← hh1]; exact Grow.new _ _
    have hbs : evBuildSlice T0 22 0 [] h = some (.slice (some ⟨h.next, 0, none⟩) 0 0, h1) := by rw [← hh1]; exact bs_u80
    have hb0 : (l == []) = false := by simpa using h0
    have ho : OwnC 1 h.next h1 (.slice (some ⟨h.next, 0, none⟩) 0 0) (wordT (l.take 0)).length (byteVals (wordT (l.take 0))) 5 := by
      rw [← hh1]
      exact .inr ⟨h.next, _, .ex, 0, Nat.le_refl _, Nat.lt_succ_self _, rfl, get_new_same _ _, rfl, fun i x hi => by simp [wordT, byteVals] at hi, .inl ⟨rfl, rfl⟩⟩
    have key : ∀ tm N, M + 60 ≤ N → tm.get 0 = some (sv l) → tm.get 3 = some (sv hexL) → tm.get 4 = some (.slice (some ⟨h.next, 0, none⟩) 0 0) → tm.get 5 = some (iv 0) →
        ∃ tm' h', codeB T0 X0 call N ERW (.loop bodyRW) tm h1 [] = .jump (.exit 0) tm' h' [] ∧ (∃ v', tm'.get 4 = some v' ∧ OwnC 1 h.next h' v' (wordT l).length (byteVals (wordT l)) 5) ∧ Grow h.next h1 h' :=
      fun tm N hN q0 q3 q4 q5 => rwordLp hP l (by omega) h.next l 0 tm h1 N _ rfl (by simp) (by omega) q0 q3 q4 q5 ho g1.next
    rw [frameB_eq ft24 rfl rfl]
    simp only [Tryd.f24, symM, opFn, Nat.reduceLT, Nat.reduceBEq, bin_seql, hb0, hbs]
    refine bind_loop (b := bodyRW) (Q := fun tm' h' => (∃ v', tm'.get 4 = some v' ∧ OwnC 1 h.next h' v' (wordT l).length (byteVals (wordT l)) 5) ∧ Grow h.next h1 h') (P := fun x => ∃ h', endF T0 24 x = some (sv (wordL l), h') ∧ Grow h.next h h') ?_ ?_
    · exact key _ _ (by omega) (by simp only [symM, Nat.reduceBEq]) (by simp only [symM, Nat.reduceBEq]) (by simp only [symM, Nat.reduceBEq]) get_same
    · intro tm' h' hq
      obtain ⟨⟨v', q1, q2⟩, q3⟩ := hq
      refine ⟨h', ?_, g1.trans q3 (Nat.le_refl _)⟩
      simp only [symM, opFn, Nat.reduceLT, q1, conv_bytes q2.row1]
      rw [show wordL l = wordT l from by unfold wordL; rw [if_neg h0]]
      exact retB_one ft24 rfl get_same
end
end Go.Proofs.YtknchhnibjfocaaDoor.Abs
