/- An abstract machine: slices and memory in symbolic reckoning; drawn regions in symbolic reckoning; functions joined to one oracle. -/
import Derived.Test.YtknchhnibjfocaaDoorAbsZL
namespace Go.Proofs.YtknchhnibjfocaaDoor.Abs
open Go
noncomputable section

theorem ble_no {a b : Nat} (h : b < a) : Nat.ble a b = false := by
  cases hb : Nat.ble a b with
  | false => rfl
  | true => have := Nat.le_of_ble_eq_true hb; omega
theorem XB_val : XB = 9223372036854775808 := rfl

/- One oracle out of functions, each shown by itself. -/
def ext (T : Tab) (X : Exts) (call : Callee) (n f : Nat) : Callee := fun g args h => ifB (Nat.beq g f) (frameB T X call n f args h) (call g args h)
theorem ext_ok {T : Tab} (ok : TabOK T) (oz : TabZ T) {X : Exts} (hX : ExtOK T X) {call : Callee} (hc : RecOK T call) {n f : Nat} : RecOK T (ext T X call n f) := by
  intro g args h v h' e
  unfold ext at e
  rcases ifB_cases e with ⟨e1, e2⟩ | e
  · have := Nat.eq_of_beq_eq_true e1; subst this
    exact frameB_sound ok oz hX hc _ _ _ _ _ _ e2
  · exact hc _ _ _ _ _ e
theorem ext_same {T : Tab} {X : Exts} {call : Callee} {n f : Nat} {args : List Value} {h : AH} : ext T X call n f f args h = frameB T X call n f args h := by
  unfold ext; rw [Nat.beq_refl, ifB_true]
theorem ext_skip {T : Tab} {X : Exts} {call : Callee} {n f g : Nat} (hk : (g == f) = false) : ext T X call n f g = call g := by
  have : Nat.beq g f = false := by
    cases hb : Nat.beq g f with
    | false => rfl
    | true => have := Nat.eq_of_beq_eq_true hb; subst this; simp at hk
  funext args h
  unfold ext; rw [this]; rfl
def noCall : Callee := fun _ _ _ => none
theorem noCall_ok (T : Tab) : RecOK T noCall := by intro g args h v h' e; cases e

/- The memory grows. -/
structure Grow (n : Nat) (h h' : AH) : Prop where
  next : h.next ≤ h'.next
  keep : ∀ k, k < n → h'.get k = h.get k
theorem Grow.refl (n : Nat) (h : AH) : Grow n h h := ⟨Nat.le_refl _, fun _ _ => rfl⟩
theorem Grow.trans {n m : Nat} {a b c : AH} (h : Grow n a b) (h' : Grow m b c) (hn : n ≤ m) : Grow n a c :=
  ⟨Nat.le_trans h.next h'.next, fun k hk => (h'.keep k (Nat.lt_of_lt_of_le hk hn)).trans (h.keep k hk)⟩
theorem Grow.less {n m : Nat} {a b : AH} (h : Grow m a b) (hn : n ≤ m) : Grow n a b := ⟨h.next, fun k hk => h.keep k (Nat.lt_of_lt_of_le hk hn)⟩
theorem Grow.new (h : AH) (o : AObj) : Grow h.next h (h.new o) := ⟨Nat.le_succ _, fun k hk => by rw [AH.get_new, if_neg (by omega)]⟩
theorem Grow.set {n : Nat} (h : AH) {b : Nat} (o : AObj) (hb : n ≤ b) : Grow n h (h.set b o) := ⟨Nat.le_refl _, fun k hk => by rw [AH.get_set, if_neg (by omega)]⟩
theorem get_new_same (h : AH) (o : AObj) : (h.new o).get h.next = some o := by rw [AH.get_new, if_pos rfl]

/-- A slice that may be read: its cells. -/
def Row (n : Nat) (h : AH) (v : Value) (l : List Value) (_e : TypeId) : Prop :=
  (v = .slice none 0 0 ∧ l = []) ∨ ∃ b o cap c m lo hi kd el, v = .slice (some ⟨b, o, none⟩) l.length cap ∧ b < n ∧ h.get b = some (.cells c m el lo hi kd) ∧ o + l.length ≤ m ∧ ∀ (i : Nat) (x : Value), l[i]? = some x → c.get (o + i) = some x
theorem Row.grow {n m : Nat} {h h' : AH} {v : Value} {l : List Value} {e : TypeId} (hr : Row n h v l e) (g : Grow m h h') (hn : n ≤ m) : Row n h' v l e := by
  rcases hr with h1 | ⟨b, o, cap, c, k, lo, hi, kd, el, h1, h2, h3, h4⟩
  · exact .inl h1
  · exact .inr ⟨b, o, cap, c, k, lo, hi, kd, el, h1, h2, (g.keep b (by omega)).trans h3, h4⟩
theorem Row.len {T : Tab} {t e : TypeId} {ty : TypeId} {n : Nat} {h h' : AH} {v : Value} {l : List Value} (hr : Row n h v l e) (ht : und T t = some (.slice e)) : evBuiltin T .len #[t] ty [v] h' = some (.value (.int .i64 (l.length : Nat)), h') := by
  rcases hr with ⟨rfl, rfl⟩ | ⟨b, o, cap, c, k, lo, hi, kd, el, rfl, _⟩
  · exact len_slice ht
  · exact len_slice ht
theorem Row.at {T : Tab} {t e : TypeId} {n : Nat} {h : AH} {v : Value} {l : List Value} (hr : Row n h v l e) (ht : und T t = some (.slice e)) (hs : szOf T e = some 1) (ha : aggT T e = some false) {i : Nat} {x : Value} (hi : l[i]? = some x) :
    ∃ p, evIndexAddr T t v (.int .i64 (i : Nat)) = some p ∧ evLoad T e p h = some x := by
  have hl := (List.getElem?_eq_some_iff.1 hi).1
  rcases hr with ⟨rfl, rfl⟩ | ⟨b, o, cap, c, m, lo, hi2, kd, el, rfl, h2, h3, h4, h5⟩
  · simp at hi
  · refine ⟨.pointer (some ⟨b, o + i * 1, none⟩), idx_slice ht hs hl, ?_⟩
    exact load_one ha h3 (by omega) (by rw [Nat.mul_one]; exact h5 _ _ hi)

/-- A slice of our own: nobody else has its cells. -/
def Own (n : Nat) (h : AH) (v : Value) (l : List Value) (e : TypeId) : Prop :=
  (v = .slice none 0 0 ∧ l = []) ∨ ∃ b c kd cap, n ≤ b ∧ b < h.next ∧ v = .slice (some ⟨b, 0, none⟩) l.length cap ∧ h.get b = some (.cells c l.length e 0 0 kd) ∧ (∀ (i : Nat) (x : Value), l[i]? = some x → c.get i = some x) ∧
    ((kd = .ex ∧ cap = l.length) ∨ (kd = .loose ∧ cap = XB + l.length))
theorem Own.row {n : Nat} {h : AH} {v : Value} {l : List Value} {e : TypeId} (ho : Own n h v l e) : Row h.next h v l e := by
  rcases ho with h1 | ⟨b, c, kd, cap, _, h2, h3, h4, h5, _⟩
  · exact .inl h1
  · exact .inr ⟨b, 0, cap, c, l.length, 0, 0, kd, e, h3, h2, h4, by omega, fun i x hi => by rw [Nat.zero_add]; exact h5 i x hi⟩
theorem Own.nil (n : Nat) (h : AH) (e : TypeId) : Own n h (.slice none 0 0) [] e := .inl ⟨rfl, rfl⟩
theorem Own.grow {n : Nat} {h h' : AH} {v : Value} {l : List Value} {e : TypeId} (ho : Own n h v l e) (g : Grow h.next h h') : Own n h' v l e := by
  rcases ho with h1 | ⟨b, c, kd, cap, h1, h2, h3, h4, h5⟩
  · exact .inl h1
  · exact .inr ⟨b, c, kd, cap, h1, Nat.lt_of_lt_of_le h2 g.next, h3, (g.keep b h2).trans h4, h5⟩
theorem Own.less {n m : Nat} {h : AH} {v : Value} {l : List Value} {e : TypeId} (ho : Own m h v l e) (hn : n ≤ m) : Own n h v l e := by
  rcases ho with h1 | ⟨b, c, kd, cap, h1, h2⟩
  · exact .inl h1
  · exact .inr ⟨b, c, kd, cap, Nat.le_trans hn h1, h2⟩
theorem Own.empty (n : Nat) (h : AH) (hn : n ≤ h.next) (c : PM Value) (e : TypeId) : Own n (h.new (.cells c 0 e 0 0 .ex)) (.slice (some ⟨h.next, 0, none⟩) 0 0) [] e :=
  .inr ⟨h.next, c, .ex, 0, hn, Nat.lt_succ_self _, rfl, get_new_same _ _, fun i x hi => by simp at hi, .inl ⟨rfl, rfl⟩⟩

theorem spl_all {x z : Value} : spl [z] 0 [x] = [x] := rfl
theorem cells_one {x : Value} (hx : oneCell x = true) : x.cells.toList = [x] := by cases x <;> first | rfl | (simp [oneCell] at hx)
/- Slices built of nothing, or of one element. -/
theorem bs_zero {T : Tab} {t e : TypeId} {h : AH} {s : Nat} {z : Value} (ht : und T t = some (.slice e)) (hs : szOf T e = some s) (hz : zeroOf T e = some z) :
    evBuildSlice T t 0 [] h = some (.slice (some ⟨h.next, 0, none⟩) 0 0, h.new (.cells (PM.ofList []) 0 e 0 0 .ex)) := by
  unfold evBuildSlice
  simp only [ht, hs, hz, Nat.zero_mul]
  rfl
theorem bs_one {T : Tab} {t e : TypeId} {h : AH} {z x : Value} (ht : und T t = some (.slice e)) (hs : szOf T e = some 1) (hz : zeroOf T e = some z) (h1 : oneCell z = true) (hx : oneCell x = true) :
    evBuildSlice T t 1 [(0, x)] h = some (.slice (some ⟨h.next, 0, none⟩) 1 1, h.new (.cells (PM.ofList [x]) 1 e 0 0 .ex)) := by
  have hzz : zeros z (1 * 1) = [z] := by
    have := cells_one h1
    have h2 : z.cells = #[z] := by apply Array.ext'; simpa using this
    unfold zeros; rw [h2]; rfl
  unfold evBuildSlice
  simp only [ht, hs, hz, hzz, fillA, cells_one hx]
  rfl
theorem parts_nil {T : Tab} {tm : PM Value} : evParts T tm [] = some [] := rfl
theorem parts_one {T : Tab} {tm : PM Value} {i : Nat} {x : Operand} {v : Value} (hx : ev T tm x = some v) : evParts T tm [(i, x)] = some [(i, v)] := by simp only [evParts, hx]
def goBS (T : Tab) (t : TypeId) (n i : Nat) (h : AH) : Option Value → Res
  | some v => rp (evBuildSlice T t n [(i, v)] h)
  | none => none
theorem bsx_zero {T : Tab} {tm : PM Value} {t : TypeId} {h : AH} : evBuildSliceX T tm t 0 [] h = rp (evBuildSlice T t 0 [] h) := rfl
theorem bsx_one {T : Tab} {tm : PM Value} {t : TypeId} {i : Nat} {x : Operand} {h : AH} : evBuildSliceX T tm t 1 [(i, x)] h = goBS T t 1 i h (ev T tm x) := by
  unfold evBuildSliceX
  simp only [evParts]
  cases ev T tm x <;> rfl
theorem goBS_some {T : Tab} {t : TypeId} {n i : Nat} {h : AH} {v : Value} : goBS T t n i h (some v) = rp (evBuildSlice T t n [(i, v)] h) := rfl

theorem loadN_of {c : PM Value} : ∀ (l : List Value) (o : Nat), (∀ (i : Nat) (x : Value), l[i]? = some x → c.get (o + i) = some x) → loadN c o l.length = some l := by
  intro l
  induction l with
  | nil => intro o _; rfl
  | cons x l ih =>
    intro o hl
    have h0 := hl 0 x rfl
    rw [Nat.add_zero] at h0
    rw [List.length_cons, loadN, h0, ih (o + 1) (fun i y hi => by rw [Nat.add_assoc, Nat.add_comm 1 i]; exact hl (i + 1) y hi)]
theorem loadRow_of {h : AH} {b o m : Nat} {c : PM Value} {e : TypeId} {lo hi : Nat} {kd : BKind} {l : List Value} (hb : h.get b = some (.cells c m e lo hi kd)) (hm : o + l.length ≤ m) (hl : ∀ (i : Nat) (x : Value), l[i]? = some x → c.get (o + i) = some x) :
    loadRow h b o l.length = some l := by
  unfold loadRow
  simp only [hb]
  rw [Nat.ble_eq_true_of_le hm, ifB_true]
  exact loadN_of l o hl

/-- One element put behind a slice of our own. -/
theorem append_one {T : Tab} {sT e : TypeId} {i : TypeInfo} {z : Value} (hs : und T sT = some (.slice e)) (hi : T.tt.get e = some i) (hz : i.zero = some z) (h1 : i.size = 1) (hb : i.bytes ≤ 64)
    {n : Nat} {h : AH} {v x : Value} {l : List Value} (hv : Own n h v l e) (hx : oneCell x = true) (hl : l.length < 1000000) (hn : n ≤ h.next) (ty : TypeId) :
    ∃ v' h', evBuiltin T .append #[sT, sT] ty [v, .slice (some ⟨h.next, 0, none⟩) 1 1] (h.new (.cells (PM.ofList [x]) 1 e 0 0 .ex)) = some (.value v', h') ∧ Own n h' v' (l ++ [x]) e ∧ Grow n h h' := by
  have happ : appendedA T sT i z (.slice (some ⟨h.next, 0, none⟩) 1 1) (h.new (.cells (PM.ofList [x]) 1 e 0 0 .ex)) = some (1, [x]) := by
    unfold appendedA
    simp only [hs, lenOfA, firstA, h1]
    rw [show loadRow (h.new (.cells (PM.ofList [x]) 1 e 0 0 .ex)) h.next 0 (1 * 1) = some [x] from loadRow_of (l := [x]) (get_new_same _ _) (by simp) (fun i y hy => by rw [Nat.zero_add, PM.get_ofList]; exact hy)]
    rfl
  have hbnd : (Nat.ble ((l.length + 1) * i.bytes) 17592186044416 && Nat.ble (l.length + 1) 17592186044416) = true := by
    have h2 : (l.length + 1) * i.bytes ≤ 1000000 * 64 := Nat.mul_le_mul (by omega) hb
    rw [Nat.ble_eq_true_of_le (by omega), Nat.ble_eq_true_of_le (by omega)]
    rfl
  have key : ∀ (hh : AH), Grow n h hh → n ≤ hh.next → ∃ v' h', (some (Out.value (grown hh e (l.length + 1) ((l.length + 1) * i.size) (l ++ [x])).1, (grown hh e (l.length + 1) ((l.length + 1) * i.size) (l ++ [x])).2) : Res) = some (.value v', h') ∧ Own n h' v' (l ++ [x]) e ∧ Grow n h h' := by
    intro hh g hnn
    refine ⟨_, _, rfl, ?_, ?_⟩
    · refine .inr ⟨hh.next, PM.ofList (l ++ [x]), .loose, XB + (l.length + 1), hnn, Nat.lt_succ_self _, ?_, ?_, fun i y hy => by rw [PM.get_ofList]; exact hy, .inr ⟨rfl, by simp⟩⟩
      · simp [grown]
      · simp only [grown, h1]; rw [get_new_same]; simp
    · exact g.trans ((Grow.new hh _).less hnn) (Nat.le_refl _)
  have gnew : Grow n h (h.new (.cells (PM.ofList [x]) 1 e 0 0 .ex)) := (Grow.new h _).less hn
  have hev : ∀ {p : Value × AH}, evAppend T sT sT v (.slice (some ⟨h.next, 0, none⟩) 1 1) (h.new (.cells (PM.ofList [x]) 1 e 0 0 .ex)) = some p →
      evBuiltin T .append #[sT, sT] ty [v, .slice (some ⟨h.next, 0, none⟩) 1 1] (h.new (.cells (PM.ofList [x]) 1 e 0 0 .ex)) = some (.value p.1, p.2) := by
    intro p hp
    show (match evAppend T sT sT v (.slice (some ⟨h.next, 0, none⟩) 1 1) (h.new (.cells (PM.ofList [x]) 1 e 0 0 .ex)) with
      | some p => (some (Out.value p.1, p.2) : Res)
      | none => none) = _
    rw [hp]
  rcases hv with ⟨rfl, rfl⟩ | ⟨b, c, kd, cap, q1, q2, rfl, q4, q5, q6⟩
  · obtain ⟨v', h', k1, k2⟩ := key _ gnew (Nat.le_succ_of_le hn)
    refine ⟨v', h', ?_, k2⟩
    rw [← k1]
    apply hev
    unfold evAppend
    simp only [hs, hi, hz, happ, appendTo]
    rw [show Nat.ble (0 + 1) (capOf 0) = false from rfl, ifB_false]
    rw [show (Nat.ble ((0 + 1) * i.bytes) 17592186044416 && Nat.ble (0 + 1) 17592186044416) = true from hbnd]
    rfl
  · have hold : firstA i.size l.length (h.new (.cells (PM.ofList [x]) 1 e 0 0 .ex)) (.slice (some ⟨b, 0, none⟩) l.length cap) = some l := by
      unfold firstA
      cases hl0 : l with
      | nil => rfl
      | cons y r =>
        rw [← hl0]
        show ifB (Nat.beq l.length 0) (some []) (ifB (Nat.ble l.length l.length) (loadRow (h.new (.cells (PM.ofList [x]) 1 e 0 0 .ex)) b 0 (l.length * i.size)) none) = some l
        rw [show Nat.beq l.length 0 = false from by rw [hl0]; rfl, ifB_false, Nat.ble_eq_true_of_le (Nat.le_refl _), ifB_true, h1, Nat.mul_one]
        refine loadRow_of (m := l.length) (c := c) (by rw [AH.get_new, if_neg (by omega)]; exact q4) (by simp) (fun i y hy => by rw [Nat.zero_add]; exact q5 i y hy)
    rcases q6 with ⟨rfl, rfl⟩ | ⟨rfl, rfl⟩
    · obtain ⟨v', h', k1, k2⟩ := key _ gnew (Nat.le_succ_of_le hn)
      refine ⟨v', h', ?_, k2⟩
      rw [← k1]
      apply hev
      have hc : capOf l.length = l.length := by unfold capOf; rw [ble_no (by rw [XB_val]; omega)]; rfl
      unfold evAppend
      simp only [hs, hi, hz, happ, appendTo, hc]
      rw [ble_no (Nat.lt_succ_self l.length), ifB_false, hbnd, ifB_true, hold]
      simp only
      rw [ble_no (by rw [XB_val]; omega : l.length < XB)]
      rfl
    · have gdel : Grow n h ((h.new (.cells (PM.ofList [x]) 1 e 0 0 .ex)).del b) := by
        refine ⟨Nat.le_succ _, fun k hk => ?_⟩
        rw [AH.get_del, if_neg (by omega), AH.get_new, if_neg (by omega)]
      obtain ⟨v', h', k1, k2⟩ := key _ gdel (Nat.le_succ_of_le hn)
      refine ⟨v', h', ?_, k2⟩
      rw [← k1]
      apply hev
      have hc : capOf (XB + l.length) = l.length := by unfold capOf; rw [Nat.ble_eq_true_of_le (by omega), ifB_true]; omega
      unfold evAppend
      simp only [hs, hi, hz, happ, appendTo, hc]
      rw [ble_no (Nat.lt_succ_self l.length), ifB_false, hbnd, ifB_true, hold]
      simp only
      rw [Nat.ble_eq_true_of_le (by omega : XB ≤ XB + l.length), ifB_true]
      have hl : looseEl (h.new (.cells (PM.ofList [x]) 1 e 0 0 .ex)) b e = true := by
        unfold looseEl
        rw [AH.get_new, if_neg (by omega), q4]
        show (Nat.beq e e && Nat.ble 0 0) = true
        rw [Nat.beq_refl]; rfl
      rw [hl]
      simp [hx, ifB]
/-- Its one element is another one. -/
theorem Own.store {T : Tab} {t e : TypeId} (ht : und T t = some (.slice e)) (hs : szOf T e = some 1) {n : Nat} {h : AH} {v x y : Value} {l : List Value} (hv : Own n h v l e) (hx : oneCell x = true) {i : Nat} (hi : l[i]? = some y) :
    ∃ p h', evIndexAddr T t v (.int .i64 (i : Nat)) = some p ∧ evStore T e p x h = some h' ∧ Own n h' v (l.set i x) e ∧ Grow n h h' ∧ h'.next = h.next := by
  have hl := (List.getElem?_eq_some_iff.1 hi).1
  rcases hv with ⟨rfl, rfl⟩ | ⟨b, c, kd, cap, q1, q2, rfl, q4, q5, q6⟩
  · simp at hi
  · refine ⟨.pointer (some ⟨b, 0 + i * 1, none⟩), h.set b (.cells (storeN c i [x]) l.length e 0 0 kd), idx_slice ht hs hl, ?_, ?_, Grow.set h _ q1, rfl⟩
    · have hkd : kd ≠ .ro := by rcases q6 with ⟨rfl, _⟩ | ⟨rfl, _⟩ <;> simp
      simp only [evStore, storeVarA, hs, cells_one hx]
      rw [show Nat.beq [x].length 1 = true from rfl, ifB_true]
      simp only [storeRow, q4]
      have hw : writable (0 + i * 1) [x].length l.length 0 0 = true := by
        unfold writable
        simp; omega
      have hall : ([x].all oneCell) = true := by simp [hx]
      cases kd with
      | ro => exact absurd rfl hkd
      | _ => simp only [hw, hall, Bool.and_self, ifB_true]; rw [show 0 + i * 1 = i by omega]
    · refine .inr ⟨b, storeN c i [x], kd, cap, q1, q2, by simp, by rw [AH.get_set, if_pos rfl, List.length_set], ?_, by simpa using q6⟩
      intro j w hj
      rw [storeN_get]
      rw [List.getElem?_set] at hj
      by_cases hij : i = j
      · subst hij
        rw [if_pos rfl, if_pos hl] at hj
        cases hj
        rw [if_pos (by simp)]; simp
      · rw [if_neg hij] at hj
        rw [if_neg (by simp; omega)]
        exact q5 j w hj

/- A box for one value. -/
theorem box_one {h : AH} {e : TypeId} {v : Value} (hv : oneCell v = true) : rp (some (evNewVar h e v)) = some (.value (.pointer (some ⟨h.next, 0, none⟩)), h.new (.cells (PM.ofList [v]) 1 e 0 0 .ex)) := by
  unfold evNewVar newCells
  rw [cells_one hv]
  rfl
def goMk (g : Nat) (h : AH) : Option (List Value) → Res
  | some l => some (.value (.func (.func g) #[] l.toArray), h)
  | none => none
theorem mk_func {T : Tab} {tm : PM Value} {g : Nat} {cap : List Operand} {h : AH} : evMakeFunc T tm (.func g) [] cap h = goMk g h (evals T tm cap) := by
  unfold evMakeFunc
  simp only [plainFn, evals]
  cases evals T tm cap <;> rfl
theorem goMk_some {g : Nat} {h : AH} {l : List Value} : goMk g h (some l) = some (.value (.func (.func g) #[] l.toArray), h) := rfl
theorem evCall_clo {T : Tab} {X : Exts} {g : Nat} {args l : List Value} {h : AH} {fd : Func} {c : Code} (hf : T.ft.get g = some fd) (hb : fd.body = some c) : evCall T X (.func (.func g) #[] l.toArray) args h = some (.enter g (args ++ l), h) := by
  simp [evCall, hf, hb]
theorem wantV_undef {want : Bool} : wantV want (some undef) = some false := rfl

/- Drawn regions. -/
def planB (ops : Array Oper) (size : Nat) : Option (List PItem × List Nat) :=
  ifB (okPlan ops size (masks ops.toList []) (mkPlan ops.toList (masks ops.toList [])).1 (mkPlan ops.toList (masks ops.toList [])).2) (some (mkPlan ops.toList (masks ops.toList []))) none
def lastD (T : Tab) (ops : Array Oper) (fa : List Nat) (df : List Nat) : Option (PM Value × AH) → CO
  | some p => (match runAl T ops fa p.1 p.2 with
    | some q => .fall q.1 q.2 df
    | none => .bad)
  | none => .bad
theorem draw_plan {T : Tab} {X : Exts} {call : Callee} {E : Env} {ops : Array Oper} {tm : PM Value} {h : AH} {df : List Nat} {L : List PItem} {fa : List Nat} {size : Nat} (hp : planB ops size = some (L, fa)) (hs : E.size = size) :
    drawB T X call E ops tm h df = lastD T ops fa df (runL T X call ops L tm h) := by
  obtain ⟨e1, e2⟩ := ifB_some hp
  subst hs
  have e3 : mkPlan ops.toList (masks ops.toList []) = (L, fa) := Option.some.inj e2
  rw [e3] at e1
  unfold drawB
  simp only [e3]
  rw [e1, ifB_true]
  rfl
section
variable {T : Tab} {X : Exts} {call : Callee} {ops : Array Oper} {tm : PM Value} {h : AH} {df : List Nat}
theorem lastD_nil {p : PM Value × AH} : lastD T ops [] df (some p) = .fall p.1 p.2 df := rfl
def oneK (T : Tab) (X : Exts) (call : Callee) (ops : Array Oper) (L : List PItem) (d : Nat) (tm : PM Value) (h : AH) : Res → Option (PM Value × AH)
  | some (.value v, h') => ifB (Nat.beq h'.next h.next) (runL T X call ops L (tm.set d v) h) none
  | _ => none
theorem oneK_value {L : List PItem} {d : Nat} {v : Value} : oneK T X call ops L d tm h (some (.value v, h)) = runL T X call ops L (tm.set d v) h := by
  show ifB (Nat.beq h.next h.next) (runL T X call ops L (tm.set d v) h) none = _
  rw [Nat.beq_refl, ifB_true]
def oneW (T : Tab) (X : Exts) (call : Callee) (ops : Array Oper) (L : List PItem) (d : Nat) (op : Op) (ty : TypeId) (tm : PM Value) (h : AH) : Option Bool → Option (PM Value × AH)
  | some true => oneK T X call ops L d tm h (opFn op T X tm ty h)
  | some false => runL T X call ops L (tm.set d undef) h
  | none => none
theorem oneW_true {L : List PItem} {d : Nat} {op : Op} {ty : TypeId} : oneW T X call ops L d op ty tm h (some true) = oneK T X call ops L d tm h (opFn op T X tm ty h) := rfl
theorem oneW_false {L : List PItem} {d : Nat} {op : Op} {ty : TypeId} : oneW T X call ops L d op ty tm h (some false) = runL T X call ops L (tm.set d undef) h := rfl
theorem runL_nil : runL T X call ops [] tm h = some (tm, h) := rfl
def goI (T : Tab) (X : Exts) (call : Callee) (ops : Array Oper) (L : List PItem) (tm : PM Value) (h : AH) : Option Oper → Option (PM Value × AH)
  | some o => (match evAt T X ops tm o h with
    | some v => runL T X call ops L (setT tm o v) h
    | none => none)
  | none => none
theorem runL_one {i : Nat} {L : List PItem} : runL T X call ops (.one i :: L) tm h = goI T X call ops L tm h (ops[i]?) := by
  unfold goI
  rw [runL]
  cases ops[i]? <;> rfl
theorem goI_one {d : Nat} {op : Op} {ty : TypeId} {pos : String} {after : Array Edge} {L : List PItem} :
    goI T X call ops L tm h (some ⟨some d, op, ty, pos, after, none⟩) = oneK T X call ops L d tm h (opFn op T X tm ty h) := by
  show (match (match opFn op T X tm ty h with
      | some (.value v, h') => ifB (Nat.beq h'.next h.next) (some v) none
      | _ => none) with
    | some v => runL T X call ops L (setT tm ⟨some d, op, ty, pos, after, none⟩ v) h
    | none => none) = _
  unfold oneK
  split
  · rename_i v e
    split at e
    · rename_i v2 h2 e2
      obtain ⟨e3, e4⟩ := ifB_some e
      cases e4
      rw [e3, ifB_true]
      rfl
    · cases e
  · rename_i e
    split at e
    · rename_i v2 h2 e2
      cases hb : Nat.beq h2.next h.next with
      | true => rw [hb, ifB_true] at e; cases e
      | false => rfl
    · rfl
theorem goI_guard {d : Nat} {op : Op} {ty : TypeId} {pos : String} {after : Array Edge} {j : Nat} {want : Bool} {L : List PItem} :
    goI T X call ops L tm h (some ⟨some d, op, ty, pos, after, some (j, want)⟩) = oneW T X call ops L d op ty tm h (wantedA ops tm ⟨some d, op, ty, pos, after, some (j, want)⟩) := by
  unfold goI oneW
  simp only [evAt]
  generalize wantedA ops tm ⟨some d, op, ty, pos, after, some (j, want)⟩ = b
  cases b with
  | none => rfl
  | some b => cases b with
    | false => rfl
    | true =>
      simp only [evOne]
      show (match (match opFn op T X tm ty h with
          | some (.value v, h') => ifB (Nat.beq h'.next h.next) (some v) none
          | _ => none) with
        | some v => runL T X call ops L (setT tm ⟨some d, op, ty, pos, after, some (j, want)⟩ v) h
        | none => none) = _
      unfold oneK
      split
      · rename_i v e
        split at e
        · rename_i v2 h2 e2
          obtain ⟨e3, e4⟩ := ifB_some e
          cases e4
          rw [e3, ifB_true]
          rfl
        · cases e
      · rename_i e
        split at e
        · rename_i v2 h2 e2
          cases hb : Nat.beq h2.next h.next with
          | true => rw [hb, ifB_true] at e; cases e
          | false => rfl
        · rfl

/- Allocations, and effects. -/
def setD (tm : PM Value) : Option Nat → Value → PM Value
  | some d, v => tm.set d v
  | none, _ => tm
theorem setD_some {d : Nat} {v : Value} : setD tm (some d) v = tm.set d v := rfl
theorem setD_none {v : Value} : setD tm none v = tm := rfl
def goA (T : Tab) (ops : Array Oper) (al : List Nat) (tm : PM Value) (h : AH) : Option Oper → Option (PM Value × AH)
  | some o => (match allocOf T tm o with
    | some p => runAl T ops al (setT tm o (p.2 h.next)) (h.new p.1)
    | none => (match mvOf tm o with
      | some v => runAl T ops al (setT tm o v) h
      | none => none))
  | none => none
theorem runAl_nil : runAl T ops [] tm h = some (tm, h) := rfl
theorem runAl_cons {l : Nat} {al : List Nat} : runAl T ops (l :: al) tm h = goA T ops al tm h (ops[l]?) := by
  rw [runAl]
  cases ops[l]? <;> rfl
def goAB (T : Tab) (ops : Array Oper) (al : List Nat) (t d : Nat) (tm : PM Value) (h : AH) : Option Value → Option (PM Value × AH)
  | some v => (match rp (evBuildSlice T t 1 [(0, v)] h) with
    | some (.value w, h') => runAl T ops al (tm.set d w) h'
    | _ => none)
  | none => none
theorem mv_bs {d : Option Nat} {t n : Nat} {ps : Array (Nat × Operand)} {ty : TypeId} {pos : String} {after : Array Edge} {g : Option (Nat × Bool)} : mvOf tm ⟨d, .buildSlice t n ps, ty, pos, after, g⟩ = none := by unfold mvOf; cases g <;> rfl
theorem mv_ms {d : Option Nat} {t : Nat} {x y : Operand} {ty : TypeId} {pos : String} {after : Array Edge} {g : Option (Nat × Bool)} : mvOf tm ⟨d, .makeSlice t x y, ty, pos, after, g⟩ = none := by unfold mvOf; cases g <;> rfl
theorem mv_al {d : Option Nat} {t : Nat} {ty : TypeId} {pos : String} {after : Array Edge} {g : Option (Nat × Bool)} : mvOf tm ⟨d, .alloc t, ty, pos, after, g⟩ = none := by unfold mvOf; cases g <;> rfl
theorem goA_bs {al : List Nat} {d : Nat} {t : TypeId} {x : Operand} {ty : TypeId} {pos : String} {after : Array Edge} {g : Option (Nat × Bool)} :
    goA T ops al tm h (some ⟨some d, .buildSlice t 1 [(0, x)].toArray, ty, pos, after, g⟩) = goAB T ops al t d tm h (ev T tm x) := by
  unfold goA
  simp only [allocOf, evParts, mv_bs]
  cases ev T tm x with
  | none => rfl
  | some v =>
    simp only [goAB]
    unfold evBuildSlice
    cases und T t with
    | none => rfl
    | some ds =>
      cases ds <;> try rfl
      rename_i e
      simp only
      cases szOf T e with
      | none => rfl
      | some s =>
        simp only
        cases zeroOf T e with
        | none => rfl
        | some z =>
          simp only
          cases hc : (Nat.ble (1 * s) 16777216 && Nat.blt 1 XB) with
          | false => rfl
          | true =>
            simp only [ifB_true]
            cases fillA (fun i => some (i * s, s)) (zeros z (1 * s)) [(0, v)] with
            | none => rfl
            | some l => rfl
def goAM (T : Tab) (ops : Array Oper) (al : List Nat) (t d : Nat) (tm : PM Value) (h : AH) : Option Value → Option Value → Option (PM Value × AH)
  | some l, some c => (match evMakeSlice T t l c h with
    | some (w, h') => runAl T ops al (tm.set d w) h'
    | none => none)
  | _, _ => none
theorem mkAl_eq {T : Tab} {t : TypeId} {l c : Value} {h : AH} : evMakeSlice T t l c h = (match mkAl T t l c with
    | some p => some (p.2 h.next, h.new p.1)
    | none => none) := by
  unfold evMakeSlice mkAl newCells
  cases und T t with
  | none => rfl
  | some ds =>
    cases ds <;> try rfl
    rename_i e
    simp only
    cases natOf l with
    | none => rfl
    | some l =>
      simp only
      cases natOf c with
      | none => rfl
      | some c =>
        simp only
        cases T.tt.get e with
        | none => rfl
        | some i =>
          simp only
          cases i.zero with
          | none => rfl
          | some z =>
            simp only
            cases (Nat.ble l c && (Nat.ble (i.bytes * c) 17592186044416 && Nat.ble c 17592186044416)) <;> rfl
theorem goA_ms {al : List Nat} {d : Nat} {t : TypeId} {x y : Operand} {ty : TypeId} {pos : String} {after : Array Edge} {g : Option (Nat × Bool)} :
    goA T ops al tm h (some ⟨some d, .makeSlice t x y, ty, pos, after, g⟩) = goAM T ops al t d tm h (ev T tm x) (ev T tm y) := by
  unfold goA
  simp only [mv_ms, allocOf]
  cases ev T tm x with
  | none => rfl
  | some l =>
    cases ev T tm y with
    | none => rfl
    | some c =>
      simp only [goAM, mkAl_eq]
      cases mkAl T t l c <;> rfl
theorem goAM_some {al : List Nat} {t d : Nat} {l c w : Value} {h' : AH} (he : evMakeSlice T t l c h = some (w, h')) : goAM T ops al t d tm h (some l) (some c) = runAl T ops al (tm.set d w) h' := by
  unfold goAM; simp only [he]
theorem goAB_some {al : List Nat} {t d : Nat} {v w : Value} {h' : AH} (he : evBuildSlice T t 1 [(0, v)] h = some (w, h')) : goAB T ops al t d tm h (some v) = runAl T ops al (tm.set d w) h' := by
  unfold goAB; simp only [he]; rfl

def againK (h : AH) (u : Option Value) : Res → Bool
  | some (.value v, h') => Nat.beq h'.next h.next && (match u with
    | some u => eqV u v
    | none => false)
  | _ => false
theorem againK_some {u v : Value} : againK h (some u) (some (.value v, h)) = eqV u v := by
  show (Nat.beq h.next h.next && eqV u v) = _
  rw [Nat.beq_refl, Bool.true_and]
def againW (T : Tab) (X : Exts) (d : Nat) (op : Op) (ty : TypeId) (tm : PM Value) (h : AH) : Option Bool → Bool
  | some true => againK h (tm.get d) (opFn op T X tm ty h)
  | some false => (match tm.get d with
    | some u => eqV u undef
    | none => false)
  | none => false
theorem againW_true {d : Nat} {op : Op} {ty : TypeId} : againW T X d op ty tm h (some true) = againK h (tm.get d) (opFn op T X tm ty h) := rfl
def againI (T : Tab) (X : Exts) (ops : Array Oper) (tm : PM Value) (h : AH) : Option Oper → Bool
  | some o => (match evAt T X ops tm o h with
    | some v => (match o.dst with
      | some d => (match tm.get d with
        | some u => eqV u v
        | none => false)
      | none => true)
    | none => false)
  | none => false
theorem again_eq {i : Nat} : again T X ops tm h i = againI T X ops tm h (ops[i]?) := rfl
theorem againI_one {d : Nat} {op : Op} {ty : TypeId} {pos : String} {after : Array Edge} :
    againI T X ops tm h (some ⟨some d, op, ty, pos, after, none⟩) = againK h (tm.get d) (opFn op T X tm ty h) := by
  show (match (match opFn op T X tm ty h with
      | some (.value v, h') => ifB (Nat.beq h'.next h.next) (some v) none
      | _ => none) with
    | some v => (match tm.get d with
        | some u => eqV u v
        | none => false)
    | none => false) = _
  unfold againK
  cases opFn op T X tm ty h with
  | none => rfl
  | some p =>
    obtain ⟨o, h'⟩ := p
    cases o <;> try rfl
    simp only
    cases Nat.beq h'.next h.next <;> rfl
theorem againI_guard {d : Nat} {op : Op} {ty : TypeId} {pos : String} {after : Array Edge} {j : Nat} {want : Bool} :
    againI T X ops tm h (some ⟨some d, op, ty, pos, after, some (j, want)⟩) = againW T X d op ty tm h (wantedA ops tm ⟨some d, op, ty, pos, after, some (j, want)⟩) := by
  unfold againI againW
  simp only [evAt]
  generalize wantedA ops tm ⟨some d, op, ty, pos, after, some (j, want)⟩ = b
  cases b with
  | none => rfl
  | some b => cases b with
    | false => rfl
    | true =>
      simp only [evOne]
      show (match (match opFn op T X tm ty h with
          | some (.value v, h') => ifB (Nat.beq h'.next h.next) (some v) none
          | _ => none) with
        | some v => (match tm.get d with
            | some u => eqV u v
            | none => false)
        | none => false) = _
      unfold againK
      cases opFn op T X tm ty h with
      | none => rfl
      | some p =>
        obtain ⟨o, h'⟩ := p
        cases o <;> try rfl
        simp only
        cases Nat.beq h'.next h.next <;> rfl

def effE (T : Tab) (X : Exts) (call : Callee) (ops : Array Oper) (L : List PItem) (rs : List Nat) (tm : PM Value) (h : AH) : Option (PM Value × AH) := ifB (rs.all (again T X ops tm h)) (runL T X call ops L tm h) none
def effC (T : Tab) (X : Exts) (call : Callee) (ops : Array Oper) (L : List PItem) (rs : List Nat) (d : Option Nat) (tm : PM Value) : Option (Value × AH) → Option (PM Value × AH)
  | some (v, h') => effE T X call ops L rs (setD tm d v) h'
  | none => none
def effK (T : Tab) (X : Exts) (call : Callee) (ops : Array Oper) (L : List PItem) (rs : List Nat) (d : Option Nat) (tm : PM Value) : Res → Option (PM Value × AH)
  | some (.value v, h') => effE T X call ops L rs (setD tm d v) h'
  | some (.skip, h') => effE T X call ops L rs (setD tm d undef) h'
  | some (.enter g args, h') => effC T X call ops L rs d tm (call g args h')
  | _ => none
theorem effK_value {L : List PItem} {rs : List Nat} {d : Option Nat} {v : Value} : effK T X call ops L rs d tm (some (.value v, h)) = effE T X call ops L rs (setD tm d v) h := rfl
theorem effK_skip {L : List PItem} {rs : List Nat} {d : Option Nat} : effK T X call ops L rs d tm (some (.skip, h)) = effE T X call ops L rs (setD tm d undef) h := rfl
theorem effK_enter {L : List PItem} {rs : List Nat} {d : Option Nat} {g : Nat} {args : List Value} : effK T X call ops L rs d tm (some (.enter g args, h)) = effC T X call ops L rs d tm (call g args h) := rfl
theorem effC_some {L : List PItem} {rs : List Nat} {d : Option Nat} {v : Value} : effC T X call ops L rs d tm (some (v, h)) = effE T X call ops L rs (setD tm d v) h := rfl
theorem effE_nil {L : List PItem} : effE T X call ops L [] tm h = runL T X call ops L tm h := rfl
theorem effE_cons {L : List PItem} {r : Nat} {rs : List Nat} (hr : again T X ops tm h r = true) : effE T X call ops L (r :: rs) tm h = effE T X call ops L rs tm h := by
  unfold effE; rw [List.all_cons, hr, Bool.true_and]
def effW (T : Tab) (X : Exts) (call : Callee) (ops : Array Oper) (L : List PItem) (rs : List Nat) (d : Option Nat) (op : Op) (ty : TypeId) (tm : PM Value) (h : AH) : Option Bool → Option (PM Value × AH)
  | some true => effK T X call ops L rs d tm (opFn op T X tm ty h)
  | some false => effE T X call ops L rs (setD tm d undef) h
  | none => none
theorem effW_true {L : List PItem} {rs : List Nat} {d : Option Nat} {op : Op} {ty : TypeId} : effW T X call ops L rs d op ty tm h (some true) = effK T X call ops L rs d tm (opFn op T X tm ty h) := rfl
theorem effW_false {L : List PItem} {rs : List Nat} {d : Option Nat} {op : Op} {ty : TypeId} : effW T X call ops L rs d op ty tm h (some false) = effE T X call ops L rs (setD tm d undef) h := rfl
def effI (T : Tab) (X : Exts) (call : Callee) (ops : Array Oper) (L : List PItem) (rs : List Nat) (tm : PM Value) (h : AH) : Option Oper → Option (PM Value × AH)
  | some o => (match evEff T X call ops tm o h with
    | some q => ifB (rs.all (again T X ops (setT tm o q.1) q.2)) (runL T X call ops L (setT tm o q.1) q.2) none
    | none => none)
  | none => none
def effA (T : Tab) (X : Exts) (call : Callee) (ops : Array Oper) (L : List PItem) (i : Nat) (rs : List Nat) : Option (PM Value × AH) → Option (PM Value × AH)
  | some p => effI T X call ops L rs p.1 p.2 (ops[i]?)
  | none => none
theorem runL_eff {al : List Nat} {i : Nat} {rs : List Nat} {L : List PItem} : runL T X call ops (.eff al i rs :: L) tm h = effA T X call ops L i rs (runAl T ops al tm h) := by
  rw [runL]
  unfold effA effI
  cases runAl T ops al tm h with
  | none => rfl
  | some p => simp only; cases ops[i]? <;> rfl
theorem effA_some {L : List PItem} {i : Nat} {rs : List Nat} : effA T X call ops L i rs (some (tm, h)) = effI T X call ops L rs tm h (ops[i]?) := rfl
theorem effI_one {d : Option Nat} {op : Op} {ty : TypeId} {pos : String} {after : Array Edge} {L : List PItem} {rs : List Nat} :
    effI T X call ops L rs tm h (some ⟨d, op, ty, pos, after, none⟩) = effK T X call ops L rs d tm (opFn op T X tm ty h) := by
  have hset : ∀ v, setT tm ⟨d, op, ty, pos, after, none⟩ v = setD tm d v := fun v => by unfold setT setD; cases d <;> rfl
  show (match (match opFn op T X tm ty h with
      | some (.value v, h') => some (v, h')
      | some (.skip, h') => some (undef, h')
      | some (.enter g args, h') => call g args h'
      | _ => none) with
    | some q => ifB (rs.all (again T X ops (setT tm ⟨d, op, ty, pos, after, none⟩ q.1) q.2)) (runL T X call ops L (setT tm ⟨d, op, ty, pos, after, none⟩ q.1) q.2) none
    | none => none) = _
  unfold effK
  cases opFn op T X tm ty h with
  | none => rfl
  | some p =>
    obtain ⟨o, h'⟩ := p
    cases o <;> simp only [hset] <;> try rfl
    rename_i g args
    cases call g args h' <;> rfl
theorem effI_guard {d : Option Nat} {op : Op} {ty : TypeId} {pos : String} {after : Array Edge} {j : Nat} {want : Bool} {L : List PItem} {rs : List Nat} :
    effI T X call ops L rs tm h (some ⟨d, op, ty, pos, after, some (j, want)⟩) = effW T X call ops L rs d op ty tm h (wantedA ops tm ⟨d, op, ty, pos, after, some (j, want)⟩) := by
  have hset : ∀ v, setT tm ⟨d, op, ty, pos, after, some (j, want)⟩ v = setD tm d v := fun v => by unfold setT setD; cases d <;> rfl
  unfold effI effW
  simp only [evEff]
  generalize wantedA ops tm ⟨d, op, ty, pos, after, some (j, want)⟩ = b
  cases b with
  | none => rfl
  | some b => cases b with
    | false => simp only [hset]; rfl
    | true =>
      show (match (match opFn op T X tm ty h with
          | some (.value v, h') => some (v, h')
          | some (.skip, h') => some (undef, h')
          | some (.enter g args, h') => call g args h'
          | _ => none) with
        | some q => ifB (rs.all (again T X ops (setT tm ⟨d, op, ty, pos, after, some (j, want)⟩ q.1) q.2)) (runL T X call ops L (setT tm ⟨d, op, ty, pos, after, some (j, want)⟩ q.1) q.2) none
        | none => none) = _
      unfold effK
      cases opFn op T X tm ty h with
      | none => rfl
      | some p =>
        obtain ⟨o, h'⟩ := p
        cases o <;> simp only [hset] <;> try rfl
        rename_i g args
        cases call g args h' <;> rfl
theorem eqV_int {k : IntKind} {n : Int} : eqV (.int k n) (.int k n) = true := by simp [eqV]
theorem eqV_bool {b : Bool} : eqV (.bool b) (.bool b) = true := by simp [eqV]
theorem eqV_float {k : FloatKind} {n : Nat} : eqV (.float k n) (.float k n) = true := by simp [eqV]
theorem eqV_complex {k : FloatKind} {a b : Nat} : eqV (.complex k a b) (.complex k a b) = true := by simp [eqV]
theorem eqV_ptr {b o : Nat} : eqV (.pointer (some ⟨b, o, none⟩)) (.pointer (some ⟨b, o, none⟩)) = true := by simp [eqV]
theorem eqV_slice {b o l c : Nat} : eqV (.slice (some ⟨b, o, none⟩) l c) (.slice (some ⟨b, o, none⟩) l c) = true := by simp [eqV]
theorem wanted_some {dst : Option Nat} {op : Op} {ty : TypeId} {pos : String} {after : Array Edge} {j : Nat} {want : Bool} {L : List Oper} :
    wantedA L.toArray tm ⟨dst, op, ty, pos, after, some (j, want)⟩ = wantG tm want (L[j]?.map (·.dst)) := by
  unfold wantedA
  simp only [List.getElem?_toArray]
  cases L[j]? with
  | none => rfl
  | some o =>
    simp only [Option.bind_some, Option.map_some]
    cases o.dst with
    | none => rfl
    | some d =>
      show (match tm.get d with | some (.bool b) => some (match b, want with | true, true => true | false, false => true | _, _ => false) | some _ => some false | none => none) = wantV want (tm.get d)
      cases tm.get d with
      | none => rfl
      | some v => cases v <;> first | rfl | (rename_i b; cases b <;> cases want <;> rfl)
end
def consP (i : Nat) (x : Option Value) (l : Option (List (Nat × Value))) : Option (List (Nat × Value)) := match x with
  | some v => (match l with
    | some r => some ((i, v) :: r)
    | none => none)
  | none => none
theorem consP_some {i : Nat} {v : Value} {l : List (Nat × Value)} : consP i (some v) (some l) = some ((i, v) :: l) := rfl
theorem parts_cons {T : Tab} {tm : PM Value} {i : Nat} {x : Operand} {l : List (Nat × Operand)} : evParts T tm ((i, x) :: l) = consP i (ev T tm x) (evParts T tm l) := rfl
def goBX (T : Tab) (t : TypeId) (h : AH) : Option (List (Nat × Value)) → Res
  | some vs => rp (evBuild T t vs h)
  | none => none
theorem bx_eq {T : Tab} {tm : PM Value} {t : TypeId} {ps : List (Nat × Operand)} {h : AH} : evBuildX T tm t ps h = goBX T t h (evParts T tm ps) := rfl
theorem goBX_some {T : Tab} {t : TypeId} {vs : List (Nat × Value)} {h : AH} : goBX T t h (some vs) = rp (evBuild T t vs h) := rfl
theorem ops_0 {o : Oper} {l : List Oper} : (o :: l)[0]? = some o := rfl
theorem ops_s {o : Oper} {l : List Oper} {i : Nat} : (o :: l)[i + 1]? = l[i]? := rfl
theorem ops_map {o : Oper} {f : Oper → Option Nat} : Option.map f (some o) = some (f o) := rfl
theorem ops_arr {l : List Oper} {i : Nat} : l.toArray[i]? = l[i]? := by simp
theorem beq_t {b : Bool} : (b == true) = b := by cases b <;> rfl
theorem beq_f {b : Bool} : (b == false) = !b := by cases b <;> rfl
theorem not_t : (!true) = false := rfl
theorem not_f : (!false) = true := rfl
theorem symMem : type_of% (And.intro @bsx_zero (And.intro @bsx_one (And.intro @goBS_some (And.intro @mk_func (And.intro @goMk_some (And.intro @wantV_undef (And.intro @ops_0 (And.intro @ops_s (And.intro @ops_map (And.intro @beq_t (And.intro @beq_f (And.intro @not_t (And.intro @not_f (And.intro @parts_nil (And.intro @parts_cons (And.intro @consP_some (And.intro @bx_eq (@goBX_some)))))))))))))))))) := (And.intro @bsx_zero (And.intro @bsx_one (And.intro @goBS_some (And.intro @mk_func (And.intro @goMk_some (And.intro @wantV_undef (And.intro @ops_0 (And.intro @ops_s (And.intro @ops_map (And.intro @beq_t (And.intro @beq_f (And.intro @not_t (And.intro @not_f (And.intro @parts_nil (And.intro @parts_cons (And.intro @consP_some (And.intro @bx_eq (@goBX_some))))))))))))))))))
theorem symM : type_of% (And.intro @symAll @symMem) := And.intro @symAll @symMem
theorem drawAll0 : type_of% (And.intro @codeB_draw (And.intro @lastD_nil (And.intro @oneK_value (And.intro @oneW_true (And.intro @oneW_false (And.intro @runL_nil (And.intro @runL_one (And.intro @goI_one (And.intro @goI_guard (And.intro @setD_some (And.intro @setD_none (And.intro @runAl_nil (And.intro @runAl_cons (And.intro @goA_bs (And.intro @again_eq (And.intro @againK_some (And.intro @againW_true (And.intro @againI_one (And.intro @againI_guard (And.intro @effK_value (And.intro @effK_skip (And.intro @effK_enter (And.intro @effC_some (And.intro @effE_nil (And.intro @effA_some (And.intro @effI_one (And.intro @effI_guard (And.intro @runL_eff (And.intro @effW_true (And.intro @effW_false (And.intro @eqV_int (And.intro @eqV_bool (And.intro @eqV_float (And.intro @eqV_complex (And.intro @eqV_ptr (And.intro @eqV_slice (And.intro @wanted_some (@ops_arr)))))))))))))))))))))))))))))))))))))) := (And.intro @codeB_draw (And.intro @lastD_nil (And.intro @oneK_value (And.intro @oneW_true (And.intro @oneW_false (And.intro @runL_nil (And.intro @runL_one (And.intro @goI_one (And.intro @goI_guard (And.intro @setD_some (And.intro @setD_none (And.intro @runAl_nil (And.intro @runAl_cons (And.intro @goA_bs (And.intro @again_eq (And.intro @againK_some (And.intro @againW_true (And.intro @againI_one (And.intro @againI_guard (And.intro @effK_value (And.intro @effK_skip (And.intro @effK_enter (And.intro @effC_some (And.intro @effE_nil (And.intro @effA_some (And.intro @effI_one (And.intro @effI_guard (And.intro @runL_eff (And.intro @effW_true (And.intro @effW_false (And.intro @eqV_int (And.intro @eqV_bool (And.intro @eqV_float (And.intro @eqV_complex (And.intro @eqV_ptr (And.intro @eqV_slice (And.intro @wanted_some (@ops_arr))))))))))))))))))))))))))))))))))))))
theorem drawAll : type_of% (And.intro @symM @drawAll0) := And.intro @symM @drawAll0
/-- A loop that was left, and what follows. -/
theorem bind_loop {T : Tab} {X : Exts} {call : Abs.Callee} {n : Nat} {E : Env} {b : Code} {tm : PM Value} {h : AH} {df : List Nat} {i : Nat} {Q : PM Value → AH → Prop} {k : PM Value → AH → List Nat → CO} {P : CO → Prop}
    (H : ∃ tm' h', codeB T X call (n + 1) E (.loop b) tm h df = .jump (.exit i) tm' h' df ∧ Q tm' h') (K : ∀ tm' h', Q tm' h' → P (k tm' h' df)) :
    P (CO.bind (CO.unblock i (codeB T X call (n + 1) E (.code (.loop b)) tm h df)) k) := by
  obtain ⟨tm', h', e, q⟩ := H
  rw [loop_same, e, unblock_exit, Nat.beq_refl, ifB_true, bind_fall]
  exact K tm' h' q
theorem bind_loop1 {T : Tab} {X : Exts} {call : Abs.Callee} {n : Nat} {E : Env} {b : Code} {tm : PM Value} {h : AH} {df : List Nat} {i : Nat} {Q : PM Value → Prop} {k : PM Value → AH → List Nat → CO} {P : CO → Prop}
    (H : ∃ tm', codeB T X call (n + 1) E (.loop b) tm h df = .jump (.exit i) tm' h df ∧ Q tm') (K : ∀ tm', Q tm' → P (k tm' h df)) :
    P (CO.bind (CO.unblock i (codeB T X call (n + 1) E (.code (.loop b)) tm h df)) k) := by
  obtain ⟨tm', e, q⟩ := H
  rw [loop_same, e, unblock_exit, Nat.beq_refl, ifB_true, bind_fall]
  exact K tm' q
/-- A loop that was left, in whatever way, and what follows. -/
theorem bind_loopJ {T : Tab} {X : Exts} {call : Abs.Callee} {n : Nat} {E : Env} {b : Code} {tm : PM Value} {h : AH} {df : List Nat} {i : Nat} {Q : CO → Prop} {k : PM Value → AH → List Nat → CO} {P : CO → Prop}
    (H : Q (codeB T X call (n + 1) E (.loop b) tm h df)) (K : ∀ x, Q x → P (CO.bind (CO.unblock i x) k)) :
    P (CO.bind (CO.unblock i (codeB T X call (n + 1) E (.code (.loop b)) tm h df)) k) := by
  rw [loop_same]
  exact K _ H
/-- A function whose first result lies in a cell. -/
theorem retB_cell1 {T : Tab} {f : Nat} {tm : PM Value} {h : AH} {fd : Func} {t u : Nat} {ty : TypeId} {p v w : Value} (hf : T.ft.get f = some fd) (hr : fd.results = #[.cell t ty, .tmp u]) (hp : tm.get t = some p) (hv : evLoad T ty p h = some v) (hw : tm.get u = some w) : retB T f tm h [] = some (.tuple #[v, w], h) := by
  unfold retB undef1
  simp only [resultA, hf, hr]
  show (match (match resultsA T h tm [.cell t ty, .tmp u] with | some l => some (one l) | none => none) with | some v => some (v, h) | none => none) = _
  unfold evLoad at hv
  split at hv
  · simp only [resultsA, hp, hv, hw]
    rfl
  · cases hv
theorem Own.eqv {n : Nat} {h : AH} {v : Value} {l : List Value} {e : TypeId} (ho : Own n h v l e) : eqV v v = true := by
  rcases ho with ⟨rfl, _⟩ | ⟨b, c, kd, cap, _, _, rfl, _⟩
  · rfl
  · exact eqV_slice
theorem Row.at3 {T : Tab} {t e : TypeId} {n : Nat} {h : AH} {v : Value} {l : List Value} (hr : Row n h v l e) (ht : und T t = some (.slice e)) (hs : szOf T e = some 1) (ha : aggT T e = some false) {i : Nat} {x : Value} (hi : l[i]? = some x) :
    ∃ p, evIndexAddr T t v (.int .i64 (i : Nat)) = some p ∧ evLoad T e p h = some x ∧ eqV p p = true := by
  have hl := (List.getElem?_eq_some_iff.1 hi).1
  rcases hr with ⟨rfl, rfl⟩ | ⟨b, o, cap, c, m, lo, hi2, kd, el, rfl, h2, h3, h4, h5⟩
  · simp at hi
  · exact ⟨.pointer (some ⟨b, o + i * 1, none⟩), idx_slice ht hs hl, load_one ha h3 (by omega) (by rw [Nat.mul_one]; exact h5 _ _ hi), eqV_ptr⟩
/-- Are two complex numbers of whole parts one? -/
theorem cmp_eql {x u : Int} (hx : zok x = true) (hu : zok u = true) : Op.floatCmp .eql .f64 (zd x) (zd u) = Sem.pure (.bool (decide (x = u))) := by
  have ho : (FloatKind.format .f64).order (zd x) (zd u) = some (compare x u) := order_zd hx hu
  simp only [Op.floatCmp, ho, Int.compare_eq_ite_lt]
  rcases Int.lt_trichotomy x u with h1 | h1 | h1
  · have h3 : ¬ x = u := by omega
    simp only [h1, h3, if_true, decide_false]; rfl
  · subst h1
    have h2 : ¬ x < x := by omega
    simp only [h2, if_false, decide_true]; rfl
  · have h2 : ¬ x < u := by omega
    have h3 : ¬ x = u := by omega
    simp only [h1, h2, h3, if_true, if_false, decide_false]; rfl
theorem c_eql {T : Tab} {t : TypeId} {p q : Operand} {h : AH} {x y u v : Int} (hx : zok x = true) (hy : zok y = true) (hu : zok u = true) (hv : zok v = true) :
    evBin T .eql t p q (.complex .f64 (zd x) (zd y)) (.complex .f64 (zd u) (zd v)) h = some (.bool (decide (x = u) && decide (y = v))) := by
  show orV (fastC .eql (zd x) (zd y) (zd u) (zd v)) (slowBin T .eql t p q (.complex .f64 (zd x) (zd y)) (.complex .f64 (zd u) (zd v))) = _
  have hn : fastC .eql (zd x) (zd y) (zd u) (zd v) = none := by unfold fastC; rw [dz_zd hx, dz_zd hy, dz_zd hu, dz_zd hv]
  rw [hn, slow_of (v := .bool (decide (x = u) && decide (y = v))) ?_ rfl]; · rfl
  show Op.complexOp .eql .f64 (zd x) (zd y) (zd u) (zd v) = _
  simp only [Op.complexOp, Op.Complex.cmp, cmp_eql hx hu, cmp_eql hy hv]
  rfl
end
end Go.Proofs.YtknchhnibjfocaaDoor.Abs
