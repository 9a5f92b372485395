/- An abstract machine: types, loads and stores. -/
import Derived.Test.YtknchhnibjfocaaDoorAbsB
import Derived.Laws.Sem
import Derived.Laws.World
namespace Go.Proofs.YtknchhnibjfocaaDoor.Abs
open Go
noncomputable section

def info (T : Tab) (t : TypeId) : Option TypeInfo := T.tt.get t
def und (T : Tab) (t : TypeId) : Option TypeDesc :=
  match T.tt.get t with
  | some i => (match i.desc with
    | .named _ u => (match T.tt.get u with
      | some j => some j.desc
      | none => none)
    | d => some d)
  | none => none
def szOf (T : Tab) (t : TypeId) : Option Nat := match T.tt.get t with | some i => some i.size | none => none
def zeroOf (T : Tab) (t : TypeId) : Option Value := match T.tt.get t with | some i => i.zero | none => none
def aggT (T : Tab) (t : TypeId) : Option Bool := match und T t with | some (.struct _) => some true | some (.array _ _) => some true | some _ => some false | none => none

theorem und_ok {T : Tab} (ok : TabOK T) {t : TypeId} {d : TypeDesc} (h : und T t = some d) : T.P.underlying t = some d := by
  unfold und at h
  unfold Program.underlying
  cases e : T.tt.get t with
  | none => rw [e] at h; cases h
  | some i =>
    rw [e] at h
    rw [ok.t t i e]
    obtain ⟨desc, a1, a2, a3, a4, a5, a6, a7, a8, a9⟩ := i
    cases desc <;> simp only at h ⊢ <;> try exact h
    rename_i n u
    cases e2 : T.tt.get u with
    | none => rw [e2] at h; cases h
    | some j => rw [e2] at h; rw [ok.t u j e2]; exact h
theorem sz_ok {T : Tab} (ok : TabOK T) {t : TypeId} {n : Nat} (h : szOf T t = some n) : ∃ i, T.P.info? t = some i ∧ i.size = n := by
  unfold szOf at h
  cases e : T.tt.get t with
  | none => rw [e] at h; cases h
  | some i => rw [e] at h; cases h; exact ⟨i, ok.t t i e, rfl⟩
theorem zero_ok {T : Tab} (ok : TabOK T) {t : TypeId} {z : Value} (h : zeroOf T t = some z) : ∃ i, T.P.info? t = some i ∧ i.zero = some z := by
  unfold zeroOf at h
  cases e : T.tt.get t with
  | none => rw [e] at h; cases h
  | some i => rw [e] at h; exact ⟨i, ok.t t i e, h⟩

section runs
variable {P : Program} (w : World)
theorem run_und {t : TypeId} {d : TypeDesc} (h : P.underlying t = some d) : (underlying t).run P w = .ok d w := by simp [underlying, h]
theorem run_info {t : TypeId} {i : TypeInfo} (h : P.info? t = some i) : (typeInfo t).run P w = .ok i w := by simp [typeInfo, h]
theorem run_size {t : TypeId} {i : TypeInfo} (h : P.info? t = some i) : (sizeOf t).run P w = .ok i.size w := by simp [sizeOf, run_info w h]
theorem run_zero {t : TypeId} {i : TypeInfo} {z : Value} (h : P.info? t = some i) (hz : i.zero = some z) : (zeroValue t).run P w = .ok z w := by simp [zeroValue, run_info w h, hz]
theorem run_isAgg {t : TypeId} {d : TypeDesc} (h : P.underlying t = some d) : (isAgg t).run P w = .ok (match d with | .struct _ | .array _ _ => true | _ => false) w := by
  simp only [isAgg, Sem.run_bind, run_und w h, Result.andThen_ok]
  cases d <;> rfl
end runs

theorem aggT_ok {T : Tab} (ok : TabOK T) {t : TypeId} {b : Bool} (h : aggT T t = some b) (w : World) : (isAgg t).run T.P w = .ok b w := by
  unfold aggT at h
  cases e : und T t with
  | none => rw [e] at h; cases h
  | some d => rw [run_isAgg w (und_ok ok e)]; rw [e] at h; cases d <;> simp_all

theorem Addr.add_none (b o i : Nat) : (⟨b, o, none⟩ : Addr).add i = ⟨b, o + i, none⟩ := by
  unfold Addr.add
  split
  · subst_vars; rfl
  · rfl

theorem cell_of {w : World} {b o : Nat} {cs : Array Value} {e : TypeId} {f : Nat × Nat} (hb : w.heap[b]? = some (.cells cs e f)) : w.cell? ⟨b, o, none⟩ = cs[o]? := by
  simp [World.cell?, hb]
theorem frozen_of {w : World} {b o : Nat} {cs : Array Value} {e : TypeId} {fl fh : Nat} (hb : w.heap[b]? = some (.cells cs e (fl, fh))) :
    w.frozen? ⟨b, o, none⟩ = (decide (fl ≤ o) && decide (o < fh)) := by
  simp [World.frozen?, hb]

theorem run_loadCellsFrom {P : Program} {w : World} {b o : Nat} {cs : Array Value} {e : TypeId} {f : Nat × Nat} (hb : w.heap[b]? = some (.cells cs e f)) :
    ∀ (n i : Nat) (acc : Array Value), o + i + n ≤ cs.size →
      (loadCellsFrom ⟨b, o, none⟩ i n acc).run P w = .ok (acc ++ (cs.toList.drop (o + i)).take n) w := by
  intro n
  induction n with
  | zero => intro i acc _; simp [loadCellsFrom]
  | succ n ih =>
    intro i acc hn
    have hlt : o + i < cs.size := by omega
    simp only [loadCellsFrom, Sem.run_bind, run_load, Addr.add_none, cell_of hb, Array.getElem?_eq_getElem hlt, Result.andThen_ok]
    rw [ih (i + 1) _ (by omega)]
    congr 1
    have : cs.toList.drop (o + i) = cs[o + i] :: cs.toList.drop (o + (i + 1)) := by
      rw [List.drop_eq_getElem_cons (by simpa using hlt)]; simp; rfl
    rw [this, List.take_succ_cons]
    apply Array.ext'
    simp
theorem run_loadCells {P : Program} {w : World} {b o n : Nat} {cs : Array Value} {e : TypeId} {f : Nat × Nat} (hb : w.heap[b]? = some (.cells cs e f)) (hn : o + n ≤ cs.size) :
    (loadCells ⟨b, o, none⟩ n).run P w = .ok ((cs.toList.drop o).take n).toArray w := by
  unfold loadCells
  rw [run_loadCellsFrom hb n 0 #[] (by omega)]
  simp

/-- Values put over a row from a place on. -/
def putL (cs : Array Value) (o : Nat) : List Value → Array Value
  | [] => cs
  | v :: r => putL (cs.setIfInBounds o v) (o + 1) r
theorem putL_size (l : List Value) : ∀ (cs : Array Value) (o : Nat), (putL cs o l).size = cs.size := by
  induction l with
  | nil => intros; rfl
  | cons v r ih => intro cs o; rw [putL, ih]; simp
theorem putL_get (l : List Value) : ∀ (cs : Array Value) (o k : Nat), o + l.length ≤ cs.size → (putL cs o l)[k]? = if o ≤ k ∧ k < o + l.length then l[k - o]? else cs[k]? := by
  induction l with
  | nil => intro cs o k _; rw [putL, if_neg (by simp only [List.length_nil]; omega)]
  | cons v r ih =>
    intro cs o k hl
    rw [List.length_cons] at *
    rw [putL, ih _ _ _ (by simp; omega)]
    by_cases h : k = o
    · subst h
      rw [if_neg (by omega), if_pos (by omega), Array.getElem?_setIfInBounds_self_of_lt (by omega)]
      simp
    · by_cases h2 : o ≤ k ∧ k < o + (r.length + 1)
      · rw [if_pos (by omega), if_pos h2]
        obtain ⟨j, rfl⟩ : ∃ j, k = o + 1 + j := ⟨k - o - 1, by omega⟩
        rw [show o + 1 + j - (o + 1) = j from by omega, show o + 1 + j - o = j + 1 from by omega]; simp
      · rw [if_neg (by omega), if_neg h2, Array.getElem?_setIfInBounds_ne (by omega)]

theorem setCell_heap {w : World} {b o : Nat} {cs : Array Value} {e : TypeId} {f : Nat × Nat} (hb : w.heap[b]? = some (.cells cs e f)) (v : Value) :
    (w.setCell ⟨b, o, none⟩ v).heap[b]? = some (.cells (cs.setIfInBounds o v) e f) ∧ ∀ i, i ≠ b → (w.setCell ⟨b, o, none⟩ v).heap[i]? = w.heap[i]? := by
  constructor
  · simp [World.setCell, Array.getElem?_modify, hb]
  · intro i hi
    simp [World.setCell, Array.getElem?_modify, Ne.symm hi]

theorem run_storeCells {P : Program} {b o : Nat} {e : TypeId} {fl fh : Nat} (l : List Value) : ∀ (w : World) (cs : Array Value) (i : Nat),
    w.heap[b]? = some (.cells cs e (fl, fh)) → o + i + l.length ≤ cs.size → (∀ j, j < l.length → ¬ (fl ≤ o + i + j ∧ o + i + j < fh)) → (∀ v ∈ l, oneCell v = true) →
    ∃ w', (storeCells ⟨b, o, none⟩ l i).run P w = .ok () w' ∧ w'.heap[b]? = some (.cells (putL cs (o + i) l) e (fl, fh)) ∧ w'.heap.size = w.heap.size ∧ (∀ k, k ≠ b → w'.heap[k]? = w.heap[k]?) ∧ w'.os = w.os ∧ w'.output = w.output := by
  induction l with
  | nil => intro w cs i hb _ _ _; exact ⟨w, rfl, hb, rfl, fun _ _ => rfl, rfl, rfl⟩
  | cons v r ih =>
    intro w cs i hb hn hf ho
    rw [List.length_cons] at hn
    have hlt : o + i < cs.size := by omega
    have hv : v.oneCell' = true := by have := ho v (by simp); revert this; cases v <;> simp [oneCell, Value.oneCell']
    obtain ⟨s1, s2⟩ := setCell_heap (o := o + i) hb v
    obtain ⟨w', e1, e2, e3, e4, e5⟩ := ih (w.setCell ⟨b, o + i, none⟩ v) (cs.setIfInBounds (o + i) v) (i + 1) s1 (by simp; omega)
      (fun j hj => by have := hf (j + 1) (by simp; omega); intro hh; exact this ⟨by omega, by omega⟩) (fun x hx => ho x (by simp [hx]))
    refine ⟨w', ?_, ?_, ?_, ?_, e5⟩
    · simp only [storeCells, Sem.run_bind, Addr.add_none, run_store _ _ _ _ _ hv, cell_of hb, Array.getElem?_eq_getElem hlt]
      have hfz : w.frozen? ⟨b, o + i, none⟩ = false := by
        rw [frozen_of hb]
        have := hf 0 (by simp)
        simp only [Nat.add_zero] at this
        by_cases h1 : fl ≤ o + i <;> simp [h1] <;> omega
      simp only [hfz, Bool.false_eq_true, if_false, Result.andThen_ok]
      exact e1
    · rw [e2]; rfl
    · rw [e3]; simp
    · intro k hk; rw [e4 k hk, s2 k hk]

/- The heap's cells. -/
def loadN (c : PM Value) (o : Nat) : Nat → Option (List Value)
  | 0 => some []
  | k + 1 => match c.get o with
    | some v => (match loadN c (o + 1) k with
      | some r => some (v :: r)
      | none => none)
    | none => none
theorem loadN_spec {c : PM Value} : ∀ {k o : Nat} {l : List Value}, loadN c o k = some l → l.length = k ∧ ∀ i, i < k → c.get (o + i) = l[i]? := by
  intro k
  induction k with
  | zero => intro o l h; cases h; exact ⟨rfl, fun i hi => by omega⟩
  | succ k ih =>
    intro o l h
    rw [loadN] at h
    cases e : c.get o with
    | none => rw [e] at h; cases h
    | some v =>
      rw [e] at h
      cases e2 : loadN c (o + 1) k with
      | none => rw [e2] at h; cases h
      | some r =>
        rw [e2] at h; cases h
        obtain ⟨h1, h2⟩ := ih e2
        refine ⟨by simp [h1], fun i hi => ?_⟩
        cases i with
        | zero => simpa using e
        | succ i => have := h2 i (by omega); rw [show o + (i + 1) = o + 1 + i from by omega, this]; simp

def storeN (c : PM Value) (o : Nat) : List Value → PM Value
  | [] => c
  | v :: r => storeN (c.set o v) (o + 1) r
theorem storeN_get (l : List Value) : ∀ (c : PM Value) (o k : Nat), (storeN c o l).get k = if o ≤ k ∧ k < o + l.length then l[k - o]? else c.get k := by
  induction l with
  | nil => intro c o k; rw [storeN, if_neg (by simp only [List.length_nil]; omega)]
  | cons v r ih =>
    intro c o k
    rw [List.length_cons, storeN, ih, PM.get_set]
    by_cases h : k = o
    · subst h; rw [if_neg (by omega), if_pos rfl, if_pos (by omega)]; simp
    · by_cases h2 : o ≤ k ∧ k < o + (r.length + 1)
      · rw [if_pos (by omega), if_pos h2]
        obtain ⟨j, rfl⟩ : ∃ j, k = o + 1 + j := ⟨k - o - 1, by omega⟩
        rw [show o + 1 + j - (o + 1) = j from by omega, show o + 1 + j - o = j + 1 from by omega]; simp
      · rw [if_neg (by omega), if_neg h2, if_neg h]

def loadRow (h : AH) (b o k : Nat) : Option (List Value) :=
  match h.get b with
  | some (.cells c n _ _ _ _) => ifB (Nat.ble (o + k) n) (loadN c o k) none
  | _ => none
def load1 (h : AH) (b o : Nat) : Option Value :=
  match h.get b with
  | some (.cells c n _ _ _ _) => ifB (Nat.blt o n) (c.get o) none
  | _ => none

theorem ifB_some {α : Type} {c : Bool} {x : Option α} {v : α} (h : ifB c x none = some v) : c = true ∧ x = some v := by
  cases c with
  | true => exact ⟨rfl, h⟩
  | false => cases h
theorem ble_le {a b : Nat} (h : Nat.ble a b = true) : a ≤ b := Nat.le_of_ble_eq_true h
theorem blt_lt {a b : Nat} (h : Nat.blt a b = true) : a < b := Nat.le_of_ble_eq_true h

/-- What a row of the heap is in the model's memory. -/
theorem HR.row {P : Program} {r : Ren} {h : AH} {w : World} (hr : HR P r h w) {b o k : Nat} {bk : Bk} {l : List Value} (hb : r b = some bk) (e : loadRow h b o k = some l) :
    ∃ cs el f, w.heap[bk.blk]? = some (.cells cs el f) ∧ o + bk.dlt + k ≤ cs.size ∧ LR r l ((cs.toList.drop (o + bk.dlt)).take k) := by
  unfold loadRow at e
  cases e1 : h.get b with
  | none => rw [e1] at e; cases e
  | some ob =>
    cases ob with
    | cells c n elem lo hi kd =>
      rw [e1] at e
      obtain ⟨e2, e3⟩ := ifB_some e
      have hle := ble_le e2
      obtain ⟨bk', ob, h1, h2, h3⟩ := hr.live b _ e1
      rw [hb] at h1; cases h1
      obtain ⟨cs, fl, fh, rfl, h4, _, _, h7, _, _⟩ := h3
      refine ⟨cs, elem, _, h2, by omega, ?_⟩
      obtain ⟨g1, g2⟩ := loadN_spec e3
      refine ⟨by simp; omega, ?_⟩
      intro i v v' ev ev'
      have hi : i < k := by rw [← g1]; exact (List.getElem?_eq_some_iff.1 ev).1
      obtain ⟨x, x', p1, p2, p3⟩ := h7 (o + i) (by omega)
      rw [g2 i hi, ev] at p1; cases p1
      rw [List.getElem?_take, if_pos hi, List.getElem?_drop, Array.getElem?_toList, show o + bk.dlt + i = bk.dlt + (o + i) from by omega, p2] at ev'
      cases ev'; exact p3
    | _ => rw [e1] at e; cases e

theorem HR.cell {P : Program} {r : Ren} {h : AH} {w : World} (hr : HR P r h w) {b o : Nat} {bk : Bk} {v : Value} (hb : r b = some bk) (e : load1 h b o = some v) :
    ∃ v', w.cell? ⟨bk.blk, o + bk.dlt, none⟩ = some v' ∧ VR r v v' := by
  unfold load1 at e
  cases e1 : h.get b with
  | none => rw [e1] at e; cases e
  | some ob =>
    cases ob with
    | cells c n elem lo hi kd =>
      rw [e1] at e
      obtain ⟨e2, e3⟩ := ifB_some e
      have hlt := blt_lt e2
      obtain ⟨bk', ob, h1, h2, h3⟩ := hr.live b _ e1
      rw [hb] at h1; cases h1
      obtain ⟨cs, fl, fh, rfl, h4, _, _, h7, _, _⟩ := h3
      obtain ⟨x, x', p1, p2, p3⟩ := h7 o hlt
      rw [e3] at p1; cases p1
      exact ⟨x', by rw [cell_of h2, Nat.add_comm]; exact p2, p3⟩
    | _ => rw [e1] at e; cases e

def loadVarA (T : Tab) (t : TypeId) (b o : Nat) (h : AH) : Option Value :=
  match aggT T t with
  | some true => (match szOf T t with
    | some k => (match loadRow h b o k with
      | some l => some (.agg l.toArray)
      | none => none)
    | none => none)
  | some false => load1 h b o
  | none => none

theorem loadVarA_sound {T : Tab} (ok : TabOK T) {r : Ren} {h : AH} {w : World} (hr : HR T.P r h w) {t : TypeId} {b o : Nat} {bk : Bk} {v : Value} (hb : r b = some bk)
    (e : loadVarA T t b o h = some v) : ∃ v', (loadVar t ⟨bk.blk, o + bk.dlt, none⟩).run T.P w = .ok v' w ∧ VR r v v' := by
  unfold loadVarA at e
  cases e1 : aggT T t with
  | none => rw [e1] at e; cases e
  | some ag =>
    rw [e1] at e
    have ha := aggT_ok ok e1 w
    cases ag with
    | true =>
      cases e2 : szOf T t with
      | none => simp only [e2] at e; cases e
      | some k =>
        simp only [e2] at e
        cases e3 : loadRow h b o k with
        | none => rw [e3] at e; cases e
        | some l =>
          rw [e3] at e; cases e
          obtain ⟨i, hi, rfl⟩ := sz_ok ok e2
          obtain ⟨cs, el, f, g1, g2, g3⟩ := hr.row hb e3
          refine ⟨.agg ((cs.toList.drop (o + bk.dlt)).take i.size).toArray, ?_, ?_⟩
          · simp only [loadVar, Sem.run_bind, ha, Result.andThen_ok, if_true, run_size w hi, run_loadCells g1 g2, Sem.run_pure]
          · exact .agg _ _ (by simpa using g3.1) (fun j v v' a1 a2 => g3.2 j v v' (by simpa using a1) (by simpa using a2))
    | false =>
      obtain ⟨v', g1, g2⟩ := hr.cell hb e
      exact ⟨v', by simp [loadVar, ha, g1], g2⟩

/-- May the cells from o on, k of them, be written? -/
def writable (o k n lo hi : Nat) : Bool := Nat.ble (o + k) n && (Nat.ble hi lo || Nat.ble (o + k) lo || Nat.ble hi o)

def storeRow (b o : Nat) (l : List Value) (h : AH) : Option AH :=
  match h.get b with
  | some (.cells c n e lo hi kd) => (match kd with
    | .ro => none
    | _ => ifB (writable o l.length n lo hi && l.all oneCell) (some (h.set b (.cells (storeN c o l) n e lo hi kd))) none)
  | _ => none

theorem storeRow_sound {T : Tab} {r : Ren} {h h' : AH} {w : World} (hr : HR T.P r h w) {b o : Nat} {bk : Bk} {l l' : List Value} (hb : r b = some bk) (hl : LR r l l')
    (e : storeRow b o l h = some h') : ∃ w', (storeCells ⟨bk.blk, o + bk.dlt, none⟩ l').run T.P w = .ok () w' ∧ HR T.P r h' w' ∧ Ext r h w r h' w' := by
  unfold storeRow at e
  cases e1 : h.get b with
  | none => rw [e1] at e; cases e
  | some ob =>
    cases ob with
    | cells c n elem lo hi kd =>
      rw [e1] at e
      have hkd : kd ≠ .ro ∧ ifB (writable o l.length n lo hi && l.all oneCell) (some (h.set b (.cells (storeN c o l) n elem lo hi kd))) none = some h' := by
        cases kd <;> simp_all
      obtain ⟨hkd, e⟩ := hkd
      obtain ⟨e2, e3⟩ := ifB_some e
      cases e3
      rw [Bool.and_eq_true] at e2
      obtain ⟨e2, e4⟩ := e2
      unfold writable at e2
      rw [Bool.and_eq_true, Bool.or_eq_true, Bool.or_eq_true] at e2
      obtain ⟨e5, e6⟩ := e2
      have hle := ble_le e5
      obtain ⟨bk', ob, h1, h2, h3⟩ := hr.live b _ e1
      rw [hb] at h1; cases h1
      obtain ⟨cs, fl, fh, rfl, h4, h5, h6, h7, h8, h9⟩ := h3
      have hlen := hl.1
      obtain ⟨w', s1, s2, s3, s4, s5⟩ := run_storeCells (P := T.P) (o := o + bk.dlt) l' w cs 0 h2 (by omega) (by
        intro j hj hh
        have := h9 (o + j) (by omega) (by omega) (by omega)
        rcases e6 with (e6 | e6) | e6
        · have := h8 (ble_le e6); omega
        · have := ble_le e6; omega
        · have := ble_le e6; omega) (by
        intro v' hv'
        obtain ⟨i, hi, rfl⟩ := List.getElem_of_mem hv'
        have := hl.2 i (l[i]'(by omega)) l'[i] (List.getElem?_eq_getElem _) (List.getElem?_eq_getElem _)
        rw [this.oneCell]
        exact (List.all_eq_true.1 e4) _ (List.getElem_mem _))
      have hup := hr.upd (o' := .cells (storeN c o l) n elem lo hi kd) (w' := w') e1 (by cases kd <;> simp_all [AObj.ro]) hb s3 s2 s4 (by
        refine ⟨_, fl, fh, rfl, by rw [putL_size]; exact h4, by rw [putL_size]; exact h5, by rw [putL_size]; exact h6, ?_, h8, h9⟩
        intro i hi
        rw [storeN_get, putL_get _ _ _ _ (by omega)]
        by_cases hin : o ≤ i ∧ i < o + l.length
        · rw [if_pos hin, if_pos (by omega)]
          have hi1 : i - o < l.length := by omega
          refine ⟨l[i - o], l'[i - o]'(by omega), List.getElem?_eq_getElem _, ?_, hl.2 (i - o) _ _ (List.getElem?_eq_getElem _) (List.getElem?_eq_getElem _)⟩
          rw [show bk.dlt + i - (o + bk.dlt + 0) = i - o from by omega]
          exact List.getElem?_eq_getElem _
        · rw [if_neg hin, if_neg (by omega)]
          exact h7 i hi) s5
      exact ⟨w', s1, hup.1, hup.2⟩
    | _ => rw [e1] at e; cases e

def storeVarA (T : Tab) (t : TypeId) (b o : Nat) (v : Value) (h : AH) : Option AH :=
  match szOf T t with
  | some k => ifB (Nat.beq v.cells.toList.length k) (match v.cells.toList with
      | [] => some h
      | l => storeRow b o l h) none
  | none => none

theorem storeVarA_sound {T : Tab} (ok : TabOK T) {r : Ren} {h h' : AH} {w : World} (hr : HR T.P r h w) {t : TypeId} {b o : Nat} {bk : Bk} {v v' : Value} (hb : r b = some bk) (hv : VR r v v')
    (e : storeVarA T t b o v h = some h') : ∃ w', (storeVar t ⟨bk.blk, o + bk.dlt, none⟩ v').run T.P w = .ok () w' ∧ HR T.P r h' w' ∧ Ext r h w r h' w' := by
  unfold storeVarA at e
  cases e1 : szOf T t with
  | none => rw [e1] at e; cases e
  | some k =>
    rw [e1] at e
    obtain ⟨e2, e3⟩ := ifB_some e
    have hk := Nat.eq_of_beq_eq_true e2
    obtain ⟨i, hi, rfl⟩ := sz_ok ok e1
    have hc := hv.cells
    have hsz : v'.cells.size = i.size := by have := hc.1; simp only [Array.length_toList] at this hk; omega
    have main : ∀ w', (storeCells ⟨bk.blk, o + bk.dlt, none⟩ v'.cells.toList).run T.P w = .ok () w' → (storeVar t ⟨bk.blk, o + bk.dlt, none⟩ v').run T.P w = .ok () w' := by
      intro w' hw'
      simp only [storeVar, Sem.run_bind, run_size w hi, Result.andThen_ok, hsz, ne_eq, not_true, if_false]
      simpa using hw'
    cases e4 : v.cells.toList with
    | nil =>
      rw [e4] at e3; cases e3
      rw [e4] at hc
      exact ⟨w, main w (by rw [hc.nil_inv]; rfl), hr, .refl _ _ _⟩
    | cons x l =>
      rw [e4] at e3
      rw [e4] at hc
      obtain ⟨w', s1, s2, s3⟩ := storeRow_sound hr hb hc e3
      exact ⟨w', main w' s1, s2, s3⟩
end
end Go.Proofs.YtknchhnibjfocaaDoor.Abs
