/- An abstract machine: operations on values. -/
import Derived.Test.YtknchhnibjfocaaDoorAbsC
namespace Go.Proofs.YtknchhnibjfocaaDoor.Abs
open Go
noncomputable section

/-- The zero values hold no address. -/
def TabZ (T : Tab) : Prop := ∀ t i z, T.tt.get t = some i → i.zero = some z → flat z = true ∧ z.cells.size = i.size

/-- A computation that asks no world. -/
def prun {α : Type} (P : Program) : Sem α → Option α
  | .pure a => some a
  | .program k => prun P (k P)
  | .mark _ k => prun P k
  | _ => none
theorem prun_ok {α : Type} {P : Program} {s : Sem α} {a : α} (h : prun P s = some a) (w : World) : s.run P w = .ok a w := by
  induction s with
  | pure x => simp only [prun, Option.some.injEq] at h; subst h; rfl
  | program k ih => exact ih P h
  | mark m k ih => exact ih h
  | _ => simp [prun] at h

def SOK (P : Program) (r : Ren) (h : AH) (w : World) (s : Sem Value) (v : Value) (h' : AH) : Prop :=
  ∃ v' w' r', s.run P w = .ok v' w' ∧ VR r' v v' ∧ HR P r' h' w' ∧ Ext r h w r' h' w'
theorem SOK.same {P : Program} {r : Ren} {h : AH} {w : World} {s : Sem Value} {v v' : Value} (hr : HR P r h w) (e : s.run P w = .ok v' w) (hv : VR r v v') : SOK P r h w s v h :=
  ⟨v', w, r, e, hv, hr, .refl _ _ _⟩

def ev (T : Tab) (tm : PM Value) : Operand → Option Value
  | .tmp t => tm.get t
  | .const v => ifB (flat v) (some v) none
  | .global g => ifB (Nat.blt g T.gs) (some (.pointer (some ⟨g, 0, none⟩))) none
  | .func f => some (.func (.func f) #[] #[])

/-- What is known of a frame's temporaries. -/
def TR (r : Ren) (tm : PM Value) (a : Array Value) : Prop := ∀ t v, tm.get t = some v → VR r v (a.getD t undef)

/-- The operands of an operation, evaluated. -/
def ER (T : Tab) (r : Ren) (tm : PM Value) (f : Operand → Value) : Prop := ∀ x v, ev T tm x = some v → VR r v (f x)
theorem ER.of {T : Tab} (ok : TabOK T) {r : Ren} {h : AH} {w : World} (hr : HR T.P r h w) {tm : PM Value} {a : Act} (ht : TR r tm a.tmps) : ER T r tm a.eval := by
  intro x v e
  cases x with
  | tmp t => exact ht t v e
  | const c => obtain ⟨e1, e2⟩ := ifB_some e; cases e2; exact VR.of_flat r _ e1
  | global g =>
    obtain ⟨e1, e2⟩ := ifB_some e
    cases e2
    exact .ptr g 0 ⟨g, 0, 0, 0⟩ (hr.glob g (by have := blt_lt e1; have := ok.g; omega))
  | func f => cases e; exact .func _ _ _ _ _ _ (.func f) rfl (fun i v v' e => by simp at e) rfl (fun i v v' e => by simp at e)
def evals (T : Tab) (tm : PM Value) : List Operand → Option (List Value)
  | [] => some []
  | x :: l => match ev T tm x with
    | some v => (match evals T tm l with
      | some r => some (v :: r)
      | none => none)
    | none => none
theorem evals_sound {T : Tab} {r : Ren} {tm : PM Value} {f : Operand → Value} (he : ER T r tm f) : ∀ (l : List Operand) (vs : List Value), evals T tm l = some vs → LR r vs (l.map f) := by
  intro l
  induction l with
  | nil => intro vs e; cases e; exact LR.nil r
  | cons x l ih =>
    intro vs e
    rw [evals] at e
    split at e
    · rename_i v hv
      split at e
      · rename_i rr hr
        cases e
        exact (ih rr hr).cons (he x v hv)
      · cases e
    · cases e

def flatOp (T : Tab) (s : Sem Value) (h : AH) : Option (Value × AH) :=
  match prun T.P s with
  | some v => ifB (flat v) (some (v, h)) none
  | none => none
theorem flatOp_sound {T : Tab} {r : Ren} {h h' : AH} {w : World} (hr : HR T.P r h w) {s : Sem Value} {v : Value} (e : flatOp T s h = some (v, h')) : SOK T.P r h w s v h' := by
  unfold flatOp at e
  cases e1 : prun T.P s with
  | none => rw [e1] at e; cases e
  | some x =>
    rw [e1] at e
    obtain ⟨e2, e3⟩ := ifB_some e
    cases e3
    exact .same hr (prun_ok e1 w) (VR.of_flat r _ e2)

/- New cells. -/
def newCells (h : AH) (e : TypeId) (c : PM Value) (n : Nat) : AH := h.new (.cells c n e 0 0 .ex)
theorem newCells_sound {P : Program} {r : Ren} {h : AH} {w w' : World} (hr : HR P r h w) (e : TypeId) (c : PM Value) (n : Nat) (cs : Array Value) (hn : cs.size = n)
    (hc : ∀ i, i < n → ∃ v v', c.get i = some v ∧ cs[i]? = some v' ∧ VR r v v') (hw : w'.heap = w.heap.push (.cells cs e)) (hos : w'.os = w.os ∧ w'.output = w.output := by exact ⟨rfl, rfl⟩) :
    HR P (r.add h.next ⟨w.heap.size, 0, 0, 0⟩) (newCells h e c n) w' ∧ Ext r h w (r.add h.next ⟨w.heap.size, 0, 0, 0⟩) (newCells h e c n) w' := by
  refine hr.new _ (.cells cs e) ⟨w.heap.size, 0, 0, 0⟩ rfl hw ?_ hos
  refine ⟨cs, 0, 0, rfl, by simp [hn], fun _ => ⟨rfl, hn⟩, fun h => (by cases h), ?_, fun _ => Nat.le_refl _, fun i _ _ h2 => (by omega)⟩
  intro i hi
  obtain ⟨v, v', a, b, c⟩ := hc i hi
  exact ⟨v, v', a, by simpa using b, c.mono (hr.sub_add _)⟩

theorem run_newRow {P : Program} {w : World} (e : TypeId) (cs : Array Value) : (newRow e cs).run P w = .ok ⟨w.heap.size, 0, none⟩ { w with heap := w.heap.push (.cells cs e) } := by
  simp [newRow]

def evNewVar (h : AH) (e : TypeId) (v : Value) : Value × AH :=
  (.pointer (some ⟨h.next, 0, none⟩), newCells h e (PM.ofList v.cells.toList) v.cells.toList.length)
theorem evNewVar_sound {P : Program} {r : Ren} {h : AH} {w : World} (hr : HR P r h w) (e : TypeId) {v v' : Value} (hv : VR r v v') :
    SOK P r h w (do pure (.pointer (some (← newVar e v')))) (evNewVar h e v).1 (evNewVar h e v).2 := by
  have hc := hv.cells
  obtain ⟨g1, g2⟩ := newCells_sound (w' := { w with heap := w.heap.push (.cells v'.cells e) }) hr e (PM.ofList v.cells.toList) v.cells.toList.length v'.cells (by have := hc.1; simpa using this.symm) (by
    intro i hi
    obtain ⟨x', a, b⟩ := hc.get (List.getElem?_eq_getElem hi)
    exact ⟨_, x', by rw [PM.get_ofList, List.getElem?_eq_getElem hi], by simpa using a, b⟩) rfl
  refine ⟨.pointer (some ⟨w.heap.size, 0, none⟩), _, _, ?_, ?_, g1, g2⟩
  · simp [newVar, run_newRow]
  · exact .ptr h.next 0 ⟨w.heap.size, 0, 0, 0⟩ (Ren.add_same _ _ _)

def evAlloc (T : Tab) (e : TypeId) (h : AH) : Option (Value × AH) :=
  match zeroOf T e with
  | some z => some (evNewVar h e z)
  | none => none
theorem evAlloc_sound {T : Tab} (ok : TabOK T) (oz : TabZ T) {r : Ren} {h h' : AH} {w : World} (hr : HR T.P r h w) {t : TypeId} {v : Value} (e : evAlloc T t h = some (v, h')) :
    SOK T.P r h w (Instr.alloc t true (.tuple #[])) v h' := by
  unfold evAlloc at e
  cases e1 : zeroOf T t with
  | none => rw [e1] at e; cases e
  | some z =>
    rw [e1] at e; cases e
    have hz : flat z = true := by
      unfold zeroOf at e1
      cases e2 : T.tt.get t with
      | none => rw [e2] at e1; cases e1
      | some i => rw [e2] at e1; exact (oz t i z e2 e1).1
    obtain ⟨i, hi, hzi⟩ := zero_ok ok e1
    obtain ⟨v', w', r', s1, s2⟩ := evNewVar_sound hr t (VR.of_flat r z hz)
    refine ⟨v', w', r', ?_, s2⟩
    simp only [Instr.alloc, Sem.run_bind, run_zero w hi hzi, Result.andThen_ok]
    simpa using s1

/- Parts put into an aggregate. -/
def spl (l : List Value) (o : Nat) (cs : List Value) : List Value := l.take o ++ (cs ++ l.drop (o + cs.length))
def fillA (place : Nat → Option (Nat × Nat)) (l : List Value) : List (Nat × Value) → Option (List Value)
  | [] => some l
  | (i, v) :: rest => match place i with
    | none => none
    | some (off, size) => ifB (Nat.beq v.cells.toList.length size && Nat.ble (off + v.cells.toList.length) l.length) (fillA place (spl l off v.cells.toList) rest) none

def PR (r : Ren) (a a' : List (Nat × Value)) : Prop := a.length = a'.length ∧ ∀ (i : Nat) (p p' : Nat × Value), a[i]? = some p → a'[i]? = some p' → p'.1 = p.1 ∧ VR r p.2 p'.2

theorem foldl_putL (l : List Value) : ∀ (cs : Array Value) (off k : Nat),
    (l.zipIdx k).foldl (fun (cs : Array Value) (p : Value × Nat) => cs.setIfInBounds (off + p.2) p.1) cs = putL cs (off + k) l := by
  induction l with
  | nil => intros; rfl
  | cons v r ih => intro cs off k; rw [List.zipIdx_cons, List.foldl_cons, ih]; rfl

theorem spl_length {l : List Value} {o : Nat} {cs : List Value} (h : o + cs.length ≤ l.length) : (spl l o cs).length = l.length := by
  simp [spl]; omega
theorem spl_get {l : List Value} {o : Nat} {cs : List Value} (h : o + cs.length ≤ l.length) (k : Nat) : (spl l o cs)[k]? = if o ≤ k ∧ k < o + cs.length then cs[k - o]? else l[k]? := by
  unfold spl
  rw [List.getElem?_append]
  have h1 : (l.take o).length = o := by simp; omega
  rw [h1]
  by_cases hk : k < o
  · rw [if_pos hk, if_neg (by omega), List.getElem?_take, if_pos hk]
  · rw [if_neg hk, List.getElem?_append]
    by_cases h2 : k - o < cs.length
    · rw [if_pos h2, if_pos (by omega)]
    · rw [if_neg h2, if_neg (by omega), List.getElem?_drop]; congr 1; omega

theorem fillA_sound {r : Ren} {place : Nat → Option (Nat × Nat)} : ∀ (ps ps' : List (Nat × Value)) (l l2 : List Value) (cs : Array Value), PR r ps ps' → LR r l cs.toList →
    fillA place l ps = some l2 → ∃ cs2, Instr.fill place cs ps' = some cs2 ∧ LR r l2 cs2.toList ∧ cs2.size = cs.size := by
  intro ps
  induction ps with
  | nil =>
    intro ps' l l2 cs hp hl e
    cases ps' with
    | nil => cases e; exact ⟨cs, rfl, hl, rfl⟩
    | cons _ _ => simp [PR] at hp
  | cons p ps ih =>
    intro ps' l l2 cs hp hl e
    cases ps' with
    | nil => simp [PR] at hp
    | cons p' ps' =>
      obtain ⟨i, v⟩ := p
      obtain ⟨i', v'⟩ := p'
      obtain ⟨q1, q2⟩ := hp.2 0 _ _ rfl rfl
      simp only at q1 q2
      subst q1
      rw [fillA] at e
      rw [Instr.fill]
      cases e1 : place i' with
      | none => rw [e1] at e; cases e
      | some os =>
        obtain ⟨off, size⟩ := os
        rw [e1] at e
        simp only at e ⊢
        obtain ⟨e2, e3⟩ := ifB_some e
        rw [Bool.and_eq_true] at e2
        have h1 := Nat.eq_of_beq_eq_true e2.1
        have h2 := ble_le e2.2
        have hc := q2.cells
        have hlen := hl.1
        have hclen := hc.1
        simp only [Array.length_toList] at hlen hclen h1 h2
        rw [if_neg (by simp; omega)]
        have hfold : v'.cells.zipIdx.foldl (fun (cs : Array Value) (x : Value × Nat) => match x with | (c, j) => cs.setIfInBounds (off + j) c) cs = putL cs off v'.cells.toList := by
          have := foldl_putL v'.cells.toList cs off 0
          rw [Nat.add_zero] at this
          rw [← this, ← Array.toList_zipIdx, Array.foldl_toList]
        rw [hfold]
        have := ih ps' (spl l off v.cells.toList) l2 (putL cs off v'.cells.toList) ⟨by simpa using hp.1, fun j p p' a b => hp.2 (j + 1) p p' (by simpa using a) (by simpa using b)⟩ ?_ e3
        · obtain ⟨cs2, a, b, c⟩ := this
          exact ⟨cs2, a, b, by rw [c, putL_size]⟩
        · refine ⟨by rw [spl_length (by simpa using h2)]; simp [putL_size, hlen], ?_⟩
          intro k x x' a b
          rw [spl_get (by simpa using h2)] at a
          rw [Array.getElem?_toList, putL_get _ _ _ _ (by simp; omega)] at b
          simp only [Array.length_toList] at a b
          by_cases hk : off ≤ k ∧ k < off + v.cells.size
          · rw [if_pos hk] at a
            rw [if_pos (by omega)] at b
            exact hc.2 _ _ _ a b
          · rw [if_neg hk] at a
            rw [if_neg (by omega)] at b
            exact hl.2 k _ _ a (by simpa using b)

def places (fields : Array Field) : Sem (Array (Nat × Nat)) := fields.mapM fun f => do pure (f.offset, ← sizeOf f.type)

def evBuild (T : Tab) (t : TypeId) (ps : List (Nat × Value)) (h : AH) : Option (Value × AH) :=
  match zeroOf T t with
  | some z => (match und T t with
    | some (.struct fs) => (match prun T.P (places fs) with
      | some pl => (match fillA (fun i => pl[i]?) z.cells.toList ps with
        | some l => some (.agg l.toArray, h)
        | none => none)
      | none => none)
    | some (.array _ e) => (match szOf T e with
      | some s => (match fillA (fun i => some (i * s, s)) z.cells.toList ps with
        | some l => some (.agg l.toArray, h)
        | none => none)
      | none => none)
    | _ => none)
  | none => none

theorem zeroFlat {T : Tab} (oz : TabZ T) {t : TypeId} {z : Value} (h : zeroOf T t = some z) : flat z = true := by
  unfold zeroOf at h
  cases e2 : T.tt.get t with
  | none => rw [e2] at h; cases h
  | some i => rw [e2] at h; exact (oz t i z e2 h).1

theorem VR.agg_list {r : Ren} {l : List Value} {cs : Array Value} (h : LR r l cs.toList) : VR r (.agg l.toArray) (.agg cs) :=
  .agg _ _ (by have := h.1; simpa using this) (fun i v v' a b => h.2 i v v' (by simpa using a) (by simpa using b))
theorem VR.tuple_list {r : Ren} {l : List Value} {cs : Array Value} (h : LR r l cs.toList) : VR r (.tuple l.toArray) (.tuple cs) :=
  .tuple _ _ (by have := h.1; simpa using this) (fun i v v' a b => h.2 i v v' (by simpa using a) (by simpa using b))

theorem evBuild_sound {T : Tab} (ok : TabOK T) (oz : TabZ T) {r : Ren} {h h' : AH} {w : World} (hr : HR T.P r h w) {t : TypeId} {ps : List (Nat × Value)} {ps' : Array (Nat × Value)} (hp : PR r ps ps'.toList) {v : Value}
    (e : evBuild T t ps h = some (v, h')) : SOK T.P r h w (Instr.build t ps') v h' := by
  unfold evBuild at e
  cases e1 : zeroOf T t with
  | none => rw [e1] at e; cases e
  | some z =>
    rw [e1] at e
    obtain ⟨i, hi, hzi⟩ := zero_ok ok e1
    have hz := (VR.of_flat r z (zeroFlat oz e1)).cells
    cases e2 : und T t with
    | none => simp only [e2] at e; cases e
    | some d =>
      have hd := und_ok ok e2
      cases d with
      | struct fs =>
        simp only [e2] at e
        cases e3 : prun T.P (places fs) with
        | none => rw [e3] at e; cases e
        | some pl =>
          rw [e3] at e
          simp only at e
          cases e4 : fillA (fun i => pl[i]?) z.cells.toList ps with
          | none => rw [e4] at e; cases e
          | some l =>
            rw [e4] at e; cases e
            obtain ⟨cs2, f1, f2, f3⟩ := fillA_sound ps ps'.toList _ _ z.cells hp hz e4
            refine .same hr (v' := .agg cs2) ?_ (VR.agg_list f2)
            have hpl := prun_ok e3 w
            simp only [places] at hpl
            simp only [Instr.build, Sem.run_bind, run_zero w hi hzi, Result.andThen_ok, run_und w hd, hpl, f1, Sem.run_pure]
      | array n el =>
        simp only [e2] at e
        cases e3 : szOf T el with
        | none => rw [e3] at e; cases e
        | some s =>
          rw [e3] at e
          simp only at e
          obtain ⟨j, hj, rfl⟩ := sz_ok ok e3
          cases e4 : fillA (fun i => some (i * j.size, j.size)) z.cells.toList ps with
          | none => rw [e4] at e; cases e
          | some l =>
            rw [e4] at e; cases e
            obtain ⟨cs2, f1, f2, f3⟩ := fillA_sound ps ps'.toList _ _ z.cells hp hz e4
            refine .same hr (v' := .agg cs2) ?_ (VR.agg_list f2)
            simp only [Instr.build, Sem.run_bind, run_zero w hi hzi, Result.andThen_ok, run_und w hd, run_size w hj, f1, Sem.run_pure]
      | _ => simp only [e2] at e; cases e
end
end Go.Proofs.YtknchhnibjfocaaDoor.Abs
