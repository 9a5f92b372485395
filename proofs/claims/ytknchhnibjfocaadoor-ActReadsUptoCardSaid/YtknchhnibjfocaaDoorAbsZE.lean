/- An abstract machine: a program's tables; calls shown by a run. -/
import Derived.Test.YtknchhnibjfocaaDoorAbsZD
import GoSem.ClaimChange
namespace Go.Proofs.YtknchhnibjfocaaDoor.Abs
open Go
noncomputable section

def mkTab (P : Program) : Tab := { P := P, ft := PM.ofList P.funcs.toList, tt := PM.ofList P.types.toList, gs := P.globals.size }

def namesOK (l : List Func) : Bool := l.all fun fn => match fn.body with
  | some _ => !(fn.name == "runtime.NumGoroutine")
  | none => true
def zerosOK (l : List TypeInfo) : Bool := l.all fun i => match i.zero with
  | some z => flat z && Nat.beq z.cells.toList.length i.size
  | none => true

theorem tabOK {P : Program} (hm : P.follows .mixedOrders = true) (hn : namesOK P.funcs.toList = true) : TabOK (mkTab P) := by
  refine ⟨?_, ?_, hm, Nat.le_refl _, ?_⟩
  · intro f fn h
    have : P.funcs.toList[f]? = some fn := by simpa [mkTab, PM.get_ofList] using h
    have h2 : P.funcs[f]? = some fn := by simpa using this
    exact h2
  · intro t i h
    have : P.types.toList[t]? = some i := by simpa [mkTab, PM.get_ofList] using h
    have h2 : P.types[t]? = some i := by simpa using this
    have hlt := (Array.getElem?_eq_some_iff.1 h2).1
    show Tables.info? _ t = _
    unfold Tables.info?
    exact (if_pos hlt).trans h2
  · intro f fn h hb
    have : P.funcs.toList[f]? = some fn := by simpa [mkTab, PM.get_ofList] using h
    have hmem := List.mem_of_getElem? this
    have := List.all_eq_true.1 hn fn hmem
    cases hbb : fn.body with
    | none => rw [hbb] at hb; cases hb
    | some c => rw [hbb] at this; simpa using this

theorem tabZ {P : Program} (hz : zerosOK P.types.toList = true) : TabZ (mkTab P) := by
  intro t i z h hzz
  have : P.types.toList[t]? = some i := by simpa [mkTab, PM.get_ofList] using h
  have := List.all_eq_true.1 hz i (List.mem_of_getElem? this)
  rw [hzz] at this
  simp only [Bool.and_eq_true] at this
  exact ⟨this.1, by simpa using Nat.eq_of_beq_eq_true this.2⟩

/- Functions of the library without a body. -/
structure ExtFn (P : Program) (f : Nat) (e : Array Value → Sem Value) : Prop where
  ex : ∃ fn, P.funcs[f]? = some fn ∧ fn.name ≠ "runtime.NumGoroutine" ∧ fn.body = none ∧ Extern.findNext fn = none ∧ Extern.find fn = some e

theorem ExtFn.run {P : Program} {f : Nat} {e : Array Value → Sem Value} (h : ExtFn P f e) {args : Array Value} {w : World} {v : Value} (he : (e args).run P w = .ok v w) : (callFunc f args).run P w = .ok (.value v) w := by
  obtain ⟨fn, h1, h2, h3, h4, h5⟩ := h.ex
  simp [callFunc, h1, h2, h3, h4, h5, he]

/-- A function that asks no world, of flat arguments. -/
def xOf (P : Program) (e : Array Value → Sem Value) (xs : List Value) (h : AH) : Option (Value × AH) :=
  ifB (flatAll xs) (match prun P (e xs.toArray) with
    | some v => ifB (flat v) (some (v, h)) none
    | none => none) none

theorem xOf_ok {P : Program} {f : Nat} {e : Array Value → Sem Value} (he : ExtFn P f e) {args : List Value} {h h' : AH} {v : Value} (hv : xOf P e args h = some (v, h')) {r : Ren} {w : World} {args' : Array Value} (hr : HR P r h w) (ha : LR r args args'.toList) :
    OOK P r h w (callFunc f args') (.value v) h' := by
  obtain ⟨e1, e2⟩ := ifB_some hv
  have hargs : args' = args.toArray := by apply Array.ext'; simpa using ha.flat_eq e1
  subst hargs
  split at e2
  · rename_i x hx
    obtain ⟨e3, e4⟩ := ifB_some e2
    cases e4
    exact ⟨w, r, hr, .refl _ _ _, _, he.run (prun_ok hx w), VR.of_flat r _ e3⟩
  · cases e2

/-- The three functions of 'math', by number. -/
def xMath (P : Program) (fb bs tr : Nat) : Exts := fun f => ifB (Nat.beq f fb) (some (xOf P Extern.MathFloatBits.float64frombits)) (ifB (Nat.beq f bs) (some (xOf P Extern.MathFloatBits.float64bits))
  (ifB (Nat.beq f tr) (some (xOf P (Extern.MathFloor.toIntegral "math.archTrunc" .zero))) none))

theorem ifB_cases {α : Type} {c : Bool} {x y : Option α} {v : α} (h : ifB c x y = some v) : (c = true ∧ x = some v) ∨ y = some v := by
  cases c with
  | true => exact .inl ⟨rfl, h⟩
  | false => exact .inr h

theorem xMath_ok {P : Program} {fb bs tr : Nat} (h1 : ExtFn P fb Extern.MathFloatBits.float64frombits) (h2 : ExtFn P bs Extern.MathFloatBits.float64bits) (h3 : ExtFn P tr (Extern.MathFloor.toIntegral "math.archTrunc" .zero)) : ExtOK (mkTab P) (xMath P fb bs tr) := by
  intro f g hg args h h' v hv r w args' hr ha
  have hr' : HR P r h w := hr
  show OOK P r h w (callFunc f args') (.value v) h'
  rcases ifB_cases hg with ⟨e1, e2⟩ | hg
  · have := Nat.eq_of_beq_eq_true e1; subst this
    cases e2
    exact xOf_ok h1 hv hr' ha
  · rcases ifB_cases hg with ⟨e1, e2⟩ | hg
    · have := Nat.eq_of_beq_eq_true e1; subst this
      cases e2
      exact xOf_ok h2 hv hr' ha
    · rcases ifB_cases hg with ⟨e1, e2⟩ | hg
      · have := Nat.eq_of_beq_eq_true e1; subst this
        cases e2
        exact xOf_ok h3 hv hr' ha
      · cases hg

/- Calls. -/
def ren0 (P : Program) : Ren := fun g => if g < P.globals.size then some ⟨g, 0, 0, 0⟩ else none
theorem HR.start {P : Program} {w : World} (hw : P.globals.size ≤ w.heap.size) : HR P (ren0 P) ⟨PM.empty 12, P.globals.size⟩ w := by
  refine ⟨?_, ?_, ?_, ?_⟩
  · intro b o e; exact absurd e (by show ¬ PM.get (PM.empty 12) b = some o; rw [PM.get_empty]; simp)
  · intro b b' o o' bk bk' e; exact absurd e (by show ¬ PM.get (PM.empty 12) b = some o; rw [PM.get_empty]; simp)
  · intro b bk e
    unfold ren0 at e
    split at e
    · rename_i h; cases e; exact ⟨h, by show b < w.heap.size; omega⟩
    · cases e
  · intro g hg; simp [ren0, hg]

/-- Nothing but new blocks. -/
structure Kept (w w' : World) : Prop where
  os : w'.os = w.os ∧ w'.output = w.output
  size : w.heap.size ≤ w'.heap.size
  heap : ∀ b, b < w.heap.size → w'.heap[b]? = w.heap[b]?

theorem Kept.refl (w : World) : Kept w w := ⟨⟨rfl, rfl⟩, Nat.le_refl _, fun _ _ => rfl⟩
theorem Kept.trans {a b c : World} (h : Kept a b) (h' : Kept b c) : Kept a c :=
  ⟨⟨h'.os.1.trans h.os.1, h'.os.2.trans h.os.2⟩, Nat.le_trans h.size h'.size, fun i hi => (h'.heap i (Nat.lt_of_lt_of_le hi h.size)).trans (h.heap i hi)⟩

theorem Kept.but {w w' : World} (h : Kept w w') (may : MemPlace → Prop) : w.keptBut w' may := by
  refine ⟨h.os.1, h.os.2, fun i hi => ?_⟩
  rw [h.heap i hi]
  cases w.heap[i]? with
  | none => rfl
  | some o => cases o <;> simp

/-- A call in the memory of which the machine knows nothing but the package variables. -/
def startH (P : Program) : AH := ⟨PM.empty 12, P.globals.size⟩

theorem calls_of {P : Program} {f : Nat} {args : List Value} {v : Value} {h : AH} (ha : flatAll args = true) (hv : flat v = true) (e : CallOK (mkTab P) f args (startH P) v h) {w : World} (hw : P.globals.size ≤ w.heap.size) :
    Calls P f args.toArray w fun e w' => e = .returned v ∧ Kept w w' := by
  intro cs
  obtain ⟨r2, w2, fr2, v2, p1, p2, p3, p4, p5, p6⟩ := e cs (ren0 P) w args.toArray (HR.start (P := P) hw) (by simpa using LR.of_flat (ren0 P) args ha)
  have := p4.flat_eq hv; subst this
  refine ⟨.returned v2, w2, fr2, ⟨rfl, p6.os, p6.size, ?_⟩, p1, p2, p3⟩
  intro b hb
  refine p6.keep b hb ?_
  intro i o bk hi
  exact absurd hi (by show ¬ PM.get (PM.empty 12) i = some o; rw [PM.get_empty]; simp)

/-- It ends with that value. -/
def endsB (v : Value) : Option (Value × AH) → Bool
  | some (u, _) => flat v && eqV u v
  | none => false
def endsT : Option (Value × AH) → Bool
  | some (u, _) => match u with
    | .bool b => b
    | _ => false
  | none => false

theorem calls_flat {P : Program} (ok : TabOK (mkTab P)) (oz : TabZ (mkTab P)) {X : Exts} (hX : ExtOK (mkTab P) X) {S : Sums} (hS : SumOK (mkTab P) S) {n d f : Nat} {args : List Value} {v : Value} (ha : flatAll args = true)
    (e : endsB v (callB (mkTab P) X S n d f args (startH P)) = true) {w : World} (hw : P.globals.size ≤ w.heap.size) : Calls P f args.toArray w fun e w' => e = .returned v ∧ Kept w w' := by
  cases hc : callB (mkTab P) X S n d f args (startH P) with
  | none => rw [hc] at e; cases e
  | some p =>
    obtain ⟨u, h⟩ := p
    rw [hc] at e
    simp only [endsB, Bool.and_eq_true] at e
    have := eqV_eq _ _ e.2; subst this
    exact calls_of ha e.1 (callB_sound ok oz hX hS n d f args _ u h hc) hw
theorem calls_true {P : Program} (ok : TabOK (mkTab P)) (oz : TabZ (mkTab P)) {X : Exts} (hX : ExtOK (mkTab P) X) {S : Sums} (hS : SumOK (mkTab P) S) {n d f : Nat}
    (e : endsT (callB (mkTab P) X S n d f [] (startH P)) = true) {w : World} (hw : P.globals.size ≤ w.heap.size) : Calls P f #[] w fun e w' => e = .returned (.bool true) ∧ Kept w w' := by
  cases hc : callB (mkTab P) X S n d f [] (startH P) with
  | none => rw [hc] at e; cases e
  | some p =>
    obtain ⟨u, h⟩ := p
    rw [hc] at e
    simp only [endsT] at e
    split at e
    · subst e
      exact calls_of (args := []) rfl rfl (callB_sound ok oz hX hS n d f [] _ _ h hc) hw
    · cases e
def noSums : Sums := fun _ => none
theorem noSums_ok (T : Tab) : SumOK T noSums := fun f g e => by cases e
end
end Go.Proofs.YtknchhnibjfocaaDoor.Abs
