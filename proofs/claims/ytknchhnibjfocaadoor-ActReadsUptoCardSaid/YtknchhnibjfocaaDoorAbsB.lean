/- An abstract machine: its heap, and how it stands to the model's memory. -/
import Derived.Test.YtknchhnibjfocaaDoorAbsA
namespace Go.Proofs.YtknchhnibjfocaaDoor.Abs
open Go
noncomputable section

/-- From here on a capacity stands for 'at least so many more'. -/
def XB : Nat := 9223372036854775808

inductive BKind where
  | ex
  | loose
  | ro
  deriving DecidableEq

inductive AObj where
  | cells (c : PM Value) (n : Nat) (elem : TypeId) (lo hi : Nat) (kd : BKind)
  | map (es : List MapEntry) (clock : Nat)
  | str (s : ByteArray) (pos : Nat)
  | loop (l : Loop)
  | defs (d : Option (List Deferred))
  | glob (a : List Value)

structure AH where
  m : PM AObj
  next : Nat

def AH.get (h : AH) (b : Nat) : Option AObj := h.m.get b
def AH.set (h : AH) (b : Nat) (o : AObj) : AH := { h with m := h.m.set b o }
def AH.del (h : AH) (b : Nat) : AH := { h with m := h.m.del b }
def AH.new (h : AH) (o : AObj) : AH := { m := h.m.set h.next o, next := h.next + 1 }

theorem AH.get_set (h : AH) (b k : Nat) (o : AObj) : (h.set b o).get k = if k = b then some o else h.get k := PM.get_set _ _ _ _
theorem AH.get_del (h : AH) (b k : Nat) : (h.del b).get k = if k = b then none else h.get k := PM.get_del _ _ _
theorem AH.get_new (h : AH) (k : Nat) (o : AObj) : (h.new o).get k = if k = h.next then some o else h.get k := PM.get_set _ _ _ _
@[simp] theorem AH.next_set (h : AH) (b : Nat) (o : AObj) : (h.set b o).next = h.next := rfl
@[simp] theorem AH.next_del (h : AH) (b : Nat) : (h.del b).next = h.next := rfl
@[simp] theorem AH.next_new (h : AH) (o : AObj) : (h.new o).next = h.next + 1 := rfl

structure Tab where
  P : Program
  ft : PM Func
  tt : PM TypeInfo
  gs : Nat

structure TabOK (T : Tab) : Prop where
  f : ∀ f fn, T.ft.get f = some fn → T.P.funcs[f]? = some fn
  t : ∀ t i, T.tt.get t = some i → T.P.info? t = some i
  mixed : T.P.follows .mixedOrders = true
  g : T.gs ≤ T.P.globals.size
  call : ∀ f fn, T.ft.get f = some fn → fn.body.isSome = true → fn.name ≠ "runtime.NumGoroutine"

/-- Where an abstract block lies: the model's block, the offset of its first cell, the cells that there are, the size of an element. -/
structure Bk where
  blk : Nat
  dlt : Nat
  room : Nat
  sz : Nat

abbrev Ren := Nat → Option Bk

inductive FnR (r : Ren) : Fn → Fn → Prop
  | func (f) : FnR r (.func f) (.func f)
  | method (n) : FnR r (.method n) (.method n)
  | methodOf (t n) : FnR r (.methodOf t n) (.methodOf t n)
  | via (t p f b) : FnR r (.via t p f b) (.via t p f b)
  | yield (l) (bk : Bk) : r l = some bk → FnR r (.yield l) (.yield bk.blk)

inductive VR (r : Ren) : Value → Value → Prop
  | bool (b) : VR r (.bool b) (.bool b)
  | int (k n) : VR r (.int k n) (.int k n)
  | float (k b) : VR r (.float k b) (.float k b)
  | complex (k a b) : VR r (.complex k a b) (.complex k a b)
  | string (s) : VR r (.string s) (.string s)
  | ptrNil : VR r (.pointer none) (.pointer none)
  | ptr (b o) (bk : Bk) : r b = some bk → VR r (.pointer (some ⟨b, o, none⟩)) (.pointer (some ⟨bk.blk, o + bk.dlt, none⟩))
  | slNil : VR r (.slice none 0 0) (.slice none 0 0)
  | slEx (b o l c) (bk : Bk) : r b = some bk → c < XB → VR r (.slice (some ⟨b, o, none⟩) l c) (.slice (some ⟨bk.blk, o + bk.dlt, none⟩) l c)
  | slIn (b o l k o' c') (bk : Bk) : r b = some bk → l ≤ k → k ≤ c' → (k ≠ 0 → o' = o + bk.dlt) → o' + c' * bk.sz ≤ bk.room →
      VR r (.slice (some ⟨b, o, none⟩) l (XB + k)) (.slice (some ⟨bk.blk, o', none⟩) l c')
  | slOff (b o : Nat) (a : Addr) : VR r (.slice (some ⟨b, o, none⟩) 0 0) (.slice (some a) 0 0)
  | mapNil : VR r (.map none) (.map none)
  | map (b) (bk : Bk) : r b = some bk → VR r (.map (some b)) (.map (some bk.blk))
  | chanNil : VR r (.chan none) (.chan none)
  | nilFunc : VR r .nilFunc .nilFunc
  | nilIface : VR r .nilIface .nilIface
  | iface (t v v') : VR r v v' → VR r (.iface t v) (.iface t v')
  | func (fn fn' : Fn) (a a' b b' : Array Value) : FnR r fn fn' → a.size = a'.size → (∀ (i : Nat) (v v' : Value), a[i]? = some v → a'[i]? = some v' → VR r v v') →
      b.size = b'.size → (∀ (i : Nat) (v v' : Value), b[i]? = some v → b'[i]? = some v' → VR r v v') → VR r (.func fn a b) (.func fn' a' b')
  | agg (a a' : Array Value) : a.size = a'.size → (∀ (i : Nat) (v v' : Value), a[i]? = some v → a'[i]? = some v' → VR r v v') → VR r (.agg a) (.agg a')
  | tuple (a a' : Array Value) : a.size = a'.size → (∀ (i : Nat) (v v' : Value), a[i]? = some v → a'[i]? = some v' → VR r v v') → VR r (.tuple a) (.tuple a')

/-- Two rows of values. -/
def LR (r : Ren) (a a' : List Value) : Prop := a.length = a'.length ∧ ∀ (i : Nat) (v v' : Value), a[i]? = some v → a'[i]? = some v' → VR r v v'

def Sub (r r' : Ren) : Prop := ∀ b bk, r b = some bk → r' b = some bk
theorem Sub.refl (r : Ren) : Sub r r := fun _ _ h => h
theorem Sub.trans {r s t : Ren} (h : Sub r s) (h' : Sub s t) : Sub r t := fun b k e => h' b k (h b k e)

theorem FnR.mono {r r' : Ren} (s : Sub r r') {f f' : Fn} (h : FnR r f f') : FnR r' f f' := by
  cases h with
  | yield l bk e => exact .yield l bk (s _ _ e)
  | _ => constructor

theorem VR.mono {r r' : Ren} (s : Sub r r') {v v' : Value} (h : VR r v v') : VR r' v v' := by
  induction h with
  | ptr b o bk e => exact .ptr b o bk (s _ _ e)
  | slEx b o l c bk e hc => exact .slEx b o l c bk (s _ _ e) hc
  | slIn b o l k o' c' bk e h1 h2 h3 h4 => exact .slIn b o l k o' c' bk (s _ _ e) h1 h2 h3 h4
  | slOff b o a => exact .slOff b o a
  | map b bk e => exact .map b bk (s _ _ e)
  | iface t v v' _ ih => exact .iface t v v' ih
  | func fn fn' a a' b b' hf h1 _ h2 _ ih1 ih2 => exact .func fn fn' a a' b b' (hf.mono s) h1 ih1 h2 ih2
  | agg a a' h1 _ ih => exact .agg a a' h1 ih
  | tuple a a' h1 _ ih => exact .tuple a a' h1 ih
  | _ => constructor

theorem LR.mono {r r' : Ren} (s : Sub r r') {v v' : List Value} (h : LR r v v') : LR r' v v' := ⟨h.1, fun i v v' e e' => (h.2 i v v' e e').mono s⟩
theorem LR.nil (r : Ren) : LR r [] [] := ⟨rfl, fun i v v' e => by simp at e⟩
theorem LR.cons {r : Ren} {v v' : Value} {l l' : List Value} (h : VR r v v') (hl : LR r l l') : LR r (v :: l) (v' :: l') :=
  ⟨by simp [hl.1], fun i x x' e e' => by
    cases i with
    | zero => simp at e e'; subst e; subst e'; exact h
    | succ i => simp at e e'; exact hl.2 i x x' e e'⟩
theorem LR.cons_inv {r : Ren} {v : Value} {l l' : List Value} (h : LR r (v :: l) l') : ∃ v' l2, l' = v' :: l2 ∧ VR r v v' ∧ LR r l l2 := by
  cases l' with
  | nil => simp [LR] at h
  | cons v' l2 => exact ⟨v', l2, rfl, h.2 0 v v' rfl rfl, by simpa using h.1, fun i x x' e e' => h.2 (i + 1) x x' (by simpa using e) (by simpa using e')⟩
theorem LR.nil_inv {r : Ren} {l' : List Value} (h : LR r [] l') : l' = [] := by cases l' with | nil => rfl | cons _ _ => simp [LR] at h
theorem LR.append {r : Ren} {a a' b b' : List Value} (h : LR r a a') (h2 : LR r b b') : LR r (a ++ b) (a' ++ b') := by
  induction a generalizing a' with
  | nil => rw [LR.nil_inv h]; exact h2
  | cons v l ih => obtain ⟨v', l2, rfl, hv, hl⟩ := h.cons_inv; exact (ih hl).cons hv
theorem LR.of_array {r : Ren} {a a' : Array Value} (h : a.size = a'.size) (h2 : ∀ (i : Nat) (v v' : Value), a[i]? = some v → a'[i]? = some v' → VR r v v') : LR r a.toList a'.toList :=
  ⟨by simpa using h, fun i v v' e e' => h2 i v v' (by simpa using e) (by simpa using e')⟩
theorem LR.get {r : Ren} {l l' : List Value} (h : LR r l l') {i : Nat} {v : Value} (e : l[i]? = some v) : ∃ v', l'[i]? = some v' ∧ VR r v v' := by
  have hi : i < l'.length := by rw [← h.1]; exact (List.getElem?_eq_some_iff.1 e).1
  exact ⟨l'[i], List.getElem?_eq_getElem hi, h.2 i v _ e (List.getElem?_eq_getElem hi)⟩

mutual
def flat : Value → Bool
  | .bool _ | .int _ _ | .float _ _ | .complex _ _ _ | .string _ | .nilFunc | .nilIface => true
  | .pointer none | .slice none 0 0 | .map none | .chan none => true
  | .iface _ v => flat v
  | .agg cs => flatAll cs.toList
  | .tuple cs => flatAll cs.toList
  | _ => false
def flatAll : List Value → Bool
  | [] => true
  | v :: r => flat v && flatAll r
end

theorem flatAll_iff (l : List Value) : flatAll l = true ↔ ∀ v ∈ l, flat v = true := by
  induction l with
  | nil => simp [flatAll]
  | cons v r ih => simp [flatAll, ih]

theorem VR.flat_eq {r : Ren} {v v' : Value} (h : VR r v v') (hf : flat v = true) : v' = v := by
  induction h with
  | ptr | slEx | slIn | slOff | map | func => simp [flat] at hf
  | iface t v v' _ ih => rw [ih (by simpa [flat] using hf)]
  | agg a a' h1 h2 ih =>
    congr 1
    apply Array.ext (by omega)
    intro i h3 h4
    refine ih i _ _ (Array.getElem?_eq_getElem h4) (Array.getElem?_eq_getElem h3) ?_
    simp only [flat, flatAll_iff] at hf
    exact hf _ (by simp)
  | tuple a a' h1 h2 ih =>
    congr 1
    apply Array.ext (by omega)
    intro i h3 h4
    refine ih i _ _ (Array.getElem?_eq_getElem h4) (Array.getElem?_eq_getElem h3) ?_
    simp only [flat, flatAll_iff] at hf
    exact hf _ (by simp)
  | _ => rfl

mutual
theorem VR.of_flat (r : Ren) : ∀ (v : Value), flat v = true → VR r v v
  | .bool _, _ => .bool _
  | .int _ _, _ => .int _ _
  | .float _ _, _ => .float _ _
  | .complex _ _ _, _ => .complex _ _ _
  | .string _, _ => .string _
  | .nilFunc, _ => .nilFunc
  | .nilIface, _ => .nilIface
  | .pointer none, _ => .ptrNil
  | .slice none 0 0, _ => .slNil
  | .slice none (_ + 1) _, h => by simp [flat] at h
  | .slice none 0 (_ + 1), h => by simp [flat] at h
  | .map none, _ => .mapNil
  | .chan none, _ => .chanNil
  | .iface _ v, h => .iface _ v v (VR.of_flat r v (by simpa [flat] using h))
  | .agg ⟨l⟩, h => .agg _ _ rfl fun i v v' e e' => by
      have := VR.of_flatAll r l (by simpa [flat] using h) i v (by simpa using e)
      rw [e] at e'; cases e'; exact this
  | .tuple ⟨l⟩, h => .tuple _ _ rfl fun i v v' e e' => by
      have := VR.of_flatAll r l (by simpa [flat] using h) i v (by simpa using e)
      rw [e] at e'; cases e'; exact this
  | .pointer (some _), h => by simp [flat] at h
  | .slice (some _) _ _, h => by simp [flat] at h
  | .map (some _), h => by simp [flat] at h
  | .chan (some _), h => by simp [flat] at h
  | .func _ _ _, h => by simp [flat] at h
theorem VR.of_flatAll (r : Ren) : ∀ (l : List Value), flatAll l = true → ∀ (i : Nat) (v : Value), l[i]? = some v → VR r v v
  | [], _, i, v, e => by simp at e
  | x :: l, h, 0, v, e => by simp at e; subst e; simp [flatAll] at h; exact VR.of_flat r x h.1
  | x :: l, h, i + 1, v, e => by simp [flatAll] at h; exact VR.of_flatAll r l h.2 i v (by simpa using e)
end
theorem LR.of_flat (r : Ren) (l : List Value) (h : flatAll l = true) : LR r l l := ⟨rfl, fun i v v' e e' => by rw [e] at e'; cases e'; exact VR.of_flatAll r l h i v e⟩
theorem LR.flat_eq {r : Ren} {l l' : List Value} (h : LR r l l') (hf : flatAll l = true) : l' = l := by
  induction l generalizing l' with
  | nil => exact h.nil_inv
  | cons v l ih => obtain ⟨v', l2, rfl, hv, hl⟩ := h.cons_inv; simp [flatAll] at hf; rw [hv.flat_eq hf.1, ih hl hf.2]

def oneCell : Value → Bool
  | .agg _ | .tuple _ => false
  | _ => true
theorem VR.oneCell {r : Ren} {v v' : Value} (h : VR r v v') : oneCell v' = oneCell v := by cases h <;> rfl
theorem VR.cells {r : Ren} {v v' : Value} (h : VR r v v') : LR r v.cells.toList v'.cells.toList := by
  cases h with
  | agg a a' h1 h2 => exact LR.of_array h1 h2
  | _ => exact (LR.nil r).cons (by first | (constructor; done) | (constructor <;> assumption))

def DefR (r : Ren) (d d' : Deferred) : Prop :=
  (∃ fn fn' c c', d.target = .fn fn c ∧ d'.target = .fn fn' c' ∧ FnR r fn fn' ∧ LR r c.toList c'.toList ∧ LR r d.args.toList d'.args.toList) ∨
  (∃ b bk, d.target = .collected b ∧ r b = some bk ∧ d'.target = .collected bk.blk)
def DefsR (r : Ren) (l l' : List Deferred) : Prop := l.length = l'.length ∧ ∀ (i : Nat) (d d' : Deferred), l[i]? = some d → l'[i]? = some d' → DefR r d d'
theorem DefR.mono {r r' : Ren} (s : Sub r r') {d d' : Deferred} (h : DefR r d d') : DefR r' d d' := by
  rcases h with ⟨fn, fn', c, c', h1, h2, h3, h4, h5⟩ | ⟨b, bk, h1, h2, h3⟩
  · exact .inl ⟨fn, fn', c, c', h1, h2, h3.mono s, h4.mono s, h5.mono s⟩
  · exact .inr ⟨b, bk, h1, s _ _ h2, h3⟩
theorem DefsR.mono {r r' : Ren} (s : Sub r r') {d d' : List Deferred} (h : DefsR r d d') : DefsR r' d d' := ⟨h.1, fun i x x' e e' => (h.2 i x x' e e').mono s⟩

/-- How an abstract object stands to the model's. -/
def OR (P : Program) (r : Ren) (bk : Bk) : AObj → Obj → Prop
  | .cells c n elem lo hi kd, ob => ∃ cs fl fh, ob = .cells cs elem (fl, fh) ∧ bk.dlt + n ≤ cs.size ∧ (kd = .ex → bk.dlt = 0 ∧ cs.size = n) ∧
      (kd = .loose → bk.room = cs.size ∧ ∃ i, P.info? elem = some i ∧ i.size = bk.sz) ∧
      (∀ i, i < n → ∃ v v', c.get i = some v ∧ cs[bk.dlt + i]? = some v' ∧ VR r v v') ∧
      (hi ≤ lo → fh ≤ fl) ∧ (∀ i, i < n → fl ≤ bk.dlt + i → bk.dlt + i < fh → lo ≤ i ∧ i < hi)
  | .map es clock, ob => ∃ es', ob = .map es' clock ∧ es'.size = es.length ∧
      ∀ (i : Nat) (e e' : MapEntry), es[i]? = some e → es'[i]? = some e' → e'.key = e.key ∧ flat e.key = true ∧ e'.born = e.born ∧ VR r e.val e'.val
  | .str s pos, ob => ob = .stringIter s pos ∧ bk.dlt = 0
  | .loop l, ob => ∃ l' bd, ob = .loop l' ∧ l'.state = l.state ∧ l'.pending = l.pending ∧ l'.fn = l.fn ∧ l'.params = l.params ∧ l'.assign = l.assign ∧ l'.body = l.body ∧
      LR r l.tmps.toList l'.tmps.toList ∧ r l.defers = some bd ∧ l'.defers = bd.blk
  | .defs none, ob => ob = .deferred none
  | .defs (some d), ob => ∃ d', ob = .deferred (some d') ∧ DefsR r d d'
  | .glob a, ob => ∃ cs elem fz, ob = .cells cs elem fz ∧ LR r a cs.toList

theorem OR.mono {P : Program} {r r' : Ren} (s : Sub r r') {bk : Bk} {o : AObj} {ob : Obj} (h : OR P r bk o ob) : OR P r' bk o ob := by
  cases o with
  | cells c n elem lo hi kd =>
    obtain ⟨cs, fl, fh, h1, h2, h3, h4, h5, h6, h7⟩ := h
    exact ⟨cs, fl, fh, h1, h2, h3, h4, fun i hi => let ⟨v, v', a, b, c⟩ := h5 i hi; ⟨v, v', a, b, c.mono s⟩, h6, h7⟩
  | map es clock =>
    obtain ⟨es', h1, h2, h3⟩ := h
    exact ⟨es', h1, h2, fun i e e' a b => let ⟨p, q, t, u⟩ := h3 i e e' a b; ⟨p, q, t, u.mono s⟩⟩
  | str s pos => exact h
  | loop l =>
    obtain ⟨l', bd, h1, h2, h3, h4, h5, h6, h7, h8, h9, h10⟩ := h
    exact ⟨l', bd, h1, h2, h3, h4, h5, h6, h7, h8.mono s, s _ _ h9, h10⟩
  | defs d => cases d with
    | none => exact h
    | some d => obtain ⟨d', h1, h2⟩ := h; exact ⟨d', h1, h2.mono s⟩
  | glob a => obtain ⟨cs, elem, fz, h1, h2⟩ := h; exact ⟨cs, elem, fz, h1, h2.mono s⟩

def AObj.ro : AObj → Bool
  | .cells _ _ _ _ _ .ro => true
  | .glob _ => true
  | _ => false

structure HR (P : Program) (r : Ren) (h : AH) (w : World) : Prop where
  live : ∀ b o, h.get b = some o → ∃ bk ob, r b = some bk ∧ w.heap[bk.blk]? = some ob ∧ OR P r bk o ob
  inj : ∀ b b' o o' bk bk', h.get b = some o → h.get b' = some o' → (o.ro = false ∨ o'.ro = false) → r b = some bk → r b' = some bk' → bk.blk = bk'.blk → b = b'
  lt : ∀ b bk, r b = some bk → b < h.next ∧ bk.blk < w.heap.size
  glob : ∀ g, g < P.globals.size → r g = some ⟨g, 0, 0, 0⟩

/-- What became of the memory. -/
structure Ext (r : Ren) (h : AH) (w : World) (r' : Ren) (h' : AH) (w' : World) : Prop where
  sub : Sub r r'
  size : w.heap.size ≤ w'.heap.size
  keep : ∀ b, b < w.heap.size → (∀ i o bk, h.get i = some o → o.ro = false → r i = some bk → bk.blk ≠ b) → w'.heap[b]? = w.heap[b]?
  new : ∀ i bk', r i = none → r' i = some bk' → w.heap.size ≤ bk'.blk ∨ ∃ j o bk, h.get j = some o ∧ o.ro = false ∧ r j = some bk ∧ bk.blk = bk'.blk
  back : ∀ i o', h'.get i = some o' → o'.ro = false → (∃ o, h.get i = some o ∧ o.ro = false) ∨ r i = none
  next : h.next ≤ h'.next
  os : w'.os = w.os ∧ w'.output = w.output

theorem Ext.refl (r : Ren) (h : AH) (w : World) : Ext r h w r h w :=
  ⟨.refl _, Nat.le_refl _, fun _ _ _ => rfl, fun i bk' h1 h2 => (by rw [h1] at h2; cases h2), fun i o' e e' => .inl ⟨o', e, e'⟩, Nat.le_refl _, rfl, rfl⟩

theorem Ext.trans {P : Program} {r r1 r2 : Ren} {h h1 h2 : AH} {w w1 w2 : World} (hr : HR P r h w) (a : Ext r h w r1 h1 w1) (b : Ext r1 h1 w1 r2 h2 w2) : Ext r h w r2 h2 w2 := by
  have back1 : ∀ i o1 bk1, h1.get i = some o1 → o1.ro = false → r1 i = some bk1 → w.heap.size ≤ bk1.blk ∨ ∃ j o bk, h.get j = some o ∧ o.ro = false ∧ r j = some bk ∧ bk.blk = bk1.blk := by
    intro i o1 bk1 e1 e2 e3
    rcases a.back i o1 e1 e2 with ⟨o, e4, e5⟩ | e4
    · obtain ⟨bk, ob, e6, _, _⟩ := hr.live i o e4
      have := a.sub _ _ e6
      rw [e3] at this; cases this
      exact .inr ⟨i, o, bk1, e4, e5, e6, rfl⟩
    · exact a.new i bk1 e4 e3
  refine ⟨a.sub.trans b.sub, Nat.le_trans a.size b.size, ?_, ?_, ?_, Nat.le_trans a.next b.next, b.os.1.trans a.os.1, b.os.2.trans a.os.2⟩
  · intro c hc hn
    rw [b.keep c (Nat.lt_of_lt_of_le hc a.size) ?_, a.keep c hc hn]
    intro i o1 bk1 e1 e2 e3 e4
    rcases back1 i o1 bk1 e1 e2 e3 with e5 | ⟨j, o, bk, e5, e6, e7, e8⟩
    · omega
    · exact hn j o bk e5 e6 e7 (e8.trans e4)
  · intro i bk' e1 e2
    cases e3 : r1 i with
    | none =>
      rcases b.new i bk' e3 e2 with e4 | ⟨j, o1, bk1, e5, e6, e7, e8⟩
      · exact .inl (Nat.le_trans a.size e4)
      · rw [← e8]; exact back1 j o1 bk1 e5 e6 e7
    | some bk1 =>
      have := b.sub _ _ e3
      rw [e2] at this; cases this
      exact a.new i _ e1 e3
  · intro i o' e1 e2
    rcases b.back i o' e1 e2 with ⟨o1, e3, e4⟩ | e3
    · exact a.back i o1 e3 e4
    · right
      cases e4 : r i with
      | none => rfl
      | some bk => rw [a.sub _ _ e4] at e3; cases e3

theorem HR.of_heap {P : Program} {r : Ren} {h : AH} {w w' : World} (hr : HR P r h w) (e : w'.heap = w.heap) : HR P r h w' :=
  ⟨by rw [e]; exact hr.live, hr.inj, by rw [e]; exact hr.lt, hr.glob⟩
theorem Ext.of_heap {r r' : Ren} {h h' : AH} {w w1 w2 : World} (x : Ext r h w r' h' w1) (e : w2.heap = w1.heap) (eo : w2.os = w1.os ∧ w2.output = w1.output) : Ext r h w r' h' w2 :=
  ⟨x.sub, by rw [e]; exact x.size, by rw [e]; exact x.keep, x.new, x.back, x.next, eo.1.trans x.os.1, eo.2.trans x.os.2⟩
theorem Ext.of_heap_l {r r' : Ren} {h h' : AH} {w w1 w2 : World} (x : Ext r h w1 r' h' w2) (e : w1.heap = w.heap) (eo : w1.os = w.os ∧ w1.output = w.output) : Ext r h w r' h' w2 :=
  ⟨x.sub, by rw [← e]; exact x.size, by rw [← e]; exact x.keep, by rw [← e]; exact x.new, x.back, x.next, x.os.1.trans eo.1, x.os.2.trans eo.2⟩

def Ren.add (r : Ren) (b : Nat) (bk : Bk) : Ren := fun i => if i = b then some bk else r i
theorem Ren.add_same (r : Ren) (b : Nat) (bk : Bk) : r.add b bk b = some bk := by simp [Ren.add]
theorem Ren.add_other (r : Ren) {b i : Nat} (bk : Bk) (h : i ≠ b) : r.add b bk i = r i := by simp [Ren.add, h]
theorem HR.fresh {P : Program} {r : Ren} {h : AH} {w : World} (hr : HR P r h w) {i : Nat} (hi : h.next ≤ i) : r i = none := by
  cases e : r i with
  | none => rfl
  | some bk => have := (hr.lt i bk e).1; omega
theorem HR.sub_add {P : Program} {r : Ren} {h : AH} {w : World} (hr : HR P r h w) (bk : Bk) : Sub r (r.add h.next bk) := by
  intro b bk' e
  have := (hr.lt b bk' e).1
  rw [Ren.add_other _ _ (by omega)]; exact e

/-- A new block. -/
theorem HR.new {P : Program} {r : Ren} {h : AH} {w w' : World} (hr : HR P r h w) (o : AObj) (ob : Obj) (bk : Bk) (hb : bk.blk = w.heap.size)
    (hw : w'.heap = w.heap.push ob) (ho : OR P (r.add h.next bk) bk o ob) (hos : w'.os = w.os ∧ w'.output = w.output := by exact ⟨rfl, rfl⟩) :
    HR P (r.add h.next bk) (h.new o) w' ∧ Ext r h w (r.add h.next bk) (h.new o) w' := by
  have hs := hr.sub_add bk
  refine ⟨⟨?_, ?_, ?_, ?_⟩, ⟨hs, by rw [hw]; simp, ?_, ?_, ?_, by simp, hos⟩⟩
  · intro b o' e
    rw [AH.get_new] at e
    by_cases hbn : b = h.next
    · subst hbn
      rw [if_pos rfl] at e; cases e
      exact ⟨bk, ob, Ren.add_same _ _ _, by rw [hw, hb]; simp, ho⟩
    · rw [if_neg hbn] at e
      obtain ⟨bk', ob', e1, e2, e3⟩ := hr.live b o' e
      refine ⟨bk', ob', hs _ _ e1, ?_, e3.mono hs⟩
      rw [hw, Array.getElem?_push, if_neg (by have := (hr.lt b bk' e1).2; omega)]; exact e2
  · intro b b' o1 o2 k1 k2 e1 e2 q e3 e4 e5
    rw [AH.get_new] at e1 e2
    by_cases h1 : b = h.next <;> by_cases h2 : b' = h.next
    · omega
    · subst h1
      rw [Ren.add_same] at e3; cases e3
      rw [Ren.add_other _ _ h2] at e4
      have := (hr.lt b' k2 e4).2
      omega
    · subst h2
      rw [Ren.add_same] at e4; cases e4
      rw [Ren.add_other _ _ h1] at e3
      have := (hr.lt b k1 e3).2
      omega
    · rw [if_neg h1] at e1; rw [if_neg h2] at e2
      rw [Ren.add_other _ _ h1] at e3; rw [Ren.add_other _ _ h2] at e4
      exact hr.inj b b' o1 o2 k1 k2 e1 e2 q e3 e4 e5
  · intro b bk' e
    by_cases h1 : b = h.next
    · subst h1; rw [Ren.add_same] at e; cases e; rw [hw]; simp; omega
    · rw [Ren.add_other _ _ h1] at e
      have := hr.lt b bk' e
      rw [hw]; simp; omega
  · intro g hg
    exact hs _ _ (hr.glob g hg)
  · intro b hb2 _
    rw [hw, Array.getElem?_push, if_neg (by omega)]
  · intro i bk' e1 e2
    by_cases h1 : i = h.next
    · subst h1; rw [Ren.add_same] at e2; cases e2; exact .inl (by omega)
    · rw [Ren.add_other _ _ h1] at e2; rw [e1] at e2; cases e2
  · intro i o' e1 e2
    rw [AH.get_new] at e1
    by_cases h1 : i = h.next
    · subst h1; exact .inr (hr.fresh (Nat.le_refl _))
    · rw [if_neg h1] at e1; exact .inl ⟨o', e1, e2⟩

/-- A block turned in place. -/
theorem HR.upd {P : Program} {r : Ren} {h : AH} {w w' : World} (hr : HR P r h w) {b : Nat} {o o' : AObj} {ob' : Obj} {bk : Bk} (hb : h.get b = some o) (hro : o.ro = false) (hk : r b = some bk)
    (hsz : w'.heap.size = w.heap.size) (hw : w'.heap[bk.blk]? = some ob') (hoth : ∀ i, i ≠ bk.blk → w'.heap[i]? = w.heap[i]?) (ho : OR P r bk o' ob') (hos : w'.os = w.os ∧ w'.output = w.output := by exact ⟨rfl, rfl⟩) :
    HR P r (h.set b o') w' ∧ Ext r h w r (h.set b o') w' := by
  refine ⟨⟨?_, ?_, ?_, hr.glob⟩, ⟨.refl _, by omega, ?_, ?_, ?_, by simp, hos⟩⟩
  · intro c oc e
    rw [AH.get_set] at e
    by_cases hc : c = b
    · subst hc; rw [if_pos rfl] at e; cases e; exact ⟨bk, ob', hk, hw, ho⟩
    · rw [if_neg hc] at e
      obtain ⟨bk', obc, e1, e2, e3⟩ := hr.live c oc e
      refine ⟨bk', obc, e1, ?_, e3⟩
      rw [hoth _ (fun hh => hc (hr.inj c b oc o bk' bk e hb (.inr hro) e1 hk hh))]; exact e2
  · intro c c' o1 o2 k1 k2 e1 e2 q e3 e4 e5
    have g : ∀ c o1, (h.set b o').get c = some o1 → ∃ o2, h.get c = some o2 ∧ (o1.ro = false → o2.ro = false) := by
      intro c o1 e
      rw [AH.get_set] at e
      by_cases hc : c = b
      · subst hc; exact ⟨o, hb, fun _ => hro⟩
      · rw [if_neg hc] at e; exact ⟨o1, e, fun q => q⟩
    obtain ⟨p1, q1, t1⟩ := g c o1 e1
    obtain ⟨p2, q2, t2⟩ := g c' o2 e2
    exact hr.inj c c' p1 p2 k1 k2 q1 q2 (q.imp t1 t2) e3 e4 e5
  · intro c bk' e
    have := hr.lt c bk' e
    exact ⟨by simpa using this.1, by omega⟩
  · intro c hc hn
    exact hoth c (fun hh => hn b o bk hb hro hk hh.symm)
  · intro i bk' e1 e2; rw [e1] at e2; cases e2
  · intro i oi e1 e2
    rw [AH.get_set] at e1
    by_cases hc : i = b
    · subst hc; exact .inl ⟨o, hb, hro⟩
    · rw [if_neg hc] at e1; exact .inl ⟨oi, e1, e2⟩

/-- A block forgotten. -/
theorem HR.del {P : Program} {r : Ren} {h : AH} {w : World} (hr : HR P r h w) (b : Nat) : HR P r (h.del b) w := by
  have g : ∀ c o1, (h.del b).get c = some o1 → h.get c = some o1 := by
    intro c o1 e
    rw [AH.get_del] at e
    by_cases hc : c = b
    · rw [if_pos hc] at e; cases e
    · rw [if_neg hc] at e; exact e
  exact ⟨fun c o e => hr.live c o (g c o e), fun c c' o o' k k' e e' q => hr.inj c c' o o' k k' (g _ _ e) (g _ _ e') q, hr.lt, hr.glob⟩
theorem Ext.del {r r' : Ren} {h h' : AH} {w w' : World} (x : Ext r h w r' h' w') (b : Nat) : Ext r h w r' (h'.del b) w' := by
  refine ⟨x.sub, x.size, x.keep, x.new, ?_, x.next, x.os⟩
  intro i o' e1 e2
  rw [AH.get_del] at e1
  by_cases hc : i = b
  · rw [if_pos hc] at e1; cases e1
  · rw [if_neg hc] at e1; exact x.back i o' e1 e2
end
end Go.Proofs.YtknchhnibjfocaaDoor.Abs
