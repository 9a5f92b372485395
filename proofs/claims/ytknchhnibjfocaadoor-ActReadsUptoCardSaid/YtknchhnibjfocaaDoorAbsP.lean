/- An abstract machine: the steps of the machine, and that the model follows them. -/
import Derived.Test.YtknchhnibjfocaaDoorAbsO
namespace Go.Proofs.YtknchhnibjfocaaDoor.Abs
open Go
noncomputable section

def putT (size : Nat) (tm : PM Value) (dst : Option Nat) (v : Value) : Option (PM Value) :=
  match dst with
  | none => some tm
  | some d => ifB (Nat.blt d size) (some (tm.set d v)) none

def exitToA (id : Nat) : List AItem → Option (List AItem)
  | .inBlock id' :: k => ifB (Nat.beq id' id) (some k) (exitToA id k)
  | _ :: k => exitToA id k
  | [] => none

def gotoInA (l : Nat) : List AItem → Option (List AItem)
  | .inScope body :: k => match findLabel body l with
    | some rest => some (.code rest :: .inScope body :: k)
    | none => gotoInA l k
  | _ :: k => gotoInA l k
  | [] => none

/-- Is the operation wanted? Where the guard is not known: none. -/
def wantedA (all : Array Oper) (tm : PM Value) (o : Oper) : Option Bool :=
  match o.guard with
  | none => some true
  | some (j, want) => match (all[j]?).bind (·.dst) with
    | none => some false
    | some d => match tm.get d with
      | some (.bool b) => some (match b, want with | true, true => true | false, false => true | _, _ => false)
      | some _ => some false
      | none => none

def enterA (T : Tab) (f : Nat) (args : List Value) (kind : CallKind) : Option AFrame :=
  match T.ft.get f with
  | some fd => match fd.body with
    | some c => ifB (Nat.ble args.length fd.ntmps) (some { fn := f, size := fd.ntmps, tm := PM.ofList args, todo := [.code c], defers := [], mode := .run, kind := kind, round := none }) none
    | none => none
  | none => none

/-- The same frame with other things to do. -/
def AFrame.to (fr : AFrame) (todo : List AItem) : AFrame := match fr with
  | ⟨a, b, c, _, e, f, g, i⟩ => ⟨a, b, c, todo, e, f, g, i⟩
def AFrame.upd (fr : AFrame) (tm : PM Value) (todo : List AItem) : AFrame := match fr with
  | ⟨a, b, _, _, e, f, g, i⟩ => ⟨a, b, tm, todo, e, f, g, i⟩

def goOn (fr : AFrame) (cs : List AFrame) (h : AH) : Fin := .next ⟨fr, cs, h⟩

/-- The operations up to the first one that leaves the frame. -/
def opsLoop (T : Tab) (X : Exts) (fr : AFrame) (cs : List AFrame) (all : Array Oper) (k : List AItem) : List Oper → PM Value → AH → Fin
  | [], tm, h => goOn (fr.upd tm (k)) cs h
  | o :: rest, tm, h => match wantedA all tm o with
    | some true => match evOp T X tm o h with
      | some (.value v, h) => match putT fr.size tm o.dst v with
        | some tm => opsLoop T X fr cs all k rest tm h
        | none => .stuck
      | some (.skip, h) => match putT fr.size tm o.dst undef with
        | some tm => opsLoop T X fr cs all k rest tm h
        | none => .stuck
      | some (.enter f args, h) => match enterA T f args .normal with
        | some c => goOn c ((fr.upd tm (.ops all (o :: rest) :: k)) :: cs) h
        | none => .stuck
      | some (.round l f tmps a b, h) =>
        goOn { fn := f, size := tmps.length, tm := PM.ofList tmps, todo := [.code a, .beginRound, .code b], defers := [], mode := .run, kind := .normal, round := some l }
          ((fr.upd tm (.ops all (o :: rest) :: k)) :: cs) h
      | _ => .stuck
    | some false => match putT fr.size tm o.dst undef with
        | some tm => opsLoop T X fr cs all k rest tm h
        | none => .stuck
    | none => .stuck

/-- A list of results. -/
def resultsA (T : Tab) (h : AH) (tm : PM Value) : List ResultVar → Option (List Value)
  | [] => some []
  | .tmp t :: r => match tm.get t with
    | some v => match resultsA T h tm r with
      | some l => some (v :: l)
      | none => none
    | none => none
  | .cell a t :: r => match tm.get a with
    | some (.pointer (some a)) => match loadVarA T t a.block a.off h with
      | some v => match resultsA T h tm r with
        | some l => some (v :: l)
        | none => none
      | none => none
    | _ => none
def one (l : List Value) : Value := match l with
  | [v] => v
  | l => .tuple l.toArray
def resultA (T : Tab) (f : Nat) (tm : PM Value) (h : AH) : Option Value :=
  match T.ft.get f with
  | some fn => match resultsA T h tm fn.results.toList with
    | some l => some (one l)
    | none => none
  | none => none

/-- The value goes where the caller's operation says. -/
def finishA (fr : AFrame) (v : Value) : Option AFrame :=
  match fr.todo with
  | .ops all (o :: rest) :: k => match putT fr.size fr.tm o.dst v with
    | some tm => some (fr.upd tm (.ops all rest :: k))
    | none => none
  | .inRange l :: k => some (fr.to (.endRange l :: k))
  | _ => none

def doRetA (cs : List AFrame) (v : Value) (h : AH) : Fin :=
  match cs with
  | c :: rest => match finishA c v with
    | some c => goOn c rest h
    | none => .stuck
  | [] => .stuck

def isNormal : CallKind → Bool
  | .normal => true
  | _ => false

def stAfter : Option Code → LoopState
  | none => .ready
  | some _ => .done

/-- The end of a frame's code, or a jump out of it. -/
def leaveA (fr : AFrame) (cs : List AFrame) (h : AH) (jump : Option Code) : Fin :=
  match fr.round with
  | none => match jump with
    | none => goOn { fr with mode := .returning } cs h
    | some .ret => goOn { fr with mode := .returning } cs h
    | _ => .stuck
  | some l => match h.get l with
    | some (.loop r) => match isNormal fr.kind with
      | true => doRetA cs (.bool jump.isNone) (h.set l (.loop { r with state := stAfter jump, pending := jump }))
      | false => .stuck
    | _ => .stuck

def tmpsOf (size : Nat) (tm : PM Value) : List Value := (List.range size).map fun i => (tm.get i).getD undef

/-- A function that a range statement calls. -/
def rangeA (T : Tab) (X : Exts) (fr : AFrame) (cs : List AFrame) (f : Operand) (params : Array Tmp) (assign body : Code) (k : List AItem) (bd : Nat) (mark : List Deferred) (h1 : AH) : Fin :=
  match ev T fr.tm f with
  | some fv => match evCall T X fv [.func (.yield h1.next) #[] #[]]
      (h1.new (.loop { state := .ready, pending := none, fn := fr.fn, tmps := (tmpsOf fr.size fr.tm).toArray, params := params, assign := assign, body := body, defers := bd })) with
    | some (.enter g args, h) => match enterA T g args .normal with
      | some c => goOn c ({ fr with todo := .inRange h1.next :: k, defers := mark ++ fr.defers } :: cs) h
      | none => .stuck
    | _ => .stuck
  | none => .stuck

def stepCode (T : Tab) (X : Exts) (D : AFrame → List AFrame → AH → Nat → Array Oper → List AItem → Fin) (fr : AFrame) (cs : List AFrame) (h : AH) (c : Code) (k : List AItem) : Fin :=
  match c with
  | .ret => leaveA fr cs h (some .ret)
  | .skip => goOn (fr.to (k)) cs h
  | .label _ => goOn (fr.to (k)) cs h
  | .seq a b => goOn (fr.to (.code a :: .code b :: k)) cs h
  | .cond c x y => match ev T fr.tm c with
    | some (.bool b) => goOn (fr.to (.code (ifB b x y) :: k)) cs h
    | _ => .stuck
  | .block id body => goOn (fr.to (.code body :: .inBlock id :: k)) cs h
  | .loop body => goOn (fr.to (.code body :: .inLoop body :: k)) cs h
  | .scope body => goOn (fr.to (.code body :: .inScope body :: k)) cs h
  | .exit id => match exitToA id k with
    | some k => goOn (fr.to (k)) cs h
    | none => match fr.round with
      | some _ => leaveA fr cs h (some (.exit id))
      | none => .stuck
  | .goto l => match gotoInA l k with
    | some k => goOn (fr.to (k)) cs h
    | none => match fr.round with
      | some _ => leaveA fr cs h (some (.goto l))
      | none => .stuck
  | .region id ops draw => match draw with
    | false => opsLoop T X fr cs ops k ops.toList fr.tm h
    | true => D fr cs h id ops k
  | .rangeFunc f params assign body => match fr.round with
    | none => rangeA T X fr cs f params assign body k h.next [{ target := .collected h.next, args := #[] }] (h.new (.defs (some [])))
    | some l => match h.get l with
      | some (.loop r) => rangeA T X fr cs f params assign body k r.defers [] h
      | _ => .stuck
  | .refuse _ => .stuck

def stepA (T : Tab) (X : Exts) (D : AFrame → List AFrame → AH → Nat → Array Oper → List AItem → Fin) (fr : AFrame) (cs : List AFrame) (h : AH) : Fin :=
  match fr.mode with
  | .run => match fr.todo with
    | [] => leaveA fr cs h none
    | .code c :: k => stepCode T X D fr cs h c k
    | .inBlock _ :: k => goOn (fr.to (k)) cs h
    | .inScope _ :: k => goOn (fr.to (k)) cs h
    | .inLoop b :: k => goOn (fr.to (.code b :: .inLoop b :: k)) cs h
    | .ops all rest :: k => opsLoop T X fr cs all k rest fr.tm h
    | .inRange _ :: _ => .stuck
    | .beginRound :: k => match fr.round with
      | some l => match h.get l with
        | some (.loop r) => match r.state with
          | .ready => goOn (fr.to (k)) cs (h.set l (.loop { r with state := .busy }))
          | _ => .stuck
        | _ => .stuck
      | none => .stuck
    | .endRange l :: k => match h.get l with
      | some (.loop r) => match r.state with
        | .busy => .stuck
        | _ => goOn (fr.to ((r.pending.map AItem.code).toList ++ k)) cs (h.set l (.loop { r with state := .exhausted }))
      | _ => .stuck
  | .returning => match fr.defers with
    | { target := .collected b, .. } :: ds => match h.get b with
      | some (.defs (some l)) => goOn { fr with defers := l ++ ds } cs (h.set b (.defs none))
      | _ => .stuck
    | _ :: _ => .stuck
    | [] => match isNormal fr.kind with
      | true => match resultA T fr.fn fr.tm h with
        | some v => match cs with
          | [] => .ret fr.fn v h
          | _ => doRetA cs v h
        | none => .stuck
      | false => .stuck
  | .panicking _ => .stuck

/- Soundness. -/
structure CR (r : Ren) (base : List Frame) (c : List AFrame) (cs : List Frame) : Prop where
  ex : ∃ l, cs = l ++ base ∧ All2 (FR r) c l
theorem CR.mono {r r' : Ren} (s : Sub r r') {base : List Frame} {c : List AFrame} {cs : List Frame} (h : CR r base c cs) : CR r' base c cs := by
  obtain ⟨l, e, h⟩ := h.ex
  exact ⟨l, e, h.mono fun _ _ h => h.mono s⟩
theorem CR.cons {r : Ren} {base : List Frame} {c : List AFrame} {cs : List Frame} (h : CR r base c cs) {f : AFrame} {f' : Frame} (hf : FR r f f') : CR r base (f :: c) (f' :: cs) := by
  obtain ⟨l, e, h⟩ := h.ex
  exact ⟨f' :: l, by rw [e]; rfl, .cons hf h⟩
theorem CR.nil_inv {r : Ren} {base : List Frame} {cs : List Frame} (h : CR r base [] cs) : cs = base := by
  obtain ⟨l, e, h⟩ := h.ex
  cases h; exact e
theorem CR.cons_inv {r : Ren} {base : List Frame} {f : AFrame} {c : List AFrame} {cs : List Frame} (h : CR r base (f :: c) cs) : ∃ f' cs', cs = f' :: cs' ∧ FR r f f' ∧ CR r base c cs' := by
  obtain ⟨l, e, h⟩ := h.ex
  cases h with
  | cons h1 h2 => exact ⟨_, _, e, h1, ⟨_, rfl, h2⟩⟩

def FinOK (P : Program) (base : List Frame) (r : Ren) (h : AH) (w : World) (fr : Frame) (cs : List Frame) : Fin → Prop
  | .next c => ∃ r2 w2 fr2 cs2, Steps P (lone fr cs w) (lone fr2 cs2 w2) ∧ FR r2 c.fr fr2 ∧ CR r2 base c.cs cs2 ∧ HR P r2 c.h w2 ∧ Ext r h w r2 c.h w2
  | .ret fn v h2 => ∃ r2 w2 fr2 v2, Steps P (lone fr cs w) (lone fr2 base w2) ∧ fr2.fn = fn ∧ fr2.leaving P w2 (.returned v2) ∧ VR r2 v v2 ∧ HR P r2 h2 w2 ∧ Ext r h w r2 h2 w2
  | .stuck => True

theorem FinOK.of_steps {P : Program} {base : List Frame} {r r1 : Ren} {h h1 : AH} {w w1 : World} {fr fr1 : Frame} {cs cs1 : List Frame} (hr : HR P r h w)
    (hs : Steps P (lone fr cs w) (lone fr1 cs1 w1)) (hx : Ext r h w r1 h1 w1) {e : Fin} (hf : FinOK P base r1 h1 w1 fr1 cs1 e) : FinOK P base r h w fr cs e := by
  cases e with
  | next c => obtain ⟨r2, w2, fr2, cs2, p1, p2, p3, p4, p5⟩ := hf; exact ⟨r2, w2, fr2, cs2, hs.trans p1, p2, p3, p4, hx.trans hr p5⟩
  | ret fn v h2 => obtain ⟨r2, w2, fr2, v2, p1, p2, p3, p4, p5, p6⟩ := hf; exact ⟨r2, w2, fr2, v2, hs.trans p1, p2, p3, p4, p5, hx.trans hr p6⟩
  | stuck => trivial

theorem FinOK.go {P : Program} {base : List Frame} {r r1 : Ren} {h h1 : AH} {w w1 : World} {fr fr1 : Frame} {cs cs1 : List Frame} (hs : Go.step P (lone fr cs w) = .next (lone fr1 cs1 w1)) (hx : Ext r h w r1 h1 w1)
    {f : AFrame} {c : List AFrame} (hf : FR r1 f fr1) (hc : CR r1 base c cs1) (hh : HR P r1 h1 w1) : FinOK P base r h w fr cs (goOn f c h1) :=
  ⟨r1, w1, fr1, cs1, .one hs, hf, hc, hh, hx⟩

def putF (dst : Option Nat) (v : Value) (a : Array Value) : Array Value := match dst with | some d => a.setIfInBounds d v | none => a
theorem putF_size (dst : Option Nat) (v : Value) (a : Array Value) : (putF dst v a).size = a.size := by cases dst <;> simp [putF]
theorem finish_ops {f : Frame} {all : Array Oper} {i : Nat} {is : List Nat} {k : List Item} {o : Oper} (ht : f.todo = .inRegion all (i :: is) :: k) (ho : all[i]? = some o) (v : Value) :
    f.finish v = { f with tmps := putF o.dst v f.tmps, todo := .inRegion all is :: k } := by
  unfold Frame.finish
  rw [ht]
  simp only [ho, Option.bind_some]
  cases o.dst <;> rfl
theorem putT_sound {r : Ren} {size : Nat} {tm tm2 : PM Value} {dst : Option Nat} {v v' : Value} {a : Array Value} (hs : a.size = size) (ht : TR r tm a) (hu : ∀ t, tm.get t = none → a.getD t undef = undef) (hv : VR r v v')
    (e : putT size tm dst v = some tm2) :
    TR r tm2 (putF dst v' a) ∧ (∀ t, tm2.get t = none → (putF dst v' a).getD t undef = undef) := by
  cases dst with
  | none => cases e; exact ⟨ht, hu⟩
  | some d =>
    obtain ⟨e1, e2⟩ := ifB_some e
    cases e2
    have hd := blt_lt e1
    constructor
    · intro t x hx
      rw [PM.get_set] at hx
      by_cases h : t = d
      · subst h; rw [if_pos rfl] at hx; cases hx
        simpa [putF, Array.getD_eq_getD_getElem?, Array.getElem?_setIfInBounds, hs, hd] using hv
      · rw [if_neg h] at hx
        have := ht t x hx
        simpa [putF, Array.getD_eq_getD_getElem?, Array.getElem?_setIfInBounds_ne (Ne.symm h)] using this
    · intro t hx
      rw [PM.get_set] at hx
      by_cases h : t = d
      · subst h; rw [if_pos rfl] at hx; cases hx
      · rw [if_neg h] at hx
        have := hu t hx
        simpa [putF, Array.getD_eq_getD_getElem?, Array.getElem?_setIfInBounds_ne (Ne.symm h)] using this

theorem IR.ops_cons {r : Ren} {all : Array Oper} {o : Oper} {rest : List Oper} {b : Item} (h : IR r (.ops all (o :: rest)) b) :
    ∃ i is, b = .inRegion all (i :: is) ∧ all[i]? = some o ∧ IR r (.ops all rest) (.inRegion all is) := by
  cases h with
  | ops _ _ is e =>
    cases is with
    | nil => simp at e
    | cons i is =>
      simp only [List.map_cons, List.cons.injEq] at e
      exact ⟨i, is, rfl, e.1, .ops all rest is e.2⟩
theorem IR.ops_nil {r : Ren} {all : Array Oper} {b : Item} (h : IR r (.ops all []) b) : b = .inRegion all [] := by
  cases h with
  | ops _ _ is e => cases is with
    | nil => rfl
    | cons i is => simp at e

theorem All2.cons_inv {α β : Type} {R : α → β → Prop} {a : α} {l : List α} {m : List β} (h : All2 R (a :: l) m) : ∃ b m', m = b :: m' ∧ R a b ∧ All2 R l m' := by
  cases h with
  | cons h1 h2 => exact ⟨_, _, rfl, h1, h2⟩
theorem All2.nil_inv {α β : Type} {R : α → β → Prop} {m : List β} (h : All2 R [] m) : m = [] := by cases h; rfl

theorem FR.finish {r : Ren} {fr : AFrame} {f : Frame} (hf : FR r fr f) {v v' : Value} (hv : VR r v v') {c : AFrame} (e : finishA fr v = some c) : FR r c (f.finish v') := by
  unfold finishA at e
  split at e
  · rename_i all o rest k ht
    split at e
    · rename_i tm htm
      cases e
      have h1 := hf.todo
      rw [ht] at h1
      obtain ⟨b, k', h2, h3, h4⟩ := h1.cons_inv
      obtain ⟨i, is, rfl, h5, h6⟩ := h3.ops_cons
      obtain ⟨p1, p2⟩ := putT_sound hf.size hf.tm hf.un hv htm
      rw [finish_ops h2 h5]
      exact ⟨hf.fn, (putF_size _ _ _).trans hf.size, p1, p2, .cons h6 h4, hf.defers, hf.mode, hf.kind, hf.round⟩
    · cases e
  · rename_i l k ht
    cases e
    have h1 := hf.todo
    rw [ht] at h1
    obtain ⟨b, k', h2, h3, h4⟩ := h1.cons_inv
    cases h3 with
    | inRange _ bk hb =>
      have hfin : f.finish v' = { f with todo := .endRangeFunc bk.blk :: k' } := by
        unfold Frame.finish
        rw [h2]
      rw [hfin]
      exact ⟨hf.fn, hf.size, hf.tm, hf.un, .cons (.endRange l bk hb) h4, hf.defers, hf.mode, hf.kind, hf.round⟩
  · cases e

theorem wantedA_sound {r : Ren} {all : Array Oper} {tm : PM Value} {a : Array Value} (hs : TR r tm a) {size : Nat} (_hsz : a.size = size) {o : Oper} {b : Bool} (e : wantedA all tm o = some b) : Region.wanted o (yielded all a) = b := by
  unfold wantedA at e
  unfold Region.wanted
  split at e
  · rename_i h; rw [h]; cases e; rfl
  · rename_i j want h
    rw [h]
    simp only
    split at e
    · rename_i hd
      cases e
      simp [yielded, hd]
    · rename_i d hd
      unfold yielded
      rw [hd]
      split at e
      · rename_i x hx
        have hv := hs d _ hx
        rw [Array.getD_eq_getD_getElem?] at hv
        cases hg : a[d]? with
        | none => rw [hg] at hv; simp only [Option.getD_none, undef] at hv; cases hv
        | some y =>
          rw [hg] at hv
          simp only [Option.getD_some] at hv
          cases hv
          simp only [Option.bind_some, hg]
          cases x <;> cases want <;> cases e <;> rfl
      · rename_i x hx hx1
        cases e
        have hv := hs d _ hx1
        rw [Array.getD_eq_getD_getElem?] at hv
        simp only [Option.bind_some]
        cases hg : a[d]? with
        | none => rfl
        | some y =>
          rw [hg] at hv
          simp only [Option.getD_some] at hv
          cases hv <;> first | rfl | exact absurd rfl (hx _)
      · cases e
end
end Go.Proofs.YtknchhnibjfocaaDoor.Abs
