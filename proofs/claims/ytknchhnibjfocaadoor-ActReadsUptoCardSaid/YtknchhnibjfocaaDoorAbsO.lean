/- An abstract machine: frames, and the model's steps. -/
import Derived.Test.YtknchhnibjfocaaDoorAbsN
import Derived.Defers
namespace Go.Proofs.YtknchhnibjfocaaDoor.Abs
open Go
noncomputable section

inductive AItem where
  | code (c : Code)
  | inBlock (id : Nat)
  | inLoop (body : Code)
  | inScope (body : Code)
  | ops (all : Array Oper) (rest : List Oper)
  | inRange (l : Nat)
  | endRange (l : Nat)
  | beginRound

structure AFrame where
  fn : Nat
  size : Nat
  tm : PM Value
  todo : List AItem
  defers : List Deferred
  mode : FrameMode
  kind : CallKind
  round : Option Nat

structure Conf where
  fr : AFrame
  cs : List AFrame
  h : AH

inductive Fin where
  | next (c : Conf)
  | ret (fn : Nat) (v : Value) (h : AH)
  | stuck

inductive All2 {α β : Type} (R : α → β → Prop) : List α → List β → Prop
  | nil : All2 R [] []
  | cons {a b l m} : R a b → All2 R l m → All2 R (a :: l) (b :: m)

theorem All2.mono {α β : Type} {R S : α → β → Prop} (hs : ∀ a b, R a b → S a b) {l : List α} {m : List β} (h : All2 R l m) : All2 S l m := by
  induction h with
  | nil => exact .nil
  | cons h _ ih => exact .cons (hs _ _ h) ih
theorem All2.append {α β : Type} {R : α → β → Prop} {l : List α} {m : List β} {l2 : List α} {m2 : List β} (h : All2 R l m) (h2 : All2 R l2 m2) : All2 R (l ++ l2) (m ++ m2) := by
  induction h with
  | nil => exact h2
  | cons h _ ih => exact .cons h ih

inductive IR (r : Ren) : AItem → Item → Prop
  | code (c) : IR r (.code c) (.code c)
  | inBlock (i) : IR r (.inBlock i) (.inBlock i)
  | inLoop (c) : IR r (.inLoop c) (.inLoop c)
  | inScope (c) : IR r (.inScope c) (.inScope c)
  | ops (all : Array Oper) (rest : List Oper) (is : List Nat) : is.map (fun i => all[i]?) = rest.map some → IR r (.ops all rest) (.inRegion all is)
  | inRange (l) (bk : Bk) : r l = some bk → IR r (.inRange l) (.inRangeFunc bk.blk)
  | endRange (l) (bk : Bk) : r l = some bk → IR r (.endRange l) (.endRangeFunc bk.blk)
  | beginRound : IR r .beginRound .beginRound
theorem IR.mono {r r' : Ren} (s : Sub r r') {a : AItem} {b : Item} (h : IR r a b) : IR r' a b := by
  cases h with
  | ops all rest is e => exact .ops all rest is e
  | inRange l bk e => exact .inRange l bk (s _ _ e)
  | endRange l bk e => exact .endRange l bk (s _ _ e)
  | _ => constructor

def PER (r : Ren) (a b : PanicEntry) : Prop := VR r a.v b.v ∧ b.recovered = a.recovered ∧ b.goexit = a.goexit
inductive MoR (r : Ren) : FrameMode → FrameMode → Prop
  | run : MoR r .run .run
  | returning : MoR r .returning .returning
  | panicking (c c') : All2 (PER r) c c' → MoR r (.panicking c) (.panicking c')
theorem PER.mono {r r' : Ren} (s : Sub r r') {a b : PanicEntry} (h : PER r a b) : PER r' a b := ⟨h.1.mono s, h.2⟩
theorem MoR.mono {r r' : Ren} (s : Sub r r') {a b : FrameMode} (h : MoR r a b) : MoR r' a b := by
  cases h with
  | panicking c c' hc => exact .panicking c c' (hc.mono fun _ _ h => h.mono s)
  | _ => constructor
inductive RoR (r : Ren) : Option Nat → Option Nat → Prop
  | none : RoR r none none
  | some (l) (bk : Bk) : r l = some bk → RoR r (some l) (some bk.blk)
theorem RoR.mono {r r' : Ren} (s : Sub r r') {a b : Option Nat} (h : RoR r a b) : RoR r' a b := by
  cases h with
  | none => exact .none
  | some l bk e => exact .some l bk (s _ _ e)

theorem TR.mono {r r' : Ren} (s : Sub r r') {tm : PM Value} {a : Array Value} (h : TR r tm a) : TR r' tm a := fun t v e => (h t v e).mono s

structure FR (r : Ren) (f : AFrame) (f' : Frame) : Prop where
  fn : f'.fn = f.fn
  size : f'.tmps.size = f.size
  tm : TR r f.tm f'.tmps
  un : ∀ t, f.tm.get t = none → f'.tmps.getD t undef = undef
  todo : All2 (IR r) f.todo f'.todo
  defers : All2 (DefR r) f.defers f'.defers
  mode : MoR r f.mode f'.mode
  kind : f'.kind = f.kind
  round : RoR r f.round f'.roundOf
theorem FR.mono {r r' : Ren} (s : Sub r r') {f : AFrame} {f' : Frame} (h : FR r f f') : FR r' f f' :=
  ⟨h.fn, h.size, h.tm.mono s, h.un, h.todo.mono fun _ _ h => h.mono s, h.defers.mono fun _ _ h => h.mono s, h.mode.mono s, h.kind, h.round.mono s⟩

/- The model's steps. -/
section steps
variable {P : Program} {fr : Frame} {cs : List Frame} {w : World} {k : List Item}

theorem st_skip (hm : fr.mode = .run) (ht : fr.todo = .code .skip :: k) : step P (lone fr cs w) = .next (lone { fr with todo := k } cs w) := step_lone_go (by simp [stepG, stepG.exec, hm, ht])
theorem st_label {l : Nat} (hm : fr.mode = .run) (ht : fr.todo = .code (.label l) :: k) : step P (lone fr cs w) = .next (lone { fr with todo := k } cs w) := step_lone_go (by simp [stepG, stepG.exec, hm, ht])
theorem st_inBlock {l : Nat} (hm : fr.mode = .run) (ht : fr.todo = .inBlock l :: k) : step P (lone fr cs w) = .next (lone { fr with todo := k } cs w) := step_lone_go (by simp [stepG, stepG.exec, hm, ht])
theorem st_inScope {c : Code} (hm : fr.mode = .run) (ht : fr.todo = .inScope c :: k) : step P (lone fr cs w) = .next (lone { fr with todo := k } cs w) := step_lone_go (by simp [stepG, stepG.exec, hm, ht])
theorem st_seq {a b : Code} (hm : fr.mode = .run) (ht : fr.todo = .code (.seq a b) :: k) : step P (lone fr cs w) = .next (lone { fr with todo := .code a :: .code b :: k } cs w) := step_lone_go (by simp [stepG, stepG.exec, hm, ht])
theorem st_cond {c : Operand} {x y : Code} {b : Bool} (hm : fr.mode = .run) (ht : fr.todo = .code (.cond c x y) :: k) (hc : fr.eval c = .bool b) : step P (lone fr cs w) = .next (lone { fr with todo := .code (if b then x else y) :: k } cs w) :=
  step_lone_go (by simp [stepG, stepG.exec, hm, ht, hc])
theorem st_block {i : Nat} {c : Code} (hm : fr.mode = .run) (ht : fr.todo = .code (.block i c) :: k) : step P (lone fr cs w) = .next (lone { fr with todo := .code c :: .inBlock i :: k } cs w) := step_lone_go (by simp [stepG, stepG.exec, hm, ht])
theorem st_loop {c : Code} (hm : fr.mode = .run) (ht : fr.todo = .code (.loop c) :: k) : step P (lone fr cs w) = .next (lone { fr with todo := .code c :: .inLoop c :: k } cs w) := step_lone_go (by simp [stepG, stepG.exec, hm, ht])
theorem st_inLoop {c : Code} (hm : fr.mode = .run) (ht : fr.todo = .inLoop c :: k) : step P (lone fr cs w) = .next (lone { fr with todo := .code c :: .inLoop c :: k } cs w) := step_lone_go (by simp [stepG, stepG.exec, hm, ht])
theorem st_scope {c : Code} (hm : fr.mode = .run) (ht : fr.todo = .code (.scope c) :: k) : step P (lone fr cs w) = .next (lone { fr with todo := .code c :: .inScope c :: k } cs w) := step_lone_go (by simp [stepG, stepG.exec, hm, ht])
theorem st_exit {i : Nat} {k' : List Item} (hm : fr.mode = .run) (ht : fr.todo = .code (.exit i) :: k) (hk : exitTo i k = some k') : step P (lone fr cs w) = .next (lone { fr with todo := k' } cs w) := step_lone_go (by simp [stepG, stepG.exec, hm, ht, hk])
theorem st_goto {i : Nat} {k' : List Item} (hm : fr.mode = .run) (ht : fr.todo = .code (.goto i) :: k) (hk : gotoIn i k = some k') : step P (lone fr cs w) = .next (lone { fr with todo := k' } cs w) := step_lone_go (by simp [stepG, stepG.exec, hm, ht, hk])
theorem st_ret (hm : fr.mode = .run) (ht : fr.todo = .code .ret :: k) (hro : fr.roundOf = none) : step P (lone fr cs w) = .next (lone { fr with mode := .returning } cs w) := step_lone_go (by simp [stepG, stepG.exec, hm, ht, hro])
theorem st_end (hm : fr.mode = .run) (ht : fr.todo = []) (hro : fr.roundOf = none) : step P (lone fr cs w) = .next (lone { fr with mode := .returning } cs w) := step_lone_go (by simp [stepG, stepG.exec, hm, ht, hro])
theorem st_region {i : Nat} {ops : Array Oper} (hm : fr.mode = .run) (ht : fr.todo = .code (.region i ops false) :: k) : step P (lone fr cs w) = .next (lone { fr with todo := .inRegion ops (List.range ops.size) :: k } cs w) :=
  step_lone_go (by simp [stepG, stepG.exec, hm, ht])
theorem st_region_draw {i : Nat} {ops : Array Oper} (hm : fr.mode = .run) (ht : fr.todo = .code (.region i ops true) :: k) :
    step P (lone fr cs w) = .next (lone { fr with todo := .inRegion ops (Region.schedule (P.follows .mixedOrders) ops (w.tape w.drawn (.order fr.fn i))) :: k } cs { w with drawn := w.drawn + 1 }) :=
  step_lone_go (by simp [stepG, stepG.exec, hm, ht, choose, Sem.run, Question.forced, Question.cut])
theorem st_region_end {ops : Array Oper} (hm : fr.mode = .run) (ht : fr.todo = .inRegion ops [] :: k) : step P (lone fr cs w) = .next (lone { fr with todo := k } cs w) := step_lone_go (by simp [stepG, stepG.exec, hm, ht])

variable {ops : Array Oper} {i : Nat} {rest : List Nat} {o : Oper}
theorem st_unwanted (hm : fr.mode = .run) (ht : fr.todo = .inRegion ops (i :: rest) :: k) (ho : ops[i]? = some o) (hw : Region.wanted o (yielded ops fr.tmps) = false) : step P (lone fr cs w) = .next (lone (fr.finish undef) cs w) :=
  step_lone_go (by simp [stepG, stepG.exec, hm, ht, ho, hw])

theorem stepG_oper (hm : fr.mode = .run) (ht : fr.todo = .inRegion ops (i :: rest) :: k) (ho : ops[i]? = some o) (hw : Region.wanted o (yielded ops fr.tmps) = true) (hd : fr.roundOf = none ∨ ∀ c, o.op ≠ .defer c) :
    stepG P true { frame := fr, callers := cs, status := .running, dying := none } w = stepG.apply P true fr cs none (execOp fr.eval o) w := by
  rcases hd with hd | hd
  · simp [stepG, stepG.exec, stepG.oper, Frame.oper?, hm, ht, ho, hw, hd]
  · simp only [stepG, stepG.exec, hm, ht, ho, hw, Option.map_some, Option.getD_some, if_true, stepG.oper, Frame.oper?]
    split
    · rename_i h1 h2; first | exact absurd h2 (hd _) | exact absurd h1 (hd _)
    · rfl

variable (hm : fr.mode = .run) (ht : fr.todo = .inRegion ops (i :: rest) :: k) (ho : ops[i]? = some o) (hw : Region.wanted o (yielded ops fr.tmps) = true) (hd : fr.roundOf = none ∨ ∀ c, o.op ≠ .defer c)
include hm ht ho hw hd
theorem st_value {v : Value} {w' : World} (hr : (execOp fr.eval o).run P w = .ok (.value v) w') : step P (lone fr cs w) = .next (lone (fr.finish v) cs w') :=
  step_lone_go (by rw [stepG_oper hm ht ho hw hd]; simp [stepG.apply, hr])
theorem st_sk {w' : World} (hr : (execOp fr.eval o).run P w = .ok .skip w') : step P (lone fr cs w) = .next (lone (fr.finish undef) cs w') :=
  step_lone_go (by rw [stepG_oper hm ht ho hw hd]; simp [stepG.apply, hr])
theorem st_enter {f : FuncId} {args : Array Value} {w' : World} (hr : (execOp fr.eval o).run P w = .ok (.enter f args) w') : step P (lone fr cs w) = .next (lone (Frame.enter P f args .normal) (fr :: cs) w') :=
  step_lone_go (by rw [stepG_oper hm ht ho hw hd]; simp [stepG.apply, hr, ht])
theorem st_round {l f : Nat} {tmps : Array Value} {a b : Code} {w' : World} (hr : (execOp fr.eval o).run P w = .ok (.round l f tmps a b) w') : step P (lone fr cs w) = .next (lone (Frame.round l f tmps a b .normal) (fr :: cs) w') :=
  step_lone_go (by rw [stepG_oper hm ht ho hw hd]; simp [stepG.apply, hr])
theorem st_panic {v : Value} {w' : World} (hr : (execOp fr.eval o).run P w = .halt (.panic v) w') : step P (lone fr cs w) = .next (lone (fr.raise [{ v, recovered := false }]) cs w') :=
  step_lone_go (by rw [stepG_oper hm ht ho hw hd]; simp [stepG.apply, hr])
theorem st_defer {d : Deferred} {w' : World} (hr : (execOp fr.eval o).run P w = .ok (.defer d) w') : step P (lone fr cs w) = .next (lone (({ fr with defers := d :: fr.defers } : Frame).finish undef) cs w') :=
  step_lone_go (by rw [stepG_oper hm ht ho hw hd]; simp [stepG.apply, hr])
theorem st_recover {w' : World} (hro : fr.roundOf = none) (hr : (execOp fr.eval o).run P w = .ok .recover w') :
    step P (lone fr cs w) = .next (match tryRecover fr cs with | some (v, cs2) => lone (fr.finish v) cs2 w' | none => lone (fr.finish .nilIface) cs w') := by
  cases ht2 : tryRecover fr cs with
  | none => exact step_lone_go (by rw [stepG_oper hm ht ho hw hd]; simp [stepG.apply, hr, hro, ht2])
  | some p => exact step_lone_go (by rw [stepG_oper hm ht ho hw hd]; simp [stepG.apply, hr, hro, ht2])
end steps
end
end Go.Proofs.YtknchhnibjfocaaDoor.Abs
