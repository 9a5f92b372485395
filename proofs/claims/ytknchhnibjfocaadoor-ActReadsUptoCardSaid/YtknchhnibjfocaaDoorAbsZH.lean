/- An abstract machine: its great steps, quicker in the kernel. -/
import Derived.Test.YtknchhnibjfocaaDoorAbsZG
namespace Go.Proofs.YtknchhnibjfocaaDoor.Abs
open Go
noncomputable section
noncomputable section

abbrev KF := PM Value → AH → CO
abbrev OpF := Tab → Exts → Abs.Callee → Self → Env → Oper → KF → PM Value → AH → CO

def putX (size : Nat) (k : KF) (tm : PM Value) (h : AH) (v : Value) (d : Option Nat) : CO :=
  Option.rec (motive := fun _ => CO) (k tm h) (fun d => Bool.rec (motive := fun _ => CO) .bad (k (tm.set d v) h) (Nat.blt d size)) d
def putV (E : Env) (o : Oper) (k : KF) (tm : PM Value) (h : AH) (v : Value) : CO := putX E.size k tm h v o.dst
def putP (E : Env) (o : Oper) (k : KF) (tm : PM Value) (p : Value × AH) : CO := putX E.size k tm p.2 p.1 o.dst
def putH (E : Env) (o : Oper) (k : KF) (tm : PM Value) (h : AH) : CO := putX E.size k tm h undef o.dst
def optF {α : Type} (k : α → CO) (x : Option α) : CO := Option.rec (motive := fun _ => CO) .bad k x
def outF (call : Abs.Callee) (self : Self) (E : Env) (o : Oper) (k : KF) (tm : PM Value) (p : Out × AH) : CO := match p with
  | (.value v, h) => putV E o k tm h v
  | (.skip, h) => putH E o k tm h
  | (.enter f args, h) => optF (putP E o k tm) (call f args h)
  | (.round l f tmps a b, h) => optF (putP E o k tm) (roundB self l f tmps a b h)
  | _ => .bad
def slowF : OpF := fun T X call self E o k tm h => optF (outF call self E o k tm) (opFn o.op T X tm o.type h)
def evF (T : Tab) (tm : PM Value) (k : Value → CO) (x : Operand) : CO :=
  Operand.rec (motive := fun _ => CO) (fun t => optF k (tm.get t)) (fun v => Bool.rec (motive := fun _ => CO) .bad (k v) (flat v))
    (fun g => Bool.rec (motive := fun _ => CO) .bad (k (.pointer (some ⟨g, 0, none⟩))) (Nat.blt g T.gs)) (fun f => k (.func (.func f) #[] #[])) x
def moveF (x : Operand) : OpF := fun T _ _ _ E o k tm h => evF T tm (putV E o k tm h) x
def load1F (t : TypeId) (T : Tab) (E : Env) (o : Oper) (k : KF) (tm : PM Value) (h : AH) (v : Value) : CO := optF (putV E o k tm h) (evLoad T t v h)
def loadF (t : TypeId) (x : Operand) : OpF := fun T _ _ _ E o k tm h => evF T tm (load1F t T E o k tm h) x
def store2F (t : TypeId) (T : Tab) (E : Env) (o : Oper) (k : KF) (tm : PM Value) (h : AH) (a v : Value) : CO := optF (putH E o k tm) (evStore T t a v h)
def store1F (t : TypeId) (y : Operand) (T : Tab) (E : Env) (o : Oper) (k : KF) (tm : PM Value) (h : AH) (v : Value) : CO := evF T tm (store2F t T E o k tm h v) y
def storeF (t : TypeId) (x y : Operand) : OpF := fun T _ _ _ E o k tm h => evF T tm (store1F t y T E o k tm h) x
def addF (k : IntKind) (x y : Int) : Option Value := some (.int k (wrapF k (addI x y)))
def subF (k : IntKind) (x y : Int) : Option Value := some (.int k (wrapF k (addI x (negI y))))
def mulF (k : IntKind) (x y : Int) : Option Value := some (.int k (wrapF k (Int.mul x y)))
def eqlF (_ : IntKind) (x y : Int) : Option Value := some (.bool (eqI x y))
def neqF (_ : IntKind) (x y : Int) : Option Value := some (.bool (Bool.not (eqI x y)))
def lssF (_ : IntKind) (x y : Int) : Option Value := some (.bool (ltI x y))
def leqF (_ : IntKind) (x y : Int) : Option Value := some (.bool (Bool.not (ltI y x)))
def gtrF (_ : IntKind) (x y : Int) : Option Value := some (.bool (ltI y x))
def geqF (_ : IntKind) (x y : Int) : Option Value := some (.bool (Bool.not (ltI x y)))
def intF (op : BinOp) : IntKind → Int → Int → Option Value :=
  BinOp.rec (motive := fun _ => IntKind → Int → Int → Option Value) addF subF mulF (fastInt .quo) (fastInt .rem) (fastInt .and) (fastInt .or) (fastInt .xor) (fastShift .shl) (fastShift .shr) (fun _ _ _ => none) eqlF neqF lssF leqF gtrF geqF op
def bin3F (op : BinOp) (t : TypeId) (x y : Operand) (T : Tab) (h : AH) (k : IntKind) (m : Int) (k' : IntKind) (n : Int) (r : Option Value) : Option Value :=
  Option.rec (motive := fun _ => Option Value) (evBin T op t x y (.int k m) (.int k' n) h) (fun v => some v) r
def isShift (op : BinOp) : Bool := match op with | .shl => true | .shr => true | _ => false
def bin4F (op : BinOp) (t : TypeId) (x y : Operand) (T : Tab) (h : AH) (a b : Value) : Option Value := match a, b with
  | .int k m, .int k' n => Bool.rec (motive := fun _ => Option Value) (evBin T op t x y (.int k m) (.int k' n) h) (bin3F op t x y T h k m k' n (intF op k m n)) (Bool.rec (motive := fun _ => Bool) (isShift op) true (decide (k = k')))
  | a, b => evBin T op t x y a b h
def bin2F (op : BinOp) (t : TypeId) (x y : Operand) (T : Tab) (E : Env) (o : Oper) (k : KF) (tm : PM Value) (h : AH) (a b : Value) : CO := optF (putV E o k tm h) (bin4F op t x y T h a b)
def bin1F (op : BinOp) (t : TypeId) (x y : Operand) (T : Tab) (E : Env) (o : Oper) (k : KF) (tm : PM Value) (h : AH) (a : Value) : CO := evF T tm (bin2F op t x y T E o k tm h a) y
def binF (op : BinOp) (t : TypeId) (x y : Operand) (_ : TypeId) : OpF := fun T _ _ _ E o k tm h => evF T tm (bin1F op t x y T E o k tm h) x
def fa1F (t : TypeId) (f : Nat) (T : Tab) (E : Env) (o : Oper) (k : KF) (tm : PM Value) (h : AH) (v : Value) : CO := optF (putV E o k tm h) (evFieldAddr T t v f)
def fieldAddrF (t : TypeId) (x : Operand) (f : Nat) : OpF := fun T _ _ _ E o k tm h => evF T tm (fa1F t f T E o k tm h) x
def ia2F (t : TypeId) (T : Tab) (E : Env) (o : Oper) (k : KF) (tm : PM Value) (h : AH) (a i : Value) : CO := optF (putV E o k tm h) (evIndexAddr T t a i)
def ia1F (t : TypeId) (y : Operand) (T : Tab) (E : Env) (o : Oper) (k : KF) (tm : PM Value) (h : AH) (a : Value) : CO := evF T tm (ia2F t T E o k tm h a) y
def indexAddrF (t : TypeId) (x y : Operand) : OpF := fun T _ _ _ E o k tm h => evF T tm (ia1F t y T E o k tm h) x
def ex1F (i : Nat) (E : Env) (o : Oper) (k : KF) (tm : PM Value) (h : AH) (v : Value) : CO := optF (putV E o k tm h) (evExtract v i)
def extractF (x : Operand) (i : Nat) : OpF := fun T _ _ _ E o k tm h => evF T tm (ex1F i E o k tm h) x
def call2F (g : Nat) (call : Abs.Callee) (E : Env) (o : Oper) (k : KF) (tm : PM Value) (h : AH) (args : List Value) : CO := optF (putP E o k tm) (call g args h)
def hasBody (T : Tab) (g : Nat) : Bool := match T.ft.get g with
  | some fd => (match fd.body with
    | some _ => true
    | none => false)
  | none => false
def evalsF (T : Tab) (tm : PM Value) (l : List Operand) : Option (List Value) := List.rec (motive := fun _ => Option (List Value)) (some []) (fun x _ ih => consV (ev T tm x) ih) l
def callF (c : Call) : OpF := fun T X call self E o k tm h => match c.callee with
  | .value (.func g) => Bool.rec (motive := fun _ => CO) (slowF T X call self E o k tm h) (optF (call2F g call E o k tm h) (evalsF T tm c.args.toList)) (hasBody T g)
  | _ => slowF T X call self E o k tm h
def opD (op : Op) : OpF :=
  Op.rec (motive := fun _ => OpF)
    moveF
    moveF
    (fun _ _ _ => slowF)
    (fun _ => slowF)
    (fun _ _ => slowF)
    (fun _ _ => slowF)
    (fun _ _ _ => slowF)
    (fun _ _ _ _ => slowF)
    loadF
    storeF
    (fun _ => slowF)
    (fun _ => slowF)
    (fun _ => slowF)
    binF
    (fun _ _ _ => slowF)
    (fun _ _ _ => slowF)
    (fun _ _ => slowF)
    (fun _ _ => slowF)
    (fun _ _ _ => slowF)
    (fun _ _ => slowF)
    (fun _ _ => slowF)
    (fun _ _ _ => slowF)
    (fun _ _ _ _ _ => slowF)
    fieldAddrF
    (fun _ _ _ => slowF)
    indexAddrF
    (fun _ _ _ => slowF)
    (fun _ _ _ _ => slowF)
    (fun _ _ _ _ => slowF)
    (fun _ _ _ => slowF)
    (fun _ _ _ _ => slowF)
    (fun _ _ => slowF)
    (fun _ _ => slowF)
    (fun _ => slowF)
    (fun _ _ _ _ => slowF)
    extractF
    callF
    (fun _ => slowF)
    (fun _ => slowF)
    (fun _ => slowF)
    (fun _ _ => slowF)
    (fun _ _ _ => slowF)
    (fun _ _ => slowF) op

def guardF (T : Tab) (X : Exts) (call : Abs.Callee) (self : Self) (E : Env) (all : Array Oper) (o : Oper) (k : KF) (tm : PM Value) (h : AH) (_ : Nat × Bool) : CO :=
  optF (fun b => Bool.rec (motive := fun _ => CO) (putH E o k tm h) (opD o.op T X call self E o k tm h) b) (wantedA all tm o)
def opF (T : Tab) (X : Exts) (call : Abs.Callee) (self : Self) (E : Env) (all : Array Oper) (o : Oper) (k : KF) (tm : PM Value) (h : AH) : CO :=
  Option.rec (motive := fun _ => CO) (opD o.op T X call self E o k tm h) (guardF T X call self E all o k tm h) o.guard
def opsF (T : Tab) (X : Exts) (call : Abs.Callee) (self : Self) (E : Env) (all : Array Oper) (df : List Nat) (l : List Oper) : KF :=
  List.rec (motive := fun _ => KF) (fun tm h => .fall tm h df) (fun o _ ih => opF T X call self E all o ih) l

/- The same answers. -/
section
variable {T : Tab} {X : Exts} {call : Abs.Callee} {self : Self} {E : Env} {o : Oper} {k : KF} {tm : PM Value} {h : AH}
theorem putX_eq {v : Value} : putX E.size k tm h v o.dst = setPut E o tm v fun tm => k tm h := by
  unfold putX setPut putT
  cases o.dst with
  | none => rfl
  | some d => simp only; cases Nat.blt d E.size <;> rfl
theorem optF_some {α : Type} {k : α → CO} {x : α} : optF k (some x) = k x := rfl
theorem optF_none {α : Type} {k : α → CO} : optF k none = .bad := rfl
theorem evF_eq {k : Value → CO} {x : Operand} : evF T tm k x = optF k (ev T tm x) := by
  cases x with
  | tmp t => rfl
  | const v => show Bool.rec (motive := fun _ => CO) .bad (k v) (flat v) = optF k (ifB (flat v) (some v) none); cases flat v <;> rfl
  | global g => show Bool.rec (motive := fun _ => CO) .bad _ (Nat.blt g T.gs) = optF k (ifB (Nat.blt g T.gs) _ none); cases Nat.blt g T.gs <;> rfl
  | func f => rfl
theorem slow_w1 {x : Option Value} {f : Value → Res} : optF (outF call self E o k tm) (w1 x f) = optF (fun v => optF (outF call self E o k tm) (f v)) x := by cases x <;> rfl
theorem slow_rv {x : Option Value} : optF (outF call self E o k tm) (rv x h) = optF (putV E o k tm h) x := by cases x <;> rfl
theorem slow_ru {x : Option AH} : optF (outF call self E o k tm) (ru x) = optF (putH E o k tm) x := by cases x <;> rfl
theorem intF_eq {op : BinOp} {kk : IntKind} {m n : Int} {v : Value} (e : intF op kk m n = some v) (hs : isShift op = false) : fastInt op kk m n = some v := by
  cases op <;> first | exact e | exact absurd hs (by decide) | exact absurd e (by simp [intF])
theorem shiftF_eq {op : BinOp} {kk : IntKind} {m n : Int} {v : Value} (e : intF op kk m n = some v) (hs : isShift op = true) : (op = .shl ∧ fastShift .shl kk m n = some v) ∨ (op = .shr ∧ fastShift .shr kk m n = some v) := by
  cases op <;> first | exact absurd hs (by decide) | exact .inl ⟨rfl, e⟩ | exact .inr ⟨rfl, e⟩
theorem bin4F_eq {op : BinOp} {t : TypeId} {x y : Operand} {a b : Value} : bin4F op t x y T h a b = evBin T op t x y a b h := by
  unfold bin4F
  split
  · rename_i kk m k' n
    cases hc : (Bool.rec (motive := fun _ => Bool) (isShift op) true (decide (kk = k')) : Bool) with
    | false => rfl
    | true =>
      show bin3F op t x y T h kk m k' n (intF op kk m n) = _
      unfold bin3F
      cases e : intF op kk m n with
      | none => rfl
      | some v =>
        show some v = _
        cases hs : isShift op with
        | true =>
          rcases shiftF_eq e hs with ⟨rfl, e2⟩ | ⟨rfl, e2⟩
          · show some v = orV (fastShift .shl kk m n) _; rw [e2]; rfl
          · show some v = orV (fastShift .shr kk m n) _; rw [e2]; rfl
        | false =>
          have e2 := intF_eq e hs
          rw [hs] at hc
          have hk : decide (kk = k') = true := by cases hd : decide (kk = k') with
            | true => rfl
            | false => rw [hd] at hc; cases hc
          have : evBin T op t x y (.int kk m) (.int k' n) h = orV (ifB (decide (kk = k')) (fastInt op kk m n) none) (slowBin T op t x y (.int kk m) (.int k' n)) := by
            cases op <;> first | rfl | exact absurd hs (by decide)
          rw [this, hk, ifB_true, e2]; rfl
  · rfl
theorem evalsF_eq (l : List Operand) : evalsF T tm l = evals T tm l := by
  induction l with
  | nil => rfl
  | cons x l ih =>
    show consV (ev T tm x) (evalsF T tm l) = _
    rw [ih]; rfl
theorem opD_eq : opD o.op T X call self E o k tm h = slowF T X call self E o k tm h := by
  unfold slowF
  cases hop : o.op <;> try (rw [← hop]; show slowF T X call self E o k tm h = _; unfold slowF; rfl)
  all_goals try (show slowF T X call self E o k tm h = _; unfold slowF; rw [hop]; done)
  case move x => show evF T tm _ x = _; rw [evF_eq]; exact slow_rv.symm
  case assign x => show evF T tm _ x = _; rw [evF_eq]; exact slow_rv.symm
  case load t x =>
    show evF T tm _ x = optF _ (w1 (ev T tm x) fun x => rv (evLoad T t x h) h)
    rw [evF_eq, slow_w1]; congr 1; funext v; exact slow_rv.symm
  case store t x y =>
    show evF T tm _ x = optF _ (w1 (ev T tm x) fun x => w1 (ev T tm y) fun y => ru (evStore T t x y h))
    rw [evF_eq, slow_w1]; congr 1; funext v
    show evF T tm _ y = _
    rw [evF_eq, slow_w1]; congr 1; funext u; exact slow_ru.symm
  case binOp op t x y u =>
    show evF T tm _ x = optF _ (w1 (ev T tm x) fun a => w1 (ev T tm y) fun b => rv (evBin T op t x y a b h) h)
    rw [evF_eq, slow_w1]; congr 1; funext v
    show evF T tm _ y = _
    rw [evF_eq, slow_w1]; congr 1; funext u
    show optF (putV E o k tm h) (bin4F op t x y T h v u) = _
    rw [bin4F_eq]; exact slow_rv.symm
  case fieldAddr t x f =>
    show evF T tm _ x = optF _ (w1 (ev T tm x) fun x => rv (evFieldAddr T t x f) h)
    rw [evF_eq, slow_w1]; congr 1; funext v; exact slow_rv.symm
  case indexAddr t x y =>
    show evF T tm _ x = optF _ (w1 (ev T tm x) fun x => w1 (ev T tm y) fun i => rv (evIndexAddr T t x i) h)
    rw [evF_eq, slow_w1]; congr 1; funext v
    show evF T tm _ y = _
    rw [evF_eq, slow_w1]; congr 1; funext u; exact slow_rv.symm
  case extract x i =>
    show evF T tm _ x = optF _ (w1 (ev T tm x) fun x => rv (evExtract x i) h)
    rw [evF_eq, slow_w1]; congr 1; funext v; exact slow_rv.symm
  case call c =>
    show callF c T X call self E o k tm h = _
    unfold callF
    split
    · rename_i g hg
      cases hb : hasBody T g with
      | false => show slowF T X call self E o k tm h = _; unfold slowF; rw [hop]
      | true =>
        show optF (call2F g call E o k tm h) (evalsF T tm c.args.toList) = optF _ (evCallOp T X tm c o.type h)
        rw [evalsF_eq]
        unfold evCallOp
        cases he : evals T tm c.args.toList with
        | none => rfl
        | some args =>
          simp only [hg, ev, w1]
          unfold hasBody at hb
          split at hb
          · rename_i fd hfd
            split at hb
            · rename_i cc hcc
              rw [evCall_fn hfd hcc]; rfl
            · cases hb
          · cases hb
    · show slowF T X call self E o k tm h = _; unfold slowF; rw [hop]
end
theorem opsF_eq {T : Tab} {X : Exts} {call : Abs.Callee} {self : Self} {E : Env} {all : Array Oper} {df : List Nat} : ∀ (l : List Oper) (tm : PM Value) (h : AH), opsF T X call self E all df l tm h = opsB T X call self E all df l tm h := by
  intro l
  induction l with
  | nil => intro tm h; rfl
  | cons o l ih =>
    intro tm h
    show opF T X call self E all o (opsF T X call self E all df l) tm h = _
    have hk : opsF T X call self E all df l = fun tm h => opsB T X call self E all df l tm h := by funext tm h; exact ih tm h
    rw [hk, opsB]
    have slow : slowF T X call self E o (fun tm h => opsB T X call self E all df l tm h) tm h = (match evOp T X tm o h with
      | some (.value v, h) => setPut E o tm v fun tm => opsB T X call self E all df l tm h
      | some (.skip, h) => setPut E o tm undef fun tm => opsB T X call self E all df l tm h
      | some (.enter f args, h) => (match call f args h with
        | some (v, h) => setPut E o tm v fun tm => opsB T X call self E all df l tm h
        | none => .bad)
      | some (.round l2 f tmps a b, h) => (match roundB self l2 f tmps a b h with
        | some (v, h) => setPut E o tm v fun tm => opsB T X call self E all df l tm h
        | none => .bad)
      | _ => CO.bad) := by
      unfold slowF evOp
      cases opFn o.op T X tm o.type h with
      | none => rfl
      | some p =>
        obtain ⟨out, h1⟩ := p
        cases out with
        | value v => exact putX_eq
        | skip => exact putX_eq
        | enter f args =>
          show optF _ (call f args h1) = (match call f args h1 with | some (v, h) => setPut E o tm v fun tm => opsB T X call self E all df l tm h | none => CO.bad)
          cases call f args h1 with
          | none => rfl
          | some q => exact putX_eq
        | round l2 f tmps a b =>
          show optF _ (roundB self l2 f tmps a b h1) = (match roundB self l2 f tmps a b h1 with | some (v, h) => setPut E o tm v fun tm => opsB T X call self E all df l tm h | none => CO.bad)
          cases roundB self l2 f tmps a b h1 with
          | none => rfl
          | some q => exact putX_eq
        | _ => rfl
    unfold opF
    cases hg : o.guard with
    | none =>
      have hw : wantedA all tm o = some true := by unfold wantedA; rw [hg]
      show opD o.op T X call self E o _ tm h = _
      rw [opD_eq, slow]; simp only [hw]; rfl
    | some g =>
      show optF _ (wantedA all tm o) = _
      cases hw : wantedA all tm o with
      | none => rfl
      | some b => cases b with
        | true => show opD o.op T X call self E o _ tm h = _; rw [opD_eq, slow]; rfl
        | false => exact putX_eq

/- Code. -/
abbrev CodeF := Tab → Exts → Abs.Callee → Self → Env → PM Value → AH → List Nat → CO
def seqF (b : Code) (self : Self) (E : Env) (r : CO) : CO := CO.rec (motive := fun _ => CO) (self E (.code b)) (fun j tm h df => .jump j tm h df) .bad r
def condF (x y : Code) (self : Self) (E : Env) (tm : PM Value) (h : AH) (df : List Nat) (v : Value) : CO := match v with
  | .bool b => self E (.code (ifB b x y)) tm h df
  | _ => .bad
def loopF (b : Code) (self : Self) (E : Env) (r : CO) : CO := CO.rec (motive := fun _ => CO) (self E (.loop b)) (fun j tm h df => .jump j tm h df) .bad r
def regionF (ops : Array Oper) (draw : Bool) : CodeF := fun T X call self E tm h df => Bool.rec (motive := fun _ => CO) (opsF T X call self E ops df ops.toList tm h) (drawB T X call E ops tm h df) draw
def codeF (c : Code) : CodeF :=
  Code.rec (motive := fun _ => CodeF) (fun _ _ _ _ _ tm h df => .fall tm h df) (fun _ ops draw => regionF ops draw)
    (fun a b _ _ _ _ _ self E tm h df => seqF b self E (self E (.code a) tm h df))
    (fun c x y _ _ T _ _ self E tm h df => evF T tm (condF x y self E tm h df) c)
    (fun i b _ _ _ _ self E tm h df => CO.unblock i (self E (.code b) tm h df))
    (fun b _ _ _ _ self E tm h df => loopF b self E (self E (.code b) tm h df))
    (fun f ps a b _ _ T X call self E tm h df => stepB T X call self E (.code (.rangeFunc f ps a b)) tm h df)
    (fun i _ _ _ _ _ tm h df => .jump (.exit i) tm h df)
    (fun b _ _ _ _ self E tm h df => self E (.scope b b) tm h df)
    (fun _ _ _ _ _ _ tm h df => .fall tm h df)
    (fun l _ _ _ _ _ tm h df => .jump (.goto l) tm h df)
    (fun _ _ _ _ _ tm h df => .jump .ret tm h df)
    (fun _ _ _ _ _ _ _ _ _ => .bad) c
def stepF (T : Tab) (X : Exts) (call : Abs.Callee) (self : Self) (E : Env) (j : Job) : PM Value → AH → List Nat → CO :=
  Job.rec (motive := fun _ => PM Value → AH → List Nat → CO) (fun c => codeF c T X call self E) (fun b s tm h df => CO.unscope self E b (self E (.code s) tm h df)) (fun b tm h df => loopF b self E (self E (.code b) tm h df)) j
theorem stepF_eq {T : Tab} {X : Exts} {call : Abs.Callee} {self : Self} : stepF T X call self = stepB T X call self := by
  funext E j tm h df
  cases j with
  | scope b s =>
    show CO.unscope self E b (self E (.code s) tm h df) = (match self E (.code s) tm h df with
      | .jump j tm h df => (match j with
        | .goto l => (match findLabel b l with
          | some rest => self E (.scope b rest) tm h df
          | none => CO.jump (.goto l) tm h df)
        | j => CO.jump j tm h df)
      | o => o)
    cases self E (.code s) tm h df with
    | jump j => cases j <;> rfl
    | _ => rfl
  | loop b =>
    show loopF b self E (self E (.code b) tm h df) = (match self E (.code b) tm h df with | .fall tm h df => self E (.loop b) tm h df | o => o)
    cases self E (.code b) tm h df <;> rfl
  | code c =>
    cases c with
    | seq a b =>
      show seqF b self E (self E (.code a) tm h df) = (match self E (.code a) tm h df with | .fall tm h df => self E (.code b) tm h df | o => o)
      cases self E (.code a) tm h df <;> rfl
    | cond c x y =>
      show evF T tm (condF x y self E tm h df) c = (match ev T tm c with | some (.bool b) => self E (.code (ifB b x y)) tm h df | _ => .bad)
      rw [evF_eq]
      cases ev T tm c with
      | none => rfl
      | some v => cases v <;> rfl
    | block i b =>
      show CO.unblock i (self E (.code b) tm h df) = (match self E (.code b) tm h df with
        | .jump j tm h df => (match j with | .exit i' => ifB (Nat.beq i i') (CO.fall tm h df) (CO.jump (.exit i') tm h df) | j => CO.jump j tm h df)
        | o => o)
      cases self E (.code b) tm h df with
      | jump j => cases j <;> rfl
      | _ => rfl
    | loop b =>
      show loopF b self E (self E (.code b) tm h df) = (match self E (.code b) tm h df with | .fall tm h df => self E (.loop b) tm h df | o => o)
      cases self E (.code b) tm h df <;> rfl
    | region id ops draw =>
      cases draw with
      | false => exact opsF_eq _ _ _
      | true => rfl
    | _ => rfl
def runF (T : Tab) (X : Exts) (call : Abs.Callee) (n : Nat) : Self := Nat.rec (motive := fun _ => Self) (fun _ _ _ _ _ => .bad) (fun _ ih => stepF T X call ih) n
theorem runF_eq {T : Tab} {X : Exts} {call : Abs.Callee} : ∀ n, runF T X call n = codeB T X call n := by
  intro n
  induction n with
  | zero => rfl
  | succ n ih =>
    show stepF T X call (runF T X call n) = stepB T X call (codeB T X call n)
    rw [ih, stepF_eq]
def bodyF (T : Tab) (X : Exts) (call : Abs.Callee) (n f : Nat) (size : Nat) (args : List Value) (h : AH) (c : Code) : Option (Value × AH) :=
  Bool.rec (motive := fun _ => Option (Value × AH)) none (endF T f (runF T X call n ⟨f, size, none⟩ (.code c) (PM.ofList args) h [])) (Nat.ble args.length size)
def funcF (T : Tab) (X : Exts) (call : Abs.Callee) (n f : Nat) (args : List Value) (h : AH) (fd : Func) : Option (Value × AH) :=
  Option.rec (motive := fun _ => Option (Value × AH)) none (bodyF T X call n f fd.ntmps args h) fd.body
def frameF (T : Tab) (X : Exts) (call : Abs.Callee) (n f : Nat) (args : List Value) (h : AH) : Option (Value × AH) :=
  Option.rec (motive := fun _ => Option (Value × AH)) none (funcF T X call n f args h) (T.ft.get f)
theorem frameF_eq {T : Tab} {X : Exts} {call : Abs.Callee} {n f : Nat} {args : List Value} {h : AH} : frameF T X call n f args h = frameB T X call n f args h := by
  unfold frameF frameB
  cases T.ft.get f with
  | none => rfl
  | some fd =>
    show funcF T X call n f args h fd = _
    unfold funcF
    cases hb : fd.body with
    | none => simp only [hb]
    | some c =>
      show bodyF T X call n f fd.ntmps args h c = _
      unfold bodyF
      rw [runF_eq]
      simp only [hb]
      cases Nat.ble args.length fd.ntmps with
      | false => rfl
      | true =>
        show endF T f (codeB T X call n ⟨f, fd.ntmps, none⟩ (.code c) (PM.ofList args) h []) = (match codeB T X call n ⟨f, fd.ntmps, none⟩ (.code c) (PM.ofList args) h [] with
          | .fall tm h df => retB T f tm h df
          | .jump j tm h df => (match j with
            | .ret => retB T f tm h df
            | _ => none)
          | .bad => none)
        cases codeB T X call n ⟨f, fd.ntmps, none⟩ (.code c) (PM.ofList args) h [] with
        | jump j => cases j <;> rfl
        | _ => rfl
def sumF (r : Option (Value × AH)) (x : Option (Value × AH)) : Option (Value × AH) := Option.rec (motive := fun _ => Option (Value × AH)) r (fun p => some p) x
def callN (T : Tab) (X : Exts) (S : Sums) (n d : Nat) : Abs.Callee :=
  Nat.rec (motive := fun _ => Abs.Callee) (fun _ _ _ => none) (fun _ ih f args h => Option.rec (motive := fun _ => Option (Value × AH)) (frameF T X ih n f args h) (fun g => sumF (frameF T X ih n f args h) (g args h)) (S f)) d
theorem callN_eq {T : Tab} {X : Exts} {S : Sums} {n : Nat} : ∀ d, callN T X S n d = callB T X S n d := by
  intro d
  induction d with
  | zero => rfl
  | succ d ih =>
    funext f args h
    show Option.rec (motive := fun _ => Option (Value × AH)) (frameF T X (callN T X S n d) n f args h) (fun g => sumF (frameF T X (callN T X S n d) n f args h) (g args h)) (S f) =
      (match S f with
      | some g => (match g args h with
        | some r => some r
        | none => frameB T X (callB T X S n d) n f args h)
      | none => frameB T X (callB T X S n d) n f args h)
    rw [ih, frameF_eq]
    cases S f with
    | none => rfl
    | some g =>
      show sumF _ (g args h) = (match g args h with | some r => some r | none => _)
      cases g args h <;> rfl
end
end
end Go.Proofs.YtknchhnibjfocaaDoor.Abs
