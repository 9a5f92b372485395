/- An abstract machine: the equations by which its code is reckoned with unknown values. -/
import Derived.Test.YtknchhnibjfocaaDoorAbsZE
namespace Go.Proofs.YtknchhnibjfocaaDoor.Abs
open Go
noncomputable section

section
variable {T : Tab} {X : Exts} {call : Abs.Callee} {n : Nat} {E : Env} {tm : PM Value} {h : AH} {df : List Nat}

def CO.bind (x : CO) (k : PM Value → AH → List Nat → CO) : CO := match x with
  | .fall tm h df => k tm h df
  | .jump j tm h df => .jump j tm h df
  | .bad => .bad
theorem bind_fall {k : PM Value → AH → List Nat → CO} : CO.bind (.fall tm h df) k = k tm h df := rfl
theorem bind_jump {j : Code} {k : PM Value → AH → List Nat → CO} : CO.bind (.jump j tm h df) k = .jump j tm h df := rfl
def CO.unblock (i : Nat) (x : CO) : CO := match x with
  | .jump (.exit i') tm h df => ifB (Nat.beq i i') (.fall tm h df) (.jump (.exit i') tm h df)
  | o => o
theorem unblock_fall {i : Nat} : CO.unblock i (.fall tm h df) = .fall tm h df := rfl
theorem unblock_exit {i i' : Nat} : CO.unblock i (.jump (.exit i') tm h df) = ifB (Nat.beq i i') (.fall tm h df) (.jump (.exit i') tm h df) := rfl
theorem unblock_ret {i : Nat} : CO.unblock i (.jump .ret tm h df) = .jump .ret tm h df := rfl
theorem unblock_goto {i l : Nat} : CO.unblock i (.jump (.goto l) tm h df) = .jump (.goto l) tm h df := rfl
def condB (self : Self) (E : Env) (x y : Code) (tm : PM Value) (h : AH) (df : List Nat) : Option Value → CO
  | some (.bool b) => self E (.code (ifB b x y)) tm h df
  | _ => .bad

theorem codeB_succ {j : Job} : codeB T X call (n + 1) E j tm h df = stepB T X call (codeB T X call n) E j tm h df := rfl
theorem codeB_ret : codeB T X call (n + 1) E (.code .ret) tm h df = .jump .ret tm h df := rfl
theorem codeB_exit {i : Nat} : codeB T X call (n + 1) E (.code (.exit i)) tm h df = .jump (.exit i) tm h df := rfl
theorem codeB_goto {i : Nat} : codeB T X call (n + 1) E (.code (.goto i)) tm h df = .jump (.goto i) tm h df := rfl
theorem codeB_skip : codeB T X call (n + 1) E (.code .skip) tm h df = .fall tm h df := rfl
theorem codeB_label {l : Nat} : codeB T X call (n + 1) E (.code (.label l)) tm h df = .fall tm h df := rfl
theorem codeB_seq {a b : Code} : codeB T X call (n + 1) E (.code (.seq a b)) tm h df = CO.bind (codeB T X call n E (.code a) tm h df) (codeB T X call n E (.code b)) := by
  rw [codeB_succ]
  show (match codeB T X call n E (.code a) tm h df with | .fall tm h df => codeB T X call n E (.code b) tm h df | o => o) = _
  cases codeB T X call n E (.code a) tm h df <;> rfl
theorem codeB_cond {c : Operand} {x y : Code} : codeB T X call (n + 1) E (.code (.cond c x y)) tm h df = condB (codeB T X call n) E x y tm h df (ev T tm c) := rfl
theorem condB_bool {self : Self} {x y : Code} {b : Bool} : condB self E x y tm h df (some (.bool b)) = self E (.code (ifB b x y)) tm h df := rfl
theorem codeB_block {i : Nat} {b : Code} : codeB T X call (n + 1) E (.code (.block i b)) tm h df = CO.unblock i (codeB T X call n E (.code b) tm h df) := by
  rw [codeB_succ]
  show (match codeB T X call n E (.code b) tm h df with | .jump j tm h df => (match j with | .exit i' => ifB (Nat.beq i i') (CO.fall tm h df) (CO.jump (.exit i') tm h df) | j => CO.jump j tm h df) | o => o) = _
  cases codeB T X call n E (.code b) tm h df with
  | jump j => cases j <;> rfl
  | _ => rfl
theorem codeB_loop0 {b : Code} : codeB T X call (n + 1) E (.code (.loop b)) tm h df = CO.bind (codeB T X call n E (.code b) tm h df) (codeB T X call n E (.loop b)) := by
  rw [codeB_succ]
  show (match codeB T X call n E (.code b) tm h df with | .fall tm h df => codeB T X call n E (.loop b) tm h df | o => o) = _
  cases codeB T X call n E (.code b) tm h df <;> rfl
theorem codeB_loop {b : Code} : codeB T X call (n + 1) E (.loop b) tm h df = CO.bind (codeB T X call n E (.code b) tm h df) (codeB T X call n E (.loop b)) := by
  rw [codeB_succ]
  show (match codeB T X call n E (.code b) tm h df with | .fall tm h df => codeB T X call n E (.loop b) tm h df | o => o) = _
  cases codeB T X call n E (.code b) tm h df <;> rfl
def CO.unscope (self : Self) (E : Env) (body : Code) (x : CO) : CO := match x with
  | .jump (.goto l) tm h df => (match findLabel body l with
    | some rest => self E (.scope body rest) tm h df
    | none => .jump (.goto l) tm h df)
  | o => o
theorem unscope_fall {self : Self} {b : Code} : CO.unscope self E b (.fall tm h df) = .fall tm h df := rfl
theorem unscope_ret {self : Self} {b : Code} : CO.unscope self E b (.jump .ret tm h df) = .jump .ret tm h df := rfl
theorem unscope_exit {self : Self} {b : Code} {i : Nat} : CO.unscope self E b (.jump (.exit i) tm h df) = .jump (.exit i) tm h df := rfl
theorem unscope_goto {self : Self} {b rest : Code} {l : Nat} (hl : findLabel b l = some rest) : CO.unscope self E b (.jump (.goto l) tm h df) = self E (.scope b rest) tm h df := by
  show (match findLabel b l with | some rest => self E (.scope b rest) tm h df | none => CO.jump (.goto l) tm h df) = _
  rw [hl]
theorem codeB_scope0 {b : Code} : codeB T X call (n + 1) E (.code (.scope b)) tm h df = codeB T X call n E (.scope b b) tm h df := rfl
theorem codeB_scope {b s : Code} : codeB T X call (n + 1) E (.scope b s) tm h df = CO.unscope (codeB T X call n) E b (codeB T X call n E (.code s) tm h df) := by
  rw [codeB_succ]
  show (match codeB T X call n E (.code s) tm h df with
    | .jump j tm h df => (match j with
      | .goto l => (match findLabel b l with
        | some rest => codeB T X call n E (.scope b rest) tm h df
        | none => CO.jump (.goto l) tm h df)
      | j => CO.jump j tm h df)
    | o => o) = _
  cases codeB T X call n E (.code s) tm h df with
  | jump j => cases j <;> rfl
  | _ => rfl
theorem codeB_region {id : Nat} {ops : List Oper} : codeB T X call (n + 1) E (.code (.region id ops.toArray false)) tm h df = opsB T X call (codeB T X call n) E ops.toArray df ops tm h := rfl
theorem codeB_draw {id : Nat} {ops : List Oper} : codeB T X call (n + 1) E (.code (.region id ops.toArray true)) tm h df = drawB T X call E ops.toArray tm h df := rfl

/- Operations. -/
variable {self : Self} {all : Array Oper} {rest : List Oper}
def goC (T : Tab) (X : Exts) (call : Abs.Callee) (self : Self) (E : Env) (all : Array Oper) (df : List Nat) (dst : Option Nat) (rest : List Oper) (tm : PM Value) : Option (Value × AH) → CO
  | some (v, h) => (match putT E.size tm dst v with
    | some tm => opsB T X call self E all df rest tm h
    | none => .bad)
  | none => .bad
def goR (T : Tab) (X : Exts) (call : Abs.Callee) (self : Self) (E : Env) (all : Array Oper) (df : List Nat) (dst : Option Nat) (rest : List Oper) (tm : PM Value) (r : Res) : CO :=
  match r with
  | some (.value v, h) => goC T X call self E all df dst rest tm (some (v, h))
  | some (.skip, h) => goC T X call self E all df dst rest tm (some (undef, h))
  | some (.enter f args, h) => goC T X call self E all df dst rest tm (call f args h)
  | some (.round l f tmps a b, h) => goC T X call self E all df dst rest tm (roundB self l f tmps a b h)
  | _ => .bad
theorem opsB_nil : opsB T X call self E all df [] tm h = .fall tm h df := rfl
theorem opsB_cons {dst : Option Nat} {op : Op} {ty : TypeId} {pos : String} {after : Array Edge} :
    opsB T X call self E all df (⟨dst, op, ty, pos, after, none⟩ :: rest) tm h = goR T X call self E all df dst rest tm (opFn op T X tm ty h) := by
  show (match opFn op T X tm ty h with
      | some (.value v, h) => setPut E ⟨dst, op, ty, pos, after, none⟩ tm v fun tm => opsB T X call self E all df rest tm h
      | some (.skip, h) => setPut E ⟨dst, op, ty, pos, after, none⟩ tm undef fun tm => opsB T X call self E all df rest tm h
      | some (.enter f args, h) => (match call f args h with
        | some (v, h) => setPut E ⟨dst, op, ty, pos, after, none⟩ tm v fun tm => opsB T X call self E all df rest tm h
        | none => .bad)
      | some (.round l f tmps a b, h) => (match roundB self l f tmps a b h with
        | some (v, h) => setPut E ⟨dst, op, ty, pos, after, none⟩ tm v fun tm => opsB T X call self E all df rest tm h
        | none => .bad)
      | _ => .bad) = _
  unfold goR
  split <;> first | rfl | (unfold goC; split <;> rfl)
def goG (T : Tab) (X : Exts) (call : Abs.Callee) (self : Self) (E : Env) (all : Array Oper) (df : List Nat) (dst : Option Nat) (op : Op) (ty : TypeId) (rest : List Oper) (tm : PM Value) (h : AH) (b : Option Bool) : CO := match b with
  | some true => goR T X call self E all df dst rest tm (opFn op T X tm ty h)
  | some false => goC T X call self E all df dst rest tm (some (undef, h))
  | none => .bad
theorem goR_value {dst : Option Nat} {v : Value} {h : AH} : goR T X call self E all df dst rest tm (some (.value v, h)) = goC T X call self E all df dst rest tm (some (v, h)) := rfl
theorem goR_skip {dst : Option Nat} {h : AH} : goR T X call self E all df dst rest tm (some (.skip, h)) = goC T X call self E all df dst rest tm (some (undef, h)) := rfl
theorem goR_enter {dst : Option Nat} {f : Nat} {args : List Value} {h : AH} : goR T X call self E all df dst rest tm (some (.enter f args, h)) = goC T X call self E all df dst rest tm (call f args h) := rfl
theorem goC_some {d : Nat} {v : Value} {h : AH} (hd : d < E.size) : goC T X call self E all df (some d) rest tm (some (v, h)) = opsB T X call self E all df rest (tm.set d v) h := by
  have hd : Nat.blt d E.size = true := by simpa [Nat.blt] using Nat.ble_eq_true_of_le hd
  unfold goC putT; simp only [hd, ifB_true]
theorem goC_none {v : Value} {h : AH} : goC T X call self E all df none rest tm (some (v, h)) = opsB T X call self E all df rest tm h := rfl
end

theorem get_same {t : PM Value} {n : Nat} {v : Value} : (t.set n v).get n = some v := by rw [PM.get_set, if_pos rfl]
theorem get_other {t : PM Value} {n k : Nat} {v : Value} (h : (k == n) = false) : (t.set n v).get k = t.get k := by
  rw [PM.get_set, if_neg (fun e => by subst e; simp at h)]
theorem ev_tmp {T : Tab} {tm : PM Value} {t : Nat} : ev T tm (.tmp t) = tm.get t := rfl
theorem ev_const {T : Tab} {tm : PM Value} {v : Value} (h : flat v = true) : ev T tm (.const v) = some v := by show ifB (flat v) (some v) none = _; rw [h]; rfl
theorem ev_int {T : Tab} {tm : PM Value} {k : IntKind} {n : Int} : ev T tm (.const (.int k n)) = some (.int k n) := rfl
theorem ev_float {T : Tab} {tm : PM Value} {k : FloatKind} {n : Nat} : ev T tm (.const (.float k n)) = some (.float k n) := rfl
theorem ev_complex {T : Tab} {tm : PM Value} {k : FloatKind} {a b : Nat} : ev T tm (.const (.complex k a b)) = some (.complex k a b) := rfl
theorem ev_bool {T : Tab} {tm : PM Value} {b : Bool} : ev T tm (.const (.bool b)) = some (.bool b) := rfl
theorem ev_string {T : Tab} {tm : PM Value} {s : ByteArray} : ev T tm (.const (.string s)) = some (.string s) := rfl
theorem ev_nilSlice {T : Tab} {tm : PM Value} : ev T tm (.const (.slice none 0 0)) = some (.slice none 0 0) := rfl
theorem ev_nilPtr {T : Tab} {tm : PM Value} : ev T tm (.const (.pointer none)) = some (.pointer none) := rfl
theorem ev_func {T : Tab} {tm : PM Value} {f : Nat} : ev T tm (.func f) = some (.func (.func f) #[] #[]) := rfl
theorem rv_some' {v : Value} {h : AH} : rv (some v) h = some (.value v, h) := rfl
theorem rp_some' {v : Value} {h : AH} : rp (some (v, h)) = some (.value v, h) := rfl
theorem ru_some' {h : AH} : ru (some h) = some (.skip, h) := rfl
theorem w1_some' {v : Value} {k : Value → Res} : w1 (some v) k = k v := rfl
theorem args_head {v : Value} {l : List Value} : (PM.ofList (v :: l)).get 0 = some v := by rw [PM.get_ofList]; rfl
theorem args_tail {v : Value} {l : List Value} {k : Nat} : (PM.ofList (v :: l)).get (k + 1) = (PM.ofList l).get k := by rw [PM.get_ofList, PM.get_ofList]; rfl
theorem args_0 {k : Nat} : (PM.ofList ([] : List Value)).get k = none := by rw [PM.get_ofList]; rfl

/-- How a frame ends. -/
def endF (T : Tab) (f : Nat) : CO → Option (Value × AH)
  | .fall tm h df => retB T f tm h df
  | .jump .ret tm h df => retB T f tm h df
  | _ => none
theorem endF_fall {T : Tab} {f : Nat} {tm : PM Value} {h : AH} {df : List Nat} : endF T f (.fall tm h df) = retB T f tm h df := rfl
theorem endF_ret {T : Tab} {f : Nat} {tm : PM Value} {h : AH} {df : List Nat} : endF T f (.jump .ret tm h df) = retB T f tm h df := rfl
theorem frameB_eq {T : Tab} {X : Exts} {call : Abs.Callee} {n f : Nat} {args : List Value} {h : AH} {fd : Func} {c : Code} (hf : T.ft.get f = some fd) (hb : fd.body = some c) (hl : Nat.ble args.length fd.ntmps = true) :
    frameB T X call n f args h = endF T f (codeB T X call n ⟨f, fd.ntmps, none⟩ (.code c) (PM.ofList args) h []) := by
  unfold frameB
  simp only [hf, hb, hl, ifB_true]
  cases codeB T X call n ⟨f, fd.ntmps, none⟩ (.code c) (PM.ofList args) h [] with
  | jump j => cases j <;> rfl
  | _ => rfl
theorem retB_one {T : Tab} {f : Nat} {tm : PM Value} {h : AH} {fd : Func} {t : Nat} {v : Value} (hf : T.ft.get f = some fd) (hr : fd.results = #[.tmp t]) (hv : tm.get t = some v) : retB T f tm h [] = some (v, h) := by
  unfold retB undef1
  simp only [resultA, hf, hr]
  show (match (match resultsA T h tm [.tmp t] with | some l => some (one l) | none => none) with | some v => some (v, h) | none => none) = _
  simp only [resultsA, hv]
  rfl
end
end Go.Proofs.YtknchhnibjfocaaDoor.Abs
