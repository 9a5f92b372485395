/- An abstract machine: its code in great steps. -/
import Derived.Test.YtknchhnibjfocaaDoorAbsZA
namespace Go.Proofs.YtknchhnibjfocaaDoor.Abs
open Go
noncomputable section

/-- The machine comes from one state to another. -/
def RunM (T : Tab) (c c' : Conf) : Prop :=
  ∀ (base : List Frame) (r : Ren) (w : World) (f : Frame) (cs : List Frame), HR T.P r c.h w → FR r c.fr f → CR r base c.cs cs → FinOK T.P base r c.h w f cs (.next c')

theorem RunM.refl {T : Tab} (c : Conf) : RunM T c c := fun _ r w f cs hr hf hc => ⟨r, w, f, cs, .refl _ _, hf, hc, hr, .refl _ _ _⟩
theorem RunM.trans {T : Tab} {a b c : Conf} (h1 : RunM T a b) (h2 : RunM T b c) : RunM T a c := by
  intro base r w f cs hr hf hc
  obtain ⟨r2, w2, f2, cs2, p1, p2, p3, p4, p5⟩ := h1 base r w f cs hr hf hc
  exact FinOK.of_steps hr p1 p5 (h2 base r2 w2 f2 cs2 p4 p2 p3)
theorem RunM.step {T : Tab} (ok : TabOK T) (oz : TabZ T) {X : Exts} (hX : ExtOK T X) {D : AFrame → List AFrame → AH → Nat → Array Oper → List AItem → Fin} (hD : DrawOK T D) {fr : AFrame} {cs : List AFrame} {h : AH} {c' : Conf}
    (e : stepA T X D fr cs h = .next c') : RunM T ⟨fr, cs, h⟩ c' := by
  intro base r w f cs2 hr hf hc
  have := stepA_sound ok oz hX hD hr hf hc
  rw [e] at this
  exact this

def noDraw (_ : AFrame) (_ : List AFrame) (_ : AH) (_ : Nat) (_ : Array Oper) (_ : List AItem) : Fin := .stuck
theorem noDraw_ok (T : Tab) : DrawOK T noDraw := by intro base r h w fr c f cs id ops k _ _ _ _ _; trivial

structure Env where
  fn : Nat
  size : Nat
  rnd : Option Nat

def marks (df : List Nat) : List Deferred := df.map fun b => { target := .collected b, args := #[] }
def mkF (E : Env) (tm : PM Value) (todo : List AItem) (df : List Nat) : AFrame := { fn := E.fn, size := E.size, tm := tm, todo := todo, defers := marks df, mode := .run, kind := .normal, round := E.rnd }

inductive CO where
  | fall (tm : PM Value) (h : AH) (df : List Nat)
  | jump (j : Code) (tm : PM Value) (h : AH) (df : List Nat)
  | bad

inductive Job where
  | code (c : Code)
  | scope (body start : Code)
  | loop (body : Code)
def Job.items : Job → List AItem → List AItem
  | .code c, k => .code c :: k
  | .scope body start, k => .code start :: .inScope body :: k
  | .loop body, k => .inLoop body :: k

abbrev Callee := Nat → List Value → AH → Option (Value × AH)
abbrev Self := Env → Job → PM Value → AH → List Nat → CO

def setPut (E : Env) (o : Oper) (tm : PM Value) (v : Value) (k : PM Value → CO) : CO := match putT E.size tm o.dst v with
  | some tm => k tm
  | none => .bad

def leaveR (l : Nat) (jump : Option Code) (h : AH) : Option (Value × AH) := match h.get l with
  | some (.loop r) => some (.bool jump.isNone, h.set l (.loop { r with state := stAfter jump, pending := jump }))
  | _ => none
/-- A round of a loop over a function. -/
def roundB (self : Self) (l f : Nat) (tmps : List Value) (a b : Code) (h : AH) : Option (Value × AH) :=
  match self ⟨f, tmps.length, some l⟩ (.code a) (PM.ofList tmps) h [] with
  | .fall tm h df => match h.get l with
    | some (.loop r) => match r.state with
      | .ready => match self ⟨f, tmps.length, some l⟩ (.code b) tm (h.set l (.loop { r with state := .busy })) df with
        | .fall _ h _ => leaveR l none h
        | .jump j _ h _ => leaveR l (some j) h
        | .bad => none
      | _ => none
    | _ => none
  | _ => none

def opsB (T : Tab) (X : Exts) (call : Callee) (self : Self) (E : Env) (all : Array Oper) (df : List Nat) : List Oper → PM Value → AH → CO
  | [], tm, h => .fall tm h df
  | o :: rest, tm, h => match wantedA all tm o with
    | some true => match evOp T X tm o h with
      | some (.value v, h) => setPut E o tm v fun tm => opsB T X call self E all df rest tm h
      | some (.skip, h) => setPut E o tm undef fun tm => opsB T X call self E all df rest tm h
      | some (.enter f args, h) => match call f args h with
        | some (v, h) => setPut E o tm v fun tm => opsB T X call self E all df rest tm h
        | none => .bad
      | some (.round l f tmps a b, h) => match roundB self l f tmps a b h with
        | some (v, h) => setPut E o tm v fun tm => opsB T X call self E all df rest tm h
        | none => .bad
      | _ => .bad
    | some false => setPut E o tm undef fun tm => opsB T X call self E all df rest tm h
    | none => .bad

theorem opsB_nojump {T : Tab} {X : Exts} {call : Callee} {self : Self} {E : Env} {all : Array Oper} {df : List Nat} {j : Code} {tm' : PM Value} {h' : AH} {df' : List Nat} : ∀ (rest : List Oper) (tm : PM Value) (h : AH), opsB T X call self E all df rest tm h ≠ .jump j tm' h' df' := by
  intro rest
  induction rest with
  | nil => intro tm h e; cases e
  | cons o rest ih =>
    intro tm h e
    have put : ∀ {v : Value} {h1 : AH}, (setPut E o tm v fun tm => opsB T X call self E all df rest tm h1) = .jump j tm' h' df' → False := by
      intro v h1 e
      unfold setPut at e
      split at e
      · exact ih _ _ e
      · cases e
    rw [opsB] at e
    split at e
    · split at e
      · exact put e
      · exact put e
      · split at e
        · exact put e
        · cases e
      · split at e
        · exact put e
        · cases e
      · cases e
    · exact put e
    · cases e

def drawB (T : Tab) (X : Exts) (call : Callee) (E : Env) (ops : Array Oper) (tm : PM Value) (h : AH) (df : List Nat) : CO :=
  match masks ops.toList [] with
  | ms => match mkPlan ops.toList ms with
    | (L, fa) => ifB (okPlan ops E.size ms L fa) (match runL T X call ops L tm h with
      | some p => match runAl T ops fa p.1 p.2 with
        | some q => .fall q.1 q.2 df
        | none => .bad
      | none => .bad) .bad

theorem drawB_nojump {T : Tab} {X : Exts} {call : Callee} {E : Env} {ops : Array Oper} {tm : PM Value} {h : AH} {df : List Nat} {j : Code} {tm' : PM Value} {h' : AH} {df' : List Nat} : drawB T X call E ops tm h df ≠ .jump j tm' h' df' := by
  intro e
  unfold drawB at e
  simp only at e
  cases hok : okPlan ops E.size (masks ops.toList []) (mkPlan ops.toList (masks ops.toList [])).1 (mkPlan ops.toList (masks ops.toList [])).2 with
  | false => rw [hok] at e; cases e
  | true =>
    rw [hok, ifB_true] at e
    split at e
    · split at e <;> cases e
    · cases e

/-- What a loop over a function has left to do. -/
def afterR (tm : PM Value) (h : AH) (df : List Nat) (j : Option Code) : CO := match j with
  | none => .fall tm h df
  | some .ret => .jump .ret tm h df
  | some (.exit i) => .jump (.exit i) tm h df
  | some (.goto i) => .jump (.goto i) tm h df
  | _ => .bad
/-- A statement that ranges over a function. -/
def rangeB (T : Tab) (X : Exts) (call : Callee) (E : Env) (f : Operand) (params : Array Tmp) (assign body : Code) (tm : PM Value) (bd : Nat) (h1 : AH) (df : List Nat) : CO :=
  match ev T tm f with
  | some fv => match evCall T X fv [.func (.yield h1.next) #[] #[]]
      (h1.new (.loop { state := .ready, pending := none, fn := E.fn, tmps := (tmpsOf E.size tm).toArray, params := params, assign := assign, body := body, defers := bd })) with
    | some (.enter g args, h) => match call g args h with
      | some (_, h) => match h.get h1.next with
        | some (.loop r) => match r.state with
          | .busy => .bad
          | _ => afterR tm (h.set h1.next (.loop { r with state := .exhausted })) df r.pending
        | _ => .bad
      | none => .bad
    | _ => .bad
  | none => .bad

def stepB (T : Tab) (X : Exts) (call : Callee) (self : Self) (E : Env) (j : Job) (tm : PM Value) (h : AH) (df : List Nat) : CO :=
  match j with
  | .loop body => match self E (.code body) tm h df with
    | .fall tm h df => self E (.loop body) tm h df
    | o => o
  | .scope body start => match self E (.code start) tm h df with
    | .jump j tm h df => match j with
      | .goto l => match findLabel body l with
        | some rest => self E (.scope body rest) tm h df
        | none => .jump (.goto l) tm h df
      | j => .jump j tm h df
    | o => o
  | .code c => match c with
    | .ret => .jump .ret tm h df
    | .exit i => .jump (.exit i) tm h df
    | .goto i => .jump (.goto i) tm h df
    | .skip => .fall tm h df
    | .label _ => .fall tm h df
    | .seq a b => match self E (.code a) tm h df with
      | .fall tm h df => self E (.code b) tm h df
      | o => o
    | .cond c x y => match ev T tm c with
      | some (.bool b) => self E (.code (ifB b x y)) tm h df
      | _ => .bad
    | .block i body => match self E (.code body) tm h df with
      | .jump j tm h df => match j with
        | .exit i' => ifB (Nat.beq i i') (.fall tm h df) (.jump (.exit i') tm h df)
        | j => .jump j tm h df
      | o => o
    | .loop body => match self E (.code body) tm h df with
      | .fall tm h df => self E (.loop body) tm h df
      | o => o
    | .scope body => self E (.scope body body) tm h df
    | .region _ ops draw => match draw with
      | false => opsB T X call self E ops df ops.toList tm h
      | true => drawB T X call E ops tm h df
    | .rangeFunc f params assign body => match E.rnd with
      | none => rangeB T X call E f params assign body tm h.next (h.new (.defs (some []))) (h.next :: df)
      | some l => match h.get l with
        | some (.loop r) => rangeB T X call E f params assign body tm r.defers h df
        | _ => .bad
    | .refuse _ => .bad

def codeB (T : Tab) (X : Exts) (call : Callee) (n : Nat) : Self :=
  Nat.rec (motive := fun _ => Self) (fun _ _ _ _ _ => .bad) (fun _ ih => stepB T X call ih) n

/-- What was deferred in rounds: nothing. -/
def undef1 : List Nat → AH → Option AH
  | [], h => some h
  | b :: df, h => match h.get b with
    | some (.defs (some [])) => undef1 df (h.set b (.defs none))
    | _ => none
def retB (T : Tab) (f : Nat) (tm : PM Value) (h : AH) (df : List Nat) : Option (Value × AH) := match undef1 df h with
  | some h => match resultA T f tm h with
    | some v => some (v, h)
    | none => none
  | none => none
def frameB (T : Tab) (X : Exts) (call : Callee) (n : Nat) (f : Nat) (args : List Value) (h : AH) : Option (Value × AH) :=
  match T.ft.get f with
  | some fd => match fd.body with
    | some c => ifB (Nat.ble args.length fd.ntmps) (match codeB T X call n ⟨f, fd.ntmps, none⟩ (.code c) (PM.ofList args) h [] with
      | .fall tm h df => retB T f tm h df
      | .jump j tm h df => match j with
        | .ret => retB T f tm h df
        | _ => none
      | .bad => none) none
    | none => none
  | none => none

/-- Functions whose answers are known. -/
abbrev Sums := Nat → Option (List Value → AH → Option (Value × AH))
def SumOK (T : Tab) (S : Sums) : Prop := ∀ f g, S f = some g → ∀ args h v h', g args h = some (v, h') → CallOK T f args h v h'
def callB (T : Tab) (X : Exts) (S : Sums) (n d : Nat) : Callee :=
  Nat.rec (motive := fun _ => Callee) (fun _ _ _ => none) (fun _ ih f args h => match S f with
    | some g => match g args h with
      | some r => some r
      | none => frameB T X ih n f args h
    | none => frameB T X ih n f args h) d

/- Soundness. -/
def JumpTo (j : Code) (k2 k : List AItem) : Prop := match j with
  | .ret => True
  | .exit i => exitToA i k2 = exitToA i k
  | .goto l => gotoInA l k2 = gotoInA l k
  | _ => False
def Does (T : Tab) (E : Env) (j : Job) (tm : PM Value) (h : AH) (df : List Nat) : CO → Prop
  | .fall tm' h' df' => ∀ cs k, RunM T ⟨mkF E tm (j.items k) df, cs, h⟩ ⟨mkF E tm' k df', cs, h'⟩
  | .jump c tm' h' df' => ∀ cs k, ∃ k2, RunM T ⟨mkF E tm (j.items k) df, cs, h⟩ ⟨mkF E tm' (.code c :: k2) df', cs, h'⟩ ∧ JumpTo c k2 k
  | .bad => True
def SelfOK (T : Tab) (self : Self) : Prop := ∀ E j tm h df, Does T E j tm h df (self E j tm h df)

section
variable {T : Tab} (ok : TabOK T) (oz : TabZ T) {X : Exts} (hX : ExtOK T X) {call : Callee} (hc : RecOK T call) {self : Self} (hs : SelfOK T self)
include ok oz hX

theorem RunM.one {E : Env} {tm : PM Value} {todo : List AItem} {df : List Nat} {cs : List AFrame} {h : AH} {c' : Conf} (e : stepA T X noDraw (mkF E tm todo df) cs h = .next c') : RunM T ⟨mkF E tm todo df, cs, h⟩ c' :=
  RunM.step ok oz hX (noDraw_ok T) e

omit ok oz hX in
theorem opStep {E : Env} {tm : PM Value} {all : Array Oper} {o : Oper} {rest : List Oper} {k : List AItem} {df : List Nat} {cs : List AFrame} {h : AH} {tm2 : PM Value} {h2 : AH}
    (e : ∀ (base : List Frame) (r : Ren) (w : World) (f : Frame) (cs' : List Frame) (i : Nat) (is : List Nat) (k' : List Item), HR T.P r h w → FR r (mkF E tm (.ops all (o :: rest) :: k) df) f → CR r base cs cs' →
      f.todo = .inRegion all (i :: is) :: k' → all[i]? = some o → ∃ r1 w1 v v', Steps T.P (lone f cs' w) (lone (f.finish v') cs' w1) ∧ HR T.P r1 h2 w1 ∧ Ext r h w r1 h2 w1 ∧ VR r1 v v' ∧ putT E.size tm o.dst v = some tm2) :
    RunM T ⟨mkF E tm (.ops all (o :: rest) :: k) df, cs, h⟩ ⟨mkF E tm2 (.ops all rest :: k) df, cs, h2⟩ := by
  intro base r w f cs' hr hf hc
  obtain ⟨b, k', h2', h3, h4⟩ := hf.todo.cons_inv
  obtain ⟨i, is, rfl, h5, h6⟩ := h3.ops_cons
  obtain ⟨r1, w1, v, v', p1, p2, p3, p4, p5⟩ := e base r w f cs' i is k' hr hf hc h2' h5
  have hf1 := hf.mono p3.sub
  refine ⟨r1, w1, _, cs', p1, ?_, hc.mono p3.sub, p2, p3⟩
  have := putT_some (fr := mkF E tm (.ops all (o :: rest) :: k) df) (k := k) hf1 hf1.tm hf1.un h2' h5 (h6.mono p3.sub) (h4.mono fun _ _ h => h.mono p3.sub) p4 p5
  exact this

include hs
theorem roundB_sound {E : Env} {tm : PM Value} {all : Array Oper} {o : Oper} {rest : List Oper} {k : List AItem} {df : List Nat} {cs : List AFrame} {l f : Nat} {tmps : List Value} {a b : Code} {h h2 : AH} {v : Value} (e : roundB self l f tmps a b h = some (v, h2))
    {tm2 : PM Value} (hp : putT E.size tm o.dst v = some tm2) :
    RunM T ⟨mkF ⟨f, tmps.length, some l⟩ (PM.ofList tmps) [.code a, .beginRound, .code b] [], mkF E tm (.ops all (o :: rest) :: k) df :: cs, h⟩ ⟨mkF E tm2 (.ops all rest :: k) df, cs, h2⟩ := by
  have fin : ∀ {C : AFrame}, C = mkF E tm (.ops all (o :: rest) :: k) df → finishA C v = some (mkF E tm2 (.ops all rest :: k) df) := by
    rintro _ rfl
    show (match putT E.size tm o.dst v with | some tm => some ((mkF E tm (.ops all (o :: rest) :: k) df).upd tm (.ops all rest :: k)) | none => none) = _
    rw [hp]; rfl
  unfold roundB at e
  have h1 := hs ⟨f, tmps.length, some l⟩ (.code a) (PM.ofList tmps) h []
  split at e
  · rename_i tm1 hh df1 he
    rw [he] at h1
    refine RunM.trans (h1 _ [.beginRound, .code b]) ?_
    split at e
    · rename_i r hl
      split at e
      · rename_i hst
        refine RunM.trans (RunM.one ok oz hX (c' := ⟨mkF ⟨f, tmps.length, some l⟩ tm1 [.code b] df1, mkF E tm (.ops all (o :: rest) :: k) df :: cs, hh.set l (.loop { r with state := .busy })⟩) (by
          show (match hh.get l with | some (.loop r) => (match r.state with | .ready => goOn (mkF ⟨f, tmps.length, some l⟩ tm1 [.code b] df1) (mkF E tm (.ops all (o :: rest) :: k) df :: cs) (hh.set l (.loop { r with state := .busy })) | _ => Fin.stuck) | _ => Fin.stuck) = _
          rw [hl]; simp only [hst]; rfl)) ?_
        have hb2 := hs ⟨f, tmps.length, some l⟩ (.code b) tm1 (hh.set l (.loop { r with state := .busy })) df1
        have leave : ∀ {jump : Option Code} {tm3 : PM Value} {h3 : AH} {df3 : List Nat} {todo : List AItem}, leaveR l jump h3 = some (v, h2) →
            stepA T X noDraw (mkF ⟨f, tmps.length, some l⟩ tm3 todo df3) (mkF E tm (.ops all (o :: rest) :: k) df :: cs) h3 = leaveA (mkF ⟨f, tmps.length, some l⟩ tm3 todo df3) (mkF E tm (.ops all (o :: rest) :: k) df :: cs) h3 jump →
            RunM T ⟨mkF ⟨f, tmps.length, some l⟩ tm3 todo df3, mkF E tm (.ops all (o :: rest) :: k) df :: cs, h3⟩ ⟨mkF E tm2 (.ops all rest :: k) df, cs, h2⟩ := by
          intro jump tm3 h3 df3 todo e1 e2
          refine RunM.one ok oz hX ?_
          rw [e2]
          unfold leaveR at e1
          split at e1
          · rename_i r3 hl3
            cases e1
            show (match h3.get l with | some (.loop r) => (match isNormal CallKind.normal with | true => doRetA (mkF E tm (.ops all (o :: rest) :: k) df :: cs) (.bool jump.isNone) (h3.set l (.loop { r with state := stAfter jump, pending := jump })) | false => .stuck) | _ => .stuck) = _
            rw [hl3]
            show (match finishA (mkF E tm (.ops all (o :: rest) :: k) df) (.bool jump.isNone) with | some c => goOn c cs _ | none => .stuck) = _
            rw [fin rfl]; rfl
          · cases e1
        split at e
        · rename_i tm3 h3 df3 he2
          rw [he2] at hb2
          exact RunM.trans (hb2 _ []) (leave e rfl)
        · rename_i j tm3 h3 df3 he2
          rw [he2] at hb2
          obtain ⟨k2, p1, p2⟩ := hb2 (mkF E tm (.ops all (o :: rest) :: k) df :: cs) []
          refine RunM.trans p1 (leave e ?_)
          cases j with
          | ret => rfl
          | exit i =>
            have p3 : exitToA i k2 = none := p2
            show (match exitToA i k2 with | some k => _ | none => _) = _
            rw [p3]; rfl
          | goto i =>
            have p3 : gotoInA i k2 = none := p2
            show (match gotoInA i k2 with | some k => _ | none => _) = _
            rw [p3]; rfl
          | _ => exact absurd p2 id
        · cases e
      · cases e
    · cases e
  · cases e

include hc in
theorem opsB_sound {E : Env} {all : Array Oper} {df : List Nat} {k : List AItem} {cs : List AFrame} : ∀ (rest : List Oper) (tm : PM Value) (h : AH) {tm' : PM Value} {h' : AH} {df' : List Nat},
    opsB T X call self E all df rest tm h = .fall tm' h' df' → RunM T ⟨mkF E tm (.ops all rest :: k) df, cs, h⟩ ⟨mkF E tm' k df', cs, h'⟩ := by
  intro rest
  induction rest with
  | nil =>
    intro tm h tm' h' df' e
    cases e
    exact RunM.one ok oz hX rfl
  | cons o rest ih =>
    intro tm h tm' h' df' e
    have put : ∀ {v : Value} {h1 : AH}, (setPut E o tm v fun tm => opsB T X call self E all df rest tm h1) = .fall tm' h' df' →
        ∃ tm2, putT E.size tm o.dst v = some tm2 ∧ RunM T ⟨mkF E tm2 (.ops all rest :: k) df, cs, h1⟩ ⟨mkF E tm' k df', cs, h'⟩ := by
      intro v h1 e
      unfold setPut at e
      split at e
      · rename_i tm2 hp; exact ⟨tm2, hp, ih _ _ e⟩
      · cases e
    rw [opsB] at e
    split at e
    · rename_i hw
      split at e
      · rename_i v h1 he
        obtain ⟨tm2, hp, hrun⟩ := put e
        refine RunM.trans (opStep fun base r w f cs' i is k' hr hf hc h2 h5 => ?_) hrun
        obtain ⟨w1, r1, q1, q2, v', q3, q4⟩ := evOp_sound ok oz hX hr (frame_ER ok hr hf.tm) he
        exact ⟨r1, w1, v, v', .one (st_value (MoR.run_inv hf.mode) h2 h5 (wantedA_sound hf.tm hf.size hw) (.inr fun c hc => by obtain ⟨d, hd⟩ := evOp_defer hc he; cases hd) q3), q1, q2, q4, hp⟩
      · rename_i h1 he
        obtain ⟨tm2, hp, hrun⟩ := put e
        refine RunM.trans (opStep fun base r w f cs' i is k' hr hf hc h2 h5 => ?_) hrun
        obtain ⟨w1, r1, q1, q2, q3⟩ := evOp_sound ok oz hX hr (frame_ER ok hr hf.tm) he
        exact ⟨r1, w1, undef, undef, .one (st_sk (MoR.run_inv hf.mode) h2 h5 (wantedA_sound hf.tm hf.size hw) (.inr fun c hc => by obtain ⟨d, hd⟩ := evOp_defer hc he; cases hd) q3), q1, q2, VR.undef r1, hp⟩
      · rename_i g args h1 he
        split at e
        · rename_i v h3 hcall
          obtain ⟨tm2, hp, hrun⟩ := put e
          refine RunM.trans (opStep fun base r w f cs' i is k' hr hf hcr h2 h5 => ?_) hrun
          obtain ⟨w1, r1, q1, q2, args', q3, q4⟩ := evOp_sound ok oz hX hr (frame_ER ok hr hf.tm) he
          obtain ⟨r2, w2, fr2, v2, p1, _, p3, p4, p5, p6⟩ := hc g args h1 v h3 hcall (f :: cs') r1 w1 args' q1 q4
          refine ⟨r2, w2, v, v2, .head (st_enter (MoR.run_inv hf.mode) h2 h5 (wantedA_sound hf.tm hf.size hw) (.inr fun c hc => by obtain ⟨d, hd⟩ := evOp_defer hc he; cases hd) q3) (p1.trans (.one (step_leave_returned p3))), p5, q2.trans hr p6, p4, hp⟩
        · cases e
      · rename_i l f tmps a b h1 he
        split at e
        · rename_i v h3 hcall
          obtain ⟨tm2, hp, hrun⟩ := put e
          refine RunM.trans ?_ hrun
          refine RunM.trans (RunM.one ok oz hX ?_) (roundB_sound ok oz hX hs hcall hp)
          show opsLoop T X (mkF E tm (.ops all (o :: rest) :: k) df) cs all k (o :: rest) tm h = _
          rw [opsLoop]
          simp only [hw, he]
          rfl
        · cases e
      · cases e
    · rename_i hw
      obtain ⟨tm2, hp, hrun⟩ := put e
      refine RunM.trans (opStep fun base r w f cs' i is k' hr hf hc h2 h5 => ?_) hrun
      exact ⟨r, w, undef, undef, .one (st_unwanted (MoR.run_inv hf.mode) h2 h5 (wantedA_sound hf.tm hf.size hw)), hr, .refl _ _ _, VR.undef r, hp⟩
    · cases e
end
end
end Go.Proofs.YtknchhnibjfocaaDoor.Abs
