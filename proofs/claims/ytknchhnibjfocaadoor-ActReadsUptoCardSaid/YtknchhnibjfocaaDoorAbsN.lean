/- An abstract machine: operations, all of them. -/
import Derived.Test.YtknchhnibjfocaaDoorAbsM
import Derived.Orders
namespace Go.Proofs.YtknchhnibjfocaaDoor.Abs
open Go
noncomputable section

def evParts (T : Tab) (tm : PM Value) : List (Nat × Operand) → Option (List (Nat × Value))
  | [] => some []
  | (i, x) :: l => match ev T tm x with
    | some v => (match evParts T tm l with
      | some r => some ((i, v) :: r)
      | none => none)
    | none => none
theorem evParts_sound {T : Tab} {r : Ren} {tm : PM Value} {f : Operand → Value} (he : ER T r tm f) : ∀ (l : List (Nat × Operand)) (vs : List (Nat × Value)), evParts T tm l = some vs → PR r vs (l.map fun p => (p.1, f p.2)) := by
  intro l
  induction l with
  | nil => intro vs e; cases e; exact ⟨rfl, fun i p p' a => by simp at a⟩
  | cons x l ih =>
    intro vs e
    obtain ⟨i, x⟩ := x
    rw [evParts] at e
    split at e
    · rename_i v hv
      split at e
      · rename_i rr hr
        cases e
        have := ih rr hr
        refine ⟨by simpa using this.1, ?_⟩
        intro j p p' a b
        cases j with
        | zero => simp at a b; subst a; subst b; exact ⟨rfl, he x v hv⟩
        | succ j => exact this.2 j p p' (by simpa using a) (by simpa using b)
      · cases e
    · cases e

def evOpt (T : Tab) (tm : PM Value) : Option Operand → Option (Option Value)
  | none => some none
  | some x => match ev T tm x with
    | some v => some (some v)
    | none => none
theorem evOpt_sound {T : Tab} {r : Ren} {tm : PM Value} {f : Operand → Value} (he : ER T r tm f) {x : Option Operand} {v : Option Value} (e : evOpt T tm x = some v) : OVR r v (x.map f) := by
  cases x with
  | none => cases e; exact .none
  | some x =>
    simp only [evOpt] at e
    split at e
    · rename_i v hv; cases e; exact .some _ _ (he x v hv)
    · cases e

abbrev Res := Option (Out × AH)
def rv (v : Option Value) (h : AH) : Res := match v with | some v => some (.value v, h) | none => none
def rp (p : Option (Value × AH)) : Res := match p with | some p => some (.value p.1, p.2) | none => none
def ru (p : Option AH) : Res := match p with | some h => some (.skip, h) | none => none
def w1 (v : Option Value) (k : Value → Res) : Res := match v with | some v => k v | none => none

theorem rv_some {v : Option Value} {h h' : AH} {o : Out} (e : rv v h = some (o, h')) : ∃ x, v = some x ∧ o = .value x ∧ h' = h := by
  unfold rv at e; split at e
  · cases e; exact ⟨_, rfl, rfl, rfl⟩
  · cases e
theorem rp_some {p : Option (Value × AH)} {h' : AH} {o : Out} (e : rp p = some (o, h')) : ∃ x, p = some (x, h') ∧ o = .value x := by
  unfold rp at e; split at e
  · cases e; exact ⟨_, rfl, rfl⟩
  · cases e
theorem ru_some {p : Option AH} {h' : AH} {o : Out} (e : ru p = some (o, h')) : p = some h' ∧ o = .skip := by
  unfold ru at e; split at e
  · cases e; exact ⟨rfl, rfl⟩
  · cases e
theorem w1_some {v : Option Value} {k : Value → Res} {p : Out × AH} (e : w1 v k = some p) : ∃ x, v = some x ∧ k x = some p := by
  unfold w1 at e; split at e
  · exact ⟨_, rfl, e⟩
  · cases e

def evPick (c a b : Option Value) (h : AH) : Res := match c with
  | some (.bool t) => (match t with
    | true => rv a h
    | false => rv b h)
  | _ => none
def evLoad (T : Tab) (t : TypeId) (x : Value) (h : AH) : Option Value := match x with | .pointer (some a) => loadVarA T t a.block a.off h | _ => none
def evStore (T : Tab) (t : TypeId) (x y : Value) (h : AH) : Option AH := match x with | .pointer (some a) => storeVarA T t a.block a.off y h | _ => none
def evUnary (T : Tab) (op : UnOp) (x : Value) (h : AH) : Option (Value × AH) := match op, x with
  | .not, .bool b => some (.bool (!b), h)
  | _, x => ifB (flat x) (flatOp T (Op.unary op x) h) none
def evS2A (T : Tab) (arr : TypeId) (x : Value) : Option Value := match x with
  | .slice (some a) len _ => (match und T arr with
    | some (.array n _) => ifB (Nat.ble n len && Nat.blt 0 len) (some (.pointer (some ⟨a.block, a.off, none⟩))) none
    | _ => none)
  | _ => none
def evMakeMap (T : Tab) (t : TypeId) (x : Option Value) (h : AH) : Option (Value × AH) := match x with
  | none => some (.map (some h.next), h.new (.map [] 0))
  | some (.int _ _) => (match und T t with
    | some (.map _ _) => some (.map (some h.next), h.new (.map [] 0))
    | _ => none)
  | _ => none
def flatO : Option Value → Bool
  | none => true
  | some v => flat v
def evSliceX (T : Tab) (t : TypeId) (x : Value) (lo hi mx : Option Value) (h : AH) : Option (Value × AH) := match x with
  | .string s => ifB (flatO lo && (flatO hi && flatO mx)) (flatOp T (Instr.sliceAt t (.string s) lo hi mx) h) none
  | x => (match evSlice T t x lo hi mx h with
    | some v => some (v, h)
    | none => none)
def evPanic (x : Value) (h : AH) : Res := match x with
  | .iface t v => some (.panic (.iface t v), h)
  | _ => none
def evDefer (T : Tab) (tm : PM Value) (c : Call) (h : AH) : Res := match c.callee with
  | .value f => w1 (ev T tm f) fun f => (match f with
    | .func fn first captured => (match evals T tm c.args.toList with
      | some args => some (.defer { target := .fn fn captured, args := (first.toList ++ args).toArray }, h)
      | none => none)
    | _ => none)
  | _ => none
def evCallOp (T : Tab) (X : Exts) (tm : PM Value) (c : Call) (ty : TypeId) (h : AH) : Res :=
  match evals T tm c.args.toList with
  | some args => (match c.callee with
    | .builtin b => evBuiltin T b c.argTypes ty args h
    | .value f => w1 (ev T tm f) fun f => evCall T X f args h
    | .invoke _ _ => none)
  | none => none
def evMakeFunc (T : Tab) (tm : PM Value) (fn : Fn) (first captured : List Operand) (h : AH) : Res :=
  match plainFn fn with
  | true => (match evals T tm first with
    | some a => (match evals T tm captured with
      | some b => some (.value (.func fn a.toArray b.toArray), h)
      | none => none)
    | none => none)
  | false => none
def evBuildX (T : Tab) (tm : PM Value) (t : TypeId) (ps : List (Nat × Operand)) (h : AH) : Res := match evParts T tm ps with
  | some vs => rp (evBuild T t vs h)
  | none => none
def evBuildSliceX (T : Tab) (tm : PM Value) (t : TypeId) (n : Nat) (ps : List (Nat × Operand)) (h : AH) : Res := match evParts T tm ps with
  | some vs => rp (evBuildSlice T t n vs h)
  | none => none
def ev3 (T : Tab) (tm : PM Value) (a b c : Option Operand) (k : Option Value → Option Value → Option Value → Res) : Res :=
  match evOpt T tm a with
  | some x => (match evOpt T tm b with
    | some y => (match evOpt T tm c with
      | some z => k x y z
      | none => none)
    | none => none)
  | none => none
def evMakeMapX (T : Tab) (tm : PM Value) (t : TypeId) (x : Option Operand) (h : AH) : Res := match evOpt T tm x with
  | some v => rp (evMakeMap T t v h)
  | none => none

def opFn : Op → Tab → Exts → PM Value → TypeId → AH → Res
  | .move x => fun T _ tm _ h => rv (ev T tm x) h
  | .assign x => fun T _ tm _ h => rv (ev T tm x) h
  | .pick c a b => fun T _ tm _ h => evPick (ev T tm c) (ev T tm a) (ev T tm b) h
  | .alloc e => fun T _ _ _ h => rp (evAlloc T e h)
  | .box e x => fun T _ tm _ h => w1 (ev T tm x) fun v => rp (some (evNewVar h e v))
  | .build t ps => fun T _ tm _ h => evBuildX T tm t ps.toList h
  | .buildSlice t n ps => fun T _ tm _ h => evBuildSliceX T tm t n ps.toList h
  | .load t x => fun T _ tm _ h => w1 (ev T tm x) fun x => rv (evLoad T t x h) h
  | .store t x y => fun T _ tm _ h => w1 (ev T tm x) fun x => w1 (ev T tm y) fun y => ru (evStore T t x y h)
  | .nilCheck x => fun T _ tm _ h => w1 (ev T tm x) fun x => rv (evNilCheck x) h
  | .binOp op t x y _ => fun T _ tm _ h => w1 (ev T tm x) fun a => w1 (ev T tm y) fun b => rv (evBin T op t x y a b h) h
  | .unOp op _ x => fun T _ tm _ h => w1 (ev T tm x) fun x => rp (evUnary T op x h)
  | .convert s d x => fun T _ tm _ h => w1 (ev T tm x) fun x => rp (evConvert T s d x h)
  | .sliceToArrayPointer arr x => fun T _ tm _ h => w1 (ev T tm x) fun x => rv (evS2A T arr x) h
  | .makeInterface t x => fun T _ tm _ h => w1 (ev T tm x) fun x => rv (evMakeIface T t x) h
  | .makeFunc fn first captured => fun T _ tm _ h => evMakeFunc T tm fn first.toList captured.toList h
  | .makeMap t r => fun T _ tm _ h => evMakeMapX T tm t r h
  | .makeSlice t l c => fun T _ tm _ h => w1 (ev T tm l) fun l => w1 (ev T tm c) fun c => rp (evMakeSlice T t l c h)
  | .slice t x lo hi mx => fun T _ tm _ h => w1 (ev T tm x) fun x => ev3 T tm lo hi mx fun lo hi mx => rp (evSliceX T t x lo hi mx h)
  | .fieldAddr s x f => fun T _ tm _ h => w1 (ev T tm x) fun x => rv (evFieldAddr T s x f) h
  | .field s x f => fun T _ tm _ h => w1 (ev T tm x) fun x => rv (evField T s x f) h
  | .indexAddr t x ix => fun T _ tm _ h => w1 (ev T tm x) fun x => w1 (ev T tm ix) fun i => rv (evIndexAddr T t x i) h
  | .index t x ix => fun T _ tm _ h => w1 (ev T tm x) fun x => w1 (ev T tm ix) fun i => rv (evIndex T t x i) h
  | .lookup t x ix okk => fun T _ tm _ h => w1 (ev T tm x) fun x => w1 (ev T tm ix) fun i => rv (evLookup T t x i okk h) h
  | .mapUpdate t m k x => fun T _ tm _ h => w1 (ev T tm m) fun m => w1 (ev T tm k) fun k => w1 (ev T tm x) fun x => ru (evMapUpdate T t m k x h)
  | .insert t m k x => fun T _ tm _ h => w1 (ev T tm m) fun m => w1 (ev T tm k) fun k => w1 (ev T tm x) fun x => ru (evMapUpdate T t m k x h)
  | .range t x => fun T _ tm _ h => w1 (ev T tm x) fun x => rp (evRange T t x h)
  | .next it b => fun T _ tm _ h => w1 (ev T tm it) fun x => rp (evNext x b h)
  | .typeAssert x _ t okk => fun T _ tm _ h => w1 (ev T tm x) fun x => rv (evTypeAssert T t okk x) h
  | .extract x i => fun T _ tm _ h => w1 (ev T tm x) fun x => rv (evExtract x i) h
  | .call c => fun T X tm ty h => evCallOp T X tm c ty h
  | .defer c => fun T _ tm _ h => evDefer T tm c h
  | .panic x => fun T _ tm _ h => w1 (ev T tm x) fun x => evPanic x h
  | _ => fun _ _ _ _ _ => none
def evOp (T : Tab) (X : Exts) (tm : PM Value) (o : Oper) (h : AH) : Res := opFn o.op T X tm o.type h

theorem SOK.unit {P : Program} {r : Ren} {h h' : AH} {w : World} {s : Sem Unit} (hs : ∃ w', s.run P w = .ok () w' ∧ HR P r h' w' ∧ Ext r h w r h' w') : OOK P r h w (do s; pure .skip) .skip h' := by
  obtain ⟨w', e, hr, hx⟩ := hs
  exact ⟨w', r, hr, hx, by show (do s; pure Next.skip : Sem Next).run P w = _; simp [e]⟩

theorem run_resolve {P : Program} {w : World} {ρ : Operand → Value} {c : Call} {ty : TypeId} {f : Operand} (hc : c.callee = .value f) : (resolve ρ c ty).run P w = (Deferred.ofValue (ρ f) (c.args.map ρ)).run P w := by
  unfold resolve
  rw [hc]

theorem run_resolve_builtin {P : Program} {w : World} {ρ : Operand → Value} {c : Call} {ty : TypeId} {b : Builtin} (hc : c.callee = .builtin b) :
    ∃ cs, (resolve ρ c ty).run P w = .ok { target := .builtin b c.argTypes ty cs, args := c.args.map ρ } w := by
  refine ⟨c.args.map fun | .const _ => true | _ => false, ?_⟩
  unfold resolve
  rw [hc]
  rfl

theorem nil_ptr {P : Program} {w : World} {f : Operand → Value} {x : Operand} {a : Addr} {dst : Option Tmp} {ty : TypeId} {pos : String} {after : Array Edge} {guard : Option (Nat × Bool)} (h : f x = .pointer (some a)) :
    (execOp f { dst := dst, op := .nilCheck x, type := ty, pos := pos, after := after, guard := guard }).run P w = .ok (.value (.pointer (some a))) w := by
  rw [execOp_congr (ρ' := fun _ => f x) _ (fun _ _ => by simp) fun y hy => by simp [Op.operands] at hy; rw [hy]]
  rw [h]
  rfl
theorem nil_func {P : Program} {w : World} {f : Operand → Value} {x : Operand} {g : FuncId} {a b : Array Value} {dst : Option Tmp} {ty : TypeId} {pos : String} {after : Array Edge} {guard : Option (Nat × Bool)} (h : f x = .func (.func g) a b) :
    (execOp f { dst := dst, op := .nilCheck x, type := ty, pos := pos, after := after, guard := guard }).run P w = .ok (.value (.func (.func g) a b)) w := by
  rw [execOp_congr (ρ' := fun _ => f x) _ (fun _ _ => by simp) fun y hy => by simp [Op.operands] at hy; rw [hy]]
  rw [h]
  rfl
theorem nil_iface {P : Program} {w : World} {f : Operand → Value} {x : Operand} {g : TypeId} {a : Value} {dst : Option Tmp} {ty : TypeId} {pos : String} {after : Array Edge} {guard : Option (Nat × Bool)} (h : f x = .iface g a) :
    (execOp f { dst := dst, op := .nilCheck x, type := ty, pos := pos, after := after, guard := guard }).run P w = .ok (.value (.iface g a)) w := by
  rw [execOp_congr (ρ' := fun _ => f x) _ (fun _ _ => by simp) fun y hy => by simp [Op.operands] at hy; rw [hy]]
  rw [h]
  rfl

set_option maxHeartbeats 1000000 in
theorem evOp_sound {T : Tab} (ok : TabOK T) (oz : TabZ T) {X : Exts} (hX : ExtOK T X) {r : Ren} {h h' : AH} {w : World} (hr : HR T.P r h w) {tm : PM Value} {f : Operand → Value} (he : ER T r tm f) {o : Oper} {out : Out}
    (e : evOp T X tm o h = some (out, h')) : OOK T.P r h w (execOp f o) out h' := by
  obtain ⟨dst, op, ty, pos, after, guard⟩ := o
  unfold evOp opFn at e
  cases op <;> simp only at e <;> try (cases e; done)
  case move x =>
    obtain ⟨v, h1, rfl, rfl⟩ := rv_some e
    exact .same hr rfl (he x v h1)
  case assign x =>
    obtain ⟨v, h1, rfl, rfl⟩ := rv_some e
    exact .same hr rfl (he x v h1)
  case pick c a b =>
    unfold evPick at e
    split at e
    · rename_i t hc
      have hcv := he c _ hc
      generalize hfc : f c = c' at hcv
      cases hcv
      split at e
      · obtain ⟨v, h1, rfl, rfl⟩ := rv_some e
        refine .same hr (v' := f a) ?_ (he a v h1)
        show (do pure (Next.value (if ← asBool (f c) then f a else f b)) : Sem Next).run T.P w = _
        simp [hfc, asBool]
      · obtain ⟨v, h1, rfl, rfl⟩ := rv_some e
        refine .same hr (v' := f b) ?_ (he b v h1)
        show (do pure (Next.value (if ← asBool (f c) then f a else f b)) : Sem Next).run T.P w = _
        simp [hfc, asBool]
    · cases e
  case alloc el =>
    obtain ⟨v, h1, rfl⟩ := rp_some e
    exact (evAlloc_sound ok oz hr h1).next
  case box el x =>
    obtain ⟨v, h1, e⟩ := w1_some e
    obtain ⟨v2, h2, rfl⟩ := rp_some e
    cases h2
    exact (evNewVar_sound hr el (he x v h1)).next
  case build t ps =>
    unfold evBuildX at e
    split at e
    · rename_i vs hvs
      obtain ⟨v, h1, rfl⟩ := rp_some e
      have := evParts_sound he ps.toList vs hvs
      refine (evBuild_sound ok oz hr ?_ h1).next
      simpa using this
    · cases e
  case buildSlice t n ps =>
    unfold evBuildSliceX at e
    split at e
    · rename_i vs hvs
      obtain ⟨v, h1, rfl⟩ := rp_some e
      have := evParts_sound he ps.toList vs hvs
      refine (evBuildSlice_sound ok oz hr ?_ h1).next
      simpa using this
    · cases e
  case load t x =>
    obtain ⟨v, h1, e⟩ := w1_some e
    obtain ⟨v2, h2, rfl, rfl⟩ := rv_some e
    unfold evLoad at h2
    split at h2
    · rename_i a
      have hv := he x _ h1
      generalize hfx : f x = x' at hv
      cases hv with
      | ptr b o bk hb =>
        obtain ⟨v', g1, g2⟩ := loadVarA_sound ok hr hb h2
        refine SOK.next (s := Instr.loadAt t (f x)) (.same hr (v' := v') ?_ g2)
        simp only [hfx, Instr.loadAt, Instr.sureAddr, Sem.run_bind, Sem.run_pure, Result.andThen_ok, g1]
    · cases h2
  case store t x y =>
    obtain ⟨v, h1, e⟩ := w1_some e
    obtain ⟨v2, h2, e⟩ := w1_some e
    obtain ⟨h3, rfl⟩ := ru_some e
    unfold evStore at h3
    split at h3
    · rename_i a
      have hv := he x _ h1
      generalize hfx : f x = x' at hv
      cases hv with
      | ptr b o bk hb =>
        obtain ⟨w', g1, g2, g3⟩ := storeVarA_sound ok hr hb (he y _ h2) h3
        refine SOK.unit (s := Instr.storeAt t (f x) (f y)) ⟨w', ?_, g2, g3⟩
        simp only [hfx, Instr.storeAt, Instr.sureAddr, Sem.run_bind, Sem.run_pure, Result.andThen_ok, g1]
    · cases h3
  case nilCheck x =>
    obtain ⟨v, h1, e⟩ := w1_some e
    obtain ⟨v2, h2, rfl, rfl⟩ := rv_some e
    have hv := he x _ h1
    unfold evNilCheck at h2
    split at h2
    · cases h2
      generalize hfx : f x = x' at hv
      cases hv with
      | ptr b o bk hb => exact .same hr (nil_ptr hfx) (.ptr b o bk hb)
    · cases h2
      generalize hfx : f x = x' at hv
      cases hv with
      | func fn fn' a a' b b' hfn q1 q2 q3 q4 =>
        cases hfn
        exact .same hr (nil_func hfx) (.func _ _ _ _ _ _ (.func _) q1 q2 q3 q4)
    · cases h2
      generalize hfx : f x = x' at hv
      cases hv with
      | iface t v v' hv => exact .same hr (nil_iface hfx) (.iface _ _ _ hv)
    · cases h2
  case binOp bop t x y yt =>
    obtain ⟨v, h1, e⟩ := w1_some e
    obtain ⟨v2, h2, e⟩ := w1_some e
    obtain ⟨v3, h3, rfl, rfl⟩ := rv_some e
    exact (evBin_sound ok hr x y (he x _ h1) (he y _ h2) h3).next
  case unOp uop t x =>
    obtain ⟨v, h1, e⟩ := w1_some e
    obtain ⟨v2, h2, rfl⟩ := rp_some e
    have hv := he x _ h1
    unfold evUnary at h2
    split at h2
    · cases h2
      generalize hfx : f x = x' at hv
      cases hv
      refine SOK.next (s := Op.unary .not (f x)) (.same hr ?_ (.bool _))
      simp [hfx, Op.unary]
    · obtain ⟨e1, e2⟩ := ifB_some h2
      have := hv.flat_eq e1
      show OOK T.P r h w (do pure (.value (← Op.unary uop (f x)))) _ _
      rw [this]
      exact (flatOp_sound hr e2).next
  case convert s d x =>
    obtain ⟨v, h1, e⟩ := w1_some e
    obtain ⟨v2, h2, rfl⟩ := rp_some e
    exact (evConvert_sound ok hr (he x _ h1) h2).next
  case sliceToArrayPointer arr x =>
    obtain ⟨v, h1, e⟩ := w1_some e
    obtain ⟨v2, h2, rfl, rfl⟩ := rv_some e
    have hv := he x _ h1
    unfold evS2A at h2
    split at h2
    · rename_i a len cap
      split at h2
      · rename_i n el harr
        obtain ⟨e1, e2⟩ := ifB_some h2
        cases e2
        rw [Bool.and_eq_true] at e1
        have hle := ble_le e1.1
        obtain ⟨bk, cap', hb, hfx⟩ := hv.slice_base (blt_lt e1.2)
        refine SOK.next (s := Instr.arrayAt arr (f x)) (.same hr (v' := .pointer (some ⟨bk.blk, a.off + bk.dlt, none⟩)) ?_ (.ptr a.block a.off bk hb))
        simp [hfx, Instr.arrayAt, run_und w (und_ok ok harr), Nat.not_lt.2 hle]
      · cases h2
    · cases h2
  case makeInterface t x =>
    obtain ⟨v, h1, e⟩ := w1_some e
    obtain ⟨v2, h2, rfl, rfl⟩ := rv_some e
    exact (evMakeIface_sound ok hr (he x _ h1) h2).next
  case makeFunc fn first captured =>
    unfold evMakeFunc at e
    split at e
    · rename_i hp
      split at e
      · rename_i a ha
        split at e
        · rename_i b hb
          cases e
          have g1 := evals_sound he _ _ ha
          have g2 := evals_sound he _ _ hb
          refine .same hr (v' := .func fn (first.map f) (captured.map f)) rfl (.func _ _ _ _ _ _ (FnR.plain r hp) ?_ ?_ ?_ ?_)
          · have := g1.1; simpa using this
          · intro i v v' x y; exact g1.2 i v v' (by simpa using x) (by simpa using y)
          · have := g2.1; simpa using this
          · intro i v v' x y; exact g2.2 i v v' (by simpa using x) (by simpa using y)
        · cases e
      · cases e
    · cases e
  case makeMap t x =>
    unfold evMakeMapX at e
    split at e
    · rename_i v hv
      obtain ⟨v2, h2, rfl⟩ := rp_some e
      have hov := evOpt_sound he hv
      have new : ∀ (s : Sem Value), s.run T.P w = .ok (.map (some w.heap.size)) { w with heap := w.heap.push (.map #[] 0) } → SOK T.P r h w s (.map (some h.next)) (h.new (.map [] 0)) := by
        intro s hs
        obtain ⟨p1, p2⟩ := hr.new (w' := { w with heap := w.heap.push (.map #[] 0) }) (.map [] 0) (.map #[] 0) ⟨w.heap.size, 0, 0, 0⟩ rfl rfl ⟨#[], rfl, rfl, fun i e e' a => by simp at a⟩
        exact ⟨_, _, _, hs, .map h.next ⟨w.heap.size, 0, 0, 0⟩ (Ren.add_same _ _ _), p1, p2⟩
      unfold evMakeMap at h2
      split at h2
      · cases h2
        refine (new (Instr.makeMap t (x.map f)) ?_).next
        cases hx : x.map f with
        | none => simp [Instr.makeMap]
        | some y => rw [hx] at hov; cases hov
      · split at h2
        · rename_i kt et hmt
          cases h2
          refine (new (Instr.makeMap t (x.map f)) ?_).next
          cases hx : x.map f with
          | none => rw [hx] at hov; cases hov
          | some y =>
            rw [hx] at hov
            cases hov with
            | some _ _ hv => cases hv; simp [Instr.makeMap, run_und w (und_ok ok hmt), asInt, asIntOf]
        · cases h2
      · cases h2
    · cases e
  case makeSlice t l c =>
    obtain ⟨v, h1, e⟩ := w1_some e
    obtain ⟨v2, h2, e⟩ := w1_some e
    obtain ⟨v3, h3, rfl⟩ := rp_some e
    exact (evMakeSlice_sound ok oz hr (he l _ h1) (he c _ h2) h3).next
  case slice t x lo hi mx =>
    obtain ⟨v, h1, e⟩ := w1_some e
    unfold ev3 at e
    split at e
    · rename_i a ha
      split at e
      · rename_i b hb
        split at e
        · rename_i c hc
          obtain ⟨v2, h2, rfl⟩ := rp_some e
          have q1 := evOpt_sound he ha
          have q2 := evOpt_sound he hb
          have q3 := evOpt_sound he hc
          have hv := he x _ h1
          have hflat : ∀ {p q : Option Value}, OVR r p q → flatO p = true → q = p := by
            intro p q hpq hf
            cases hpq with
            | none => rfl
            | some v v' hv => rw [hv.flat_eq hf]
          unfold evSliceX at h2
          split at h2
          · rename_i s
            obtain ⟨e1, e2⟩ := ifB_some h2
            rw [Bool.and_eq_true, Bool.and_eq_true] at e1
            show OOK T.P r h w (do pure (.value (← Instr.sliceAt t (f x) (lo.map f) (hi.map f) (mx.map f)))) _ _
            rw [hv.flat_eq rfl, hflat q1 e1.1, hflat q2 e1.2.1, hflat q3 e1.2.2]
            exact (flatOp_sound hr e2).next
          · split at h2
            · rename_i v3 h3
              cases h2
              exact (evSlice_sound ok hr hv q1 q2 q3 h3).next
            · cases h2
        · cases e
      · cases e
    · cases e
  case fieldAddr s x i =>
    obtain ⟨v, h1, e⟩ := w1_some e
    obtain ⟨v2, h2, rfl, rfl⟩ := rv_some e
    exact (evFieldAddr_sound ok hr (he x _ h1) h2).next
  case field s x i =>
    obtain ⟨v, h1, e⟩ := w1_some e
    obtain ⟨v2, h2, rfl, rfl⟩ := rv_some e
    exact (evField_sound ok hr (he x _ h1) h2).next
  case indexAddr t x ix =>
    obtain ⟨v, h1, e⟩ := w1_some e
    obtain ⟨v2, h2, e⟩ := w1_some e
    obtain ⟨v3, h3, rfl, rfl⟩ := rv_some e
    exact (evIndexAddr_sound ok hr (he x _ h1) (he ix _ h2) h3).next
  case index t x ix =>
    obtain ⟨v, h1, e⟩ := w1_some e
    obtain ⟨v2, h2, e⟩ := w1_some e
    obtain ⟨v3, h3, rfl, rfl⟩ := rv_some e
    exact (evIndex_sound ok hr (he x _ h1) (he ix _ h2) h3).next
  case lookup t x ix okk =>
    obtain ⟨v, h1, e⟩ := w1_some e
    obtain ⟨v2, h2, e⟩ := w1_some e
    obtain ⟨v3, h3, rfl, rfl⟩ := rv_some e
    exact (evLookup_sound ok oz hr (he x _ h1) (he ix _ h2) h3).next
  case mapUpdate t m k x =>
    obtain ⟨v, h1, e⟩ := w1_some e
    obtain ⟨v2, h2, e⟩ := w1_some e
    obtain ⟨v3, h3, e⟩ := w1_some e
    obtain ⟨h4, rfl⟩ := ru_some e
    exact SOK.unit (evMapUpdate_sound ok hr (he m _ h1) (he k _ h2) (he x _ h3) h4)
  case insert t m k x =>
    obtain ⟨v, h1, e⟩ := w1_some e
    obtain ⟨v2, h2, e⟩ := w1_some e
    obtain ⟨v3, h3, e⟩ := w1_some e
    obtain ⟨h4, rfl⟩ := ru_some e
    exact SOK.unit (evMapUpdate_sound ok hr (he m _ h1) (he k _ h2) (he x _ h3) h4)
  case range t x =>
    obtain ⟨v, h1, e⟩ := w1_some e
    obtain ⟨v2, h2, rfl⟩ := rp_some e
    exact (evRange_sound ok hr (he x _ h1) h2).next
  case next it b =>
    obtain ⟨v, h1, e⟩ := w1_some e
    obtain ⟨v2, h2, rfl⟩ := rp_some e
    exact (evNext_sound hr ty (he it _ h1) h2).next
  case typeAssert x xt t okk =>
    obtain ⟨v, h1, e⟩ := w1_some e
    obtain ⟨v2, h2, rfl, rfl⟩ := rv_some e
    exact (evTypeAssert_sound ok oz hr xt (he x _ h1) h2).next
  case extract x i =>
    obtain ⟨v, h1, e⟩ := w1_some e
    obtain ⟨v2, h2, rfl, rfl⟩ := rv_some e
    exact (evExtract_sound hr (he x _ h1) h2).next
  case call c =>
    unfold evCallOp at e
    split at e
    · rename_i args ha
      have hargs : LR r args (c.args.map f).toList := by simpa using evals_sound he _ _ ha
      split at e
      · rename_i b hb
        have hres : ∃ cs, (do let d ← resolve f c ty; invoke d.target d.args : Sem Next).run T.P w = (builtin b c.argTypes ty cs (c.args.map f)).run T.P w := by
          obtain ⟨cs, h9⟩ := run_resolve_builtin (P := T.P) (w := w) (ρ := f) (ty := ty) hb
          exact ⟨cs, by simp only [Sem.run_bind, h9, Result.andThen_ok, invoke]⟩
        obtain ⟨cs, hres⟩ := hres
        obtain ⟨w', r', q1, q2, q3⟩ := evBuiltin_sound ok oz hr cs hargs e
        refine ⟨w', r', q1, q2, ?_⟩
        show OutR r' w' out ((do let d ← resolve f c ty; invoke d.target d.args : Sem Next).run T.P w)
        rw [hres]; exact q3
      · rename_i g hg
        obtain ⟨v, h1, e⟩ := w1_some e
        obtain ⟨w', r', q1, q2, q3⟩ := evCall_sound ok hX hr (he g _ h1) hargs e
        refine ⟨w', r', q1, q2, ?_⟩
        show OutR r' w' out ((do let d ← resolve f c ty; invoke d.target d.args : Sem Next).run T.P w)
        simp only [Sem.run_bind, run_resolve hg]
        simpa only [Sem.run_bind] using q3
      · cases e
    · cases e
  case defer c =>
    unfold evDefer at e
    split at e
    · rename_i g hg
      obtain ⟨v, h1, e⟩ := w1_some e
      split at e
      · rename_i fn first captured
        split at e
        · rename_i args ha
          cases e
          have hargs : LR r args (c.args.map f).toList := by simpa using evals_sound he _ _ ha
          have hv := he g _ h1
          generalize hfx : f g = x' at hv
          cases hv with
          | func fn fn' a a' b b' hfn q1 q2 q3 q4 =>
            refine ⟨w, r, hr, .refl _ _ _, { target := .fn fn' b', args := a' ++ c.args.map f }, ?_, .inl ⟨fn, fn', _, _, rfl, rfl, hfn, LR.of_array q3 q4, ?_⟩⟩
            · show (do pure (Next.defer (← resolve f c ty)) : Sem Next).run T.P w = _
              simp [run_resolve hg, hfx, Deferred.ofValue]
            · simpa using (LR.of_array q1 q2).append hargs
        · cases e
      · cases e
    · cases e
  case panic x =>
    obtain ⟨v, h1, e⟩ := w1_some e
    have hv := he x _ h1
    unfold evPanic at e
    split at e
    · cases e
      generalize hfx : f x = x' at hv
      cases hv with
      | iface _ _ v' hv => exact ⟨w, r, hr, .refl _ _ _, _, by show (do pure (Next.value (← Instr.panic (f x))) : Sem Next).run T.P w = _; simp [hfx, Instr.panic], .iface _ _ _ hv⟩
    · cases e
end
end Go.Proofs.YtknchhnibjfocaaDoor.Abs
