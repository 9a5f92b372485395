/- An abstract machine: a region whose order is drawn; the plan, and what it computes. -/
import Derived.Test.YtknchhnibjfocaaDoorAbsT
import Derived.Orders
namespace Go.Proofs.YtknchhnibjfocaaDoor.Abs
open Go
noncomputable section

inductive PItem where
  | one (i : Nat)
  | eff (al : List Nat) (i : Nat) (rs : List Nat)

def TEq (a b : PM Value) : Prop := ∀ t, a.get t = b.get t
def setT (tm : PM Value) (o : Oper) (v : Value) : PM Value := match o.dst with
  | some d => tm.set d v
  | none => tm
theorem setT_get (tm : PM Value) (o : Oper) (v : Value) (t : Nat) : (setT tm o v).get t = if o.dst = some t then some v else tm.get t := by
  unfold setT
  cases h : o.dst with
  | none => simp
  | some d =>
    simp only [PM.get_set, Option.some.injEq]
    by_cases hd : t = d
    · simp [hd]
    · simp [hd, Ne.symm hd]
theorem setT_ne {tm : PM Value} {o : Oper} {v : Value} {t : Nat} (h : o.dst ≠ some t) : (setT tm o v).get t = tm.get t := by rw [setT_get, if_neg h]
theorem TEq.setT {a b : PM Value} (h : TEq a b) (o : Oper) (v : Value) : TEq (setT a o v) (setT b o v) := fun t => by rw [setT_get, setT_get, h t]
theorem setT_comm {tm : PM Value} {o o' : Oper} {v v' : Value} (h : ∀ d, o.dst = some d → o'.dst ≠ some d) : TEq (setT (setT tm o v) o' v') (setT (setT tm o' v') o v) := by
  intro t
  simp only [setT_get]
  by_cases h1 : o.dst = some t <;> by_cases h2 : o'.dst = some t <;> simp [h1, h2]
  exact absurd h2 (h t h1)

/-- Two lists of temporaries that agree wherever an operation looks. -/
def Agree (ops : Array Oper) (o : Oper) (a b : PM Value) : Prop := ∀ t ∈ o.looksAt ops, a.get t = b.get t
theorem Agree.ev {T : Tab} {ops : Array Oper} {o : Oper} {a b : PM Value} (h : Agree ops o a b) : ∀ x ∈ o.op.operands.toList, ev T a x = ev T b x := by
  intro x hx
  cases x with
  | tmp t => exact h t (List.mem_append_left _ (List.mem_filterMap.2 ⟨.tmp t, hx, rfl⟩))
  | _ => rfl
theorem Agree.wanted {ops : Array Oper} {o : Oper} {a b : PM Value} (h : Agree ops o a b) : wantedA ops a o = wantedA ops b o := by
  unfold wantedA
  cases hg : o.guard with
  | none => rfl
  | some p =>
    obtain ⟨j, want⟩ := p
    simp only
    cases hd : (ops[j]?).bind (·.dst) with
    | none => rfl
    | some d =>
      have : a.get d = b.get d := h d (by unfold Oper.looksAt; rw [hg]; exact List.mem_append_right _ (by simp [hd]))
      simp only [this]
theorem Agree.set {ops : Array Oper} {o o' : Oper} {a : PM Value} {v : Value} (h : ∀ d, o'.dst = some d → d ∉ o.looksAt ops) : Agree ops o (setT a o' v) a := by
  intro t ht
  exact setT_ne fun hd => h t hd ht
theorem Agree.trans {ops : Array Oper} {o : Oper} {a b c : PM Value} (h : Agree ops o a b) (h' : Agree ops o b c) : Agree ops o a c := fun t ht => (h t ht).trans (h' t ht)
theorem Agree.symm {ops : Array Oper} {o : Oper} {a b : PM Value} (h : Agree ops o a b) : Agree ops o b a := fun t ht => (h t ht).symm
theorem TEq.agree {ops : Array Oper} {o : Oper} {a b : PM Value} (h : TEq a b) : Agree ops o a b := fun t _ => h t

section
variable (T : Tab) (X : Exts) (rec : Nat → List Value → AH → Option (Value × AH)) (ops : Array Oper)

/-- A value, at the memory as it is. -/
def evAt (tm : PM Value) (o : Oper) (h : AH) : Option Value :=
  match wantedA ops tm o with
  | some true => evOne T X tm o h
  | some false => some undef
  | none => none

/-- An effect. -/
def evEff (tm : PM Value) (o : Oper) (h : AH) : Option (Value × AH) :=
  match wantedA ops tm o with
  | some true => match evOp T X tm o h with
    | some (.value v, h') => some (v, h')
    | some (.skip, h') => some (undef, h')
    | some (.enter g args, h') => rec g args h'
    | _ => none
  | some false => some (undef, h)
  | none => none

/-- A value that is handed on. -/
def mvOf (tm : PM Value) (o : Oper) : Option Value := match o.guard with
  | some _ => none
  | none => match o.op with
    | .assign (.tmp s) => tm.get s
    | _ => none
def runAl : List Nat → PM Value → AH → Option (PM Value × AH)
  | [], tm, h => some (tm, h)
  | l :: al, tm, h => match ops[l]? with
    | some o => match allocOf T tm o with
      | some p => runAl al (setT tm o (p.2 h.next)) (h.new p.1)
      | none => match mvOf tm o with
        | some v => runAl al (setT tm o v) h
        | none => none
    | none => none

mutual
def eqV : Value → Value → Bool
  | .bool a, .bool b => a == b
  | .int k a, .int k' b => decide (k = k') && decide (a = b)
  | .float k a, .float k' b => decide (k = k') && Nat.beq a b
  | .complex k a b, .complex k' a' b' => decide (k = k') && (Nat.beq a a' && Nat.beq b b')
  | .string a, .string b => eqBytes a.data.toList b.data.toList
  | .pointer none, .pointer none => true
  | .pointer (some a), .pointer (some b) => Nat.beq a.block b.block && (Nat.beq a.off b.off && (a.spot.isNone && b.spot.isNone))
  | .slice none l c, .slice none l' c' => Nat.beq l l' && Nat.beq c c'
  | .slice (some a) l c, .slice (some b) l' c' => Nat.beq a.block b.block && (Nat.beq a.off b.off && (a.spot.isNone && (b.spot.isNone && (Nat.beq l l' && Nat.beq c c'))))
  | .map (some a), .map (some b) => Nat.beq a b
  | .map none, .map none => true
  | .nilFunc, .nilFunc => true
  | .nilIface, .nilIface => true
  | .iface t v, .iface t' v' => Nat.beq t t' && eqV v v'
  | .agg a, .agg b => eqVs a.toList b.toList
  | .tuple a, .tuple b => eqVs a.toList b.toList
  | _, _ => false
def eqVs : List Value → List Value → Bool
  | [], [] => true
  | a :: l, b :: m => eqV a b && eqVs l m
  | _, _ => false
def eqBytes : List UInt8 → List UInt8 → Bool
  | [], [] => true
  | a :: l, b :: m => Nat.beq a.toNat b.toNat && eqBytes l m
  | _, _ => false
end

/-- A value asked for again: the same. -/
def again (tm : PM Value) (h : AH) (i : Nat) : Bool :=
  match ops[i]? with
  | some o => match evAt T X ops tm o h with
    | some v => match o.dst with
      | some d => match tm.get d with
        | some u => eqV u v
        | none => false
      | none => true
    | none => false
  | none => false

def runL : List PItem → PM Value → AH → Option (PM Value × AH)
  | [], tm, h => some (tm, h)
  | .one i :: L, tm, h => match ops[i]? with
    | some o => match evAt T X ops tm o h with
      | some v => runL L (setT tm o v) h
      | none => none
    | none => none
  | .eff al i rs :: L, tm, h => match runAl T ops al tm h with
    | some p => match ops[i]? with
      | some o => match evEff T X rec ops p.1 o p.2 with
        | some q => ifB (rs.all (again T X ops (setT p.1 o q.1) q.2)) (runL L (setT p.1 o q.1) q.2) none
        | none => none
      | none => none
    | none => none
end

section
variable {T : Tab} {X : Exts} {rec : Nat → List Value → AH → Option (Value × AH)} {ops : Array Oper}
theorem evAt_congr {o : Oper} {a b : PM Value} {h : AH} (hab : Agree ops o a b) : evAt T X ops a o h = evAt T X ops b o h := by
  unfold evAt
  rw [hab.wanted]
  split <;> first | rfl | (unfold evOne; rw [evOp_congr hab.ev])
theorem evEff_congr {o : Oper} {a b : PM Value} {h : AH} (hab : Agree ops o a b) : evEff T X rec ops a o h = evEff T X rec ops b o h := by
  unfold evEff
  rw [hab.wanted, evOp_congr hab.ev]

theorem mvOf_congr {o : Oper} {a b : PM Value} (hab : Agree ops o a b) : mvOf a o = mvOf b o := by
  unfold mvOf
  cases o.guard with
  | some _ => rfl
  | none =>
    simp only
    cases ho : o.op with
    | assign x =>
      cases x with
      | tmp s => exact hab s (List.mem_append_left _ (List.mem_filterMap.2 ⟨.tmp s, by rw [ho]; simp [Op.operands], rfl⟩))
      | _ => rfl
    | _ => rfl
theorem runAl_ext : ∀ {al : List Nat} {a b : PM Value} {h h1 : AH} {a1 : PM Value}, TEq a b → runAl T ops al a h = some (a1, h1) → ∃ b1, runAl T ops al b h = some (b1, h1) ∧ TEq a1 b1 := by
  intro al
  induction al with
  | nil => intro a b h h1 a1 hab e; cases e; exact ⟨b, rfl, hab⟩
  | cons l al ih =>
    intro a b h h1 a1 hab e
    simp only [runAl] at e ⊢
    split at e
    · rename_i o ho
      split at e
      · rename_i p hp
        rw [allocOf_congr (tm' := b) (TEq.agree (ops := ops) hab).ev] at hp
        simp only [hp]
        exact ih (hab.setT o _) e
      · rename_i hp
        rw [allocOf_congr (tm' := b) (TEq.agree (ops := ops) hab).ev] at hp
        rw [mvOf_congr (TEq.agree (ops := ops) hab)] at e
        simp only [hp]
        split at e
        · rename_i v hv
          exact ih (hab.setT o _) e
        · cases e
    · cases e

theorem again_ext {a b : PM Value} {h : AH} {i : Nat} (hab : TEq a b) : again T X ops a h i = again T X ops b h i := by
  unfold again
  cases ho : ops[i]? with
  | none => rfl
  | some o =>
    simp only
    rw [evAt_congr (TEq.agree hab)]
    cases o.dst with
    | none => rfl
    | some d => simp only [hab d]

theorem runL_ext : ∀ {L : List PItem} {a b : PM Value} {h h1 : AH} {a1 : PM Value}, TEq a b → runL T X rec ops L a h = some (a1, h1) → ∃ b1, runL T X rec ops L b h = some (b1, h1) ∧ TEq a1 b1 := by
  intro L
  induction L with
  | nil => intro a b h h1 a1 hab e; cases e; exact ⟨b, rfl, hab⟩
  | cons x L ih =>
    intro a b h h1 a1 hab e
    cases x with
    | one i =>
      simp only [runL] at e ⊢
      split at e
      · rename_i o ho
        rw [evAt_congr (TEq.agree hab)] at e
        split at e
        · rename_i v hv
          exact ih (hab.setT o v) e
        · cases e
      · cases e
    | eff al i rs =>
      simp only [runL] at e ⊢
      split at e
      · rename_i p hp
        obtain ⟨b1, q1, q2⟩ := runAl_ext hab (a1 := p.1) (h1 := p.2) hp
        rw [q1]
        simp only
        split at e
        · rename_i o ho
          rw [evEff_congr (TEq.agree q2)] at e
          split at e
          · rename_i q hq
            have hag : rs.all (again T X ops (setT p.1 o q.1) q.2) = rs.all (again T X ops (setT b1 o q.1) q.2) := by
              congr 1; funext i; exact again_ext (q2.setT o q.1)
            rw [hag] at e
            obtain ⟨e1, e2⟩ := ifB_some e
            rw [e1, ifB_true]
            exact ih (q2.setT o q.1) e2
          · cases e
        · cases e
      · cases e

mutual
theorem eqV_eq : ∀ (a b : Value), eqV a b = true → a = b
  | .bool a, .bool b, h => by simp [eqV] at h; rw [h]
  | .int k a, .int k' b, h => by simp [eqV] at h; rw [h.1, h.2]
  | .float k a, .float k' b, h => by simp [eqV] at h; rw [h.1, h.2]
  | .complex k a b, .complex k' a' b', h => by simp [eqV] at h; rw [h.1, h.2.1, h.2.2]
  | .string ⟨⟨a⟩⟩, .string ⟨⟨b⟩⟩, h => by rw [eqBytes_eq a b (by simpa [eqV] using h)]
  | .pointer none, .pointer none, _ => rfl
  | .pointer (some ⟨b1, o1, p1⟩), .pointer (some ⟨b2, o2, p2⟩), h => by simp [eqV] at h; obtain ⟨h1, h2, h3, h4⟩ := h; subst h1 h2 h3 h4; rfl
  | .slice none l c, .slice none l' c', h => by simp [eqV] at h; rw [h.1, h.2]
  | .slice (some ⟨b1, o1, p1⟩) l c, .slice (some ⟨b2, o2, p2⟩) l' c', h => by simp [eqV] at h; obtain ⟨h1, h2, h3, h4, h5, h6⟩ := h; subst h1 h2 h3 h4 h5 h6; rfl
  | .map (some a), .map (some b), h => by simp [eqV] at h; rw [h]
  | .map none, .map none, _ => rfl
  | .nilFunc, .nilFunc, _ => rfl
  | .nilIface, .nilIface, _ => rfl
  | .iface t v, .iface t' v', h => by simp [eqV] at h; rw [h.1, eqV_eq v v' h.2]
  | .agg ⟨a⟩, .agg ⟨b⟩, h => by rw [eqVs_eq a b (by simpa [eqV] using h)]
  | .tuple ⟨a⟩, .tuple ⟨b⟩, h => by rw [eqVs_eq a b (by simpa [eqV] using h)]
theorem eqVs_eq : ∀ (a b : List Value), eqVs a b = true → a = b
  | [], [], _ => rfl
  | a :: l, b :: m, h => by simp [eqVs] at h; rw [eqV_eq a b h.1, eqVs_eq l m h.2]
theorem eqBytes_eq : ∀ (a b : List UInt8), eqBytes a b = true → a = b
  | [], [], _ => rfl
  | a :: l, b :: m, h => by simp [eqBytes] at h; rw [UInt8.toNat_inj.1 h.1, eqBytes_eq l m h.2]
end
end
end
end Go.Proofs.YtknchhnibjfocaaDoor.Abs
