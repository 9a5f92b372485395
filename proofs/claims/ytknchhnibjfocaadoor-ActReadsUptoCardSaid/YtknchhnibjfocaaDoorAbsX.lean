/- An abstract machine: a region whose order is drawn; any order gives what the plan gives. -/
import Derived.Test.YtknchhnibjfocaaDoorAbsW
namespace Go.Proofs.YtknchhnibjfocaaDoor.Abs
open Go
noncomputable section

/-- A call, in any frame's place, ends with that value. -/
def CallOK (T : Tab) (g : Nat) (args : List Value) (h : AH) (v : Value) (h' : AH) : Prop :=
  ∀ (base : List Frame) (r : Ren) (w : World) (args' : Array Value), HR T.P r h w → LR r args args'.toList →
    ∃ r2 w2 fr2 v2, Steps T.P (lone (Frame.enter T.P g args' .normal) base w) (lone fr2 base w2) ∧ fr2.fn = g ∧ fr2.leaving T.P w2 (.returned v2) ∧ VR r2 v v2 ∧ HR T.P r2 h' w2 ∧ Ext r h w r2 h' w2
def RecOK (T : Tab) (rec : Nat → List Value → AH → Option (Value × AH)) : Prop := ∀ g args h v h', rec g args h = some (v, h') → CallOK T g args h v h'

def Before (ops : Array Oper) (anc : Nat → Nat → Prop) : PItem → PItem → Prop
  | .one a, .one b => a ≠ b ∧ ¬ anc b a
  | .one a, .eff al e rs => a ≠ e ∧ ¬ anc e a ∧ (∀ l ∈ al, ¬ anc l a) ∧ (anc a e ∨ (a ∈ rs ∧ ∀ (i : Nat) (oa oi : Oper) (d : Nat), ops[a]? = some oa → ops[i]? = some oi → oa.dst = some d → d ∈ oi.looksAt ops → anc a i))
  | .eff _ e _, .one b => anc e b
  | .eff al e _, .eff al2 e2 _ => anc e e2 ∧ ∀ l ∈ al2, l ∉ al ∧ ¬ anc l e

def ItemOK (ops : Array Oper) (anc : Nat → Nat → Prop) (alloc : Nat → Prop) : PItem → Prop
  | .one i => ¬ alloc i ∧ ∃ o, ops[i]? = some o ∧ isOne o = true
  | .eff al e _ => ¬ alloc e ∧ al.Nodup ∧ (∀ l ∈ al, alloc l ∧ anc l e) ∧ ∃ o, ops[e]? = some o

structure FaOK (anc : Nat → Nat → Prop) (alloc : Nat → Prop) (M fa : List Nat) : Prop where
  nd : fa.Nodup
  al : ∀ l ∈ fa, alloc l ∧ ∀ i, anc l i → i ∈ M
/-- Values that are handed on, to be seen when all else is done. -/
structure MvOK (ops : Array Oper) (anc : Nat → Nat → Prop) (alloc : Nat → Prop) (M : List Nat) : Prop where
  al : ∀ m, m ∈ M → ¬ alloc m
  op : ∀ m, m ∈ M → ∃ om s d p op', ops[m]? = some om ∧ om.guard = none ∧ om.op = .assign (.tmp s) ∧ om.dst = some d ∧ s ≠ d ∧ ops[p]? = some op' ∧ op'.dst = some s ∧ anc p m
  no : ∀ (m : Nat) (om : Oper) (d : Nat), m ∈ M → ops[m]? = some om → om.dst = some d → ∀ (j : Nat) (oj : Oper), ops[j]? = some oj → d ∉ oj.looksAt ops

inductive Lin (n : Nat) (anc : Nat → Nat → Prop) : (Nat → Prop) → List Nat → Prop
  | nil (D) : (∀ i, i < n → D i) → Lin n anc D []
  | cons (D i S) : i < n → ¬ D i → (∀ x, anc x i → D x) → Lin n anc (fun x => D x ∨ x = i) S → Lin n anc D (i :: S)

section
variable {T : Tab} {X : Exts} {rec : Nat → List Value → AH → Option (Value × AH)} {ops : Array Oper} {r0 : Ren} {h0 : AH} {w0 : World} {size : Nat} {anc : Nat → Nat → Prop} {alloc : Nat → Prop} {Mv : Nat → Prop}

theorem Core.mat_all (g : Good ops size anc alloc) {hb : Nat → Nat} {w : World} {a : Array Value} : ∀ (al : List Nat) {Hid : Nat → Prop} {tm : PM Value} {h : AH} {r : Ren} {G : PM Value × AH}, Core T ops r0 h0 w0 Mv hb Hid tm h r w a → (∀ l ∈ al, Hid l) → al.Nodup →
    (∀ l, Hid l → alloc l) → runAl T ops al tm h = some G → ∃ r1, Core T ops r0 h0 w0 Mv hb (fun x => Hid x ∧ x ∉ al) G.1 G.2 r1 w a := by
  intro al
  induction al with
  | nil =>
    intro Hid tm h r G c _ _ _ e
    cases e
    have : (fun x => Hid x ∧ x ∉ ([] : List Nat)) = Hid := funext fun x => by simp
    rw [this]
    exact ⟨r, c⟩
  | cons l al ih =>
    intro Hid tm h r G c hH hn hA e
    simp only [runAl] at e
    split at e
    · rename_i o ho
      split at e
      · rename_i p hp
        have hl := hH l (by simp)
        have c2 := c.mat hl ho hp (by
          intro l' ol' d hl' hol' hd
          refine ⟨fun hm => ((g.al l' ol' (hA l' hl') hol').2 l o d ho hd hm).2 (hA l hl), fun hne hd2 => hne (g.sa l' l ol' o d hol' ho hd2 hd)⟩)
        rw [List.nodup_cons] at hn
        obtain ⟨r1, c3⟩ := ih c2 (fun x hx => ⟨hH x (by simp [hx]), fun e => hn.1 (e ▸ hx)⟩) hn.2 (fun x hx => hA x hx.1) e
        refine ⟨r1, ?_⟩
        have : (fun x => (Hid x ∧ x ≠ l) ∧ x ∉ al) = (fun x => Hid x ∧ x ∉ l :: al) := funext fun x => propext (by simp [and_assoc])
        rw [this] at c3
        exact c3
      · rename_i hp
        obtain ⟨ol, obj, mk, _, _, g1, g2, _⟩ := c.hid l (hH l (by simp))
        rw [ho] at g1; cases g1
        rw [hp] at g2; cases g2
    · cases e

variable (T X rec ops r0 h0 w0 size anc alloc)
structure Inv (M fa : List Nat) (F : PM Value × AH) (D : Nat → Prop) (Mv : Nat → Prop) (hb : Nat → Nat) (Hid : Nat → Prop) (L : List PItem) (tm : PM Value) (h : AH) (r : Ren) (w : World) (a : Array Value) : Prop where
  core : Core T ops r0 h0 w0 Mv hb Hid tm h r w a
  run : ∃ G F', runL T X rec ops L tm h = some G ∧ runAl T ops fa G.1 G.2 = some F' ∧ FEq F F'
  pw : L.Pairwise (Before ops anc)
  it : ∀ x ∈ L, ItemOK ops anc alloc x
  nd1 : ∀ i, .one i ∈ L → ¬ D i
  nd2 : ∀ al i rs, .eff al i rs ∈ L → ¬ D i
  hd : ∀ l, Hid l ↔ (D l ∧ (l ∈ fa ∨ ∃ al e rs, .eff al e rs ∈ L ∧ l ∈ al))
  cov : ∀ i, i < ops.size → ¬ D i → .one i ∈ L ∨ (∃ al rs, .eff al i rs ∈ L) ∨ i ∈ fa ∨ (∃ al e rs, .eff al e rs ∈ L ∧ i ∈ al) ∨ i ∈ M
  mvD : ∀ m, Mv m ↔ D m ∧ m ∈ M
  nm1 : ∀ i, .one i ∈ L → i ∉ M
  nm2 : ∀ al i rs, .eff al i rs ∈ L → i ∉ M
  down : ∀ i x, D i → anc x i → D x
  asz : a.size = size
variable {T X rec ops r0 h0 w0 size anc alloc}

theorem runAl_feq {fa : List Nat} {G G' F : PM Value × AH} (hg : FEq G G') (e : runAl T ops fa G.1 G.2 = some F) : ∃ F', runAl T ops fa G'.1 G'.2 = some F' ∧ FEq F F' := by
  obtain ⟨b1, q1, q2⟩ := runAl_ext hg.1 (a1 := F.1) (h1 := F.2) e
  exact ⟨(b1, F.2), by rw [← hg.2]; exact q1, q2, rfl⟩

/-- An operation with a value, or not wanted. -/
theorem do_one (ok : TabOK T) (oz : TabZ T) (hX : ExtOK T X) {hb : Nat → Nat} {Hid : Nat → Prop} {tm : PM Value} {h : AH} {r : Ren} {w : World} {a : Array Value} (c : Core T ops r0 h0 w0 Mv hb Hid tm h r w a) (hr0 : HR T.P r0 h0 w0)
    {i : Nat} {S : List Nat} {o : Oper} (ho : ops[i]? = some o) (hone : isOne o = true) {v : Value} (e : evAt T X ops tm o h = some v) (hasz : ∀ d, o.dst = some d → d < a.size)
    (h1 : ∀ l ol d, Hid l ∨ Mv l → ops[l]? = some ol → ol.dst = some d → d ∉ o.looksAt ops) (h2 : ∀ l ol d, Hid l → ops[l]? = some ol → o.dst = some d → d ∉ ol.looksAt ops ∧ ol.dst ≠ some d) (hmv : ∀ m om s d, Mv m → ops[m]? = some om → om.op = .assign (.tmp s) → om.dst = some d → o.dst ≠ some d ∧ o.dst ≠ some s)
    {f : Frame} {k : List Item} {cs : List Frame} (hm : f.mode = .run) :
    ∃ r1 w1 v', Go.step T.P (lone { f with tmps := a, todo := .inRegion ops (i :: S) :: k } cs w) = .next (lone { f with tmps := putF o.dst v' a, todo := .inRegion ops S :: k } cs w1) ∧
      Core T ops r0 h0 w0 Mv hb Hid (setT tm o v) h r1 w1 (putF o.dst v' a) := by
  obtain ⟨tm', g1, g2⟩ := c.known h1
  rw [evAt_congr g1] at e
  unfold evAt at e
  split at e
  · rename_i hw
    have e2 := evOne_some hone e
    have hE : ER T r tm' ({ f with tmps := a, todo := .inRegion ops (i :: S) :: k } : Frame).eval := frame_ER ok c.hr g2
    obtain ⟨w1, r1, q1, q2, v', q3, q4⟩ := evOp_sound ok oz hX c.hr hE e2
    refine ⟨r1, w1, v', ?_, c.step hr0 q1 q2 q4 hasz h2 hmv⟩
    have := st_value (P := T.P) (fr := { f with tmps := a, todo := .inRegion ops (i :: S) :: k }) (cs := cs) hm rfl ho (wantedA_sound g2 rfl hw) (.inr fun cc hc => by
      obtain ⟨d, hd⟩ := evOp_defer hc e2; cases hd) q3
    rw [this, finish_ops rfl ho]
  · rename_i hw
    cases e
    refine ⟨r, w, undef, ?_, c.step hr0 c.hr (.refl _ _ _) (VR.undef r) hasz h2 hmv⟩
    have := st_unwanted (P := T.P) (fr := { f with tmps := a, todo := .inRegion ops (i :: S) :: k }) (cs := cs) (w := w) hm rfl ho (wantedA_sound g2 rfl hw)
    rw [this, finish_ops rfl ho]
  · cases e

theorem do_eff (ok : TabOK T) (oz : TabZ T) (hX : ExtOK T X) (hrec : RecOK T rec) {hb : Nat → Nat} {Hid : Nat → Prop} {tm : PM Value} {h : AH} {r : Ren} {w : World} {a : Array Value} (c : Core T ops r0 h0 w0 Mv hb Hid tm h r w a) (hr0 : HR T.P r0 h0 w0)
    {i : Nat} {S : List Nat} {o : Oper} (ho : ops[i]? = some o) {v : Value} {h3 : AH} (e : evEff T X rec ops tm o h = some (v, h3)) (hasz : ∀ d, o.dst = some d → d < a.size)
    (h1 : ∀ l ol d, Hid l ∨ Mv l → ops[l]? = some ol → ol.dst = some d → d ∉ o.looksAt ops) (h2 : ∀ l ol d, Hid l → ops[l]? = some ol → o.dst = some d → d ∉ ol.looksAt ops ∧ ol.dst ≠ some d) (hmv : ∀ m om s d, Mv m → ops[m]? = some om → om.op = .assign (.tmp s) → om.dst = some d → o.dst ≠ some d ∧ o.dst ≠ some s)
    {f : Frame} {k : List Item} {cs : List Frame} (hm : f.mode = .run) :
    ∃ r1 w1 v', Steps T.P (lone { f with tmps := a, todo := .inRegion ops (i :: S) :: k } cs w) (lone { f with tmps := putF o.dst v' a, todo := .inRegion ops S :: k } cs w1) ∧
      Core T ops r0 h0 w0 Mv hb Hid (setT tm o v) h3 r1 w1 (putF o.dst v' a) := by
  obtain ⟨tm', g1, g2⟩ := c.known h1
  rw [evEff_congr g1] at e
  unfold evEff at e
  have hfin : ∀ v', ({ f with tmps := a, todo := .inRegion ops (i :: S) :: k } : Frame).finish v' = { f with tmps := putF o.dst v' a, todo := .inRegion ops S :: k } := fun v' => finish_ops rfl ho v'
  split at e
  · rename_i hw
    have hE : ER T r tm' ({ f with tmps := a, todo := .inRegion ops (i :: S) :: k } : Frame).eval := frame_ER ok c.hr g2
    have hwd := wantedA_sound g2 rfl hw
    have hnd : ∀ {out : Out} {h' : AH}, (∀ d, out ≠ .defer d) → evOp T X tm' o h = some (out, h') → (f.roundOf = none ∨ ∀ c, o.op ≠ .defer c) := fun hd e2 => .inr fun cc hc => by
      obtain ⟨d, hd2⟩ := evOp_defer hc e2; exact hd d hd2
    split at e
    · rename_i v2 h4 e2
      cases e
      obtain ⟨w1, r1, q1, q2, v', q3, q4⟩ := evOp_sound ok oz hX c.hr hE e2
      refine ⟨r1, w1, v', .one ?_, c.step hr0 q1 q2 q4 hasz h2 hmv⟩
      have := st_value (P := T.P) (fr := { f with tmps := a, todo := .inRegion ops (i :: S) :: k }) (cs := cs) hm rfl ho hwd (hnd (fun _ => by simp) e2) q3
      rw [this, hfin]
    · rename_i h4 e2
      cases e
      obtain ⟨w1, r1, q1, q2, q3⟩ := evOp_sound ok oz hX c.hr hE e2
      refine ⟨r1, w1, undef, .one ?_, c.step hr0 q1 q2 (VR.undef r1) hasz h2 hmv⟩
      have := st_sk (P := T.P) (fr := { f with tmps := a, todo := .inRegion ops (i :: S) :: k }) (cs := cs) hm rfl ho hwd (hnd (fun _ => by simp) e2) q3
      rw [this, hfin]
    · rename_i g args h4 e2
      obtain ⟨w1, r1, q1, q2, args', q3, q4⟩ := evOp_sound ok oz hX c.hr hE e2
      have hst := st_enter (P := T.P) (fr := { f with tmps := a, todo := .inRegion ops (i :: S) :: k }) (cs := cs) hm rfl ho hwd (hnd (fun _ => by simp) e2) q3
      obtain ⟨r2, w2, fr2, v', p1, _, p3, p4, p5, p6⟩ := hrec g args h4 v h3 e ({ f with tmps := a, todo := .inRegion ops (i :: S) :: k } :: cs) r1 w1 args' q1 q4
      refine ⟨r2, w2, v', .head hst (p1.trans (.one ?_)), c.step hr0 p5 (q2.trans c.hr p6) p4 hasz h2 hmv⟩
      rw [step_leave_returned p3, hfin]
    · cases e
  · rename_i hw
    cases e
    refine ⟨r, w, undef, .one ?_, c.step hr0 c.hr (.refl _ _ _) (VR.undef r) hasz h2 hmv⟩
    have := st_unwanted (P := T.P) (fr := { f with tmps := a, todo := .inRegion ops (i :: S) :: k }) (cs := cs) (w := w) hm rfl ho (wantedA_sound g2 rfl hw)
    rw [this, hfin]
  · cases e
end
end
end Go.Proofs.YtknchhnibjfocaaDoor.Abs
