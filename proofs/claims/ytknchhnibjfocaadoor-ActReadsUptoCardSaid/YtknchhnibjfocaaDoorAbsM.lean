/- An abstract machine: an operation. -/
import Derived.Test.YtknchhnibjfocaaDoorAbsL
namespace Go.Proofs.YtknchhnibjfocaaDoor.Abs
open Go
noncomputable section

/-- The outcome of an operation. -/
inductive Out where
  | value (v : Value)
  | skip
  | enter (f : FuncId) (args : List Value)
  | defer (d : Deferred)
  | recover
  | panic (v : Value)
  | round (l : Nat) (fn : FuncId) (tmps : List Value) (assign body : Code)

def OutR (r : Ren) (w : World) : Out → Result Next → Prop
  | .value v, res => ∃ v', res = .ok (.value v') w ∧ VR r v v'
  | .skip, res => res = .ok .skip w
  | .enter f args, res => ∃ args' : Array Value, res = .ok (.enter f args') w ∧ LR r args args'.toList
  | .defer d, res => ∃ d', res = .ok (.defer d') w ∧ DefR r d d'
  | .recover, res => res = .ok .recover w
  | .panic v, res => ∃ v', res = .halt (.panic v') w ∧ VR r v v'
  | .round l fn tmps assign body, res => ∃ (bk : Bk) (tmps' : Array Value), r l = some bk ∧ res = .ok (.round bk.blk fn tmps' assign body) w ∧ LR r tmps tmps'.toList

def OOK (P : Program) (r : Ren) (h : AH) (w : World) (s : Sem Next) (o : Out) (h' : AH) : Prop :=
  ∃ w' r', HR P r' h' w' ∧ Ext r h w r' h' w' ∧ OutR r' w' o (s.run P w)

theorem SOK.next {P : Program} {r : Ren} {h h' : AH} {w : World} {s : Sem Value} {v : Value} (hs : SOK P r h w s v h') : OOK P r h w (do pure (.value (← s))) (.value v) h' := by
  obtain ⟨v', w', r', e, hv, hr, hx⟩ := hs
  exact ⟨w', r', hr, hx, v', by simp [e], hv⟩
theorem OOK.same {P : Program} {r : Ren} {h : AH} {w : World} (hr : HR P r h w) {s : Sem Next} {v v' : Value} (e : s.run P w = .ok (.value v') w) (hv : VR r v v') : OOK P r h w s (.value v) h :=
  ⟨w, r, hr, .refl _ _ _, v', e, hv⟩

/-- Functions without a body, by number. -/
abbrev Exts := Nat → Option (List Value → AH → Option (Value × AH))
def ExtOK (T : Tab) (X : Exts) : Prop := ∀ f g, X f = some g → ∀ (args : List Value) (h h' : AH) (v : Value), g args h = some (v, h') →
  ∀ (r : Ren) (w : World) (args' : Array Value), HR T.P r h w → LR r args args'.toList → OOK T.P r h w (callFunc f args') (.value v) h'

/-- Built-in functions. -/
def evBuiltin (T : Tab) (b : Builtin) (ts : Array TypeId) (ty : TypeId) (xs : List Value) (h : AH) : Option (Out × AH) :=
  match b with
  | .len => (match xs with
    | [x] => (match evLen T ts x h with
      | some v => some (.value v, h)
      | none => none)
    | _ => none)
  | .cap => (match xs with
    | [x] => (match evCap T ts x with
      | some v => some (.value v, h)
      | none => none)
    | _ => none)
  | .append => (match xs with
    | [s, x] => (match ts[0]? with
      | some sT => (match ts[1]? with
        | some xT => (match evAppend T sT xT s x h with
          | some p => some (.value p.1, p.2)
          | none => none)
        | none => none)
      | none => none)
    | _ => none)
  | .copy => (match xs with
    | [d, s] => (match evCopy T ts d s h with
      | some p => some (.value p.1, p.2)
      | none => none)
    | _ => none)
  | .clear => (match xs with
    | [x] => (match evClear T ts x h with
      | some p => some (.value p.1, p.2)
      | none => none)
    | _ => none)
  | .recover => some (.recover, h)
  | .panic => (match xs with
    | [.iface t v] => some (.panic (.iface t v), h)
    | _ => none)
  | .real => (match xs with
    | [.complex k a _] => some (.value (.float k a), h)
    | _ => none)
  | .imag => (match xs with
    | [.complex k _ b] => some (.value (.float k b), h)
    | _ => none)
  | .complex => (match xs with
    | [.float k a, .float k' b] => ifB (decide (k = k')) (some (.value (.complex k a b), h)) none
    | _ => none)
  | .min => ifB (flatAll xs) (match flatOp T (Builtin.min_ ts ty xs.toArray) h with
    | some p => some (.value p.1, p.2)
    | none => none) none
  | .max => ifB (flatAll xs) (match flatOp T (Builtin.max_ ts ty xs.toArray) h with
    | some p => some (.value p.1, p.2)
    | none => none) none
  | _ => none

theorem evBuiltin_sound {T : Tab} (ok : TabOK T) (oz : TabZ T) {r : Ren} {h h' : AH} {w : World} (hr : HR T.P r h w) {b : Builtin} {ts : Array TypeId} {ty : TypeId} (cs : Array Bool) {xs : List Value} {xs' : Array Value} {o : Out} (hx : LR r xs xs'.toList)
    (e : evBuiltin T b ts ty xs h = some (o, h')) : OOK T.P r h w (builtin b ts ty cs xs') o h' := by
  have one : ∀ {x : Value}, xs = [x] → ∃ x', xs' = #[x'] ∧ VR r x x' := by
    intro x hh
    subst hh
    obtain ⟨x', l2, h1, h2, h3⟩ := hx.cons_inv
    rw [h3.nil_inv] at h1
    exact ⟨x', by apply Array.ext'; simpa using h1, h2⟩
  have two : ∀ {x y : Value}, xs = [x, y] → ∃ x' y', xs' = #[x', y'] ∧ VR r x x' ∧ VR r y y' := by
    intro x y hh
    subst hh
    obtain ⟨x', l2, h1, h2, h3⟩ := hx.cons_inv
    obtain ⟨y', l3, h4, h5, h6⟩ := h3.cons_inv
    rw [h6.nil_inv] at h4
    rw [h4] at h1
    exact ⟨x', y', by apply Array.ext'; simpa using h1, h2, h5⟩
  cases b <;> simp only [evBuiltin] at e <;> try (cases e; done)
  case len =>
    split at e
    · rename_i x
      obtain ⟨x', rfl, hv⟩ := one rfl
      split at e
      · rename_i v hl; cases e; exact (evLen_sound ok hr ts ty hv hl).next
      · cases e
    · cases e
  case cap =>
    split at e
    · obtain ⟨x', rfl, hv⟩ := one rfl
      split at e
      · rename_i v hl; cases e; exact (evCap_sound ok hr ts ty hv hl).next
      · cases e
    · cases e
  case append =>
    split at e
    · obtain ⟨x', y', rfl, h1, h2⟩ := two rfl
      split at e
      · rename_i sT hs
        split at e
        · rename_i xT hxT
          split at e
          · rename_i p hp; cases e; exact (evAppend_sound ok oz hr ts ty hs hxT h1 h2 hp).next
          · cases e
        · cases e
      · cases e
    · cases e
  case copy =>
    split at e
    · obtain ⟨x', y', rfl, h1, h2⟩ := two rfl
      split at e
      · rename_i p hp; cases e; exact (evCopy_sound ok hr ts ty h1 h2 hp).next
      · cases e
    · cases e
  case clear =>
    split at e
    · obtain ⟨x', rfl, hv⟩ := one rfl
      split at e
      · rename_i p hp; cases e; exact (evClear_sound ok oz hr ts ty hv hp).next
      · cases e
    · cases e
  case recover => cases e; exact ⟨w, r, hr, .refl _ _ _, rfl⟩
  case panic =>
    split at e
    · obtain ⟨x', rfl, hv⟩ := one rfl
      cases e
      cases hv with
      | iface _ _ v' hv => exact ⟨w, r, hr, .refl _ _ _, _, by simp [builtin, Instr.panic], .iface _ _ _ hv⟩
    · cases e
  case real =>
    split at e
    · obtain ⟨x', rfl, hv⟩ := one rfl
      cases e; cases hv
      exact .same hr rfl (.float _ _)
    · cases e
  case imag =>
    split at e
    · obtain ⟨x', rfl, hv⟩ := one rfl
      cases e; cases hv
      exact .same hr rfl (.float _ _)
    · cases e
  case complex =>
    split at e
    · rename_i k a k' b
      obtain ⟨x', y', rfl, h1, h2⟩ := two rfl
      obtain ⟨e1, e2⟩ := ifB_some e
      cases e2; cases h1; cases h2
      have := of_decide_eq_true e1
      subst this
      refine .same hr (v' := .complex k a b) ?_ (.complex _ _ _)
      show (do pure (Next.value (← (if k = k then pure (.complex k a b) else stuck "complex: parts of different kinds" : Sem Value))) : Sem Next).run T.P w = _
      simp
    · cases e
  case min =>
    obtain ⟨e1, e2⟩ := ifB_some e
    have hxs : xs' = xs.toArray := by apply Array.ext'; simpa using hx.flat_eq e1
    subst hxs
    split at e2
    · rename_i p hp; cases e2; exact (flatOp_sound hr hp).next
    · cases e2
  case max =>
    obtain ⟨e1, e2⟩ := ifB_some e
    have hxs : xs' = xs.toArray := by apply Array.ext'; simpa using hx.flat_eq e1
    subst hxs
    split at e2
    · rename_i p hp; cases e2; exact (flatOp_sound hr hp).next
    · cases e2

/-- A call of a function value. -/
def evCall (T : Tab) (X : Exts) (v : Value) (args : List Value) (h : AH) : Option (Out × AH) :=
  match v with
  | .func fn first captured => (match fn with
    | .func f => (match T.ft.get f with
      | some fd => (match fd.body with
        | some _ => some (.enter f (first.toList ++ args ++ captured.toList), h)
        | none => (match X f with
          | some g => (match g (first.toList ++ args ++ captured.toList) h with
            | some p => some (.value p.1, p.2)
            | none => none)
          | none => none))
      | none => none)
    | .via t path f ptr => (match path.toList, ptr, und T t with
      | [], true, some (.pointer _) => (match first.toList ++ args with
        | x :: rest => (match x with
          | .pointer _ => (match T.ft.get f with
            | some fd => (match fd.body with
              | some _ => some (.enter f (x :: rest), h)
              | none => none)
            | none => none)
          | _ => none)
        | [] => none)
      | _, _, _ => none)
    | .yield l => (match h.get l with
      | some (.loop lp) => ifB (Nat.beq (first.toList ++ args).length lp.params.size)
          (some (.round l lp.fn ((lp.params.toList.zip (first.toList ++ args)).foldl (fun (t : List Value) (p : Tmp × Value) => t.set p.1 p.2) lp.tmps.toList) lp.assign lp.body, h)) none
      | _ => none)
    | _ => none)
  | _ => none

theorem run_callFunc {T : Tab} (ok : TabOK T) {f : Nat} {fd : Func} (hf : T.ft.get f = some fd) (hb : fd.body.isSome = true) (args : Array Value) (w : World) : (callFunc f args).run T.P w = .ok (.enter f args) w := by
  have h1 := ok.f f fd hf
  have h2 := ok.call f fd hf hb
  have h5 : ¬ fd.body = none := by intro hh; rw [hh] at hb; cases hb
  simp [callFunc, h1, h2, h5]

theorem foldl_set_rel {r : Ren} : ∀ (ps : List (Tmp × Value)) (ps' : List (Tmp × Value)) (t : List Value) (t' : Array Value), ps.length = ps'.length → (∀ (i : Nat) (p p' : Tmp × Value), ps[i]? = some p → ps'[i]? = some p' → p'.1 = p.1 ∧ VR r p.2 p'.2) → LR r t t'.toList →
    LR r (ps.foldl (fun (t : List Value) (p : Tmp × Value) => t.set p.1 p.2) t) (ps'.foldl (fun (t : Array Value) (p : Tmp × Value) => t.setIfInBounds p.1 p.2) t').toList := by
  intro ps
  induction ps with
  | nil => intro ps' t t' h1 h2 h3; cases ps' with | nil => exact h3 | cons _ _ => simp at h1
  | cons p ps ih =>
    intro ps' t t' h1 h2 h3
    cases ps' with
    | nil => simp at h1
    | cons p' ps' =>
      obtain ⟨q1, q2⟩ := h2 0 p p' rfl rfl
      refine ih ps' _ _ (by simpa using h1) (fun i a b x y => h2 (i + 1) a b (by simpa using x) (by simpa using y)) ?_
      refine ⟨by simpa using h3.1, ?_⟩
      intro i v v' a b
      simp only at a b
      rw [q1, Array.toList_setIfInBounds] at b
      rw [List.getElem?_set] at a b
      by_cases hi : p.1 = i
      · rw [if_pos hi] at a b
        have hl := h3.1
        split at a <;> split at b <;> simp_all
      · rw [if_neg hi] at a b
        exact h3.2 i v v' a b

theorem extract_tail (A : Array Value) : (A.extract 1 A.size).toList = A.toList.drop 1 := by
  rw [Array.toList_extract, List.extract_eq_take_drop]
  apply List.take_of_length_le
  simp

theorem evCall_sound {T : Tab} (ok : TabOK T) {X : Exts} (hX : ExtOK T X) {r : Ren} {h h' : AH} {w : World} (hr : HR T.P r h w) {v v' : Value} {args : List Value} {args' : Array Value} {o : Out} (hv : VR r v v') (ha : LR r args args'.toList)
    (e : evCall T X v args h = some (o, h')) : OOK T.P r h w (do let d ← Deferred.ofValue v' args'; invoke d.target d.args) o h' := by
  unfold evCall at e
  split at e
  · rename_i fn first captured
    cases hv with
    | func _ fn' _ a' _ b' hfn h1 h2 h3 h4 =>
      have hfirst := LR.of_array h1 h2
      have hcap := LR.of_array h3 h4
      have hall : LR r (first.toList ++ args ++ captured.toList) (a' ++ args' ++ b').toList := by simpa using (hfirst.append ha).append hcap
      split at e
      · rename_i f
        cases hfn
        split at e
        · rename_i fd hfd
          split at e
          · rename_i c hc
            cases e
            refine ⟨w, r, hr, .refl _ _ _, a' ++ args' ++ b', ?_, hall⟩
            simp only [Deferred.ofValue, Sem.run_bind, Sem.run_pure, Result.andThen_ok, invoke]
            exact run_callFunc ok hfd (by rw [hc]; rfl) _ w
          · split at e
            · rename_i g hg
              split at e
              · rename_i p hp
                cases e
                obtain ⟨w', r', q1, q2, q3⟩ := hX f g hg _ _ _ _ hp r w _ hr hall
                refine ⟨w', r', q1, q2, ?_⟩
                simpa only [Deferred.ofValue, Sem.run_bind, Sem.run_pure, Result.andThen_ok, invoke] using q3
              · cases e
            · cases e
        · cases e
      · rename_i t path f ptr
        cases hfn
        split at e
        · rename_i el hpath hel
          split at e
          · rename_i x rest hxr
            split at e
            · rename_i p0
              split at e
              · rename_i fd hfd
                split at e
                · rename_i c hc
                  cases e
                  have hargs : LR r (first.toList ++ args) (a' ++ args').toList := by simpa using hfirst.append ha
                  rw [hxr] at hargs
                  obtain ⟨x', l2, q1, q2, q3⟩ := hargs.cons_inv
                  have hpt : ∃ p', x' = .pointer p' := by cases q2 <;> exact ⟨_, rfl⟩
                  obtain ⟨p', rfl⟩ := hpt
                  have hsz : 0 < (a' ++ args').size := by have := congrArg List.length q1; simp only [Array.length_toList, List.length_cons] at this; omega
                  have h0 : (a' ++ args')[0]? = some (.pointer p') := by rw [← Array.getElem?_toList, q1]; rfl
                  have hex : (a' ++ args').extract 1 (a' ++ args').size = l2.toArray := by
                    apply Array.ext'
                    rw [extract_tail, q1]; simp
                  have hu := und_ok ok hel
                  refine ⟨w, r, hr, .refl _ _ _, #[.pointer p'] ++ l2.toArray, ?_, by simpa using q3.cons q2⟩
                  have hpl : path.toList = [] := hpath
                  simp only [Deferred.ofValue, Sem.run_bind, Sem.run_pure, Result.andThen_ok, invoke, h0, receiverVia, hpl, follow, receiverAt, run_und w hu, Place.get, hex]
                  exact run_callFunc ok hfd (by rw [hc]; rfl) _ w
                · cases e
              · cases e
            · cases e
          · cases e
        · cases e
      · rename_i l
        split at e
        · rename_i lp hg
          obtain ⟨e1, e2⟩ := ifB_some e
          cases e2
          cases hfn with
          | yield _ bk hb =>
            obtain ⟨bk', ob, g1, g2, g3⟩ := hr.live l _ hg
            rw [hb] at g1; cases g1
            obtain ⟨l', bd, rfl, k1, k2, k3, k4, k5, k6, k7, k8, k9⟩ := g3
            have hn := Nat.eq_of_beq_eq_true e1
            have hargs : LR r (first.toList ++ args) (a' ++ args').toList := by simpa using hfirst.append ha
            have hsz : (a' ++ args').size = lp.params.size := by have := hargs.1; simp only [Array.length_toList] at this; omega
            refine ⟨w, r, hr, .refl _ _ _, bk, (lp.params.zip (a' ++ args')).foldl (fun tmps (x : Tmp × Value) => tmps.setIfInBounds x.1 x.2) l'.tmps, hb, ?_, ?_⟩
            · simp only [Deferred.ofValue, Sem.run_bind, Sem.run_pure, Result.andThen_ok, invoke, Instr.yield, Instr.getLoop, getObj, Sem.run, g2, k3, k4, k5, k6, hsz, ne_eq, not_true_eq_false, if_false]
            · have := foldl_set_rel (r := r) (lp.params.toList.zip (first.toList ++ args)) (lp.params.toList.zip (a' ++ args').toList) lp.tmps.toList l'.tmps (by have := hargs.1; simp only [List.length_zip]; omega) ?_ k7
              · rw [← Array.foldl_toList, Array.toList_zip]; exact this
              · intro i p p' x y
                rw [List.getElem?_zip_eq_some] at x y
                have : p'.1 = p.1 := by have := x.1.symm.trans y.1; simpa using this.symm
                exact ⟨this, hargs.2 i _ _ x.2 y.2⟩
        · cases e
      · cases e
  · cases e
end
end Go.Proofs.YtknchhnibjfocaaDoor.Abs
