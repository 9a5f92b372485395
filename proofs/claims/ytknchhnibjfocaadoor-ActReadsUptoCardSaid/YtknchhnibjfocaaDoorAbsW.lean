/- An abstract machine: a region whose order is drawn; one operation after another. -/
import Derived.Test.YtknchhnibjfocaaDoorAbsV
namespace Go.Proofs.YtknchhnibjfocaaDoor.Abs
open Go
noncomputable section

structure Good (ops : Array Oper) (size : Nat) (anc : Nat → Nat → Prop) (alloc : Nat → Prop) : Prop where
  lt : ∀ i j, anc i j → i < j
  sa : ∀ (i j : Nat) (oi oj : Oper) (d : Nat), ops[i]? = some oi → ops[j]? = some oj → oi.dst = some d → oj.dst = some d → i = j
  rw : ∀ (i j : Nat) (oi oj : Oper) (d : Nat), ops[i]? = some oi → ops[j]? = some oj → oi.dst = some d → d ∈ oj.looksAt ops → anc i j ∨ anc j i
  al : ∀ (l : Nat) (ol : Oper), alloc l → ops[l]? = some ol → ol.guard = none ∧ ∀ (i : Nat) (oi : Oper) (d : Nat), ops[i]? = some oi → oi.dst = some d → d ∈ ol.looksAt ops → anc i l ∧ ¬ alloc i
  nm : ∀ (l : Nat) (ol : Oper), alloc l → ops[l]? = some ol → ∀ tm, mvOf tm ol = none
  sz : ∀ (i : Nat) (oi : Oper) (d : Nat), ops[i]? = some oi → oi.dst = some d → d < size

theorem exists_del (p : Nat → Prop) (tm : PM Value) : ∀ (l : List Nat), ∃ tm' : PM Value, ∀ t, (t ∈ l ∧ p t → tm'.get t = none) ∧ (¬ (t ∈ l ∧ p t) → tm'.get t = tm.get t) := by
  intro l
  induction l with
  | nil => exact ⟨tm, fun t => ⟨fun h => (by cases h.1), fun _ => rfl⟩⟩
  | cons x l ih =>
    obtain ⟨tm', h⟩ := ih
    by_cases hx : p x
    · refine ⟨tm'.del x, fun t => ?_⟩
      rw [PM.get_del]
      by_cases ht : t = x
      · subst ht; simp [hx]
      · rw [if_neg ht]
        refine ⟨fun h2 => (h t).1 ⟨by simpa [ht] using h2.1, h2.2⟩, fun h2 => (h t).2 fun h3 => h2 ⟨by simp [h3.1], h3.2⟩⟩
    · refine ⟨tm', fun t => ⟨fun h2 => (h t).1 ⟨?_, h2.2⟩, fun h2 => (h t).2 fun h3 => h2 ⟨by simp [h3.1], h3.2⟩⟩⟩
      have := h2.1
      simp only [List.mem_cons] at this
      rcases this with rfl | h3
      · exact absurd h2.2 hx
      · exact h3

theorem HR.adopt {P : Program} {r : Ren} {h : AH} {w : World} (hr : HR P r h w) (o : AObj) (ob : Obj) (bk : Bk) (hb : w.heap[bk.blk]? = some ob) (hf : ∀ i b, r i = some b → b.blk ≠ bk.blk) (ho : OR P (r.add h.next bk) bk o ob) :
    HR P (r.add h.next bk) (h.new o) w := by
  have hs := hr.sub_add bk
  refine ⟨?_, ?_, ?_, fun g hg => hs _ _ (hr.glob g hg)⟩
  · intro b o' e
    rw [AH.get_new] at e
    by_cases hbn : b = h.next
    · subst hbn; rw [if_pos rfl] at e; cases e; exact ⟨bk, ob, Ren.add_same _ _ _, hb, ho⟩
    · rw [if_neg hbn] at e
      obtain ⟨bk', ob', e1, e2, e3⟩ := hr.live b o' e
      exact ⟨bk', ob', hs _ _ e1, e2, e3.mono hs⟩
  · intro b b' o1 o2 k1 k2 e1 e2 q e3 e4 e5
    rw [AH.get_new] at e1 e2
    by_cases h1 : b = h.next <;> by_cases h2 : b' = h.next
    · omega
    · subst h1
      rw [Ren.add_same] at e3; cases e3
      rw [Ren.add_other _ _ h2] at e4
      exact absurd e5.symm (hf _ _ e4)
    · subst h2
      rw [Ren.add_same] at e4; cases e4
      rw [Ren.add_other _ _ h1] at e3
      exact absurd e5 (hf _ _ e3)
    · rw [if_neg h1] at e1; rw [if_neg h2] at e2
      rw [Ren.add_other _ _ h1] at e3; rw [Ren.add_other _ _ h2] at e4
      exact hr.inj b b' o1 o2 k1 k2 e1 e2 q e3 e4 e5
  · intro b bk' e
    by_cases h1 : b = h.next
    · subst h1; rw [Ren.add_same] at e; cases e; exact ⟨by simp, (Array.getElem?_eq_some_iff.1 hb).1⟩
    · rw [Ren.add_other _ _ h1] at e
      have := hr.lt b bk' e
      exact ⟨by simp; omega, this.2⟩

theorem Ext.adopt {P : Program} {r0 r : Ren} {h0 h : AH} {w0 w : World} (hr : HR P r h w) (x : Ext r0 h0 w0 r h w) (o : AObj) (bk : Bk) (hb : w0.heap.size ≤ bk.blk) : Ext r0 h0 w0 (r.add h.next bk) (h.new o) w := by
  have hs := hr.sub_add bk
  refine ⟨x.sub.trans hs, x.size, x.keep, ?_, ?_, (by have := x.next; simp; omega), x.os⟩
  · intro i bk' e1 e2
    by_cases h1 : i = h.next
    · subst h1; rw [Ren.add_same] at e2; cases e2; exact .inl hb
    · rw [Ren.add_other _ _ h1] at e2; exact x.new i bk' e1 e2
  · intro i o' e1 e2
    rw [AH.get_new] at e1
    by_cases h1 : i = h.next
    · subst h1
      right
      cases e : r0 h.next with
      | none => rfl
      | some b => have := x.sub _ _ e; rw [hr.fresh (Nat.le_refl _)] at this; cases this
    · rw [if_neg h1] at e1; exact x.back i o' e1 e2

theorem HR.push {P : Program} {r : Ren} {h : AH} {w : World} (hr : HR P r h w) (ob : Obj) : HR P r h { w with heap := w.heap.push ob } := by
  refine ⟨?_, hr.inj, fun b bk e => ⟨(hr.lt b bk e).1, by have := (hr.lt b bk e).2; simp; omega⟩, hr.glob⟩
  intro b o e
  obtain ⟨bk, ob', e1, e2, e3⟩ := hr.live b o e
  exact ⟨bk, ob', e1, by simp only [Array.getElem?_push]; rw [if_neg (by have := (hr.lt b bk e1).2; omega)]; exact e2, e3⟩
theorem Ext.push {r0 r : Ren} {h0 h : AH} {w0 w : World} (x : Ext r0 h0 w0 r h w) (ob : Obj) : Ext r0 h0 w0 r h { w with heap := w.heap.push ob } := by
  refine ⟨x.sub, (by have := x.size; simp; omega), ?_, x.new, x.back, x.next, x.os⟩
  intro b hb hn
  rw [← x.keep b hb hn]
  simp only [Array.getElem?_push]
  rw [if_neg (by have := x.size; omega)]

section
variable (T : Tab) (ops : Array Oper) (r0 : Ren) (h0 : AH) (w0 : World)

/-- What is known in the midst of a region: 'Hid' are the allocations that the model has made and the abstract machine has not. -/
structure Core (Mv : Nat → Prop) (hb : Nat → Nat) (Hid : Nat → Prop) (tm : PM Value) (h : AH) (r : Ren) (w : World) (a : Array Value) : Prop where
  hr : HR T.P r h w
  ext : Ext r0 h0 w0 r h w
  tr : ∀ t, (∀ l ol, Hid l ∨ Mv l → ops[l]? = some ol → ol.dst ≠ some t) → (∀ v, tm.get t = some v → VR r v (a.getD t undef)) ∧ (tm.get t = none → a.getD t undef = undef)
  hid : ∀ l, Hid l → ∃ ol obj mk ob mk', ops[l]? = some ol ∧ allocOf T tm ol = some (obj, mk) ∧ AllocR T.P r obj mk ob mk' ∧ w.heap[hb l]? = some ob ∧ w0.heap.size ≤ hb l ∧
    (∀ i bk, r i = some bk → bk.blk ≠ hb l) ∧ ∀ d, ol.dst = some d → a.getD d undef = mk' (hb l)
  inj : ∀ l l', Hid l → Hid l' → hb l = hb l' → l = l'
  mv : ∀ m, Mv m → ∃ om s d, ops[m]? = some om ∧ om.guard = none ∧ om.op = .assign (.tmp s) ∧ om.dst = some d ∧ a.getD d undef = a.getD s undef
end

section
variable {T : Tab} {ops : Array Oper} {r0 : Ren} {h0 : AH} {w0 : World} {Mv : Nat → Prop} {hb : Nat → Nat} {Hid : Nat → Prop} {tm : PM Value} {h : AH} {r : Ren} {w : World} {a : Array Value}

theorem Core.known (c : Core T ops r0 h0 w0 Mv hb Hid tm h r w a) {o : Oper} (ho : ∀ l ol d, Hid l ∨ Mv l → ops[l]? = some ol → ol.dst = some d → d ∉ o.looksAt ops) : ∃ tm', Agree ops o tm tm' ∧ TR r tm' a := by
  obtain ⟨tm', hd⟩ := exists_del (fun t => ∃ l ol, (Hid l ∨ Mv l) ∧ ops[l]? = some ol ∧ ol.dst = some t) tm (ops.toList.filterMap (·.dst))
  have mem : ∀ (l : Nat) (ol : Oper) (t : Nat), ops[l]? = some ol → ol.dst = some t → t ∈ ops.toList.filterMap (·.dst) := fun l ol t h1 h2 =>
    List.mem_filterMap.2 ⟨ol, by rw [← Array.getElem?_toList] at h1; exact List.mem_of_getElem? h1, h2⟩
  refine ⟨tm', ?_, ?_⟩
  · intro t ht
    refine ((hd t).2 ?_).symm
    rintro ⟨_, l, ol, g1, g2, g3⟩
    exact ho l ol t g1 g2 g3 ht
  · intro t v hv
    by_cases hp : ∃ l ol, (Hid l ∨ Mv l) ∧ ops[l]? = some ol ∧ ol.dst = some t
    · obtain ⟨l, ol, g1, g2, g3⟩ := hp
      rw [(hd t).1 ⟨mem l ol t g2 g3, l, ol, g1, g2, g3⟩] at hv
      cases hv
    · rw [(hd t).2 fun g => hp g.2] at hv
      exact (c.tr t fun l ol g1 g2 g3 => hp ⟨l, ol, g1, g2, g3⟩).1 v hv

theorem getD_putF {dst : Option Nat} {v : Value} {a : Array Value} {t : Nat} (h : dst ≠ some t) : (putF dst v a).getD t undef = a.getD t undef := by
  cases dst with
  | none => rfl
  | some d =>
    have hd : d ≠ t := fun e => h (by rw [e])
    simp [putF, Array.getElem?_setIfInBounds_ne hd]
theorem getD_putF_same {d : Nat} {v : Value} {a : Array Value} (h : d < a.size) : (putF (some d) v a).getD d undef = v := by
  simp [putF, h]

theorem Core.mat (c : Core T ops r0 h0 w0 Mv hb Hid tm h r w a) {l : Nat} {ol : Oper} {p : AObj × (Nat → Value)} (hl : Hid l) (hol : ops[l]? = some ol) (hp : allocOf T tm ol = some p)
    (hsa : ∀ l' ol' d, Hid l' → ops[l']? = some ol' → ol.dst = some d → d ∉ ol'.looksAt ops ∧ (l' ≠ l → ol'.dst ≠ some d)) :
    Core T ops r0 h0 w0 Mv hb (fun x => Hid x ∧ x ≠ l) (setT tm ol (p.2 h.next)) (h.new p.1) (r.add h.next ⟨hb l, 0, 0, 0⟩) w a := by
  obtain ⟨ol2, obj, mk, ob, mk', g1, g2, g3, g4, g5, g6, g7⟩ := c.hid l hl
  rw [hol] at g1; cases g1
  rw [hp] at g2; cases g2
  have hs := c.hr.sub_add ⟨hb l, 0, 0, 0⟩
  obtain ⟨q1, q2⟩ := g3.2 _ h.next (hb l) hs (Ren.add_same _ _ _)
  refine ⟨c.hr.adopt _ ob ⟨hb l, 0, 0, 0⟩ g4 g6 q1, c.ext.adopt c.hr _ ⟨hb l, 0, 0, 0⟩ g5, ?_, ?_, fun x y hx hy e => c.inj x y hx.1 hy.1 e, c.mv⟩
  · intro t ht
    rw [setT_get]
    by_cases hd : ol.dst = some t
    · rw [if_pos hd, g7 t hd]
      exact ⟨fun v hv => by cases hv; exact q2, fun hv => by cases hv⟩
    · rw [if_neg hd]
      have := c.tr t (fun x ox hx hox hdx => by
        by_cases hxl : x = l
        · subst hxl; rw [hol] at hox; cases hox; exact hd hdx
        · exact ht x ox (hx.imp (fun q => ⟨q, hxl⟩) id) hox hdx)
      exact ⟨fun v hv => (this.1 v hv).mono hs, this.2⟩
  · rintro x ⟨hx, hxl⟩
    obtain ⟨ox, obj2, mk2, ob2, mk2', k1, k2, k3, k4, k5, k6, k7⟩ := c.hid x hx
    refine ⟨ox, obj2, mk2, ob2, mk2', k1, ?_, k3.mono hs, k4, k5, ?_, k7⟩
    · rw [← k2]
      exact allocOf_congr (Agree.set (ops := ops) fun d hd => (hsa x ox d hx k1 hd).1).ev
    · intro i bk e
      by_cases hi : i = h.next
      · subst hi; rw [Ren.add_same] at e; cases e; exact fun e2 => hxl (c.inj x l hx hl e2.symm)
      · rw [Ren.add_other _ _ hi] at e; exact k6 i bk e

theorem Core.step (hr0 : HR T.P r0 h0 w0) (c : Core T ops r0 h0 w0 Mv hb Hid tm h r w a) {r1 : Ren} {h1 : AH} {w1 : World} (hh : HR T.P r1 h1 w1) (hx : Ext r h w r1 h1 w1) {oi : Oper} {v v' : Value} (hv : VR r1 v v') (hsz : ∀ d, oi.dst = some d → d < a.size)
    (hap : ∀ l ol d, Hid l → ops[l]? = some ol → oi.dst = some d → d ∉ ol.looksAt ops ∧ ol.dst ≠ some d) (hmv : ∀ m om s d, Mv m → ops[m]? = some om → om.op = .assign (.tmp s) → om.dst = some d → oi.dst ≠ some d ∧ oi.dst ≠ some s) : Core T ops r0 h0 w0 Mv hb Hid (setT tm oi v) h1 r1 w1 (putF oi.dst v' a) := by
  refine ⟨hh, ?_, ?_, ?_, c.inj, ?_⟩
  · exact c.ext.trans hr0 hx
  · intro t ht
    rw [setT_get]
    by_cases hd : oi.dst = some t
    · rw [if_pos hd, hd, getD_putF_same (hsz t hd)]
      exact ⟨fun v2 h2 => by cases h2; exact hv, fun h2 => by cases h2⟩
    · rw [if_neg hd, getD_putF hd]
      have := c.tr t ht
      exact ⟨fun v2 h2 => (this.1 v2 h2).mono hx.sub, this.2⟩
  · intro x hxx
    obtain ⟨ox, obj2, mk2, ob2, mk2', k1, k2, k3, k4, k5, k6, k7⟩ := c.hid x hxx
    have hlt : hb x < w.heap.size := (Array.getElem?_eq_some_iff.1 k4).1
    refine ⟨ox, obj2, mk2, ob2, mk2', k1, ?_, k3.mono hx.sub, ?_, k5, ?_, ?_⟩
    · rw [← k2]
      exact allocOf_congr (Agree.set (ops := ops) fun d hd => (hap x ox d hxx k1 hd).1).ev
    · rw [hx.keep (hb x) hlt fun i o bk _ _ e => k6 i bk e]; exact k4
    · intro i bk e
      cases e1 : r i with
      | some bk2 => have := hx.sub _ _ e1; rw [e] at this; cases this; exact k6 i _ e1
      | none =>
        rcases hx.new i bk e1 e with h2 | ⟨j, o, bk2, h2, h3, h4, h5⟩
        · omega
        · rw [← h5]; exact k6 j bk2 h4
    · intro d hd
      rw [getD_putF fun hd2 => (hap x ox d hxx k1 hd2).2 hd]
      exact k7 d hd
  · intro m hm
    obtain ⟨om, s, d, g1, g2, g3, g4, g5⟩ := c.mv m hm
    obtain ⟨n1, n2⟩ := hmv m om s d hm g1 g3 g4
    exact ⟨om, s, d, g1, g2, g3, g4, by rw [getD_putF n1, getD_putF n2]; exact g5⟩

theorem Core.alloc (c : Core T ops r0 h0 w0 Mv hb Hid tm h r w a) {l : Nat} {ol : Oper} {obj : AObj} {mk : Nat → Value} {ob : Obj} {mk' : Nat → Value} (hol : ops[l]? = some ol) (hp : allocOf T tm ol = some (obj, mk)) (hR : AllocR T.P r obj mk ob mk')
    (hn : ¬ Hid l) (hsz : ∀ d, ol.dst = some d → d < a.size) (hsa : ∀ l' ol' d, Hid l' → ops[l']? = some ol' → ol.dst = some d → ol'.dst ≠ some d)
    (hmv : ∀ m om s d, Mv m → ops[m]? = some om → om.op = .assign (.tmp s) → om.dst = some d → ol.dst ≠ some d ∧ ol.dst ≠ some s) :
    Core T ops r0 h0 w0 Mv (fun x => if x = l then w.heap.size else hb x) (fun x => Hid x ∨ x = l) tm h r { w with heap := w.heap.push ob } (putF ol.dst (mk' w.heap.size) a) := by
  have hne : ∀ x, Hid x → x ≠ l := fun x hx e => hn (e ▸ hx)
  have old : ∀ x, Hid x → hb x < w.heap.size := fun x hx => by obtain ⟨_, _, _, _, _, _, _, _, k4, _⟩ := c.hid x hx; exact (Array.getElem?_eq_some_iff.1 k4).1
  refine ⟨c.hr.push ob, c.ext.push ob, ?_, ?_, ?_, ?_⟩
  · intro t ht
    rw [getD_putF fun hd => ht l ol (.inl (.inr rfl)) hol hd]
    exact c.tr t fun x ox hx => ht x ox (hx.imp .inl id)
  · intro x hx
    by_cases hxl : x = l
    · subst hxl
      refine ⟨ol, obj, mk, ob, mk', hol, hp, hR, by simp, by simp; exact c.ext.size, ?_, ?_⟩
      · intro i bk e; simp; have := (c.hr.lt i bk e).2; omega
      · intro d hd; rw [hd, getD_putF_same (hsz d hd)]; simp
    · have hx' : Hid x := hx.resolve_right hxl
      obtain ⟨ox, obj2, mk2, ob2, mk2', k1, k2, k3, k4, k5, k6, k7⟩ := c.hid x hx'
      have hlt := old x hx'
      refine ⟨ox, obj2, mk2, ob2, mk2', k1, k2, k3, ?_, by simp [hxl]; exact k5, by simp [hxl]; exact k6, ?_⟩
      · simp only [if_neg hxl, Array.getElem?_push]; rw [if_neg (by omega)]; exact k4
      · intro d hd
        rw [getD_putF fun hd2 => hsa x ox d hx' k1 hd2 hd]
        simp only [if_neg hxl]
        exact k7 d hd
  · intro x y hx hy e
    by_cases hxl : x = l <;> by_cases hyl : y = l
    · rw [hxl, hyl]
    · subst hxl; simp only [if_true, if_neg hyl] at e; have := old y (hy.resolve_right hyl); omega
    · subst hyl; simp only [if_true, if_neg hxl] at e; have := old x (hx.resolve_right hxl); omega
    · simp only [if_neg hxl, if_neg hyl] at e; exact c.inj x y (hx.resolve_right hxl) (hy.resolve_right hyl) e
  · intro m hm
    obtain ⟨om, s, d, g1, g2, g3, g4, g5⟩ := c.mv m hm
    obtain ⟨n1, n2⟩ := hmv m om s d hm g1 g3 g4
    exact ⟨om, s, d, g1, g2, g3, g4, by rw [getD_putF n1, getD_putF n2]; exact g5⟩

/-- A value handed on. -/
theorem Core.move (c : Core T ops r0 h0 w0 Mv hb Hid tm h r w a) {m : Nat} {om : Oper} {s d : Nat} (hom : ops[m]? = some om) (hg : om.guard = none) (hop : om.op = .assign (.tmp s)) (hd : om.dst = some d) (hsd : s ≠ d) (hsz : d < a.size)
    (hsa : ∀ l' ol', Hid l' → ops[l']? = some ol' → ol'.dst ≠ some d) (hmv : ∀ m' om' s' d', Mv m' → ops[m']? = some om' → om'.op = .assign (.tmp s') → om'.dst = some d' → d ≠ d' ∧ d ≠ s') :
    Core T ops r0 h0 w0 (fun x => Mv x ∨ x = m) hb Hid tm h r w (putF (some d) (a.getD s undef) a) := by
  refine ⟨c.hr, c.ext, ?_, ?_, c.inj, ?_⟩
  · intro t ht
    rw [getD_putF fun q => ht m om (.inr (.inr rfl)) hom (hd.trans q)]
    exact c.tr t fun x ox hx => ht x ox (hx.imp id .inl)
  · intro x hx
    obtain ⟨ox, obj2, mk2, ob2, mk2', k1, k2, k3, k4, k5, k6, k7⟩ := c.hid x hx
    refine ⟨ox, obj2, mk2, ob2, mk2', k1, k2, k3, k4, k5, k6, fun e he => ?_⟩
    rw [getD_putF fun q => hsa x ox hx k1 (he.trans q.symm)]
    exact k7 e he
  · rintro x (hx | rfl)
    · obtain ⟨om', s', d', g1, g2, g3, g4, g5⟩ := c.mv x hx
      obtain ⟨n1, n2⟩ := hmv x om' s' d' hx g1 g3 g4
      exact ⟨om', s', d', g1, g2, g3, g4, by rw [getD_putF (fun q => n1 (Option.some.inj q)), getD_putF (fun q => n2 (Option.some.inj q))]; exact g5⟩
    · exact ⟨om, s, d, hom, hg, hop, hd, by rw [getD_putF_same hsz, getD_putF (fun q => hsd (Option.some.inj q).symm)]⟩
end
end
end Go.Proofs.YtknchhnibjfocaaDoor.Abs
