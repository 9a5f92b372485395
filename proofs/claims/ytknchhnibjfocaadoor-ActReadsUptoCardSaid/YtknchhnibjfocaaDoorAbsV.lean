/- An abstract machine: a region whose order is drawn; operations exchanged. -/
import Derived.Test.YtknchhnibjfocaaDoorAbsU
namespace Go.Proofs.YtknchhnibjfocaaDoor.Abs
open Go
noncomputable section

section
variable {T : Tab} {X : Exts} {rec : Nat → List Value → AH → Option (Value × AH)} {ops : Array Oper}

/-- Two operations that do not look at each other. -/
structure Apart (ops : Array Oper) (x y : Oper) : Prop where
  xy : ∀ d, x.dst = some d → d ∉ y.looksAt ops
  yx : ∀ d, y.dst = some d → d ∉ x.looksAt ops
  dd : ∀ d, x.dst = some d → y.dst ≠ some d

def FEq (p q : PM Value × AH) : Prop := TEq p.1 q.1 ∧ p.2 = q.2
theorem FEq.refl (p : PM Value × AH) : FEq p p := ⟨fun _ => rfl, rfl⟩
theorem FEq.trans {p q s : PM Value × AH} (h : FEq p q) (h' : FEq q s) : FEq p s := ⟨fun t => (h.1 t).trans (h'.1 t), h.2.trans h'.2⟩
theorem FEq.symm {p q : PM Value × AH} (h : FEq p q) : FEq q p := ⟨fun t => (h.1 t).symm, h.2.symm⟩

theorem runL_ext' {L : List PItem} {a b : PM Value} {h : AH} {F : PM Value × AH} (hab : TEq a b) (e : runL T X rec ops L a h = some F) : ∃ F', runL T X rec ops L b h = some F' ∧ FEq F F' := by
  obtain ⟨b1, q1, q2⟩ := runL_ext hab (a1 := F.1) (h1 := F.2) e
  exact ⟨(b1, F.2), q1, q2, rfl⟩

inductive Ones : List PItem → Prop
  | nil : Ones []
  | cons (a L) : Ones L → Ones (.one a :: L)

theorem front {j : Nat} {oj : Oper} (hj : ops[j]? = some oj) {B : List PItem} : ∀ {A : List PItem}, Ones A → (∀ a oa, .one a ∈ A → ops[a]? = some oa → Apart ops oa oj) → ∀ {tm : PM Value} {h : AH} {F : PM Value × AH},
    runL T X rec ops (A ++ .one j :: B) tm h = some F → ∃ v, evAt T X ops tm oj h = some v ∧ ∃ F', runL T X rec ops (A ++ B) (setT tm oj v) h = some F' ∧ FEq F F' := by
  intro A hA
  induction hA with
  | nil =>
    intro _ tm h F e
    simp only [List.nil_append, runL, hj] at e
    split at e
    · rename_i v hv; exact ⟨v, hv, F, e, .refl F⟩
    · cases e
  | cons a A hA ih =>
    intro hc tm h F e
    simp only [List.cons_append, runL] at e
    split at e
    · rename_i oa ha
      have hap := hc a oa (by simp) ha
      split at e
      · rename_i va hva
        obtain ⟨v, q1, F', q2, q3⟩ := ih (fun b ob hb => hc b ob (by simp [hb])) e
        refine ⟨v, by rw [← q1]; exact evAt_congr (Agree.set hap.xy).symm, ?_⟩
        obtain ⟨F2, q4, q5⟩ := runL_ext' (setT_comm (v := va) (v' := v) hap.dd) q2
        refine ⟨F2, ?_, q3.trans q5⟩
        have : evAt T X ops (setT tm oj v) oa h = some va := by rw [← hva]; exact evAt_congr (Agree.set hap.yx)
        simp only [List.cons_append, runL, ha, this]
        exact q4
      · cases e
    · cases e

theorem runAl_set {oa : Oper} {va : Value} : ∀ {al : List Nat} {tm : PM Value} {h : AH} {tm1 : PM Value} {h1 : AH}, (∀ l ol, l ∈ al → ops[l]? = some ol → Apart ops oa ol) → runAl T ops al (setT tm oa va) h = some (tm1, h1) →
    ∃ tm2, runAl T ops al tm h = some (tm2, h1) ∧ TEq tm1 (setT tm2 oa va) := by
  intro al
  induction al with
  | nil => intro tm h tm1 h1 _ e; cases e; exact ⟨tm, rfl, fun _ => rfl⟩
  | cons l al ih =>
    intro tm h tm1 h1 hc e
    simp only [runAl] at e ⊢
    split at e
    · rename_i o ho
      have hap := hc l o (by simp) ho
      split at e
      · rename_i p hp
        rw [allocOf_congr (Agree.set hap.xy).ev] at hp
        simp only [hp]
        obtain ⟨tm1', q1, q2⟩ := runAl_ext (setT_comm (v := va) (v' := p.2 h.next) hap.dd) e
        obtain ⟨tm2, q3, q4⟩ := ih (fun b ob hb => hc b ob (by simp [hb])) q1
        exact ⟨tm2, q3, fun t => (q2 t).trans (q4 t)⟩
      · rename_i hp
        rw [allocOf_congr (Agree.set hap.xy).ev] at hp
        rw [mvOf_congr (Agree.set hap.xy)] at e
        simp only [hp]
        split at e
        · rename_i v hv
          obtain ⟨tm1', q1, q2⟩ := runAl_ext (setT_comm (v := va) (v' := v) hap.dd) e
          obtain ⟨tm2, q3, q4⟩ := ih (fun b ob hb => hc b ob (by simp [hb])) q1
          exact ⟨tm2, q3, fun t => (q2 t).trans (q4 t)⟩
        · cases e
    · cases e

theorem delay {al : List Nat} {j : Nat} {rs : List Nat} {oj : Oper} (hj : ops[j]? = some oj) {B : List PItem} : ∀ {A : List PItem}, Ones A →
    (∀ a oa, .one a ∈ A → ops[a]? = some oa → Apart ops oa oj ∧ (∀ l ol, l ∈ al → ops[l]? = some ol → Apart ops oa ol) ∧ a ∈ rs ∧ (∀ d, oa.dst = some d → d ∉ oa.looksAt ops)) →
    (∀ a b oa ob, [.one a, .one b].Sublist A → ops[a]? = some oa → ops[b]? = some ob → (∀ d, ob.dst = some d → d ∉ oa.looksAt ops) ∧ (∀ d, ob.dst = some d → oa.dst ≠ some d)) →
    ∀ {tm : PM Value} {h : AH} {F : PM Value × AH}, runL T X rec ops (A ++ .eff al j rs :: B) tm h = some F →
    ∃ tm1 h1 v h2, runAl T ops al tm h = some (tm1, h1) ∧ evEff T X rec ops tm1 oj h1 = some (v, h2) ∧ (∃ F', runL T X rec ops (A ++ B) (setT tm1 oj v) h2 = some F' ∧ FEq F F') ∧
      ∃ tm2, rs.all (again T X ops tm2 h2) = true ∧ ∀ t, (∀ a oa, .one a ∈ A → ops[a]? = some oa → oa.dst ≠ some t) → tm2.get t = (setT tm1 oj v).get t := by
  intro A hA
  induction hA with
  | nil =>
    intro _ _ tm h F e
    simp only [List.nil_append, runL] at e
    split at e
    · rename_i p hp
      rw [hj] at e
      simp only at e
      split at e
      · rename_i q hq
        obtain ⟨e1, e2⟩ := ifB_some e
        exact ⟨p.1, p.2, q.1, q.2, hp, hq, ⟨F, e2, .refl F⟩, _, e1, fun t _ => rfl⟩
      · cases e
    · cases e
  | cons a A hA ih =>
    intro hc hs tm h F e
    simp only [List.cons_append, runL] at e
    split at e
    · rename_i oa ha
      obtain ⟨hap, hapl, har, hself⟩ := hc a oa (by simp) ha
      split at e
      · rename_i va hva
        obtain ⟨tm1', h1, v, h2, q1, q2, ⟨F', q3, q4⟩, tm2, q5, q6⟩ := ih (fun b ob hb => hc b ob (by simp [hb])) (fun b c ob oc hb => hs b c ob oc (hb.trans (List.sublist_cons_self _ _))) e
        obtain ⟨tm1, p1, p2⟩ := runAl_set hapl q1
        have hag : Agree ops oj tm1' tm1 := (p2.agree (ops := ops)).trans (Agree.set hap.xy)
        have q2' : evEff T X rec ops tm1 oj h1 = some (v, h2) := by rw [← q2]; exact evEff_congr hag.symm
        have hset : TEq (setT tm1' oj v) (setT (setT tm1 oj v) oa va) := fun t => (p2.setT oj v t).trans (setT_comm hap.dd t)
        -- the operation, asked for again after the effect
        have hag2 : Agree ops oa tm2 (setT tm1 oj v) := by
          intro t ht
          rw [q6 t (fun b ob hb hob hd => by
            have := (hs a b oa ob (List.Sublist.cons_cons _ (List.singleton_sublist.2 hb)) ha hob).1 t hd
            exact this ht), hset t]
          exact setT_ne fun hd => hself t hd ht
        have hagain := List.all_eq_true.1 q5 a har
        unfold again at hagain
        rw [ha] at hagain
        simp only at hagain
        have hev : ∃ v', evAt T X ops (setT tm1 oj v) oa h2 = some v' ∧ ∀ (b : PM Value), TEq (setT b oa v') (setT b oa va) := by
          split at hagain
          · rename_i v' hv'
            refine ⟨v', by rw [← hv']; exact evAt_congr hag2.symm, ?_⟩
            split at hagain
            · rename_i d hd
              split at hagain
              · rename_i u hu
                have := eqV_eq _ _ hagain
                have h5 := q6 d (fun b ob hb hob hdd => (hs a b oa ob (List.Sublist.cons_cons _ (List.singleton_sublist.2 hb)) ha hob).2 d hdd hd)
                rw [hset d, setT_get, if_pos hd, hu] at h5
                cases h5
                intro b t
                rw [this]
              · cases hagain
            · rename_i hd
              intro b t
              simp [setT, hd]
          · cases hagain
        obtain ⟨v', r1, r2⟩ := hev
        obtain ⟨F2, r3, r4⟩ := runL_ext' (b := setT (setT tm1 oj v) oa v') (fun t => (hset t).trans (r2 _ t).symm) q3
        refine ⟨tm1, h1, v, h2, p1, q2', ⟨F2, ?_, q4.trans r4⟩, tm2, q5, ?_⟩
        · simp only [List.cons_append, runL, ha, r1]
          exact r3
        · intro t ht
          rw [q6 t (fun b ob hb => ht b ob (by simp [hb])), hset t]
          exact setT_ne (ht a oa (by simp) ha)
      · cases e
    · cases e

theorem alloc_now_al {l : Nat} {ol : Oper} (hl : ops[l]? = some ol) : ∀ {al : List Nat} {tm : PM Value} {h : AH} {F : PM Value × AH}, l ∈ al → (∀ x ox, x ∈ al → ops[x]? = some ox → ∀ d, ox.dst = some d → d ∉ ol.looksAt ops) →
    runAl T ops al tm h = some F → (∃ p, allocOf T tm ol = some p) ∨ ∃ v, mvOf tm ol = some v := by
  intro al
  induction al with
  | nil => intro tm h F hm; cases hm
  | cons x al ih =>
    intro tm h F hm hc e
    simp only [runAl] at e
    split at e
    · rename_i o ho
      split at e
      · rename_i p hp
        by_cases hx : l = x
        · subst hx; rw [hl] at ho; cases ho; exact .inl ⟨p, hp⟩
        · have := ih (by cases hm with | head => exact absurd rfl hx | tail _ h => exact h) (fun y oy hy => hc y oy (by simp [hy])) e
          rw [allocOf_congr (Agree.set (ops := ops) (hc x o (by simp) ho)).ev, mvOf_congr (Agree.set (ops := ops) (hc x o (by simp) ho))] at this
          exact this
      · split at e
        · rename_i v hv
          by_cases hx : l = x
          · subst hx; rw [hl] at ho; cases ho; exact .inr ⟨v, hv⟩
          · have := ih (by cases hm with | head => exact absurd rfl hx | tail _ h => exact h) (fun y oy hy => hc y oy (by simp [hy])) e
            rw [allocOf_congr (Agree.set (ops := ops) (hc x o (by simp) ho)).ev, mvOf_congr (Agree.set (ops := ops) (hc x o (by simp) ho))] at this
            exact this
        · cases e
    · cases e
theorem runAl_agree {ol : Oper} : ∀ {al : List Nat} {tm : PM Value} {h : AH} {F : PM Value × AH}, (∀ x ox, x ∈ al → ops[x]? = some ox → ∀ d, ox.dst = some d → d ∉ ol.looksAt ops) → runAl T ops al tm h = some F → Agree ops ol F.1 tm := by
  intro al
  induction al with
  | nil => intro tm h F _ e; cases e; exact fun _ _ => rfl
  | cons x al ih =>
    intro tm h F hc e
    simp only [runAl] at e
    split at e
    · rename_i o ho
      split at e
      · exact (ih (fun y oy hy => hc y oy (by simp [hy])) e).trans (Agree.set (hc x o (by simp) ho))
      · split at e
        · exact (ih (fun y oy hy => hc y oy (by simp [hy])) e).trans (Agree.set (hc x o (by simp) ho))
        · cases e
    · cases e

/-- What the items write. -/
def Writes (ops : Array Oper) (ol : Oper) : PItem → Prop
  | .one i => ∀ o, ops[i]? = some o → ∀ d, o.dst = some d → d ∉ ol.looksAt ops
  | .eff al i _ => (∀ o, ops[i]? = some o → ∀ d, o.dst = some d → d ∉ ol.looksAt ops) ∧ ∀ x ox, x ∈ al → ops[x]? = some ox → ∀ d, ox.dst = some d → d ∉ ol.looksAt ops

theorem alloc_now {l : Nat} {ol : Oper} (hl : ops[l]? = some ol) (hno : ∀ tm, mvOf tm ol = none) {fa : List Nat} (hfa : ∀ x ox, x ∈ fa → ops[x]? = some ox → ∀ d, ox.dst = some d → d ∉ ol.looksAt ops) : ∀ {L : List PItem} {tm : PM Value} {h : AH} {F G : PM Value × AH}, (∀ x ∈ L, Writes ops ol x) →
    runL T X rec ops L tm h = some F → runAl T ops fa F.1 F.2 = some G → (l ∈ fa ∨ ∃ al i rs, .eff al i rs ∈ L ∧ l ∈ al) → ∃ p, allocOf T tm ol = some p := by
  intro L
  induction L with
  | nil =>
    intro tm h F G _ e1 e2 hm
    cases e1
    rcases hm with hm | ⟨al, i, rs, hm, _⟩
    · exact (alloc_now_al hl hm hfa e2).resolve_right (by rintro ⟨v, hv⟩; rw [hno] at hv; cases hv)
    · cases hm
  | cons x L ih =>
    intro tm h F G hw e1 e2 hm
    cases x with
    | one i =>
      simp only [runL] at e1
      split at e1
      · rename_i o ho
        split at e1
        · rename_i v hv
          obtain ⟨p, hp⟩ := ih (fun y hy => hw y (by simp [hy])) e1 e2 (by
            rcases hm with hm | ⟨al, i, rs, hm, h2⟩
            · exact .inl hm
            · cases hm with
              | tail _ hm => exact .inr ⟨al, i, rs, hm, h2⟩)
          exact ⟨p, by rw [← hp]; exact (allocOf_congr (Agree.set (ops := ops) (hw (.one i) (by simp) o ho)).ev).symm⟩
        · cases e1
      · cases e1
    | eff al i rs =>
      simp only [runL] at e1
      have hwx := hw (.eff al i rs) (by simp)
      split at e1
      · rename_i p1 hp1
        split at e1
        · rename_i o ho
          split at e1
          · rename_i q hq
            obtain ⟨_, e3⟩ := ifB_some e1
            by_cases hla : l ∈ al
            · exact (alloc_now_al hl hla hwx.2 hp1).resolve_right (by rintro ⟨v, hv⟩; rw [hno] at hv; cases hv)
            · obtain ⟨p, hp⟩ := ih (fun y hy => hw y (by simp [hy])) e3 e2 (by
                rcases hm with hm | ⟨al2, i2, rs2, hm, h2⟩
                · exact .inl hm
                · cases hm with
                  | head => exact absurd h2 hla
                  | tail _ hm => exact .inr ⟨al2, i2, rs2, hm, h2⟩)
              refine ⟨p, ?_⟩
              rw [← hp]
              exact (allocOf_congr (((Agree.set (ops := ops) (hwx.1 o ho)).trans (runAl_agree hwx.2 hp1))).ev).symm
          · cases e1
        · cases e1
      · cases e1
end
end
end Go.Proofs.YtknchhnibjfocaaDoor.Abs
