/- An abstract machine: a region whose order is drawn, all of it. -/
import Derived.Test.YtknchhnibjfocaaDoorAbsX
namespace Go.Proofs.YtknchhnibjfocaaDoor.Abs
open Go
noncomputable section

section
variable {T : Tab} {X : Exts} {rec : Nat → List Value → AH → Option (Value × AH)} {ops : Array Oper} {r0 : Ren} {h0 : AH} {w0 : World} {size : Nat} {anc : Nat → Nat → Prop} {alloc : Nat → Prop}

theorem lt_ops {i : Nat} {o : Oper} (h : ops[i]? = some o) : i < ops.size := (Array.getElem?_eq_some_iff.1 h).1

theorem Ones.of {A : List PItem} (h : ∀ x ∈ A, ∃ i, x = .one i) : Ones A := by
  induction A with
  | nil => exact .nil
  | cons x A ih => obtain ⟨i, rfl⟩ := h x (by simp); exact .cons i A (ih fun y hy => h y (by simp [hy]))

theorem Before.pair {A B : List PItem} {x : PItem} (hp : (A ++ x :: B).Pairwise (Before ops anc)) : (∀ y ∈ A, Before ops anc y x) ∧ (∀ y ∈ B, Before ops anc x y) ∧ (A ++ B).Pairwise (Before ops anc) := by
  rw [List.pairwise_append] at hp
  obtain ⟨h1, h2, h3⟩ := hp
  rw [List.pairwise_cons] at h2
  refine ⟨fun y hy => h3 y hy x (by simp), h2.1, ?_⟩
  rw [List.pairwise_append]
  exact ⟨h1, h2.2, fun y hy z hz => h3 y hy z (by simp [hz])⟩

/-- Values handed on, one after another. -/
theorem runMv (M : List Nat) (sa : ∀ (i j : Nat) (oi oj : Oper) (d : Nat), ops[i]? = some oi → ops[j]? = some oj → oi.dst = some d → oj.dst = some d → i = j)
    (hop : ∀ m, m ∈ M → ∃ om s d, ops[m]? = some om ∧ om.guard = none ∧ om.op = .assign (.tmp s) ∧ om.dst = some d ∧ ∀ m' om' s', m' ∈ M → ops[m']? = some om' → om'.op = .assign (.tmp s') → s' ≠ d) :
    ∀ {tm : PM Value} {h : AH} {Q : PM Value × AH}, runAl T ops M tm h = some Q → Q.2 = h ∧ (∀ t, (∀ m om, m ∈ M → ops[m]? = some om → om.dst ≠ some t) → Q.1.get t = tm.get t) ∧
      ∀ m om s d, m ∈ M → ops[m]? = some om → om.op = .assign (.tmp s) → om.dst = some d → ∃ v, tm.get s = some v ∧ Q.1.get d = some v := by
  induction M with
  | nil => intro tm h Q e; cases e; exact ⟨rfl, fun _ _ => rfl, fun m _ _ _ hm => by cases hm⟩
  | cons m M ih =>
    intro tm h Q e
    obtain ⟨om, s, d, g1, g2, g3, g4, g5⟩ := hop m (by simp)
    have hal : allocOf T tm om = none := by unfold allocOf; rw [g3]
    have hmv : mvOf tm om = tm.get s := by unfold mvOf; rw [g2, g3]
    simp only [runAl, g1, hal, hmv] at e
    cases hv : tm.get s with
    | none => rw [hv] at e; cases e
    | some v =>
      rw [hv] at e
      simp only at e
      obtain ⟨q1, q2, q3⟩ := ih (fun x hx => by
        obtain ⟨om2, s2, d2, k1, k2, k3, k4, k5⟩ := hop x (by simp [hx])
        exact ⟨om2, s2, d2, k1, k2, k3, k4, fun y oy sy hy => k5 y oy sy (by simp [hy])⟩) e
      refine ⟨q1, fun t ht => ?_, ?_⟩
      · rw [q2 t fun x ox hx => ht x ox (by simp [hx])]
        exact setT_ne (ht m om (by simp) g1)
      · intro x ox sx dx hx hox hopx hdx
        rw [List.mem_cons] at hx
        have old : x ∈ M → ∃ v, tm.get sx = some v ∧ Q.1.get dx = some v := by
          intro hxM
          obtain ⟨v', k1, k2⟩ := q3 x ox sx dx hxM hox hopx hdx
          rw [setT_ne (by rw [g4]; exact fun q => g5 x ox sx (by simp [hxM]) hox hopx (Option.some.inj q).symm)] at k1
          exact ⟨v', k1, k2⟩
        rcases hx with rfl | hx
        · rw [g1] at hox; cases hox
          rw [g3] at hopx; cases hopx
          rw [g4] at hdx; cases hdx
          by_cases hM : ∃ y oy, y ∈ M ∧ ops[y]? = some oy ∧ oy.dst = some d
          · obtain ⟨y, oy, hy, hoy, hdy⟩ := hM
            have := sa y x oy om d hoy g1 hdy g4
            subst this
            exact old hy
          · refine ⟨v, hv, ?_⟩
            rw [q2 d fun y oy hy hoy hdy => hM ⟨y, oy, hy, hoy, hdy⟩, setT_get, if_pos g4]
        · exact old hx

theorem region_run (ok : TabOK T) (oz : TabZ T) (hX : ExtOK T X) (hrec : RecOK T rec) (g : Good ops size anc alloc) {M fa : List Nat} (hmo : MvOK ops anc alloc M) (hfa : FaOK anc alloc M fa) (hal : ∀ l, alloc l → l < ops.size) (hr0 : HR T.P r0 h0 w0)
    {F Q : PM Value × AH} (hQ : runAl T ops M F.1 F.2 = some Q) {f : Frame} {k : List Item} {cs : List Frame} (hm : f.mode = .run) {D : Nat → Prop} {S : List Nat} (hl : Lin ops.size anc D S) :
    ∀ {Mv : Nat → Prop} {hb : Nat → Nat} {Hid : Nat → Prop} {L : List PItem} {tm : PM Value} {h : AH} {r : Ren} {w : World} {a : Array Value}, Inv T X rec ops r0 h0 w0 size anc alloc M fa F D Mv hb Hid L tm h r w a →
    ∃ r1 w1 a1, Steps T.P (lone { f with tmps := a, todo := .inRegion ops S :: k } cs w) (lone { f with tmps := a1, todo := .inRegion ops [] :: k } cs w1) ∧
      HR T.P r1 Q.2 w1 ∧ Ext r0 h0 w0 r1 Q.2 w1 ∧ TR r1 Q.1 a1 ∧ (∀ t, Q.1.get t = none → a1.getD t undef = undef) ∧ a1.size = size := by
  obtain ⟨hQ2, hQt, hQd⟩ := runMv M g.sa (fun m hm => by
    obtain ⟨om, s, d, p, op', e1, e2, e3, e4, e5, e6, e7, e9⟩ := hmo.op m hm
    exact ⟨om, s, d, e1, e2, e3, e4, fun m' om' s' _ hom' hop' q => hmo.no m om d hm e1 e4 m' om' hom' (by subst q; unfold Oper.looksAt; rw [hop']; simp [Op.operands])⟩) hQ
  rw [hQ2]
  induction hl with
  | nil D hD =>
    intro Mv hb Hid L tm h r w a inv
    have hL : L = [] := by
      cases L with
      | nil => rfl
      | cons x L =>
        exfalso
        have hit := inv.it x (by simp)
        cases x with
        | one i => obtain ⟨_, o, ho, _⟩ := hit; exact inv.nd1 i (by simp) (hD i (lt_ops ho))
        | eff al e rs => obtain ⟨_, _, _, o, ho⟩ := hit; exact inv.nd2 al e rs (by simp) (hD e (lt_ops ho))
    subst hL
    obtain ⟨G, F', q1, q2, q3⟩ := inv.run
    cases q1
    have hH : ∀ l ∈ fa, Hid l := fun l hlf => (inv.hd l).2 ⟨hD l (hal l (hfa.al l hlf).1), .inl hlf⟩
    have hA : ∀ l, Hid l → alloc l := by
      intro l hlh
      rcases ((inv.hd l).1 hlh).2 with h1 | ⟨_, _, _, h1, _⟩
      · exact (hfa.al l h1).1
      · cases h1
    obtain ⟨r1, c⟩ := Core.mat_all g fa inv.core hH hfa.nd hA q2
    have hno : ∀ l, ¬ (Hid l ∧ l ∉ fa) := by
      rintro l ⟨h1, h2⟩
      rcases ((inv.hd l).1 h1).2 with h3 | ⟨_, _, _, h3, _⟩
      · exact h2 h3
      · cases h3
    have hlt : ∀ m, m ∈ M → m < ops.size := fun m hm => by
      obtain ⟨om, _, _, _, _, e1, _⟩ := hmo.op m hm
      exact lt_ops e1
    have noM : ∀ t, (∀ m om, m ∈ M → ops[m]? = some om → om.dst ≠ some t) → (∀ v, F'.1.get t = some v → VR r1 v (a.getD t undef)) ∧ (F'.1.get t = none → a.getD t undef = undef) := by
      intro t ht
      refine c.tr t fun l ol h1 hol hd => ?_
      rcases h1 with h1 | h1
      · exact hno l h1
      · exact ht l ol ((inv.mvD l).1 h1).2 hol hd
    refine ⟨r1, w, a, .refl _ _, by rw [q3.2]; exact c.hr, by rw [q3.2]; exact c.ext, ?_, ?_, inv.asz⟩
    · intro t v hv
      by_cases hM : ∃ m om, m ∈ M ∧ ops[m]? = some om ∧ om.dst = some t
      · obtain ⟨m, om, hm, hom, hd⟩ := hM
        obtain ⟨om2, s, d, g1, g2, g3, g4, g5⟩ := c.mv m ((inv.mvD m).2 ⟨hD m (hlt m hm), hm⟩)
        rw [hom] at g1; cases g1
        rw [hd] at g4; cases g4
        obtain ⟨v2, k1, k2⟩ := hQd m om s t hm hom g3 hd
        rw [hv] at k2; cases k2
        rw [g5]
        rw [q3.1 s] at k1
        refine (noM s fun m' om' hm' hom' hd' => hmo.no m' om' s hm' hom' hd' m om hom ?_).1 v k1
        unfold Oper.looksAt; rw [g3]; simp [Op.operands]
      · have hn : ∀ m om, m ∈ M → ops[m]? = some om → om.dst ≠ some t := fun m om h1 h2 h3 => hM ⟨m, om, h1, h2, h3⟩
        rw [hQt t hn, q3.1 t] at hv
        exact (noM t hn).1 v hv
    · intro t hv
      have hn : ∀ m om, m ∈ M → ops[m]? = some om → om.dst ≠ some t := by
        intro m om hm hom hd
        obtain ⟨om2, s, d, p, op', e1, e2, e3, e4, _⟩ := hmo.op m hm
        rw [hom] at e1; cases e1
        rw [hd] at e4; cases e4
        obtain ⟨v2, k1, k2⟩ := hQd m om s t hm hom e3 hd
        rw [hv] at k2; cases k2
      rw [hQt t hn, q3.1 t] at hv
      exact (noM t hn).2 hv
  | cons D i S hi hDi hanc hl ih =>
    intro Mv hb Hid L tm h r w a inv
    -- hidden allocations and an operation that is no allocation
    have hA : ∀ l, Hid l → alloc l ∧ D l := by
      intro l hlh
      obtain ⟨h0, h1⟩ := (inv.hd l).1 hlh
      rcases h1 with h1 | ⟨al, e, rs, h1, h2⟩
      · exact ⟨(hfa.al l h1).1, h0⟩
      · exact ⟨((inv.it _ h1).2.2.1 l h2).1, h0⟩
    have hnanc : ∀ x, D x → ¬ anc i x := fun x hx hix => hDi (inv.down x i hx hix)
    have look2 : ∀ {oi : Oper}, ops[i]? = some oi → ∀ (l : Nat) (ol : Oper) (d : Nat), Hid l → ops[l]? = some ol → oi.dst = some d → d ∉ ol.looksAt ops ∧ ol.dst ≠ some d := by
      intro oi hoi l ol d hlh hol hd
      refine ⟨fun hm => hnanc l (hA l hlh).2 ((g.al l ol (hA l hlh).1 hol).2 i oi d hoi hd hm).1, fun hd2 => ?_⟩
      have := g.sa i l oi ol d hoi hol hd hd2
      exact hDi (this ▸ (hA l hlh).2)
    have lookM : ∀ {oi : Oper}, ops[i]? = some oi → ∀ (l : Nat) (ol : Oper) (d : Nat), Mv l → ops[l]? = some ol → ol.dst = some d → d ∉ oi.looksAt ops := fun hoi l ol d hl hol hd => hmo.no l ol d ((inv.mvD l).1 hl).2 hol hd i _ hoi
    have hmvG : ∀ {oi : Oper}, ops[i]? = some oi → ∀ (m : Nat) (om : Oper) (s d : Nat), Mv m → ops[m]? = some om → om.op = .assign (.tmp s) → om.dst = some d → oi.dst ≠ some d ∧ oi.dst ≠ some s := by
      intro oi hoi m om s d hm hom hop hd
      obtain ⟨hDm, hmM⟩ := (inv.mvD m).1 hm
      obtain ⟨om', s', d', p, op', e1, e2, e3, e4, e5, e6, e7, e9⟩ := hmo.op m hmM
      rw [hom] at e1; cases e1
      rw [hop] at e3; cases e3
      rw [hd] at e4; cases e4
      refine ⟨fun q => ?_, fun q => ?_⟩
      · have := g.sa i m oi om d hoi hom q hd
        exact hDi (this ▸ hDm)
      · have := g.sa i p oi op' s hoi e6 q e7
        exact hDi (this ▸ inv.down m p hDm e9)
    have mvN : i ∉ M → ∀ m, Mv m ↔ (D m ∨ m = i) ∧ m ∈ M := by
      intro hiM m
      rw [inv.mvD m]
      refine ⟨fun h => ⟨.inl h.1, h.2⟩, fun h => ⟨h.1.resolve_right fun e => hiM (e ▸ h.2), h.2⟩⟩
    have hdown : ∀ x y, (D x ∨ x = i) → anc y x → (D y ∨ y = i) := by
      rintro x y (hx | rfl) hy
      · exact .inl (inv.down x y hx hy)
      · exact .inl (hanc y hy)
    obtain ⟨G, F', q1, q2, q3⟩ := inv.run
    by_cases hone : .one i ∈ L
    · -- an operation that gives a value
      obtain ⟨A, B, rfl⟩ := List.append_of_mem hone
      obtain ⟨pA, pB, pAB⟩ := Before.pair inv.pw
      obtain ⟨hna, oi, hoi, hio⟩ := inv.it (.one i) (by simp)
      have hones : Ones A := Ones.of fun x hx => by
        cases x with
        | one j => exact ⟨j, rfl⟩
        | eff al e rs => exact absurd (hanc e (pA _ hx)) (inv.nd2 al e rs (by simp [hx]))
      have hap : ∀ (j : Nat) (oj : Oper), .one j ∈ A → ops[j]? = some oj → Apart ops oj oi := by
        intro j oj hj hoj
        have hb := pA _ hj
        have hnj : ¬ D j := inv.nd1 j (by simp [hj])
        have no : ¬ anc j i := fun h => hnj (hanc j h)
        refine ⟨fun d hd hm => ?_, fun d hd hm => ?_, fun d hd hd2 => hb.1 (g.sa j i oj oi d hoj hoi hd hd2)⟩
        · rcases g.rw j i oj oi d hoj hoi hd hm with h | h
          · exact no h
          · exact hb.2 h
        · rcases g.rw i j oi oj d hoi hoj hd hm with h | h
          · exact hb.2 h
          · exact no h
      obtain ⟨v, hv, G2, q4, q5⟩ := front hoi hones hap q1
      have look1 : ∀ (l : Nat) (ol : Oper) (d : Nat), Hid l → ops[l]? = some ol → ol.dst = some d → d ∉ oi.looksAt ops := by
        intro l ol d hlh hol hd hm
        rcases g.rw l i ol oi d hol hoi hd hm with h | h
        · rcases ((inv.hd l).1 hlh).2 with h1 | ⟨al, e, rs, h1, h2⟩
          · exact inv.nm1 i (by simp) ((hfa.al l h1).2 i h)
          · rw [List.mem_append] at h1
            rcases h1 with h1 | h1
            · exact absurd (hanc e (pA _ h1)) (inv.nd2 al e rs (by simp [h1]))
            · cases h1 with
              | tail _ h1 => exact (pB _ h1).2.2.1 l h2 h
        · exact hnanc l (hA l hlh).2 h
      obtain ⟨r1, w1, v', s1, c1⟩ := do_one ok oz hX inv.core hr0 (S := S) (k := k) (cs := cs) hoi hio hv (fun d hd => by rw [inv.asz]; exact g.sz i oi d hoi hd) (fun l ol d hl hol hd => hl.elim (fun q => look1 l ol d q hol hd) (fun q => lookM hoi l ol d q hol hd)) (look2 hoi) (hmvG hoi) hm
      obtain ⟨F2, q6, q7⟩ := runAl_feq q5 q2
      have mem : ∀ x, x ∈ A ++ B → x ∈ A ++ .one i :: B := fun x hx => by rw [List.mem_append] at hx ⊢; exact hx.imp id fun h => by simp [h]
      have mem' : ∀ x, x ∈ A ++ .one i :: B → x = .one i ∨ x ∈ A ++ B := fun x hx => by
        simp only [List.mem_append, List.mem_cons] at hx ⊢
        rcases hx with h | h | h
        · exact .inr (.inl h)
        · exact .inl h
        · exact .inr (.inr h)
      have hlAB : ∀ (al : List Nat) (e : Nat) (rs : List Nat), .eff al e rs ∈ A ++ .one i :: B ↔ .eff al e rs ∈ A ++ B := fun al e rs => ⟨fun h => (mem' _ h).resolve_left (by simp), mem _⟩
      have inv2 : Inv T X rec ops r0 h0 w0 size anc alloc M fa F (fun x => D x ∨ x = i) Mv (hb) (Hid) (A ++ B) (setT tm oi v) h r1 w1 (putF oi.dst v' a) := by
        refine Inv.mk c1 ⟨G2, F2, q4, q6, q3.trans q7⟩ pAB (fun x hx => inv.it x (mem x hx)) ?_ ?_ ?_ ?_ ?_ ?_ ?_ ?_ ?_
        · rintro j hj (h | rfl)
          · exact inv.nd1 j (mem _ hj) h
          · rw [List.mem_append] at hj
            rcases hj with hj | hj
            · exact (pA _ hj).1 rfl
            · exact (pB _ hj).1 rfl
        · rintro al j rs hj (h | rfl)
          · exact inv.nd2 al j rs (mem _ hj) h
          · rw [List.mem_append] at hj
            rcases hj with hj | hj
            · exact absurd (hanc j (pA _ hj)) (inv.nd2 al j rs (by simp [hj]))
            · exact (pB _ hj).1 rfl
        · intro l
          rw [inv.hd l]
          simp only [hlAB]
          constructor
          · rintro ⟨h1, h2⟩; exact ⟨.inl h1, h2⟩
          · rintro ⟨h1, h2⟩
            refine ⟨h1.resolve_right fun he => ?_, h2⟩
            subst he
            rcases h2 with h2 | ⟨al, e, rs, h3, h4⟩
            · exact hna (hfa.al l h2).1
            · exact hna ((inv.it _ (mem _ h3)).2.2.1 l h4).1
        · intro j hj hDj
          rw [not_or] at hDj
          rcases inv.cov j hj hDj.1 with h | ⟨al, rs, h⟩ | h | ⟨al, e, rs, h, h2⟩ | h
          · exact .inl ((mem' _ h).resolve_left fun he => hDj.2 (by cases he; rfl))
          · exact .inr (.inl ⟨al, rs, (hlAB _ _ _).1 h⟩)
          · exact .inr (.inr (.inl h))
          · exact .inr (.inr (.inr (.inl ⟨al, e, rs, (hlAB _ _ _).1 h, h2⟩)))
          · exact .inr (.inr (.inr (.inr h)))
        · exact mvN (inv.nm1 i (by simp))
        · exact fun j hj => inv.nm1 j (mem _ hj)
        · exact fun al j rs hj => inv.nm2 al j rs (mem _ hj)
        · exact fun x y hx hy => hdown x y hx hy
        · rw [putF_size]; exact inv.asz
      obtain ⟨r2, w2, a2, s2, rest⟩ := ih inv2
      exact ⟨r2, w2, a2, .head s1 s2, rest⟩
    · by_cases heff : ∃ al rs, .eff al i rs ∈ L
      · -- an effect
        obtain ⟨al, rs, heff⟩ := heff
        obtain ⟨A, B, rfl⟩ := List.append_of_mem heff
        obtain ⟨pA, pB, pAB⟩ := Before.pair inv.pw
        obtain ⟨hna, haln, halA, oi, hoi⟩ := inv.it (.eff al i rs) (by simp)
        have hones : Ones A := Ones.of fun x hx => by
          cases x with
          | one j => exact ⟨j, rfl⟩
          | eff al2 e rs2 => exact absurd (hanc e (pA _ hx).1) (inv.nd2 al2 e rs2 (by simp [hx]))
        have hA' : ∀ j, .one j ∈ A → ¬ D j ∧ ¬ anc j i := fun j hj => ⟨inv.nd1 j (by simp [hj]), fun h => inv.nd1 j (by simp [hj]) (hanc j h)⟩
        have irr : ∀ j, ¬ anc j j := fun j h => absurd (g.lt j j h) (by omega)
        have self : ∀ (j : Nat) (oj : Oper) (d : Nat), ops[j]? = some oj → oj.dst = some d → d ∉ oj.looksAt ops := fun j oj d hj hd hm => by
          rcases g.rw j j oj oj d hj hj hd hm with h | h <;> exact irr j h
        have c1 : ∀ (j : Nat) (oj : Oper), .one j ∈ A → ops[j]? = some oj → Apart ops oj oi ∧ (∀ l ol, l ∈ al → ops[l]? = some ol → Apart ops oj ol) ∧ j ∈ rs ∧ (∀ d, oj.dst = some d → d ∉ oj.looksAt ops) := by
          intro j oj hj hoj
          obtain ⟨b1, b2, b3, b4⟩ := pA _ hj
          obtain ⟨n1, n2⟩ := hA' j hj
          obtain ⟨b5, b6⟩ := b4.resolve_left n2
          refine ⟨⟨fun d hd hm => ?_, fun d hd hm => ?_, fun d hd hd2 => b1 (g.sa j i oj oi d hoj hoi hd hd2)⟩, ?_, b5, fun d hd => self j oj d hoj hd⟩
          · rcases g.rw j i oj oi d hoj hoi hd hm with h | h
            · exact n2 h
            · exact b2 h
          · rcases g.rw i j oi oj d hoi hoj hd hm with h | h
            · exact b2 h
            · exact n2 h
          · intro l ol hlal hol
            have hnj : ¬ alloc j := (inv.it (.one j) (by simp [hj])).1
            have hDl : D l := hanc l (halA l hlal).2
            refine ⟨fun d hd hm => ?_, fun d hd hm => ?_, fun d hd hd2 => ?_⟩
            · exact n1 (inv.down l j hDl ((g.al l ol (halA l hlal).1 hol).2 j oj d hoj hd hm).1)
            · rcases g.rw l j ol oj d hol hoj hd hm with h | h
              · exact b3 l hlal h
              · exact n1 (inv.down l j hDl h)
            · have := g.sa j l oj ol d hoj hol hd hd2
              exact hnj (this ▸ (halA l hlal).1)
        have c2 : ∀ (j m : Nat) (oj om : Oper), [PItem.one j, .one m].Sublist A → ops[j]? = some oj → ops[m]? = some om → (∀ d, om.dst = some d → d ∉ oj.looksAt ops) ∧ (∀ d, om.dst = some d → oj.dst ≠ some d) := by
          intro j m oj om hs hoj hom
          have hjm : Before ops anc (.one j) (.one m) := by
            have := (pAB.sublist (List.sublist_append_left A B)).sublist hs
            rw [List.pairwise_cons] at this
            exact this.1 _ (by simp)
          have hmA : .one m ∈ A := hs.subset (by simp)
          obtain ⟨b1, b2, b3, b4⟩ := pA _ hmA
          obtain ⟨b5, b6⟩ := b4.resolve_left (hA' m hmA).2
          exact ⟨fun d hd hm => hjm.2 (b6 j om oj d hom hoj hd hm), fun d hd hd2 => hjm.1 (g.sa j m oj om d hoj hom hd2 hd)⟩
        obtain ⟨tm1, h1, v, h2, e1, e2, ⟨G2, e3, e4⟩, _⟩ := delay hoi hones c1 c2 q1
        have hHal : ∀ l ∈ al, Hid l := fun l hlal => (inv.hd l).2 ⟨hanc l (halA l hlal).2, .inr ⟨al, i, rs, by simp, hlal⟩⟩
        obtain ⟨r1, core1⟩ := Core.mat_all g al inv.core hHal haln (fun l hlh => (hA l hlh).1) e1
        have look1 : ∀ (l : Nat) (ol : Oper) (d : Nat), (Hid l ∧ l ∉ al) → ops[l]? = some ol → ol.dst = some d → d ∉ oi.looksAt ops := by
          rintro l ol d ⟨hlh, hlal⟩ hol hd hm
          rcases g.rw l i ol oi d hol hoi hd hm with h | h
          · rcases ((inv.hd l).1 hlh).2 with h1 | ⟨al2, e, rs2, h1, h2⟩
            · exact inv.nm2 al i rs (by simp) ((hfa.al l h1).2 i h)
            · rw [List.mem_append] at h1
              rcases h1 with h1 | h1
              · exact absurd (hanc e (pA _ h1).1) (inv.nd2 al2 e rs2 (by simp [h1]))
              · cases h1 with
                | head => exact hlal h2
                | tail _ h1 => exact ((pB _ h1).2 l h2).2 h
          · exact hnanc l (hA l hlh).2 h
        obtain ⟨r2, w1, v', s1, core2⟩ := do_eff ok oz hX hrec core1 hr0 (S := S) (k := k) (cs := cs) hoi e2 (fun d hd => by rw [inv.asz]; exact g.sz i oi d hoi hd) (fun l ol d hl hol hd => hl.elim (fun q => look1 l ol d q hol hd) (fun q => lookM hoi l ol d q hol hd)) (fun l ol d hlh => look2 hoi l ol d hlh.1) (hmvG hoi) hm
        obtain ⟨F2, q6, q7⟩ := runAl_feq e4 q2
        have mem : ∀ x, x ∈ A ++ B → x ∈ A ++ .eff al i rs :: B := fun x hx => by rw [List.mem_append] at hx ⊢; exact hx.imp id fun h => by simp [h]
        have mem' : ∀ x, x ∈ A ++ .eff al i rs :: B → x = .eff al i rs ∨ x ∈ A ++ B := fun x hx => by
          simp only [List.mem_append, List.mem_cons] at hx ⊢
          rcases hx with h | h | h
          · exact .inr (.inl h)
          · exact .inl h
          · exact .inr (.inr h)
        have nAB : ∀ (al2 : List Nat) (e : Nat) (rs2 : List Nat), .eff al2 e rs2 ∈ A ++ B → anc i e ∧ ∀ l ∈ al2, l ∉ al ∧ ¬ anc l i := by
          intro al2 e rs2 hx
          rw [List.mem_append] at hx
          rcases hx with hx | hx
          · exact absurd (hanc e (pA _ hx).1) (inv.nd2 al2 e rs2 (by simp [hx]))
          · exact pB _ hx
        have inv2 : Inv T X rec ops r0 h0 w0 size anc alloc M fa F (fun x => D x ∨ x = i) Mv (hb) (fun x => Hid x ∧ x ∉ al) (A ++ B) (setT tm1 oi v) h2 r2 w1 (putF oi.dst v' a) := by
          refine Inv.mk core2 ⟨G2, F2, e3, q6, q3.trans q7⟩ pAB (fun x hx => inv.it x (mem x hx)) ?_ ?_ ?_ ?_ ?_ ?_ ?_ ?_ ?_
          · rintro j hj (h | rfl)
            · exact inv.nd1 j (mem _ hj) h
            · rw [List.mem_append] at hj
              rcases hj with hj | hj
              · exact (pA _ hj).1 rfl
              · exact irr j (pB _ hj)
          · rintro al2 j rs2 hj (h | rfl)
            · exact inv.nd2 al2 j rs2 (mem _ hj) h
            · exact irr j (nAB _ _ _ hj).1
          · intro l
            rw [inv.hd l]
            constructor
            · rintro ⟨⟨h1, h2⟩, h3⟩
              refine ⟨.inl h1, h2.imp id ?_⟩
              rintro ⟨al2, e, rs2, h4, h5⟩
              refine ⟨al2, e, rs2, (mem' _ h4).resolve_left fun he => ?_, h5⟩
              cases he; exact h3 h5
            · rintro ⟨h1, h2⟩
              have hla : alloc l := by
                rcases h2 with h2 | ⟨al2, e, rs2, h3, h4⟩
                · exact (hfa.al l h2).1
                · exact ((inv.it _ (mem _ h3)).2.2.1 l h4).1
              refine ⟨⟨h1.resolve_right fun he => hna (he ▸ hla), h2.imp id ?_⟩, ?_⟩
              · rintro ⟨al2, e, rs2, h4, h5⟩; exact ⟨al2, e, rs2, mem _ h4, h5⟩
              · intro hlal
                rcases h2 with h2 | ⟨al2, e, rs2, h3, h4⟩
                · exact inv.nm2 al i rs (by simp) ((hfa.al l h2).2 i (halA l hlal).2)
                · exact ((nAB _ _ _ h3).2 l h4).1 hlal
          · intro j hj hDj
            rw [not_or] at hDj
            rcases inv.cov j hj hDj.1 with h | ⟨al2, rs2, h⟩ | h | ⟨al2, e, rs2, h, h2⟩ | h
            · exact .inl ((mem' _ h).resolve_left (by simp))
            · exact .inr (.inl ⟨al2, rs2, (mem' _ h).resolve_left fun he => hDj.2 (by cases he; rfl)⟩)
            · exact .inr (.inr (.inl h))
            · refine .inr (.inr (.inr (.inl ⟨al2, e, rs2, (mem' _ h).resolve_left fun he => ?_, h2⟩)))
              cases he
              exact hDj.1 (hanc j (halA j h2).2)
            · exact .inr (.inr (.inr (.inr h)))
          · exact mvN (inv.nm2 al i rs (by simp))
          · exact fun j hj => inv.nm1 j (mem _ hj)
          · exact fun al2 j rs2 hj => inv.nm2 al2 j rs2 (mem _ hj)
          · exact fun x y hx hy => hdown x y hx hy
          · rw [putF_size]; exact inv.asz
        obtain ⟨r3, w2, a2, s2, rest⟩ := ih inv2
        exact ⟨r3, w2, a2, s1.trans s2, rest⟩
      · by_cases hiM : i ∈ M
        · -- a value handed on
          obtain ⟨om, s, d, p, op', e1, e2, e3, e4, e5, e6, e7, e9⟩ := hmo.op i hiM
          have hwant : Region.wanted om (yielded ops a) = true := by unfold Region.wanted; rw [e2]
          have hst := st_value (P := T.P) (fr := { f with tmps := a, todo := .inRegion ops (i :: S) :: k }) (cs := cs) (w := w) (w' := w) (v := a.getD s undef) hm rfl e1 hwant (.inr fun cc hc => by rw [e3] at hc; cases hc) (by
            unfold execOp; rw [e3]; rfl)
          rw [finish_ops rfl e1] at hst
          have core1 := inv.core.move (m := i) e1 e2 e3 e4 e5 (by rw [inv.asz]; exact g.sz i om d e1 e4) (fun l' ol' hl' hol' => fun q => (look2 e1 l' ol' d hl' hol' e4).2 q) (by
            intro m' om' s' d' hm' hom' hop' hd'
            obtain ⟨n1, n2⟩ := hmvG e1 m' om' s' d' hm' hom' hop' hd'
            rw [e4] at n1 n2
            exact ⟨fun q => n1 (by rw [q]), fun q => n2 (by rw [q])⟩)
          have hia : ¬ alloc i := hmo.al i hiM
          have inv2 : Inv T X rec ops r0 h0 w0 size anc alloc M fa F (fun x => D x ∨ x = i) (fun x => Mv x ∨ x = i) hb Hid L tm h r w (putF (some d) (a.getD s undef) a) := by
            refine Inv.mk core1 ⟨G, F', q1, q2, q3⟩ inv.pw (inv.it) ?_ ?_ ?_ ?_ ?_ inv.nm1 inv.nm2 ?_ ?_
            · rintro j hj (h | rfl)
              · exact inv.nd1 j hj h
              · exact hone hj
            · rintro al2 j rs2 hj (h | rfl)
              · exact inv.nd2 al2 j rs2 hj h
              · exact heff ⟨al2, rs2, hj⟩
            · intro l
              rw [inv.hd l]
              refine ⟨fun ⟨h1, h2⟩ => ⟨.inl h1, h2⟩, fun ⟨h1, h2⟩ => ⟨h1.resolve_right fun he => ?_, h2⟩⟩
              subst he
              rcases h2 with h2 | ⟨al, e, rs, h3, h4⟩
              · exact hia (hfa.al l h2).1
              · exact hia ((inv.it _ h3).2.2.1 l h4).1
            · exact fun j hj hDj => inv.cov j hj fun h => hDj (.inl h)
            · intro m
              rw [inv.mvD m]
              refine ⟨fun h => ?_, fun h => ?_⟩
              · rcases h with h | rfl
                · exact ⟨.inl h.1, h.2⟩
                · exact ⟨.inr rfl, hiM⟩
              · rcases h.1 with h1 | rfl
                · exact .inl ⟨h1, h.2⟩
                · exact .inr rfl
            · exact fun x y hx hy => hdown x y hx hy
            · rw [putF_size]; exact inv.asz
          obtain ⟨r3, w2, a2, s2, rest⟩ := ih inv2
          rw [e4] at hst
          exact ⟨r3, w2, a2, .head hst s2, rest⟩
        -- an allocation
        have hmem : i ∈ fa ∨ ∃ al e rs, .eff al e rs ∈ L ∧ i ∈ al := by
          rcases inv.cov i hi hDi with h | h | h | h | h
          · exact absurd h hone
          · exact absurd h heff
          · exact .inl h
          · exact .inr h
          · exact absurd h hiM
        have hia : alloc i := by
          rcases hmem with h | ⟨al, e, rs, h, h2⟩
          · exact (hfa.al i h).1
          · exact ((inv.it _ h).2.2.1 i h2).1
        have hoi : ops[i]? = some ops[i] := Array.getElem?_eq_getElem hi
        generalize ops[i] = oi at hoi
        obtain ⟨hgd, hlk⟩ := g.al i oi hia hoi
        have nolook : ∀ (j : Nat) (oj : Oper), ¬ D j → ops[j]? = some oj → ∀ d, oj.dst = some d → d ∉ oi.looksAt ops := fun j oj hj hoj d hd hm => hj (hanc j (hlk j oj d hoj hd hm).1)
        have nolookA : ∀ (j : Nat) (oj : Oper), alloc j → ops[j]? = some oj → ∀ d, oj.dst = some d → d ∉ oi.looksAt ops := fun j oj hj hoj d hd hm => (hlk j oj d hoj hd hm).2 hj
        obtain ⟨p, hp⟩ := alloc_now hoi (g.nm i oi hia hoi) (fun x ox hx hox => nolookA x ox (hfa.al x hx).1 hox) (L := L) (fun x hx => by
          cases x with
          | one j => exact fun o ho => nolook j o (inv.nd1 j hx) ho
          | eff al e rs => exact ⟨fun o ho => nolook e o (inv.nd2 al e rs hx) ho, fun y oy hy hoy => nolookA y oy ((inv.it _ hx).2.2.1 y hy).1 hoy⟩) q1 q2 hmem
        obtain ⟨tm', g1, g2⟩ := inv.core.known (o := oi) fun l ol d hlh hol hd hm => hlh.elim (fun q => nolookA l ol (hA l q).1 hol d hd hm) (fun q => lookM hoi l ol d q hol hd hm)
        have hE : ER T r tm' ({ f with tmps := a, todo := .inRegion ops (i :: S) :: k } : Frame).eval := frame_ER ok inv.core.hr g2
        have hp' := hp
        rw [allocOf_congr g1.ev] at hp'
        obtain ⟨ob, mk', hrun, hR⟩ := allocOf_sound ok oz hE (obj := p.1) (mk := p.2) hp'
        have hnH : ¬ Hid i := fun h => hDi (hA i h).2
        have core1 := inv.core.alloc hoi (obj := p.1) (mk := p.2) hp hR hnH (fun d hd => by rw [inv.asz]; exact g.sz i oi d hoi hd) (fun l' ol' d hl' hol' hd => (look2 hoi l' ol' d hl' hol' hd).2) (hmvG hoi)
        have hwant : Region.wanted oi (yielded ops a) = true := by unfold Region.wanted; rw [hgd]
        have hnd : f.roundOf = none ∨ ∀ c, oi.op ≠ .defer c := .inr fun c hc => by
          unfold allocOf at hp; rw [hc] at hp; cases hp
        have hst := st_value (P := T.P) (fr := { f with tmps := a, todo := .inRegion ops (i :: S) :: k }) (cs := cs) hm rfl hoi hwant hnd (hrun w)
        rw [finish_ops rfl hoi] at hst
        have inv2 : Inv T X rec ops r0 h0 w0 size anc alloc M fa F (fun x => D x ∨ x = i) Mv (fun x => if x = i then w.heap.size else hb x) (fun x => Hid x ∨ x = i) (L) tm h r { w with heap := w.heap.push ob } (putF oi.dst (mk' w.heap.size) a) := by
          refine Inv.mk core1 ⟨G, F', q1, q2, q3⟩ inv.pw (inv.it) ?_ ?_ ?_ ?_ (mvN hiM) inv.nm1 inv.nm2 ?_ ?_
          · rintro j hj (h | rfl)
            · exact inv.nd1 j hj h
            · exact hone hj
          · rintro al2 j rs2 hj (h | rfl)
            · exact inv.nd2 al2 j rs2 hj h
            · exact heff ⟨al2, rs2, hj⟩
          · intro l
            constructor
            · rintro (h | rfl)
              · exact ⟨.inl ((inv.hd l).1 h).1, ((inv.hd l).1 h).2⟩
              · exact ⟨.inr rfl, hmem⟩
            · rintro ⟨h1 | rfl, h2⟩
              · exact .inl ((inv.hd l).2 ⟨h1, h2⟩)
              · exact .inr rfl
          · exact fun j hj hDj => inv.cov j hj fun h => hDj (.inl h)
          · exact fun x y hx hy => hdown x y hx hy
          · rw [putF_size]; exact inv.asz
        obtain ⟨r3, w2, a2, s2, rest⟩ := ih inv2
        exact ⟨r3, w2, a2, .head hst s2, rest⟩
end
end
end Go.Proofs.YtknchhnibjfocaaDoor.Abs
