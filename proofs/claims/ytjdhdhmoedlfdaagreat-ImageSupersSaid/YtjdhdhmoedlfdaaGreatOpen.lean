
/- The image of any blocks, opened: its loops. -/
import Derived.Test.YtjdhdhmoedlfdaaGreatDec
import Derived.Test.YtjdhdhmoedlfdaaGreatGen
namespace Go.Proofs.YtjdhdhmoedlfdaaGreat.Abs
open Go Go.Proofs
noncomputable section
variable {call : Abs.Callee}
set_option maxRecDepth 10000
theorem ft6 : T0.ft.get 6 = some Tryz.f6 := by kernel_rfl
abbrev GDecC (call : Abs.Callee) (f : Nat) : Prop := ∀ (bs : List Nat) (v : Value) (n0 : Nat) (h : AH), (∀ x ∈ bs, x < 256) → bs.length = 32 → n0 ≤ h.next → RowX n0 h v bs → ∃ r h', call f [v] h = some (r, h') ∧ Grow h.next h h' ∧ DecR h.next h' bs r
def halfB (bss : List (List Nat)) (i : Nat) : List Nat := ((bss.getD (3 + i / 2) []).drop (i % 2 * 32)).take 32
theorem halfB_ok {bss : List (List Nat)} {i : Nat} (hi : i < 32) (hl : 64 ≤ bss.length) (h64 : ∀ bs ∈ bss, bs.length = 64 ∧ ∀ x ∈ bs, x < 256) :
    ∃ bs, bss[3 + i / 2]? = some bs ∧ bs.length = 64 ∧ (∀ x ∈ bs, x < 256) ∧ halfB bss i = (bs.drop (i % 2 * 32)).take 32 ∧ (halfB bss i).length = 32 ∧ ∀ x ∈ halfB bss i, x < 256 := by
  have hil : 3 + i / 2 < bss.length := by omega
  have hx := List.getElem?_eq_getElem hil
  obtain ⟨q1, q2⟩ := h64 _ (List.getElem_mem hil)
  have e : halfB bss i = ((bss[3 + i / 2]).drop (i % 2 * 32)).take 32 := by
    unfold halfB
    rw [List.getD_eq_getElem?_getD, hx]; rfl
  refine ⟨_, hx, q1, q2, e, ?_, fun x hx => q2 x ?_⟩
  · rw [e, List.length_take, List.length_drop, q1]; omega
  · rw [e] at hx; exact List.mem_of_mem_drop (List.mem_of_mem_take hx)
def allD (bss : List (List Nat)) : Nat → Nat → Bool
  | 0, _ => true
  | k + 1, i => decOK (halfB bss i) && allD bss k (i + 1)
noncomputable def bodyO1 : Code := part Tryz.f6 [1, 1, 1, 1, 1, 1, 1, 0, 1, 0, 0]
noncomputable def bodyO2 : Code := part Tryz.f6 [1, 1, 1, 1, 1, 1, 1, 1, 0, 1, 0, 0]
abbrev EOp : Env := ⟨6, 129, none⟩
theorem plan_o18 : planB (regOps Tryz.f6 [1, 1, 1, 1, 1, 1, 1, 0, 1, 0, 0, 1, 1, 0, 0, 1, 1, 1]) 129 = some ([.one 0, .one 1, .one 2, .one 3, .one 4, .one 5, .one 6, .eff [7] 8 [0], .one 9, .one 10, .one 11, .eff [] 12 []], []) := by kernel_rfl
theorem plan_o23 : planB (regOps Tryz.f6 [1, 1, 1, 1, 1, 1, 1, 1, 0, 1, 0, 0, 1, 1, 0, 0, 1]) 129 = some ([.one 0, .one 1, .one 2, .one 3, .one 4, .one 5, .one 6, .eff [] 7 [0, 1, 2, 3, 4, 5], .eff [8] 9 [0], .one 10, .one 11, .one 12, .eff [] 13 []], []) := by kernel_rfl
theorem plan_o11 : planB (regOps Tryz.f6 [1, 1, 1, 1, 1, 1, 0]) 129 = some ([.one 0, .one 1, .one 2, .one 3, .eff [] 4 [0, 1, 2, 3], .one 5, .one 6, .eff [] 7 [0], .one 8, .one 9, .one 10, .eff [] 11 []], []) := by kernel_rfl
theorem quo_i (i : Nat) (hi : i < 400000) : ∀ p q h, evBin T0 .quo 3 p q (iv i) (iv 2) h = some (iv ((i / 2 : Nat) : Int)) := fun p q h => by
  rw [show iv 2 = iv ((2 : Nat) : Int) from rfl, bin_quo (n := 2) (by decide), IntWalk.i64_in _ (by omega)]
theorem rem_i (i : Nat) : ∀ p q h, evBin T0 .rem 3 p q (iv i) (iv 2) h = some (iv ((i % 2 : Nat) : Int)) := fun p q h => bin_rem (n := 2) (by decide)
theorem bs_ndE {n : NV} {m : Nat} {e : Value} {xs : List XV} {h0 h : AH} (he : OwnE m h0 e xs) : evBuildSlice T0 38 1 [(0, nodeV n e)] h = some (.slice (some ⟨h.next, 0, none⟩) 1 1, h.new (.cells (PM.ofList (nodeL n e)) 12 48 0 0 .ex)) := by
  rcases he with ⟨rfl, _⟩ | ⟨b, c, kd, cap, _, _, rfl, _⟩
  · kernel_rfl
  · kernel_rfl
def OnR (call : Abs.Callee) (N : Nat) (tm : PM Value) (h : AH) (bss : List (List Nat)) (k i pI n : Nat) (x : SI) (v vf vb : Value) (fb : List Nat) (ws : List Value) (tm' : PM Value) (h' : AH) : Prop :=
  (codeB T0 X0 call N EOp (.loop bodyO1) tm h [] = .jump .ret tm' h' [] ∧ tm'.get 2 = some (.pointer none) ∧ tm'.get 3 = some (iv 2) ∧ allD bss k i = false) ∨
  (codeB T0 X0 call N EOp (.loop bodyO1) tm h [] = .jump (.exit 0) tm' h' [] ∧ allD bss k i = true ∧ tm'.get 0 = some v ∧ tm'.get 4 = some (pv pI 0) ∧ ∃ vn' cs', BoxL h' pI 69 (imgX x vf vn' vb ws) ∧ OwnC 12 n h' vn' 32 cs' 48 ∧ cs'.all oneCell = true ∧ Bks h' vf fb)
theorem o1Lp (hD : GDecC call 31) (pI n : Nat) (x : SI) (bss : List (List Nat)) (hB : 64 ≤ bss.length) (h64 : ∀ bs ∈ bss, bs.length = 64 ∧ ∀ x ∈ bs, x < 256) (v vf vb : Value) (fb : List Nat) (ws : List Value) (hnI : n ≤ pI) (h0 : AH) (hn0 : n = h0.next) (hv0 : WB h0 v bss) :
    ∀ (k i : Nat) (vn : Value) (cs : List Value) (h : AH) (tm : PM Value) (N : Nat), i + k = 32 → k + 60 ≤ N → pI < h.next → Grow n h0 h → BoxL h pI 69 (imgX x vf vn vb ws) → OwnC 12 n h vn i cs 48 → cs.all oneCell = true → Bks h vf fb →
      tm.get 0 = some v → tm.get 4 = some (pv pI 0) → tm.get 73 = some (iv i) →
      ∃ tm' h', OnR call N tm h bss k i pI n x v vf vb fb ws tm' h' ∧ Grow n h h' := by
  intro k
  induction k with
  | zero =>
    intro i vn cs h tm N hi hN hpI hG hI ho hc hF g0 g4 g73
    obtain ⟨N, rfl⟩ : ∃ a, N = a + 60 := ⟨N - 60, by omega⟩
    have hiB : i = 32 := by omega
    subst hiB
    apply Exists.intro; apply Exists.intro
    refine ⟨.inr ⟨?_, rfl, ?_, ?_, vn, cs, hI, ho, hc, hF⟩, Grow.refl _ _⟩
    · rw [codeB_loop]
      simp only [bodyO1, part, Tryz.f6, sub, symM, opFn, Nat.reduceLT, symM, g73, bin_lss, show decide (((32 : Nat) : Int) < 32) = false from rfl]
      rfl
    · simp only [symM, Nat.reduceBEq, g0]
    · simp only [symM, Nat.reduceBEq, g4]
  | succ k ih =>
    intro i vn cs h tm N hi hN hpI hG hI ho hc hF g0 g4 g73
    obtain ⟨N, rfl⟩ : ∃ a, N = a + 60 := ⟨N - 60, by omega⟩
    have hv := hv0.grow (hn0 ▸ hG)
    obtain ⟨bs, m1, m2, m2', m3, m4, m5⟩ := halfB_ok (i := i) (by omega) hB h64
    obtain ⟨p, w, a1, _, a2⟩ := hv.ats m1
    obtain ⟨a3, a4⟩ := a2 h (Grow.refl _ _)
    have hm2 : i % 2 < 2 := Nat.mod_lt _ (by decide)
    obtain ⟨w1, b1, b2⟩ := a4.win (lov := some (iv ((i % 2 * 32 : Nat) : Int))) (hiv := none) (lo := i % 2 * 32) (hh := 64) (.inl rfl) (.inr ⟨rfl, m2.symm⟩) (by omega) (by omega)
    obtain ⟨w2, c1, c2⟩ := b2.win (lov := none) (hiv := some (iv 32)) (lo := 0) (hh := 32) (.inr ⟨rfl, rfl⟩) (.inl rfl) (by omega) (by rw [List.length_take, List.length_drop, m2]; omega)
    rw [List.drop_zero, Nat.sub_zero, List.take_take, show min 32 (64 - i % 2 * 32) = 32 by omega, ← m3] at c2
    obtain ⟨r, h1, d1, d2, d3⟩ := hD (halfB bss i) w2 h.next h m5 m4 (Nat.le_refl _) c2
    have n1 := d2.next
    generalize hh2 : h1.new (.cells (PM.ofList (nodeL NV.zero nilV)) 12 48 0 0 .ex) = h2
    have g2 : Grow h1.next h1 h2 := by rw [← hh2]; exact Grow.new _ _
    have n2 : h2.next = h1.next + 1 := by rw [← hh2]; rfl
    have nb2 : NodeB h2 h1.next NV.zero nilV := by rw [← hh2]; exact NodeB.new _ _ _
    have w1' : IntKind.i64.wrap (3 + ((i / 2 : Nat) : Int)) = ((3 + i / 2 : Nat) : Int) := by rw [wz (by omega)]; omega
    have w2' : IntKind.i64.wrap (((i % 2 : Nat) : Int) * 32) = ((i % 2 * 32 : Nat) : Int) := by rw [wz (by omega)]; omega
    have nn := hG.next
    rcases d3 with ⟨e1, rfl⟩ | ⟨e1, e, rfl, e2⟩
    · obtain ⟨h3, s1, s2, s3, s4⟩ := nb2.storeAll (k := h1.next) NV.zero (f := nilV) rfl (Nat.le_refl _)
      have G3 : Grow h.next h h3 := d2.trans (g2.trans s3 (Nat.le_refl _)) (by omega)
      apply Exists.intro; apply Exists.intro
      refine ⟨.inl ⟨?_, ?_, ?_, ?_⟩, G3.less (by omega)⟩
      · rw [codeB_loop]
        simp only [bodyO1, part, Tryz.f6, sub, symM, opFn, Nat.reduceLT, Nat.reduceBEq, symM, g0, g73, bin_lss, decide_eq_true (show (i : Int) < 32 by omega), quo_i i (by omega), rem_i i, bin_add, bin_mul, w1', w2', a1, a3, ev3, evOpt, b1, c1, evCall_fn ft31 rfl, d1, alloc_N, hh2, s1, bin_neq, show ((2 : Int) == 0) = false from rfl]
        rfl
      · simp only [symM, Nat.reduceBEq]
      · simp only [symM]
      · rw [allD, e1]; rfl
    · have ho1 := e2.one
      obtain ⟨h3, s1, s2, s3, s4⟩ := nb2.storeAll (k := h1.next) (decN (halfB bss i)) (f := e) ho1 (Nat.le_refl _)
      have G3 : Grow h.next h h3 := d2.trans (g2.trans s3 (Nat.le_refl _)) (by omega)
      have n3 := G3.next
      have hI3 := hI.grow G3 hpI
      have ho3 := ho.grow G3
      have hF3 := hF.grow G3
      generalize hh4 : h3.new (.cells (PM.ofList (nodeL (decN (halfB bss i)) e)) 12 48 0 0 .ex) = h4
      have g4' : Grow h3.next h3 h4 := by rw [← hh4]; exact Grow.new _ _
      have n4 : h4.next = h3.next + 1 := by rw [← hh4]; rfl
      have gt4 : h4.get h3.next = some (.cells (PM.ofList (nodeL (decN (halfB bss i)) e)) 12 48 0 0 .ex) := by rw [← hh4]; exact get_new_same _ _
      have ho4 := ho3.grow g4'
      obtain ⟨v', h5, f1, f2, f3, f4, f5⟩ := append_big und_nodes tt_Node ti_Node.1 ti_Node.2.1 ti_Node.2.2 ho4 (appended_slice (k := 1) (cap := 1) (new := nodeL (decN (halfB bss i)) e) und_nodes gt4 (by rw [nodeL_len, ti_Node.2.1]) (by rw [ti_Node.2.1]; decide) (fun j x hx => by rw [PM.get_ofList]; exact hx)) (by rw [nodeL_len]) (nodeL_one _ ho1) (by omega) (by omega) 38
      have n5 := f3.next
      have t4 : tyAt h4 pI 69 := (hI3.grow g4' (by omega)).ty
      have hI5 := (hI3.grow g4' (by omega)).keep (f4 pI (by omega) (ho4.offT t4 (by decide)))
      have hF5 : Bks h5 vf fb := (hF3.grow g4').keep n5 fun q hq hu => f4 q hq (ho4.offT hu (by decide))
      have hsl : SLv v' := by
        rcases f2 with ⟨_, q, _⟩ | ⟨b, c, kd, cap, _, _, rfl, _⟩
        · omega
        · exact ⟨_, _, _, rfl⟩
      obtain ⟨h6, q1, q2, q3⟩ := imx_nodes hI5 hsl
      have n6 := q3.next
      have G6 : Grow n h h6 := (((G3.less (by omega)).trans g4' (by omega)).trans f3 (Nat.le_refl _)).trans (q3.grow hnI) (Nat.le_refl _)
      have ho6 := f2.one q3 hI5.ty (by decide)
      have hF6 : Bks h6 vf fb := hF5.keep (Nat.le_of_eq q3.next.symm) fun q hq hu => q3.keep q (tyAt.ne hu hI5.ty (by decide))
      have ld := (imx_loads hI3).2.1
      have ldn : evLoad T0 48 (pv h1.next 0) h3 = some (nodeV (decN (halfB bss i)) e) := s2.loads.2.2.2.2.2.2.2.2.2.2.2.2.1
      have hev : eqV vn vn = true := by
        rcases ho with ⟨rfl, _⟩ | ⟨b, c, kd, cap, _, _, rfl, _⟩
        · rfl
        · exact eqV_slice
      have hp := plan_o18
      simp only [regOps, part, Tryz.f6, sub] at hp
      have step : ∃ tm2, codeB T0 X0 call (N + 60) EOp (.loop bodyO1) tm h [] = codeB T0 X0 call (N + 59) EOp (.loop bodyO1) tm2 h6 [] ∧ tm2.get 0 = some v ∧ tm2.get 4 = some (pv pI 0) ∧ tm2.get 73 = some (iv ((i + 1 : Nat) : Int)) := by
        apply Exists.intro
        refine ⟨?_, ?_, ?_, ?_⟩
        · rw [show N + 60 = (N + 59) + 1 from rfl, codeB_loop]
          simp only [bodyO1, part, Tryz.f6, sub, symM, opFn, Nat.reduceLT, Nat.reduceBEq, symM, g0, g73, bin_lss, decide_eq_true (show (i : Int) < 32 by omega), quo_i i (by omega), rem_i i, bin_add, bin_mul, w1', w2', a1, a3, ev3, evOpt, b1, c1, evCall_fn ft31 rfl, d1, alloc_N, hh2, s1, bin_neq, show ((0 : Int) == 0) = true from rfl]
          rw [codeB_draw, draw_plan hp rfl]
          simp only [drawAll, opFn, Nat.reduceLT, Nat.reduceBEq, nil_pv, g4, g73, field_I, field_st, ld, ldn, effE_cons, goAB_some (bs_ndE e2), hh4, f1, q1, bin_add, wadd1 (show i ≤ 400000 by omega)]
          rfl
        · simp only [symM, Nat.reduceBEq, g0]
        · simp only [symM, Nat.reduceBEq, g4]
        · exact get_same
      obtain ⟨tm2, st1, st2, st3, st4⟩ := step
      obtain ⟨t', hh', u1, u2⟩ := ih (i + 1) v' (cs ++ nodeL (decN (halfB bss i)) e) h6 tm2 (N + 59) (by omega) (by omega) (by omega) (hG.trans G6 (Nat.le_refl _)) q2 ho6 (by rw [List.all_append, hc, nodeL_one _ ho1]; rfl) hF6 st2 st3 st4
      refine ⟨t', hh', ?_, G6.trans u2 (Nat.le_refl _)⟩
      unfold OnR at u1 ⊢
      rw [st1, allD, e1, Bool.true_and]
      exact u1
theorem o2Lp (hCl : WCloneC call) (pI n : Nat) (x : SI) (v vf vn : Value) (cs : List Value) (fb : List Nat) (ws : List Value) (hnI : n ≤ pI) (h0 : AH) (hn0 : n = h0.next) (bss : List (List Nat)) (hB2 : bss.length ≤ 480) (h64 : ∀ bs ∈ bss, bs.length = 64 ∧ ∀ x ∈ bs, x < 256) (hv0 : WB h0 v bss) :
    ∀ (k i : Nat) (vb : Value) (h : AH) (tm : PM Value) (N : Nat), i + k = bss.length → k + 60 ≤ N → pI < h.next → Grow n h0 h → BoxL h pI 69 (imgX x vf vn vb ws) → OwnC 12 n h vn 32 cs 48 → Bks h vf fb → BL n h vb (bss.take i) →
      tm.get 4 = some (pv pI 0) → tm.get 106 = some v → tm.get 107 = some (iv bss.length) → tm.get 108 = some (iv i) →
      ∃ tm' h', codeB T0 X0 call N EOp (.loop bodyO2) tm h [] = .jump (.exit 2) tm' h' [] ∧ ((tm'.get 4 = some (pv pI 0) ∧ ∃ vb', BoxL h' pI 69 (imgX x vf vn vb' ws) ∧ OwnC 12 n h' vn 32 cs 48 ∧ Bks h' vf fb ∧ BL n h' vb' bss) ∧ Grow n h h') := by
  intro k
  induction k with
  | zero =>
    intro i vb h tm N hi hN hpI hG hI ho hF hb g4 g106 g107 g108
    obtain ⟨N, rfl⟩ : ∃ a, N = a + 60 := ⟨N - 60, by omega⟩
    have hiB : i = bss.length := by omega
    rw [List.take_of_length_le (by omega)] at hb
    apply Exists.intro; apply Exists.intro
    refine ⟨?_, ⟨?_, vb, hI, ho, hF, hb⟩, Grow.refl _ _⟩
    · rw [codeB_loop]
      simp only [bodyO2, part, Tryz.f6, sub, symM, opFn, Nat.reduceLT, symM, g107, g108, bin_lss, decide_eq_false (show ¬ (i : Int) < (bss.length : Nat) by omega)]
      rfl
    · simp only [symM, Nat.reduceBEq, g4]
  | succ k ih =>
    intro i vb h tm N hi hN hpI hG hI ho hF hb g4 g106 g107 g108
    obtain ⟨N, rfl⟩ : ∃ a, N = a + 60 := ⟨N - 60, by omega⟩
    have hv := hv0.grow (hn0 ▸ hG)
    have hil : i < bss.length := by omega
    have hxi : bss[i]? = some bss[i] := List.getElem?_eq_getElem hil
    obtain ⟨m1, m2⟩ := h64 _ (List.getElem_mem hil)
    obtain ⟨p, w, a1, _, a2⟩ := hv.ats hxi
    obtain ⟨a3, a4⟩ := a2 h (Grow.refl _ _)
    obtain ⟨w', h1, b1, b2, b3⟩ := hCl w _ h a4 (by omega) (by omega) m2
    have n1 := b3.next
    have nn := hG.next
    have hI1 := hI.grow b3 hpI
    have hb1 := hb.grow b3
    have ho1 := ho.grow b3
    have hF1 := hF.grow b3
    obtain ⟨v', h2, c1, c2, c3, c4, c5⟩ := hb1.append b2 (by rw [List.length_take]; omega) (by omega) 22
    have n2 := c3.next
    have hI2 := hI1.keep (c4 pI (by omega) (hb1.off hI1.ty (by decide)))
    have ho2 : OwnC 12 n h2 vn 32 cs 48 := by
      rcases ho1 with q | ⟨b, c, kd, cap, q1, q2, q3, q4, q5⟩
      · exact .inl q
      · exact .inr ⟨b, c, kd, cap, q1, Nat.lt_of_lt_of_le q2 n2, q3, (c4 b q2 (hb1.off (⟨_, _, _, _, _, q4⟩ : tyAt h1 b _) (by decide))).trans q4, q5⟩
    have hF2 : Bks h2 vf fb := hF1.keep n2 fun k hk hu => c4 k hk (hb1.off hu (by decide))
    obtain ⟨h3, d1, d2, d3⟩ := imx_blocks hI2 c5
    have n3 := d3.next
    have ho3 := ho2.one d3 hI2.ty (by decide)
    have hF3 : Bks h3 vf fb := hF2.keep (Nat.le_of_eq d3.next.symm) fun k hk hu => d3.keep k (tyAt.ne hu hI2.ty (by decide))
    have hb3 := c2.one d3 hI2.ty (by decide) (by decide)
    rw [show bss.take i ++ [bss[i]] = bss.take (i + 1) from (List.take_succ_eq_append_getElem hil).symm] at hb3
    have ld := (imx_loads hI).2.2.1
    have ld1 := (imx_loads hI1).2.2.1
    have G3 : Grow n h h3 := ((b3.less (by omega)).trans c3 (Nat.le_refl _)).trans (d3.grow hnI) (Nat.le_refl _)
    have hew : eqV w w = true := a4.row.eqv
    have hp := plan_o23
    simp only [regOps, part, Tryz.f6, sub] at hp
    rw [show N + 60 = (N + 59) + 1 from rfl, codeB_loop]
    simp only [bodyO2, part, Tryz.f6, sub, symM, opFn, Nat.reduceLT, Nat.reduceBEq, symM, g106, g107, g108, bin_lss, decide_eq_true (show (i : Int) < (bss.length : Nat) by omega), a1, a3]
    rw [codeB_draw, draw_plan hp rfl]
    simp only [drawAll, opFn, Nat.reduceLT, Nat.reduceBEq, nil_pv, g4, g108, field_I, field_st, ld, ld1, hb.eqv, evCall_fn ft29 rfl, b1, effE_cons, goAB_some (bs_bk b2.one1.1), c1, d1, bin_add, wadd1 (show i ≤ 400000 by omega)]
    exact wrapE (ih (i + 1) v' h3 _ (N + 59) (by omega) (by omega) (by omega) (hG.trans G3 (Nat.le_refl _)) d2 ho3 hF3 hb3 (by simp only [symM, Nat.reduceBEq, g4]) (by simp only [symM, Nat.reduceBEq, g106]) (by simp only [symM, Nat.reduceBEq, g107]) get_same) G3
end
end Go.Proofs.YtjdhdhmoedlfdaaGreat.Abs
namespace Go.Proofs.YtjdhdhmoedlfdaaGreat.Abs
open Go Go.Proofs
noncomputable section
variable {call : Abs.Callee}
set_option maxRecDepth 10000
abbrev GSDecC (call : Abs.Callee) : Prop := ∀ (bs : List Nat) (v : Value) (h : AH), bs.length = 64 → (∀ x ∈ bs, x < 256) → WinB h v bs → ∃ r h', call 26 [v] h = some (r, h') ∧ Grow h.next h h' ∧ DecSR bs r
abbrev GGHeadC (call : Abs.Callee) : Prop := ∀ (bs : List Nat) (v : Value) (h : AH), bs.length = 64 → (∀ x ∈ bs, x < 256) → WinB h v bs → ∃ r h', call 27 [v] h = some (r, h') ∧ Grow h.next h h' ∧ DecHR bs r
abbrev Settle3C (call : Abs.Callee) : Prop := ∀ (pI n : Nat) (x : SI) (vf vn vb : Value) (fb : List Nat) (ws : List Value) (bss : List (List Nat)) (h : AH), ws.length = 8 → BoxL h pI 69 (imgX x vf vn vb ws) → pI < h.next → n ≤ pI → SLv vn → NcP vn h → Bks h vf fb → BL n h vb bss → bss.length ≠ 0 → bss.length < 1000 →
  ∃ vf' vn' vb' h', call 32 [pv pI 0] h = some (.tuple #[], h') ∧ BoxL h' pI 69 (imgX x vf vn vb (stX x vf' vn' vb')) ∧ BL n h' vb bss ∧ BL h.next h' vb' bss ∧ Bks h' vf fb ∧ Grow n h h' ∧ (∀ k, k < h.next → k ≠ pI → h'.get k = h.get k)
theorem box_I {l : List Value} {h : AH} : rp (some (evNewVar h 69 (.agg l.toArray))) = some (.value (pv h.next 0), h.new (.cells (PM.ofList l) l.length 69 0 0 .ex)) := box_agg
abbrev NewC (call : Abs.Callee) : Prop := ∀ h, ∃ v' p' h', call 30 [] h = some (v', h') ∧ h.next ≤ p' ∧ p' < h'.next ∧ OwnB p' h' v' (markL 0) ∧ Grow h.next h h'
theorem field_Su0 {b : Nat} : evFieldAddr T0 36 (pv b 0) 0 = some (pv b 0) := by kernel_rfl
def okO (bss : List (List Nat)) : Bool := decide (64 ≤ bss.length) && (!(bss.any fun bs => !len64 bs) && (okDS (bss.getD 0 []) && (decide ((svOf (bss.getD 0 [])).s = bss.length) && (okDH (bss.getD 1 []) && (okSeal (bss.getD 2 []) && allD bss 32 0)))))
def Dis (v w : Value) : Prop := ∀ (b o l c q o' l' c' : Nat), v = .slice (some ⟨b, o, none⟩) l c → w = .slice (some ⟨q, o', none⟩) l' c' → b ≠ q
theorem BL.dis {n : Nat} {h h' : AH} {v w : Value} {l m : List (List Nat)} (a : BL n h v l) (b : BL h.next h' w m) : Dis v w := by
  obtain ⟨vs, a1, _⟩ := a
  obtain ⟨ws, b1, _⟩ := b
  intro x o i c y o' i' c' e1 e2
  rcases a1 with ⟨rfl, _⟩ | ⟨p, _, _, _, _, q1, rfl, _⟩
  · cases e1
  rcases b1 with ⟨rfl, _⟩ | ⟨p', _, _, _, q2, _, rfl, _⟩
  · cases e2
  cases e1; cases e2
  omega
def ImgY (n : Nat) (h : AH) (pI : Nat) (x y : SI) (bss was : List (List Nat)) (fb : List Nat) : Prop :=
  pI < h.next ∧ ∃ vf vn vb vf' vn' vb', BoxL h pI 69 (imgX x vf vn vb (stX y vf' vn' vb')) ∧ BL n h vb bss ∧ BL n h vb' was ∧ Dis vb vb' ∧ Bks h vf fb
def ImgX (n : Nat) (h : AH) (pI : Nat) (x : SI) (bss : List (List Nat)) (fb : List Nat) : Prop := ImgY n h pI x x bss bss fb
def OpenR (n : Nat) (h' : AH) (bss : List (List Nat)) (r : Value) : Prop :=
  (okO bss = false ∧ r = .tuple #[.pointer none, iv 2]) ∨ (okO bss = true ∧ ∃ pI, r = .tuple #[pv pI 0, iv 0] ∧ n ≤ pI ∧ ImgX n h' pI (svOf (bss.getD 0 [])).si bss ((bss.getD 2 []).take 60))
theorem alloc_IX {h : AH} : evBuild T0 69 [] h = some (.agg (imgX SI.zero nilV nilV nilV (stX SI.zero nilV nilV nilV)).toArray, h) := by kernel_rfl
theorem any64 {bss : List (List Nat)} (h : (bss.any fun bs => !len64 bs) = false) : ∀ bs ∈ bss, bs.length = 64 := by
  intro bs hb
  have := List.any_eq_false.1 h bs hb
  unfold len64 at this
  simpa using this
theorem int_ne {a b : Nat} : (((a : Nat) : Int) == ((b : Nat) : Int)) = decide (a = b) := by
  rw [Bool.eq_iff_iff]
  simp only [beq_iff_eq, decide_eq_true_eq]
  omega
theorem GOpen_S (B : Nat) (hCo : GContBC call B) (hSD : GSDecC call) (hGH : GGHeadC call) (hSl : GSealC call) (hNew : NewC call) (hCl : WCloneC call) (hD : GDecC call 31) (hSt : Settle3C call) (bss : List (List Nat)) (hbs : ∀ bs ∈ bss, ∀ x ∈ bs, x < 256) (hBl : bss.length ≤ B) (v : Value) (h : AH) (hv : AB h v bss) :
    ∃ r h', frameB T0 X0 call 3000 6 [v] h = some (r, h') ∧ Grow h.next h h' ∧ OpenR h.next h' bss r := by
  have hlen : ∀ ty h', evBuiltin T0 .len #[22] ty [v] h' = some (.value (iv bss.length), h') := fun ty h' => hv.len ty
  have cc := hCo v bss h hv hBl
  by_cases hlt : bss.length < 64
  · refine ⟨.tuple #[.pointer none, iv 2], h, ?_, Grow.refl _ _, .inl ⟨by unfold okO; rw [decide_eq_false (by omega)]; rfl, rfl⟩⟩
    rw [frameB_eq ft6 rfl rfl]
    simp only [Tryz.f6, symM, opFn, Nat.reduceLT, Nat.reduceBEq, symM, hlen, bin_lss, decide_eq_true (show (bss.length : Int) < 64 by omega)]
    exact retB_two ft6 rfl (by simp only [symM, Nat.reduceBEq]) get_same
  have hge : 64 ≤ bss.length := by omega
  have hdl : decide ((bss.length : Int) < 64) = false := decide_eq_false (by omega)
  cases hany : (bss.any fun bs => !len64 bs) with
  | true =>
    rw [hany] at cc
    refine ⟨.tuple #[.pointer none, iv 2], h, ?_, Grow.refl _ _, .inl ⟨by unfold okO; rw [hany, decide_eq_true hge]; rfl, rfl⟩⟩
    rw [frameB_eq ft6 rfl rfl]
    simp only [Tryz.f6, symM, opFn, Nat.reduceLT, Nat.reduceBEq, symM, hlen, bin_lss, hdl, evCall_fn ft24 rfl, cc]
    exact retB_two ft6 rfl (by simp only [symM, Nat.reduceBEq]) get_same
  | false =>
  rw [hany] at cc
  have h64 : ∀ bs ∈ bss, bs.length = 64 ∧ ∀ x ∈ bs, x < 256 := fun bs hb => ⟨any64 hany bs hb, hbs bs hb⟩
  have hw := hv.wb fun bs hb => (h64 bs hb).1
  have hx : ∀ i, i < 64 → bss[i]? = some (bss.getD i []) := fun i hi => by
    rw [List.getD_eq_getElem?_getD, List.getElem?_eq_getElem (show i < bss.length by omega)]; rfl
  have hm : ∀ i, i < 64 → (bss.getD i []).length = 64 ∧ ∀ x ∈ bss.getD i [], x < 256 := fun i hi => h64 _ (List.mem_of_getElem? (hx i hi))
  obtain ⟨p0, w0, x0, ep0, y0⟩ := hw.ats (hx 0 (by decide))
  obtain ⟨p1, w1, x1, ep1, y1⟩ := hw.ats (hx 1 (by decide))
  obtain ⟨p2, w2, x2, ep2, y2⟩ := hw.ats (hx 2 (by decide))
  have x0 : evIndexAddr T0 22 v (iv 0) = some p0 := x0
  have x1 : evIndexAddr T0 22 v (iv 1) = some p1 := x1
  have x2 : evIndexAddr T0 22 v (iv 2) = some p2 := x2
  have okE : okO bss = (okDS (bss.getD 0 []) && (decide ((svOf (bss.getD 0 [])).s = bss.length) && (okDH (bss.getD 1 []) && (okSeal (bss.getD 2 []) && allD bss 32 0)))) := by
    unfold okO; rw [hany, decide_eq_true hge]; rfl
  generalize hws : stX SI.zero nilV nilV nilV = ws
  have hwl : ws.length = 8 := by rw [← hws]; rfl
  generalize hh1 : h.new (.cells (PM.ofList (imgX SI.zero nilV nilV nilV ws)) (imgX SI.zero nilV nilV nilV ws).length 69 0 0 .ex) = h1
  have g1 : Grow h.next h h1 := by rw [← hh1]; exact Grow.new _ _
  have n1 : h1.next = h.next + 1 := by rw [← hh1]; rfl
  have i1 : BoxL h1 h.next 69 (imgX SI.zero nilV nilV nilV ws) := by rw [← hh1]; exact BoxL.new _ _ _
  obtain ⟨r2, h2, a1, a2, a3⟩ := hSD _ w0 h1 (hm 0 (by decide)).1 (hm 0 (by decide)).2 (y0 h1 g1).2
  have n2 := a2.next
  have i2 := i1.grow a2 (by omega)
  have ldw0 := (y0 h1 g1).1
  rcases a3 with ⟨k1, rfl⟩ | ⟨k1, rfl⟩
  · obtain ⟨h3, b1, b2, b3⟩ := imx_sup (x := SI.zero) i2
    refine ⟨.tuple #[.pointer none, iv 2], h3, ?_, (g1.trans a2 (by omega)).trans (b3.grow (Nat.le_refl _)) (Nat.le_refl _), .inl ⟨by rw [okE, k1]; rfl, rfl⟩⟩
    rw [frameB_eq ft6 rfl rfl]
    simp only [Tryz.f6, symM, opFn, Nat.reduceLT, Nat.reduceBEq, symM, hlen, bin_lss, hdl, evCall_fn ft24 rfl, cc, alloc_IX, hws, box_I, hh1, x0, ldw0, evCall_fn ft26 rfl, a1, nil_pv, field_I, field_st, b1, bin_neq, show ((2 : Int) == 0) = false from rfl]
    exact retB_two ft6 rfl (by simp only [symM, Nat.reduceBEq]) get_same
  obtain ⟨h3, b1, b2, b3⟩ := imx_sup (x := (svOf (bss.getD 0 [])).si) i2
  have n3 := b3.next
  have G3 : Grow h.next h h3 := (g1.trans a2 (by omega)).trans (b3.grow (Nat.le_refl _)) (Nat.le_refl _)
  have l3 : evLoad T0 3 (pv h.next 0) h3 = some (iv ((svOf (bss.getD 0 [])).s : Nat)) := b2.load agg_int (i := 0) rfl
  cases hsz : decide ((svOf (bss.getD 0 [])).s = bss.length) with
  | false =>
    refine ⟨.tuple #[.pointer none, iv 2], h3, ?_, G3, .inl ⟨by rw [okE, hsz, k1]; rfl, rfl⟩⟩
    rw [frameB_eq ft6 rfl rfl]
    simp only [Tryz.f6, symM, opFn, Nat.reduceLT, Nat.reduceBEq, symM, hlen, bin_lss, hdl, evCall_fn ft24 rfl, cc, alloc_IX, hws, box_I, hh1, x0, ldw0, evCall_fn ft26 rfl, a1, nil_pv, field_I, field_st, field_Su0, b1, bin_neq, show ((0 : Int) == 0) = true from rfl, l3, int_ne, hsz]
    exact retB_two ft6 rfl (by simp only [symM, Nat.reduceBEq]) get_same
  | true =>
  obtain ⟨r4, h4, c1, c2, c3⟩ := hGH _ w1 h3 (hm 1 (by decide)).1 (hm 1 (by decide)).2 (y1 h3 G3).2
  have n4 := c2.next
  have i4 := b2.grow c2 (by omega)
  generalize hh5 : h4.new (.cells (PM.ofList (hdL 0 0)) 2 73 0 0 .ex) = h5
  have g5 : Grow h4.next h4 h5 := by rw [← hh5]; exact Grow.new _ _
  have n5 : h5.next = h4.next + 1 := by rw [← hh5]; rfl
  have e5 : BoxL h5 h4.next 73 (hdL 0 0) := by rw [← hh5]; exact BoxL.new _ _ _
  have ldw1 := (y1 h3 G3).1
  rcases c3 with ⟨k2, rfl⟩ | ⟨k2, rfl⟩
  · obtain ⟨h6, d1, d2, d3⟩ := hd_store 0 0 e5
    refine ⟨.tuple #[.pointer none, iv 2], h6, ?_, ((G3.trans c2 (by omega)).trans g5 (by omega)).trans (d3.grow (show h.next ≤ h4.next by omega)) (Nat.le_refl _), .inl ⟨by rw [okE, hsz, k1, k2]; rfl, rfl⟩⟩
    rw [frameB_eq ft6 rfl rfl]
    simp only [Tryz.f6, symM, opFn, Nat.reduceLT, Nat.reduceBEq, symM, hlen, bin_lss, hdl, evCall_fn ft24 rfl, cc, alloc_IX, hws, box_I, hh1, x0, ldw0, evCall_fn ft26 rfl, a1, nil_pv, field_I, field_st, field_Su0, b1, bin_neq, show ((0 : Int) == 0) = true from rfl, l3, int_ne, hsz, x1, ldw1, evCall_fn ft27 rfl, c1, alloc_HdZ, hh5, d1, show ((2 : Int) == 0) = false from rfl]
    exact retB_two ft6 rfl (by simp only [symM, Nat.reduceBEq]) get_same
  obtain ⟨h6, d1, d2, d3⟩ := hd_store (hdOf (bss.getD 1 [])).1 (hdOf (bss.getD 1 [])).2 e5
  have n6 := d3.next
  have G6 : Grow h.next h h6 := ((G3.trans c2 (by omega)).trans g5 (by omega)).trans (d3.grow (show h.next ≤ h4.next by omega)) (Nat.le_refl _)
  have i6 : BoxL h6 h.next 69 (imgX (svOf (bss.getD 0 [])).si nilV nilV nilV ws) := (i4.grow g5 (by omega)).one d3 (by omega)
  have cs := hSl _ w2 h6 (hm 2 (by decide)).1 (hm 2 (by decide)).2 (y2 h6 G6).2
  have ldw2 := (y2 h6 G6).1
  cases k3 : okSeal (bss.getD 2 []) with
  | false =>
    rw [k3] at cs
    refine ⟨.tuple #[.pointer none, iv 2], h6, ?_, G6, .inl ⟨by rw [okE, hsz, k1, k2, k3]; rfl, rfl⟩⟩
    rw [frameB_eq ft6 rfl rfl]
    simp only [Tryz.f6, symM, opFn, Nat.reduceLT, Nat.reduceBEq, symM, hlen, bin_lss, hdl, evCall_fn ft24 rfl, cc, alloc_IX, hws, box_I, hh1, x0, ldw0, evCall_fn ft26 rfl, a1, nil_pv, field_I, field_st, field_Su0, b1, bin_neq, show ((0 : Int) == 0) = true from rfl, l3, int_ne, hsz, x1, ldw1, evCall_fn ft27 rfl, c1, alloc_HdZ, hh5, d1, x2, ldw2, evCall_fn ft28 rfl, cs]
    exact retB_two ft6 rfl (by simp only [symM, Nat.reduceBEq]) get_same
  | true =>
  rw [k3] at cs
  have okE2 : okO bss = allD bss 32 0 := by rw [okE, hsz, k1, k2, k3]; rfl
  obtain ⟨v7, p7, h7, f1, f2, f3, f4, f5⟩ := hNew h6
  have n7 := f5.next
  have G7 : Grow h.next h h7 := G6.trans f5 (by omega)
  have hlen7 : ∀ ty h', evBuiltin T0 .len #[57] ty [v7] h' = some (.value (iv 60), h') := fun ty h' => by rw [f4.row.len und_bytes, bytesV_len, markL_len]; rfl
  obtain ⟨w3, u1, u2⟩ := (y2 h7 G7).2.win (lov := none) (hiv := some (iv 60)) (lo := 0) (hh := 60) (.inr ⟨rfl, rfl⟩) (.inl rfl) (by omega) (by rw [(hm 2 (by decide)).1]; decide)
  rw [List.drop_zero, Nat.sub_zero] at u2
  have t60 : ((bss.getD 2 []).take 60).length = 60 := by rw [List.length_take, (hm 2 (by decide)).1]; rfl
  obtain ⟨vf, h8, q1, q2, q3⟩ := hCl w3 _ h7 u2 (by rw [t60]; decide) (by rw [t60]; decide) (fun x hx => (hm 2 (by decide)).2 x (List.mem_of_mem_take hx))
  have n8 := q3.next
  have i8 := (i6.grow f5 (by omega)).grow q3 (by omega)
  obtain ⟨h9, r1, r2, r3⟩ := imx_flags i8 q2.sl
  have n9 := r3.next
  have F9 : Bks h9 vf ((bss.getD 2 []).take 60) := q2.keep (Nat.le_of_eq r3.next.symm) fun k hk hu => r3.keep k (tyAt.ne hu i8.ty (by decide))
  have G9 : Grow h.next h h9 := (G7.trans q3 (by omega)).trans (r3.grow (Nat.le_refl _)) (Nat.le_refl _)
  have ldw2' := (y2 h7 G7).1
  have hew2 : eqV w2 w2 = true := (y2 h6 G6).2.row.eqv
  have hp := plan_o11
  simp only [regOps, part, Tryz.f6, sub] at hp
  rw [frameB_eq ft6 rfl rfl]
  simp only [Tryz.f6, symM, opFn, Nat.reduceLT, Nat.reduceBEq, symM, hlen, bin_lss, hdl, evCall_fn ft24 rfl, cc, alloc_IX, hws, box_I, hh1, x0, ldw0, evCall_fn ft26 rfl, a1, nil_pv, field_I, field_st, field_Su0, b1, bin_neq, show ((0 : Int) == 0) = true from rfl, l3, int_ne, hsz, x1, ldw1, evCall_fn ft27 rfl, c1, alloc_HdZ, hh5, d1, x2, ldw2, evCall_fn ft28 rfl, cs]
  rw [codeB_draw, draw_plan hp rfl]
  simp only [drawAll, opFn, Nat.reduceLT, Nat.reduceBEq, nil_pv, x2, ldw2, ldw2', hew2, ep2, hw.eqv, evCall_fn ft30 rfl, f1, effE_cons, hlen7, ev3, evOpt, u1, evCall_fn ft29 rfl, q1, field_I, field_st, r1]
  simp only [symL]
  generalize hX : codeB T0 X0 call _ EOp (.loop _) _ _ _ = X
  obtain ⟨t1, h10, s1, s8⟩ := use_loop (P := fun X => ∃ tm' h', ((X = .jump .ret tm' h' [] ∧ tm'.get 2 = some (.pointer none) ∧ tm'.get 3 = some (iv 2) ∧ allD bss 32 0 = false) ∨ (X = .jump (.exit 0) tm' h' [] ∧ allD bss 32 0 = true ∧ tm'.get 0 = some v ∧ tm'.get 4 = some (pv h.next 0) ∧ ∃ vn' cs', BoxL h' h.next 69 (imgX (svOf (bss.getD 0 [])).si vf vn' nilV ws) ∧ OwnC 12 h.next h' vn' 32 cs' 48 ∧ cs'.all oneCell = true ∧ Bks h' vf ((bss.getD 2 []).take 60))) ∧ Grow h.next h9 h') hX
    (o1Lp hD h.next h.next _ bss hge h64 v vf nilV _ ws (Nat.le_refl _) h rfl hw 32 0 nilV [] h9 _ _ (by omega) (by omega) (by omega) G9 r2 (.inl ⟨rfl, rfl, rfl⟩) rfl F9 (by simp only [symM, Nat.reduceBEq]) (by simp only [symM, Nat.reduceBEq]) (by simp only [symM]; rfl))
  clear hX
  have n10 := s8.next
  have G10 := G9.trans s8 (Nat.le_refl _)
  rcases s1 with ⟨rfl, m1, m2, m3⟩ | ⟨rfl, m3, s2, s3, vn, ns, s4, s5, s6, s7⟩
  · refine ⟨.tuple #[.pointer none, iv 2], h10, ?_, G10, .inl ⟨by rw [okE2, m3], rfl⟩⟩
    simp only [symM, symM]
    exact retB_two ft6 rfl m1 m2
  have hB480 : bss.length ≤ 480 := by
    have h1 : okI (svOf (bss.getD 0 [])).si = true := by
      unfold okDS at k1
      rw [Bool.and_eq_true] at k1; exact k1.1
    have h2 := (okI_true h1).1.2
    have h3 : (svOf (bss.getD 0 [])).s = bss.length := of_decide_eq_true hsz
    have h4 : ((svOf (bss.getD 0 [])).s : Int) ≤ 480 := h2
    omega
  simp only [symM, opFn, Nat.reduceLT, symM, symL, s2, hlen]
  generalize hX : codeB T0 X0 call _ EOp (.loop _) _ _ _ = X
  obtain ⟨t2, h11, m1, ⟨m2, vb, m4, m5, m6, m7⟩, m8⟩ := use_exit hX (o2Lp hCl h.next h.next _ v vf vn ns _ ws (Nat.le_refl _) h rfl bss hB480 h64 hw bss.length 0 nilV h10 _ _ (by omega) (by omega) (by omega) G10 s4 s5 s7 ⟨[], Own.nil _ _ _, rfl, fun i w bs hi _ => by simp at hi⟩ (by simp only [symM, Nat.reduceBEq, s3]) (by simp only [symM, Nat.reduceBEq]) (by simp only [symM, Nat.reduceBEq]) (by simp only [symM]; rfl))
  clear hX
  subst m1
  have n11 := m8.next
  have hvn : SLv vn := by
    rcases m5 with ⟨_, q, _⟩ | ⟨b, c, kd, cap, _, _, rfl, _⟩
    · omega
    · exact ⟨_, _, _, rfl⟩
  obtain ⟨vf', vn', vb', h12, o1, o2, o3, o4, o5, o6, o7⟩ := hSt h.next h.next _ vf vn vb _ ws bss h11 hwl m4 (by omega) (Nat.le_refl _) hvn ⟨h.next, 32, ns, m5, by decide, by decide, s6⟩ m6 m7 (by omega) (by omega)
  have n12 := o6.next
  refine ⟨.tuple #[pv h.next 0, iv 0], h12, ?_, (G10.trans m8 (Nat.le_refl _)).trans o6 (Nat.le_refl _), .inr ⟨by rw [okE2, m3], h.next, rfl, Nat.le_refl _, by omega, vf, vn, vb, vf', vn', vb', o2, o3, o4.less (by omega), m7.dis o4, o5⟩⟩
  simp only [symM, opFn, Nat.reduceLT, Nat.reduceBEq, symM, symL, m2, evCall_fn ft32 rfl, o1]
  exact retB_two ft6 rfl (by simp only [symM, Nat.reduceBEq]) get_same
end
end Go.Proofs.YtjdhdhmoedlfdaaGreat.Abs
namespace Go.Proofs.YtjdhdhmoedlfdaaGreat.Abs
open Go Go.Proofs
noncomputable section
variable {call : Abs.Callee}
set_option maxRecDepth 10000
theorem ft33 : T0.ft.get 33 = some Tryz.f33 := by kernel_rfl
theorem ft34 : T0.ft.get 34 = some Tryz.f34 := by kernel_rfl
theorem leN_1 {n : Nat} (h : n < 256) : leN n 1 = [n] := by show [n / 256 ^ 0 % 256] = [n]; rw [show n / 256 ^ 0 % 256 = n by simp; omega]
theorem leN_2 {n : Nat} (h : n < 256) : leN n 2 = [n, 0] := by show [n / 256 ^ 0 % 256, n / 256 ^ 1 % 256] = [n, 0]; rw [show n / 256 ^ 0 % 256 = n by simp; omega, show n / 256 ^ 1 % 256 = 0 by omega]
theorem leN_4 {n : Nat} (h : n < 256) : leN n 4 = [n, 0, 0, 0] := by show [n / 256 ^ 0 % 256, n / 256 ^ 1 % 256, n / 256 ^ 2 % 256, n / 256 ^ 3 % 256] = [n, 0, 0, 0]; rw [show n / 256 ^ 0 % 256 = n by simp; omega, show n / 256 ^ 1 % 256 = 0 by omega, show n / 256 ^ 2 % 256 = 0 by omega, show n / 256 ^ 3 % 256 = 0 by omega]
theorem rsv_same (s f j c g : Nat) (hf : f < 256) (hj : j < 256) (hc : c < 256) : sealR ([68, 82, 89, 68] ++ leN s 2 ++ leN f 1 ++ leN j 1 ++ leN c 2 ++ leN g 2) = svB ⟨s, f, j, c, g⟩ := by
  unfold svB sealR sealB
  rw [leN_1 hf, leN_1 hj, leN_2 hc]
  have h2 : (setsAt 2 (setsAt 1 (setsAt 2 (setAt (List.replicate 64 0) 0 [68, 82, 89, 68]) 4 [s]) 6 [f, j, c]) 10 [g]).take 60 = pad 60 ([68, 82, 89, 68] ++ leN s 2 ++ [f] ++ [j] ++ [c, 0] ++ leN g 2) := by
    simp only [setsAt, leN_1 hf, leN_1 hj, leN_1 hc]
    rfl
  rw [h2]
theorem rhd_same (a s : Nat) (ha : a < 256) : sealR ([72, 69, 65, 68] ++ leN a 4 ++ leN s 4) = hdB a s := by
  unfold hdB sealR sealB
  rw [leN_4 ha]
  have h2 : (setsAt 4 (setsAt 1 (setAt (List.replicate 64 0) 0 [72, 69, 65, 68]) 4 [a]) 8 [s]).take 60 = pad 60 ([72, 69, 65, 68] ++ [a, 0, 0, 0] ++ leN s 4) := by
    simp only [setsAt, leN_1 ha]
    rfl
  rw [h2]
def REncR (h h' : AH) (x : SI) (r : Value) : Prop := (okI x = false ∧ r = .tuple #[nilV, iv 2]) ∨ (okI x = true ∧ ∃ v', r = .tuple #[v', iv 0] ∧ Own h.next h' v' (bytesV (svB x.sv)) 5)
abbrev RGEncC (call : Abs.Callee) : Prop := ∀ (x : SI) (h : AH), ∃ r h', call 21 [siV x] h = some (r, h') ∧ Grow h.next h h' ∧ REncR h h' x r
theorem rgEnc_S (hI : GInC call 65) (hP : RPutC call) (hS : RSealC call) (x : SI) (h : AH) : ∃ r h', frameB T0 X0 call 3000 21 [siV x] h = some (r, h') ∧ Grow h.next h h' ∧ REncR h h' x r := by
  generalize hh1 : h.new (.cells (PM.ofList (siL x)) (siL x).length 36 0 0 .ex) = h1
  have g1 : Grow h.next h h1 := by rw [← hh1]; exact Grow.new _ _
  have n1 : h1.next = h.next + 1 := by rw [← hh1]; rfl
  have hb : SiB h1 h.next x := by rw [← hh1]; exact BoxL.new _ _ _
  have i1 := hI x.s 64 480 h1
  have i2 := hI x.f 1 3 h1
  have i3 := hI x.j 0 3 h1
  have i4 := hI x.c 0 32 h1
  have i5 := hI x.g 0 480 h1
  cases hok : okI x with
  | false =>
    refine ⟨.tuple #[nilV, iv 2], h1, ?_, g1, .inl ⟨hok, rfl⟩⟩
    unfold okI at hok
    rw [frameB_eq ft21 rfl rfl]
    cases c1 : decide (64 ≤ x.s ∧ x.s ≤ 480) with
    | false =>
      rw [c1] at i1
      simp only [Tryz.f21, symM, opFn, Nat.reduceLT, Nat.reduceBEq, symM, box_Si, hh1, field_S, hb.loads, evCall_fn ft65 rfl, i1]
      exact retB_two ft21 rfl (by simp only [symM, Nat.reduceBEq]) get_same
    | true =>
      rw [c1] at i1 hok
      cases c2 : decide (1 ≤ x.f ∧ x.f ≤ 3) with
      | false =>
        rw [c2] at i2
        simp only [Tryz.f21, symM, opFn, Nat.reduceLT, Nat.reduceBEq, symM, box_Si, hh1, field_S, hb.loads, evCall_fn ft65 rfl, i1, i2]
        exact retB_two ft21 rfl (by simp only [symM, Nat.reduceBEq]) get_same
      | true =>
        rw [c2] at i2 hok
        cases c3 : decide (0 ≤ x.j ∧ x.j ≤ 3) with
        | false =>
          rw [c3] at i3
          simp only [Tryz.f21, symM, opFn, Nat.reduceLT, Nat.reduceBEq, symM, box_Si, hh1, field_S, hb.loads, evCall_fn ft65 rfl, i1, i2, i3]
          exact retB_two ft21 rfl (by simp only [symM, Nat.reduceBEq]) get_same
        | true =>
          rw [c3] at i3 hok
          cases c4 : decide (0 ≤ x.c ∧ x.c ≤ 32) with
          | false =>
            rw [c4] at i4
            simp only [Tryz.f21, symM, opFn, Nat.reduceLT, Nat.reduceBEq, symM, box_Si, hh1, field_S, hb.loads, evCall_fn ft65 rfl, i1, i2, i3, i4]
            exact retB_two ft21 rfl (by simp only [symM, Nat.reduceBEq]) get_same
          | true =>
            rw [c4] at i4 hok
            have c5 : decide (0 ≤ x.g ∧ x.g ≤ 480) = false := by simpa only [Bool.true_and] using hok
            rw [c5] at i5
            simp only [Tryz.f21, symM, opFn, Nat.reduceLT, Nat.reduceBEq, symM, box_Si, hh1, field_S, hb.loads, evCall_fn ft65 rfl, i1, i2, i3, i4, i5]
            exact retB_two ft21 rfl (by simp only [symM, Nat.reduceBEq]) get_same
  | true =>
    obtain ⟨o1, o2, o3, o4, o5⟩ := okI_true hok
    rw [decide_eq_true o1] at i1
    rw [decide_eq_true o2] at i2
    rw [decide_eq_true o3] at i3
    rw [decide_eq_true o4] at i4
    rw [decide_eq_true o5] at i5
    obtain ⟨z, rfl⟩ : ∃ z : SV, x = z.si := ⟨x.sv, (SI.sv_si hok).symm⟩
    have hz : z.si.sv = z := by obtain ⟨s, f, j, c, g⟩ := z; rfl
    obtain ⟨b1, b2, b3, b4, b5⟩ := SI.sv_lt hok
    rw [hz] at b1 b2 b3 b4 b5
    obtain ⟨s, f, j, c, g⟩ := z
    simp only at b1 b2 b3 b4 b5
    simp only [SV.si] at i1 i2 i3 i4 i5
    obtain ⟨v2, h2, a1, a2, a3⟩ := app_str4 68 82 89 68 (by decide) (by decide) (by decide) (by decide) h1 57
    have a1 : evBuiltin T0 .append #[57, 9] 57 [.slice (some ⟨h1.next, 0, none⟩) 0 0, .string ⟨#[68, 82, 89, 68]⟩] (h1.new (.cells (PM.ofList []) 0 5 0 0 .ex)) = some (.value v2, h2) := a1
    have hb2 : SiB h2 h.next (SV.si ⟨s, f, j, c, g⟩) := BoxL.grow hb a3 (by omega)
    obtain ⟨v3, h3, m1, m2, m3, _⟩ := hP s 2 h1.next _ v2 h2 (by omega) (by omega) (by simp) a3.next a2
    have m1 : call 66 [v2, iv s, iv 2] h2 = some (v3, h3) := m1
    have g3 := a3.trans m3 (Nat.le_refl _)
    have hb3 : SiB h3 h.next (SV.si ⟨s, f, j, c, g⟩) := BoxL.grow hb g3 (by omega)
    obtain ⟨v4, h4, c1, c2, c3, _⟩ := hP f 1 h1.next _ v3 h3 (by omega) (by omega) (by simp [leN_len]) g3.next m2
    have c1 : call 66 [v3, iv f, iv 1] h3 = some (v4, h4) := c1
    have g4 := g3.trans c3 (Nat.le_refl _)
    have hb4 : SiB h4 h.next (SV.si ⟨s, f, j, c, g⟩) := BoxL.grow hb g4 (by omega)
    obtain ⟨v5, h5, d1, d2, d3, _⟩ := hP j 1 h1.next _ v4 h4 (by omega) (by omega) (by simp [leN_len]) g4.next c2
    have d1 : call 66 [v4, iv j, iv 1] h4 = some (v5, h5) := d1
    have g5 := g4.trans d3 (Nat.le_refl _)
    have hb5 : SiB h5 h.next (SV.si ⟨s, f, j, c, g⟩) := BoxL.grow hb g5 (by omega)
    obtain ⟨v6, h6, e1, e2, e3, _⟩ := hP c 2 h1.next _ v5 h5 (by omega) (by omega) (by simp [leN_len]) g5.next d2
    have e1 : call 66 [v5, iv c, iv 2] h5 = some (v6, h6) := e1
    have g6 := g5.trans e3 (Nat.le_refl _)
    have hb6 : SiB h6 h.next (SV.si ⟨s, f, j, c, g⟩) := BoxL.grow hb g6 (by omega)
    obtain ⟨v7, h7, y1, y2, y3, _⟩ := hP g 2 h1.next _ v6 h6 (by omega) (by omega) (by simp [leN_len]) g6.next e2
    have y1 : call 66 [v6, iv g, iv 2] h6 = some (v7, h7) := y1
    have g7 := g6.trans y3 (Nat.le_refl _)
    obtain ⟨v8, h8, z1, z2, z3⟩ := hS h1.next _ v7 h7 (by simp [leN_len]) (by simp [leN_len]) (by
      intro x hx
      simp only [List.mem_append] at hx
      rcases hx with ((((hx | hx) | hx) | hx) | hx) | hx
      · simp at hx; omega
      all_goals exact leN_lt hx) y2
    rw [rsv_same s f j c g (by omega) (by omega) (by omega)] at z2
    have G := (g1.trans g7 (by omega)).trans z3 (Nat.le_trans g1.next g7.next)
    refine ⟨.tuple #[v8, iv 0], h8, ?_, G, .inr ⟨hok, v8, rfl, z2.less (Nat.le_trans g1.next g7.next)⟩⟩
    have l1 := hb.loads
    have l2 := hb2.loads
    have l3 := hb3.loads
    have l4 := hb4.loads
    have l5 := hb5.loads
    have l6 := hb6.loads
    simp only [SV.si] at l1 l2 l3 l4 l5 l6
    rw [frameB_eq ft21 rfl rfl]
    simp only [Tryz.f21, symM, opFn, Nat.reduceLT, Nat.reduceBEq, symM, box_Si, hh1, field_S, l1, l2, l3, l4, l5, l6, evCall_fn ft65 rfl, i1, i2, i3, i4, i5, bs_b0, a1, evCall_fn ft66 rfl, m1, c1, d1, e1, y1, evCall_fn ft67 rfl, z1]
    exact retB_two ft21 rfl (by simp only [symM, Nat.reduceBEq]) get_same
def REncHR (h h' : AH) (a s : Nat) (r : Value) : Prop := (okHd a s = false ∧ r = .tuple #[nilV, iv 2]) ∨ (okHd a s = true ∧ ∃ v', r = .tuple #[v', iv 0] ∧ Own h.next h' v' (bytesV (hdB a s)) 5)
abbrev RGPHC (call : Abs.Callee) : Prop := ∀ (a s : Nat) (h : AH), ∃ r h', call 82 [hdV a s] h = some (r, h') ∧ Grow h.next h h' ∧ REncHR h h' a s r
theorem rgPutHead_S (hI : GInC call 65) (hP : RPutC call) (hS : RSealC call) (a s : Nat) (h : AH) : ∃ r h', frameB T0 X0 call 3000 82 [hdV a s] h = some (r, h') ∧ Grow h.next h h' ∧ REncHR h h' a s r := by
  generalize hh1 : h.new (.cells (PM.ofList (hdL a s)) (hdL a s).length 73 0 0 .ex) = h1
  have g1 : Grow h.next h h1 := by rw [← hh1]; exact Grow.new _ _
  have n1 : h1.next = h.next + 1 := by rw [← hh1]; rfl
  have hb : BoxL h1 h.next 73 (hdL a s) := by rw [← hh1]; exact BoxL.new _ _ _
  have l0 : evLoad T0 3 (pv h.next 0) h1 = some (iv a) := hb.load agg_int rfl
  have l1 : evLoad T0 3 (pv h.next 1) h1 = some (iv s) := hb.load agg_int rfl
  have i1 := hI a 0 39 h1
  have i2 := hI s 1 1073741824 h1
  cases q1 : decide (0 ≤ (a : Int) ∧ (a : Int) ≤ 39) with
  | false =>
    rw [q1] at i1
    refine ⟨.tuple #[nilV, iv 2], h1, ?_, g1, .inl ⟨by unfold okHd; rw [q1]; rfl, rfl⟩⟩
    rw [frameB_eq ft82 rfl rfl]
    simp only [Tryz.f82, symM, opFn, Nat.reduceLT, Nat.reduceBEq, symM, box_Hd, hh1, field_H, l0, evCall_fn ft65 rfl, i1]
    exact retB_two ft82 rfl (by simp only [symM, Nat.reduceBEq]) get_same
  | true =>
    rw [q1] at i1
    cases q2 : decide (1 ≤ (s : Int) ∧ (s : Int) ≤ 1073741824) with
    | false =>
      rw [q2] at i2
      refine ⟨.tuple #[nilV, iv 2], h1, ?_, g1, .inl ⟨by unfold okHd; rw [q1, q2]; rfl, rfl⟩⟩
      rw [frameB_eq ft82 rfl rfl]
      simp only [Tryz.f82, symM, opFn, Nat.reduceLT, Nat.reduceBEq, symM, box_Hd, hh1, field_H, l0, l1, evCall_fn ft65 rfl, i1, i2]
      exact retB_two ft82 rfl (by simp only [symM, Nat.reduceBEq]) get_same
    | true =>
      rw [q2] at i2
      have ha : (a : Int) ≤ 39 := (of_decide_eq_true q1).2
      have hs : (s : Int) ≤ 1073741824 := (of_decide_eq_true q2).2
      obtain ⟨v2, h2, a1, a2, a3⟩ := app_str4 72 69 65 68 (by decide) (by decide) (by decide) (by decide) h1 57
      have a1 : evBuiltin T0 .append #[57, 9] 57 [.slice (some ⟨h1.next, 0, none⟩) 0 0, .string ⟨#[72, 69, 65, 68]⟩] (h1.new (.cells (PM.ofList []) 0 5 0 0 .ex)) = some (.value v2, h2) := a1
      have l2 : evLoad T0 3 (pv h.next 0) h2 = some (iv a) := (hb.grow a3 (by omega)).load agg_int rfl
      obtain ⟨v3, h3, b1, b2, b3, _⟩ := hP a 4 h1.next _ v2 h2 (by omega) (by omega) (by simp) a3.next a2
      have b1 : call 66 [v2, iv a, iv 4] h2 = some (v3, h3) := b1
      have g3 := a3.trans b3 (Nat.le_refl _)
      have l3 : evLoad T0 3 (pv h.next 1) h3 = some (iv s) := (hb.grow g3 (by omega)).load agg_int rfl
      obtain ⟨v4, h4, c1, c2, c3, _⟩ := hP s 4 h1.next _ v3 h3 (by omega) (by omega) (by simp [leN_len]) g3.next b2
      have c1 : call 66 [v3, iv s, iv 4] h3 = some (v4, h4) := c1
      have g4 := g3.trans c3 (Nat.le_refl _)
      obtain ⟨v5, h5, d1, d2, d3⟩ := hS h1.next _ v4 h4 (by simp [leN_len]) (by simp [leN_len]) (by
        intro x hx
        simp only [List.mem_append] at hx
        rcases hx with (hx | hx) | hx
        · simp at hx; omega
        · exact leN_lt hx
        · exact leN_lt hx) c2
      rw [rhd_same a s (by omega)] at d2
      have G := (g1.trans g4 (by omega)).trans d3 (Nat.le_trans g1.next g4.next)
      refine ⟨.tuple #[v5, iv 0], h5, ?_, G, .inr ⟨by unfold okHd; rw [q1, q2]; rfl, v5, rfl, d2.less (Nat.le_trans g1.next g4.next)⟩⟩
      rw [frameB_eq ft82 rfl rfl]
      simp only [Tryz.f82, symM, opFn, Nat.reduceLT, Nat.reduceBEq, symM, box_Hd, hh1, field_H, l0, l1, l2, l3, evCall_fn ft65 rfl, i1, i2, bs_b0, a1, evCall_fn ft66 rfl, b1, c1, evCall_fn ft67 rfl, d1]
      exact retB_two ft82 rfl (by simp only [symM, Nat.reduceBEq]) get_same
end
end Go.Proofs.YtjdhdhmoedlfdaaGreat.Abs
namespace Go.Proofs.YtjdhdhmoedlfdaaGreat.Abs
open Go Go.Proofs
noncomputable section
variable {call : Abs.Callee}
set_option maxRecDepth 10000
noncomputable def bodyRNm : Code := part Tryz.f81 [1, 1, 0, 1, 0, 0]
abbrev ERNm : Env := ⟨81, 26, none⟩
theorem cut_cons {bs : List Nat} {i k : Nat} (hi : i < bs.length) : (bs.drop i).take (k + 1) = byteAt bs i :: (bs.drop (i + 1)).take k := by
  rw [List.drop_eq_getElem_cons hi, List.take_succ_cons]
  have := byteAt_get hi
  rw [List.getElem?_eq_getElem hi] at this
  rw [Option.some.inj this]
theorem rNmLp (bs : List Nat) (hbs : ∀ x ∈ bs, x < 256) (a s : Nat) (hs : s ≤ 4) (hl : bs.length < 1000) (ha : a + s ≤ bs.length) (v : Value) (h : AH) (hv : WinB h v bs) : ∀ (k : Nat) (tm : PM Value) (N : Nat), k ≤ s → k + 40 ≤ N →
      tm.get 0 = some v → tm.get 1 = some (iv a) → tm.get 7 = some (iv (leV ((bs.drop (a + k)).take (s - k)) : Nat)) → tm.get 8 = some (iv ((k : Int) - 1)) →
      ∃ tm', codeB T0 X0 call N ERNm (.loop bodyRNm) tm h [] = .jump (.exit 0) tm' h [] ∧ tm'.get 7 = some (iv (leV ((bs.drop a).take s) : Nat)) := by
  intro k
  induction k with
  | zero =>
    intro tm N hk hN g0 g1 g7 g8
    obtain ⟨N, rfl⟩ : ∃ a, N = a + 40 := ⟨N - 40, by omega⟩
    apply Exists.intro
    refine ⟨?_, ?_⟩
    · rw [codeB_loop]
      simp only [bodyRNm, part, Tryz.f81, sub, symM, opFn, Nat.reduceLT, symM, g8, bin_geq, decide_eq_false (show ¬ (0 : Int) ≤ ((0 : Nat) : Int) - 1 by omega)]
      rfl
    · simp only [symM, Nat.reduceBEq, g7, Nat.add_zero, Nat.sub_zero]
  | succ k ih =>
    intro tm N hk hN g0 g1 g7 g8
    obtain ⟨N, rfl⟩ : ∃ a, N = a + 40 := ⟨N - 40, by omega⟩
    have hb := byteAt_lt hbs (i := a + k)
    obtain ⟨p, x1, x2, x3⟩ := hv.row.at3 und_bytes sz_u8 agg_u8 (i := a + k) (x := .int .u8 (byteAt bs (a + k) : Int)) (by simp [bytesV, byteAt_get (show a + k < bs.length by omega)])
    have hm : leV ((bs.drop (a + (k + 1))).take (s - (k + 1))) < 16777216 := by
      have h1 := leV_lt ((bs.drop (a + (k + 1))).take (s - (k + 1))) (fun x hx => hbs x (List.mem_of_mem_drop (List.mem_of_mem_take hx)))
      refine Nat.lt_of_lt_of_le h1 ?_
      have h2 : ((bs.drop (a + (k + 1))).take (s - (k + 1))).length ≤ 3 := by rw [List.length_take]; omega
      exact Nat.le_trans (Nat.pow_le_pow_right (by decide) h2) (by decide)
    have he : leV ((bs.drop (a + k)).take (s - k)) = byteAt bs (a + k) + 256 * leV ((bs.drop (a + (k + 1))).take (s - (k + 1))) := by
      rw [show s - k = (s - (k + 1)) + 1 by omega, cut_cons (show a + k < bs.length by omega)]
      rfl
    generalize hM : leV ((bs.drop (a + (k + 1))).take (s - (k + 1))) = M at *
    have w0 : IntKind.i64.wrap ((M : Int) * 256) = ((M * 256 : Nat) : Int) := by rw [IntWalk.i64_in _ (by omega)]; omega
    have w1 : IntKind.i64.wrap ((a : Int) + (k : Int)) = ((a + k : Nat) : Int) := by rw [wz (by omega)]; omega
    have w2 : IntKind.i64.wrap (byteAt bs (a + k) : Int) = byteAt bs (a + k) := wz (by omega)
    have w3 : IntKind.i64.wrap (((M * 256 : Nat) : Int) + (byteAt bs (a + k) : Int)) = ((leV ((bs.drop (a + k)).take (s - k)) : Nat) : Int) := by rw [IntWalk.i64_in _ (by omega), he]; omega
    have w4 : IntKind.i64.wrap ((k : Int) - 1) = (k : Int) - 1 := wz (by omega)
    have w5 : (((k + 1 : Nat) : Int) - 1) = (k : Int) := by omega
    rw [w5] at g8
    rw [show N + 40 = (N + 39) + 1 from rfl, codeB_loop]
    simp only [bodyRNm, part, Tryz.f81, sub, symM, opFn, Nat.reduceLT, Nat.reduceBEq, symM, g0, g1, g7, g8, bin_geq, decide_eq_true (show (0 : Int) ≤ (k : Int) by omega), bin_mul, w0, bin_add, w1, x1, x2, conv_i2i und_u8 und_int, w2, w3, bin_sub, w4]
    exact ih _ (N + 39) (by omega) (by omega) (by simp only [symM, Nat.reduceBEq, g0]) (by simp only [symM, Nat.reduceBEq, g1]) (by simp only [symM, Nat.reduceBEq]) get_same
abbrev RNumGC (call : Abs.Callee) : Prop := ∀ (bs : List Nat) (i s : Nat) (v : Value) (h : AH), (∀ x ∈ bs, x < 256) → 0 < s → s ≤ 4 → i + s ≤ bs.length → bs.length < 1000 → WinB h v bs → call 81 [v, iv i, iv s] h = some (iv (leV ((bs.drop i).take s)), h)
theorem rNumG_S (bs : List Nat) (hbs : ∀ x ∈ bs, x < 256) (i s : Nat) (h0 : 0 < s) (hs : s ≤ 4) (hi : i + s ≤ bs.length) (hl : bs.length < 1000) (v : Value) (h : AH) (hv : WinB h v bs) :
    frameB T0 X0 call 3000 81 [v, iv i, iv s] h = some (iv (leV ((bs.drop i).take s) : Nat), h) := by
  have w0 : IntKind.i64.wrap ((s : Int) - 1) = (s : Int) - 1 := wz (by omega)
  rw [frameB_eq ft81 rfl rfl]
  simp only [Tryz.f81, symM, opFn, Nat.reduceLT, Nat.reduceBEq, symM, symL, bin_sub, w0]
  generalize hX : codeB T0 X0 call _ ERNm (.loop _) _ _ _ = X
  obtain ⟨t1, e1, e2⟩ := use_loop (P := fun X => ∃ tm', X = .jump (.exit 0) tm' h [] ∧ tm'.get 7 = some (iv (leV ((bs.drop i).take s) : Nat))) hX (rNmLp bs hbs i s hs hl hi v h hv s _ _ (Nat.le_refl _) (by omega) (by simp only [symM, Nat.reduceBEq]) (by simp only [symM, Nat.reduceBEq]) (by rw [Nat.sub_self, List.take_zero]; simp only [symM, Nat.reduceBEq]; rfl) (by simp only [symM]))
  clear hX
  subst e1
  simp only [symM, opFn, Nat.reduceLT, symM, symL, e2]
  exact retB_one ft81 rfl get_same
theorem leV_one {bs : List Nat} {i : Nat} (hi : i < bs.length) : leV ((bs.drop i).take 1) = byteAt bs i := by
  rw [cut_cons (k := 0) hi, List.take_zero]
  rfl
theorem plan_R8 : planB (regOps Tryz.f33 [1, 1, 0]) 44 = some ([.one 0, .one 2, .one 3, .one 4, .one 5, .one 6, .one 7, .one 8, .one 9, .one 10, .one 11, .one 12, .one 13, .one 14, .eff [] 1 [2, 3, 4, 5, 6, 7, 8, 9, 10, 11, 12, 13, 14], .eff [] 15 [2, 3, 4, 5, 6, 7, 8, 9, 10, 11, 12, 13], .one 16, .eff [17] 18 []], []) := by kernel_rfl
theorem plan_R8h : planB (regOps Tryz.f34 [1, 1, 0]) 34 = some ([.one 0, .one 1, .one 2, .one 3, .one 4, .eff [] 5 [0, 1, 2, 3], .one 6, .eff [7] 8 []], []) := by kernel_rfl
theorem rgDec_S (hN : RNumGC call) (hE : RGEncC call) (bs : List Nat) (hl : bs.length = 64) (hbs : ∀ x ∈ bs, x < 256) (v : Value) (h : AH) (hv : WinB h v bs) :
    ∃ r h', frameB T0 X0 call 3000 33 [v] h = some (r, h') ∧ Grow h.next h h' ∧ DecSR bs r := by
  generalize hh1 : h.new (.cells (PM.ofList (siL SI.zero)) 5 36 0 0 .ex) = h1
  have g1 : Grow h.next h h1 := by rw [← hh1]; exact Grow.new _ _
  have n1 : h1.next = h.next + 1 := by rw [← hh1]; rfl
  have s1 : SiB h1 h.next SI.zero := by rw [← hh1]; exact BoxL.new _ _ _
  have hv1 := hv.grow g1
  have hlen : ∀ ty h', evBuiltin T0 .len #[57] ty [v] h' = some (.value (iv 64), h') := fun ty h' => by rw [hv.row.len und_bytes, bytesV_len, hl]; rfl
  obtain ⟨p6, a6, b6, k6⟩ := hv1.row.at3 und_bytes sz_u8 agg_u8 (i := 6) (x := .int .u8 (byteAt bs 6 : Int)) (by simp [bytesV, byteAt_get (show 6 < bs.length by omega)])
  obtain ⟨p7, a7, b7, k7⟩ := hv1.row.at3 und_bytes sz_u8 agg_u8 (i := 7) (x := .int .u8 (byteAt bs 7 : Int)) (by simp [bytesV, byteAt_get (show 7 < bs.length by omega)])
  obtain ⟨p8, a8, b8, k8⟩ := hv1.row.at3 und_bytes sz_u8 agg_u8 (i := 8) (x := .int .u8 (byteAt bs 8 : Int)) (by simp [bytesV, byteAt_get (show 8 < bs.length by omega)])
  have a6 : evIndexAddr T0 57 v (iv 6) = some p6 := a6
  have a7 : evIndexAddr T0 57 v (iv 7) = some p7 := a7
  have a8 : evIndexAddr T0 57 v (iv 8) = some p8 := a8
  have u6 := byteAt_lt hbs (i := 6)
  have u7 := byteAt_lt hbs (i := 7)
  have u8 := byteAt_lt hbs (i := 8)
  have w6 : IntKind.i64.wrap (byteAt bs 6 : Int) = byteAt bs 6 := wz (by omega)
  have w7 : IntKind.i64.wrap (byteAt bs 7 : Int) = byteAt bs 7 := wz (by omega)
  have w8 : IntKind.i64.wrap (byteAt bs 8 : Int) = byteAt bs 8 := wz (by omega)
  have m1 : call 81 [v, iv 4, iv 2] h1 = some (iv (leV ((bs.drop 4).take 2) : Nat), h1) := hN bs 4 2 v h1 hbs (by omega) (by omega) (by omega) (by omega) hv1
  have m5 : call 81 [v, iv 10, iv 2] h1 = some (iv (leV ((bs.drop 10).take 2) : Nat), h1) := hN bs 10 2 v h1 hbs (by omega) (by omega) (by omega) (by omega) hv1
  have hbd : ∀ h, evBuild T0 36 [(0, iv (leV ((bs.drop 4).take 2) : Nat)), (1, iv (byteAt bs 6 : Nat)), (2, iv (byteAt bs 7 : Nat)), (3, iv (byteAt bs 8 : Nat)), (4, iv (leV ((bs.drop 10).take 2) : Nat))] h = some (siV (svOf bs).si, h) := fun h => by
    rw [← leV_one (bs := bs) (i := 6) (by omega), ← leV_one (bs := bs) (i := 7) (by omega), ← leV_one (bs := bs) (i := 8) (by omega)]
    exact build_Si5
  generalize hh2 : h1.new (.cells (PM.ofList (siL SI.zero)) 5 36 0 0 .ex) = h2
  have g2 : Grow h1.next h1 h2 := by rw [← hh2]; exact Grow.new _ _
  have n2 : h2.next = h1.next + 1 := by rw [← hh2]; rfl
  have s2 : SiB h2 h1.next SI.zero := by rw [← hh2]; exact BoxL.new _ _ _
  obtain ⟨h3, d1, d2, d3⟩ := s2.storeAll (svOf bs).si
  have n3 := d3.next
  obtain ⟨r4, h4, e1, e5, hr⟩ := hE (svOf bs).si h3
  have n4 := e5.next
  have G3 : Grow h1.next h1 h3 := g2.trans (d3.grow (Nat.le_refl _)) (by omega)
  have G4 : Grow h1.next h1 h4 := G3.trans e5 (by omega)
  have hv4 := hv1.grow G4
  have s4 : SiB h4 h.next SI.zero := BoxL.grow s1 G4 (by omega)
  have d4 : SiB h4 h1.next (svOf bs).si := BoxL.grow d2 e5 (by omega)
  have l3 := d2.loads.2.2.2.2.2
  have l4 := d4.loads.2.2.2.2.2
  have hsv : (svOf bs).si.sv = svOf bs := rfl
  obtain ⟨h5, f1, f2, f3⟩ := s4.storeAll SI.zero
  have hc4 := conv_b2s hv4.row
  have hp := plan_R8
  simp only [regOps, part, Tryz.f33, sub] at hp
  rcases hr with ⟨k1, rfl⟩ | ⟨k1, v4, rfl, e2⟩
  · refine ⟨.tuple #[siV SI.zero, iv 2], h5, ?_, (g1.trans G4 (by omega)).trans (f3.grow (Nat.le_refl _)) (Nat.le_refl _), .inl ⟨by unfold okDS; rw [k1]; rfl, rfl⟩⟩
    rw [frameB_eq ft33 rfl rfl]
    simp only [Tryz.f33, symM, opFn, Nat.reduceLT, Nat.reduceBEq, symM, alloc_SiZ, hh1, hlen, bin_neq, show ((64 : Int) == 64) = true from rfl]
    rw [codeB_draw, draw_plan hp rfl]
    simp only [drawAll, opFn, Nat.reduceBEq, a6, b6, k6, a7, b7, k7, a8, b8, k8, hv1.row.eqv, conv_i2i und_u8 und_int, w6, w7, w8, evCall_fn ft81 rfl, m1, m5, effE_cons, hbd, goA_alloc alloc_SiZ, hh2, d1]
    simp only [symM, opFn, Nat.reduceLT, Nat.reduceBEq, symM, l3, evCall_fn ft21 rfl, e1, bin_neq, show ((2 : Int) == 0) = false from rfl, build_Si0, f1]
    exact retB_cell1 ft33 rfl (by simp only [symM, Nat.reduceBEq]) f2.loads.2.2.2.2.2 get_same
  · rw [hsv] at e2
    obtain ⟨sl, slt⟩ := svB_ok (svOf bs)
    have hc5 := conv_b2s e2.row
    have ce := fun p q => s_neq (p := p) (q := q) (h := h4) slt hbs
    by_cases hq : svB (svOf bs) = bs
    · rw [decide_eq_true hq] at ce
      obtain ⟨h5, f1, f2, f3⟩ := s4.storeAll (svOf bs).si
      refine ⟨.tuple #[siV (svOf bs).si, iv 0], h5, ?_, (g1.trans G4 (by omega)).trans (f3.grow (Nat.le_refl _)) (Nat.le_refl _), .inr ⟨by unfold okDS; rw [k1, decide_eq_true hq]; rfl, rfl⟩⟩
      rw [frameB_eq ft33 rfl rfl]
      simp only [Tryz.f33, symM, opFn, Nat.reduceLT, Nat.reduceBEq, symM, alloc_SiZ, hh1, hlen, bin_neq, show ((64 : Int) == 64) = true from rfl]
      rw [codeB_draw, draw_plan hp rfl]
      simp only [drawAll, opFn, Nat.reduceBEq, a6, b6, k6, a7, b7, k7, a8, b8, k8, hv1.row.eqv, conv_i2i und_u8 und_int, w6, w7, w8, evCall_fn ft81 rfl, m1, m5, effE_cons, hbd, goA_alloc alloc_SiZ, hh2, d1]
      simp only [symM, opFn, Nat.reduceLT, Nat.reduceBEq, symM, l3, evCall_fn ft21 rfl, e1, bin_neq, show ((0 : Int) == 0) = true from rfl, hc4, hc5, ce, l4, f1]
      exact retB_cell1 ft33 rfl (by simp only [symM, Nat.reduceBEq]) f2.loads.2.2.2.2.2 get_same
    · rw [decide_eq_false hq] at ce
      refine ⟨.tuple #[siV SI.zero, iv 2], h5, ?_, (g1.trans G4 (by omega)).trans (f3.grow (Nat.le_refl _)) (Nat.le_refl _), .inl ⟨by unfold okDS; rw [decide_eq_false hq, Bool.and_false], rfl⟩⟩
      rw [frameB_eq ft33 rfl rfl]
      simp only [Tryz.f33, symM, opFn, Nat.reduceLT, Nat.reduceBEq, symM, alloc_SiZ, hh1, hlen, bin_neq, show ((64 : Int) == 64) = true from rfl]
      rw [codeB_draw, draw_plan hp rfl]
      simp only [drawAll, opFn, Nat.reduceBEq, a6, b6, k6, a7, b7, k7, a8, b8, k8, hv1.row.eqv, conv_i2i und_u8 und_int, w6, w7, w8, evCall_fn ft81 rfl, m1, m5, effE_cons, hbd, goA_alloc alloc_SiZ, hh2, d1]
      simp only [symM, opFn, Nat.reduceLT, Nat.reduceBEq, symM, l3, evCall_fn ft21 rfl, e1, bin_neq, show ((0 : Int) == 0) = true from rfl, hc4, hc5, ce, build_Si0, f1]
      exact retB_cell1 ft33 rfl (by simp only [symM, Nat.reduceBEq]) f2.loads.2.2.2.2.2 get_same
theorem rgGetHead_S (hN : RNumGC call) (hE : RGPHC call) (bs : List Nat) (hl : bs.length = 64) (hbs : ∀ x ∈ bs, x < 256) (v : Value) (h : AH) (hv : WinB h v bs) :
    ∃ r h', frameB T0 X0 call 3000 34 [v] h = some (r, h') ∧ Grow h.next h h' ∧ DecHR bs r := by
  generalize hh1 : h.new (.cells (PM.ofList (hdL 0 0)) 2 73 0 0 .ex) = h1
  have g1 : Grow h.next h h1 := by rw [← hh1]; exact Grow.new _ _
  have n1 : h1.next = h.next + 1 := by rw [← hh1]; rfl
  have s1 : BoxL h1 h.next 73 (hdL 0 0) := by rw [← hh1]; exact BoxL.new _ _ _
  have hv1 := hv.grow g1
  have hlen : ∀ ty h', evBuiltin T0 .len #[57] ty [v] h' = some (.value (iv 64), h') := fun ty h' => by rw [hv.row.len und_bytes, bytesV_len, hl]; rfl
  obtain ⟨p4, a4, b4, k4⟩ := hv1.row.at3 und_bytes sz_u8 agg_u8 (i := 4) (x := .int .u8 (byteAt bs 4 : Int)) (by simp [bytesV, byteAt_get (show 4 < bs.length by omega)])
  have a4 : evIndexAddr T0 57 v (iv 4) = some p4 := a4
  have u4 := byteAt_lt hbs (i := 4)
  have w4 : IntKind.i64.wrap (byteAt bs 4 : Int) = byteAt bs 4 := wz (by omega)
  have m2 : call 81 [v, iv 8, iv 4] h1 = some (iv (leV ((bs.drop 8).take 4) : Nat), h1) := hN bs 8 4 v h1 hbs (by omega) (by omega) (by omega) (by omega) hv1
  have hbd : ∀ h, evBuild T0 73 [(0, iv (byteAt bs 4 : Nat)), (1, iv (leV ((bs.drop 8).take 4) : Nat))] h = some (hdV (hdOf bs).1 (hdOf bs).2, h) := fun h => by
    rw [← leV_one (bs := bs) (i := 4) (by omega)]
    exact build_Hd2
  generalize hh2 : h1.new (.cells (PM.ofList (hdL 0 0)) 2 73 0 0 .ex) = h2
  have g2 : Grow h1.next h1 h2 := by rw [← hh2]; exact Grow.new _ _
  have n2 : h2.next = h1.next + 1 := by rw [← hh2]; rfl
  have s2 : BoxL h2 h1.next 73 (hdL 0 0) := by rw [← hh2]; exact BoxL.new _ _ _
  obtain ⟨h3, d1, d2, d3⟩ := hd_store (hdOf bs).1 (hdOf bs).2 s2
  have n3 := d3.next
  obtain ⟨r4, h4, e1, e5, hr⟩ := hE (hdOf bs).1 (hdOf bs).2 h3
  have n4 := e5.next
  have G3 : Grow h1.next h1 h3 := g2.trans (d3.grow (Nat.le_refl _)) (by omega)
  have G4 : Grow h1.next h1 h4 := G3.trans e5 (by omega)
  have hv4 := hv1.grow G4
  have s4 : BoxL h4 h.next 73 (hdL 0 0) := s1.grow G4 (by omega)
  have d4 := d2.grow e5 (by omega)
  have l3 := hd_load d2
  have l4 := hd_load d4
  obtain ⟨h5, f1, f2, f3⟩ := hd_store 0 0 s4
  have hc4 := conv_b2s hv4.row
  have hp := plan_R8h
  simp only [regOps, part, Tryz.f34, sub] at hp
  rcases hr with ⟨k1, rfl⟩ | ⟨k1, v4, rfl, e2⟩
  · refine ⟨.tuple #[hdV 0 0, iv 2], h5, ?_, (g1.trans G4 (by omega)).trans (f3.grow (Nat.le_refl _)) (Nat.le_refl _), .inl ⟨by unfold okDH; rw [k1]; rfl, rfl⟩⟩
    rw [frameB_eq ft34 rfl rfl]
    simp only [Tryz.f34, symM, opFn, Nat.reduceLT, Nat.reduceBEq, symM, alloc_HdZ, hh1, hlen, bin_neq, show ((64 : Int) == 64) = true from rfl]
    rw [codeB_draw, draw_plan hp rfl]
    simp only [drawAll, opFn, Nat.reduceBEq, a4, b4, k4, hv1.row.eqv, conv_i2i und_u8 und_int, w4, evCall_fn ft81 rfl, m2, effE_cons, hbd, goA_alloc alloc_HdZ, hh2, d1]
    simp only [symM, opFn, Nat.reduceLT, Nat.reduceBEq, symM, l3, evCall_fn ft82 rfl, e1, bin_neq, show ((2 : Int) == 0) = false from rfl, build_Hd0, f1]
    exact retB_cell1 ft34 rfl (by simp only [symM, Nat.reduceBEq]) (hd_load f2) get_same
  · obtain ⟨sl, slt⟩ := hdB_ok (hdOf bs).1 (hdOf bs).2
    have hc5 := conv_b2s e2.row
    have ce := fun p q => s_neq (p := p) (q := q) (h := h4) slt hbs
    by_cases hq : hdB (hdOf bs).1 (hdOf bs).2 = bs
    · rw [decide_eq_true hq] at ce
      obtain ⟨h5, f1, f2, f3⟩ := hd_store (hdOf bs).1 (hdOf bs).2 s4
      refine ⟨.tuple #[hdV (hdOf bs).1 (hdOf bs).2, iv 0], h5, ?_, (g1.trans G4 (by omega)).trans (f3.grow (Nat.le_refl _)) (Nat.le_refl _), .inr ⟨by unfold okDH; rw [k1, decide_eq_true hq]; rfl, rfl⟩⟩
      rw [frameB_eq ft34 rfl rfl]
      simp only [Tryz.f34, symM, opFn, Nat.reduceLT, Nat.reduceBEq, symM, alloc_HdZ, hh1, hlen, bin_neq, show ((64 : Int) == 64) = true from rfl]
      rw [codeB_draw, draw_plan hp rfl]
      simp only [drawAll, opFn, Nat.reduceBEq, a4, b4, k4, hv1.row.eqv, conv_i2i und_u8 und_int, w4, evCall_fn ft81 rfl, m2, effE_cons, hbd, goA_alloc alloc_HdZ, hh2, d1]
      simp only [symM, opFn, Nat.reduceLT, Nat.reduceBEq, symM, l3, evCall_fn ft82 rfl, e1, bin_neq, show ((0 : Int) == 0) = true from rfl, hc4, hc5, ce, l4, f1]
      exact retB_cell1 ft34 rfl (by simp only [symM, Nat.reduceBEq]) (hd_load f2) get_same
    · rw [decide_eq_false hq] at ce
      refine ⟨.tuple #[hdV 0 0, iv 2], h5, ?_, (g1.trans G4 (by omega)).trans (f3.grow (Nat.le_refl _)) (Nat.le_refl _), .inl ⟨by unfold okDH; rw [decide_eq_false hq, Bool.and_false], rfl⟩⟩
      rw [frameB_eq ft34 rfl rfl]
      simp only [Tryz.f34, symM, opFn, Nat.reduceLT, Nat.reduceBEq, symM, alloc_HdZ, hh1, hlen, bin_neq, show ((64 : Int) == 64) = true from rfl]
      rw [codeB_draw, draw_plan hp rfl]
      simp only [drawAll, opFn, Nat.reduceBEq, a4, b4, k4, hv1.row.eqv, conv_i2i und_u8 und_int, w4, evCall_fn ft81 rfl, m2, effE_cons, hbd, goA_alloc alloc_HdZ, hh2, d1]
      simp only [symM, opFn, Nat.reduceLT, Nat.reduceBEq, symM, l3, evCall_fn ft82 rfl, e1, bin_neq, show ((0 : Int) == 0) = true from rfl, hc4, hc5, ce, build_Hd0, f1]
      exact retB_cell1 ft34 rfl (by simp only [symM, Nat.reduceBEq]) (hd_load f2) get_same
end
end Go.Proofs.YtjdhdhmoedlfdaaGreat.Abs
namespace Go.Proofs.YtjdhdhmoedlfdaaGreat.Abs
open Go Go.Proofs
noncomputable section
variable {call : Abs.Callee}
set_option maxRecDepth 10000
theorem ft35 : T0.ft.get 35 = some Tryz.f35 := by kernel_rfl
def InP (n : Nat) (h : AH) (v : Value) (bs : List Nat) : Prop :=
  bs.length ≤ 64 ∧ ∃ b c cap kd, n ≤ b ∧ b < h.next ∧ v = .slice (some ⟨b, 0, none⟩) bs.length cap ∧ h.get b = some (.cells c 64 5 0 0 kd) ∧ ((kd = .ex ∧ cap = 64) ∨ (kd = .loose ∧ cap = XB + 64)) ∧ ∀ (i x : Nat), bs[i]? = some x → c.get i = some (bv x)
theorem InP.row {n : Nat} {h : AH} {v : Value} {bs : List Nat} (hv : InP n h v bs) : Row h.next h v (bytesV bs) 5 := by
  obtain ⟨h0, b, c, cap, kd, h1, h2, rfl, h3, _, h4⟩ := hv
  refine .inr ⟨b, 0, cap, c, 64, 0, 0, kd, 5, by rw [bytesV_len], h2, h3, by rw [bytesV_len]; omega, fun i y hi => ?_⟩
  obtain ⟨x, hx, rfl⟩ := bytesV_at hi
  rw [Nat.zero_add]
  exact h4 i x hx
theorem InP.app {n : Nat} {h : AH} {v : Value} {bs : List Nat} (hv : InP n h v bs) (x : Nat) (hl : bs.length < 64) (ty : TypeId) :
    ∃ v' h', evBuiltin T0 .append #[57, 57] ty [v, .slice (some ⟨h.next, 0, none⟩) 1 1] (h.new (.cells (PM.ofList [.int .u8 (x : Int)]) 1 5 0 0 .ex)) = some (.value v', h') ∧ InP n h' v' (bs ++ [x]) ∧ Grow n h h' := by
  obtain ⟨h0, b, c, cap, kd, h1, h2, rfl, h3, hk, h4⟩ := hv
  generalize hh1 : h.new (.cells (PM.ofList [.int .u8 (x : Int)]) 1 5 0 0 .ex) = g
  have gt : g.get h.next = some (.cells (PM.ofList [.int .u8 (x : Int)]) 1 5 0 0 .ex) := by rw [← hh1]; exact get_new_same _ _
  have g1 : Grow h.next h g := by rw [← hh1]; exact Grow.new _ _
  have n1 : g.next = h.next + 1 := by rw [← hh1]; rfl
  have gb : g.get b = some (.cells c 64 5 0 0 kd) := (g1.keep b h2).trans h3
  have happ : ∀ z, appendedA T0 57 (infoOf 5) z (.slice (some ⟨h.next, 0, none⟩) 1 1) g = some (1, [.int .u8 (x : Int)]) := fun z => appended_slice und_bytes gt (by rw [ti_u8.2.1]; rfl) (by rw [ti_u8.2.1]; decide) (fun j y hy => by rw [PM.get_ofList]; exact hy)
  have hcap : capOf cap = 64 := by
    rcases hk with ⟨_, rfl⟩ | ⟨_, rfl⟩
    · exact capOf_lt (by rw [XB_val]; omega)
    · exact capOf_ge _
  have hst : storeRow b (0 + bs.length * (infoOf 5).size) [.int .u8 (x : Int)] g = some (g.set b (.cells (storeN c bs.length [.int .u8 (x : Int)]) 64 5 0 0 kd)) := by
    have hw : writable bs.length 1 64 0 0 = true := by
      unfold writable
      simp; omega
    unfold storeRow
    rw [gb, ti_u8.2.1, Nat.mul_one, Nat.zero_add]
    rcases hk with ⟨rfl, _⟩ | ⟨rfl, _⟩
    · show ifB (writable bs.length 1 64 0 0 && true) _ _ = _
      rw [hw]; rfl
    · show ifB (writable bs.length 1 64 0 0 && true) _ _ = _
      rw [hw]; rfl
  have hc : Nat.ble (bs.length + 1) (capOf cap) = true := by rw [hcap]; exact Nat.ble_eq_true_of_le (by omega)
  have hev : evAppend T0 57 57 (.slice (some ⟨b, 0, none⟩) bs.length cap) (.slice (some ⟨h.next, 0, none⟩) 1 1) g = some (.slice (some ⟨b, 0, none⟩) (bs.length + 1) cap, g.set b (.cells (storeN c bs.length [.int .u8 (x : Int)]) 64 5 0 0 kd)) := by
    unfold evAppend
    simp only [und_bytes, tt_u8, ti_u8.1, happ, appendTo, hc, ifB_true, hst]
  refine ⟨.slice (some ⟨b, 0, none⟩) (bs.length + 1) cap, g.set b (.cells (storeN c bs.length [.int .u8 (x : Int)]) 64 5 0 0 kd), ?_, ⟨by simp; omega, b, storeN c bs.length [.int .u8 (x : Int)], cap, kd, h1, by show b < g.next; omega, by simp, by rw [AH.get_set, if_pos rfl], hk, ?_⟩, (g1.less (by omega)).trans (Grow.set g _ h1) (Nat.le_refl _)⟩
  · show (match evAppend T0 57 57 (.slice (some ⟨b, 0, none⟩) bs.length cap) (.slice (some ⟨h.next, 0, none⟩) 1 1) g with
      | some p => (some (Out.value p.1, p.2) : Res)
      | none => none) = _
    rw [hev]
  · intro i y hi
    rw [storeN_get]
    by_cases hib : i < bs.length
    · rw [if_neg (by omega)]
      rw [List.getElem?_append_left hib] at hi
      exact h4 i y hi
    · have : i < bs.length + 1 := by have := (List.getElem?_eq_some_iff.1 hi).1; simpa using this
      have hie : i = bs.length := by omega
      subst hie
      rw [if_pos (by simp)]
      simp at hi ⊢
      exact hi ▸ rfl
theorem rpIn (n size : Nat) (hn32 : n < 4294967296) (hs : size ≤ 4) (n0 : Nat) : ∀ (k i : Nat) (bs : List Nat) (v : Value) (h : AH) (tm : PM Value) (N : Nat), i + k = size → bs.length + k ≤ 64 → k + 30 ≤ N → InP n0 h v bs →
    tm.get 0 = some v → tm.get 1 = some (iv n) → tm.get 2 = some (iv size) → tm.get 7 = some (iv i) →
    ∃ tm' h', codeB T0 X0 call N EPut (.loop bodyPut) tm h [] = .jump (.exit 0) tm' h' [] ∧ ((∃ v', tm'.get 0 = some v' ∧ InP n0 h' v' (bs ++ leF n i k)) ∧ Grow n0 h h') := by
  intro k
  induction k with
  | zero =>
    intro i bs v h tm N hi hl hN ho g0 g1 g2 g7
    obtain ⟨N, rfl⟩ : ∃ a, N = a + 30 := ⟨N - 30, by omega⟩
    apply Exists.intro; apply Exists.intro; apply And.intro
    · rw [codeB_loop]
      simp only [bodyPut, part, Tryz.f66, sub, symM, opFn, Nat.reduceLT, Nat.reduceBEq, g2, g7, bin_lss, decide_eq_false (show ¬ (i : Int) < (size : Int) by omega)]
      rfl
    · exact ⟨⟨v, by simp only [symM, Nat.reduceBEq, g0], by simpa [leF] using ho⟩, Grow.refl _ _⟩
  | succ k ih =>
    intro i bs v h tm N hi hl hN ho g0 g1 g2 g7
    obtain ⟨N, rfl⟩ : ∃ a, N = a + 30 := ⟨N - 30, by omega⟩
    obtain ⟨v1, h1, e1, e2, e3⟩ := ho.app (n / 256 ^ i % 256) (by omega) 57
    rw [show N + 30 = (N + 29) + 1 from rfl, codeB_loop]
    have m8 : IntKind.u64.wrap (8 * (i : Int)) = ((8 * i : Nat) : Int) := by rw [show (8 * (i : Int)) = ((8 * i : Nat) : Int) by omega]; exact wu64n (by omega)
    have s8 : ∀ p q h, evBin T0 .shr 176 p q (uv n) (uv (8 * i : Nat)) h = some (uv (n / 256 ^ i : Nat)) := fun p q h => by
      rw [bin_shr (show 8 * i < IntKind.u64.bits by show 8 * i < 64; omega), shr_pow]
    simp only [bodyPut, part, Tryz.f66, sub, symM, opFn, Nat.reduceLT, Nat.reduceBEq, symM, g0, g1, g2, g7, bin_lss, decide_eq_true (show (i : Int) < (size : Int) by omega), conv_i2i und_int und_uint, conv_i2i und_uint und_u8, wu64n (show n < 18446744073709551616 by omega), wu64n (show i < 18446744073709551616 by omega), bin_mul, m8, s8, wu8m, bs_u8, e1, bin_add, wadd1 (show i ≤ 400000 by omega)]
    rw [show bs ++ leF n i (k + 1) = (bs ++ [n / 256 ^ i % 256]) ++ leF n (i + 1) k by rw [leF_succ]; simp]
    exact wrapE (ih (i + 1) _ v1 h1 _ (N + 29) (by omega) (by simp; omega) (by omega) e2 (by simp only [symM, Nat.reduceBEq]) (by simp only [symM, Nat.reduceBEq, g1]) (by simp only [symM, Nat.reduceBEq, g2]) get_same) e3
abbrev RPutIC (call : Abs.Callee) : Prop := ∀ (n n0 : Nat) (bs : List Nat) (v : Value) (h : AH), n < 4294967296 → bs.length = 60 → InP n0 h v bs → ∃ v' h', call 66 [v, iv n, iv 4] h = some (v', h') ∧ InP n0 h' v' (bs ++ leN n 4) ∧ Grow n0 h h'
theorem rPutI_S (n n0 : Nat) (bs : List Nat) (v : Value) (h : AH) (hn32 : n < 4294967296) (hl : bs.length = 60) (ho : InP n0 h v bs) :
    ∃ v' h', frameB T0 X0 call 3000 66 [v, iv n, iv 4] h = some (v', h') ∧ InP n0 h' v' (bs ++ leN n 4) ∧ Grow n0 h h' := by
  rw [frameB_eq ft66 rfl rfl]
  simp only [Tryz.f66, symM, opFn, Nat.reduceLT, symL]
  generalize hX : codeB T0 X0 call _ EPut (.loop _) _ _ _ = X
  obtain ⟨t1, h1, e1, ⟨v1, e2, e3⟩, e4⟩ := use_exit hX (rpIn n 4 hn32 (by omega) n0 4 0 bs v h _ _ (by omega) (by omega) (by omega) ho (by simp only [symM, Nat.reduceBEq]) (by simp only [symM, Nat.reduceBEq]) (by simp only [symM, Nat.reduceBEq]; rfl) (by simp only [symM]; rfl))
  clear hX
  subst e1
  refine ⟨v1, h1, ?_, e3, e4⟩
  simp only [symM, opFn, Nat.reduceLT, symL, e2]
  exact retB_one ft66 rfl get_same
theorem cut60 {n : Nat} {h : AH} {v : Value} {bs : List Nat} (hl : bs.length = 64) (ho : OwnC 1 n h v 64 (bytesV bs) 5) : ∃ w, evSliceX T0 57 v none (some (iv 60)) none h = some (w, h) ∧ InP n h w (bs.take 60) := by
  rcases ho with ⟨_, q, _⟩ | ⟨p, c, kd, cap, h1, h2, rfl, h4, h5, h6, h7⟩
  · omega
  · have hbnd : boundsA 64 64 none (some (iv ((60 : Nat) : Int))) none = some (0, 60, 64) := rfl
    have h4 : h.get p = some (.cells c 64 5 0 0 kd) := h4
    have ht : (bs.take 60).length = 60 := by rw [List.length_take, hl]; rfl
    have hc : ∀ (i x : Nat), (bs.take 60)[i]? = some x → c.get i = some (bv x) := by
      intro i x hi
      rw [List.getElem?_take] at hi
      split at hi
      · exact h6 i (bv x) (by simp [bytesV, hi])
      · cases hi
    refine ⟨.slice (some ⟨p, 0, none⟩) 60 cap, ?_, by omega, p, c, cap, kd, h1, h2, by rw [ht], h4, h7, hc⟩
    rcases h7 with ⟨rfl, rfl⟩ | ⟨rfl, rfl⟩
    · show evSliceX T0 57 (.slice (some ⟨p, 0, none⟩) 64 64) none (some (iv ((60 : Nat) : Int))) none h = _
      simp only [evSliceX, evSlice, und_bytes, sz_u8, evSliceS, capOf_lt (show 64 < XB by rw [XB_val]; omega), hbnd, Nat.ble_eq_true_of_le (show 60 ≤ 64 by decide), ifB_true, ble_lt' (show 64 < XB by rw [XB_val]; omega), ifB_false, offS]
      rfl
    · have hls : looseSz T0 h p 1 = true := by
        unfold looseSz
        rw [h4]
        simp only [sz_u8]
        rfl
      show evSliceX T0 57 (.slice (some ⟨p, 0, none⟩) 64 (XB + 64)) none (some (iv ((60 : Nat) : Int))) none h = _
      simp only [evSliceX, evSlice, und_bytes, sz_u8, evSliceS, capOf_ge, hbnd, Nat.ble_eq_true_of_le (show 60 ≤ 64 by decide), ifB_true, Nat.ble_eq_true_of_le (show XB ≤ XB + 64 by omega), hls, offS]
      rfl
abbrev RSeal64C (call : Abs.Callee) : Prop := ∀ (bs : List Nat) (v : Value) (h : AH), bs.length = 64 → (∀ x ∈ bs, x < 256) → WinB h v bs → ∃ v' h', call 67 [v] h = some (v', h') ∧ Row h'.next h' v' (bytesV (sealB bs)) 5 ∧ Grow h.next h h'
theorem rSeal64_S (hP : RPutIC call) (hSum : SumC call 135) (bs : List Nat) (v : Value) (h : AH) (hl : bs.length = 64) (hb : ∀ x ∈ bs, x < 256) (hw : WinB h v bs) :
    ∃ v' h', frameB T0 X0 call 3000 67 [v] h = some (v', h') ∧ Row h'.next h' v' (bytesV (sealB bs)) 5 ∧ Grow h.next h h' := by
  have g1 := Grow.new h (.cells (PM.ofList []) 0 5 0 0 .ex)
  have ho1 : OwnC 1 h.next (h.new (.cells (PM.ofList []) 0 5 0 0 .ex)) (.slice (some ⟨h.next, 0, none⟩) 0 0) 0 [] 5 := .inr ⟨h.next, PM.ofList [], .ex, 0, Nat.le_refl _, Nat.lt_succ_self _, rfl, get_new_same _ _, rfl, fun i x hx => by simp at hx, .inl ⟨rfl, rfl⟩⟩
  obtain ⟨v1, h1, e1, e2, e3, e4, e5⟩ := append_gen und_bytes tt_u8 ti_u8.1 ti_u8.2.1 ti_u8.2.2 ho1 (appended_win (hw.grow g1)) (by rw [bytesV_len, Nat.mul_one]) (bytesV_one bs) (by omega) g1.next 57
  rw [hl, Nat.zero_add, List.nil_append] at e2
  have G1 : Grow h.next h h1 := g1.trans e3 (Nat.le_refl _)
  have hlen : ∀ ty h', evBuiltin T0 .len #[57] ty [v1] h' = some (.value (iv 64), h') := fun ty h' => by rw [e2.own.row.len und_bytes, bytesV_len, hl]; rfl
  obtain ⟨w, c1, c2⟩ := cut60 hl e2
  have ht : (bs.take 60).length = 60 := by rw [List.length_take, hl]; rfl
  have hs := hSum (bs.take 60) w h1 (fun x hx => hb x (List.mem_of_mem_take hx)) (by rw [ht]; decide) c2.row
  have hww : IntKind.i64.wrap ((spinU (spinN (bs.take 60)) : Nat) : Int) = ((spinU (spinN (bs.take 60)) : Nat) : Int) := by
    have := spinU_lt (bs.take 60)
    rw [IntWalk.i64_in _ (by omega)]
  obtain ⟨v3, h3, d1, d2, d3⟩ := hP (spinU (spinN (bs.take 60))) h.next (bs.take 60) w h1 (spinU_lt _) ht c2
  refine ⟨v3, h3, ?_, d2.row, G1.trans d3 (Nat.le_refl _)⟩
  have hp := plan_RS
  simp only [regOps, part, Tryz.f67, sub] at hp
  have hev : eqV w w = true := c2.row.eqv
  have hev1 : eqV v1 v1 = true := e2.own.row.eqv
  rw [frameB_eq ft67 rfl rfl]
  simp only [Tryz.f67, symM, opFn, Nat.reduceLT, Nat.reduceBEq, symM, symL, bs_b0, e1, codeB_loop, hlen, bin_lss, show decide ((64 : Int) < 60) = false from rfl]
  rw [codeB_draw, draw_plan hp rfl]
  simp only [drawAll, opFn, Nat.reduceBEq, c1, hev, hev1, ev3, evOpt, evCall_fn ft135' rfl, hs, effE_cons, conv_i2i und_u32' und_int, hww, evCall_fn ft66 rfl, d1]
  exact retB_one ft67 rfl get_same
theorem plan_RSd : planB (regOps Tryz.f35 [1, 0]) 14 = some ([.one 0, .one 1, .one 2, .one 3, .one 4, .one 7, .one 8, .eff [] 5 [7, 8], .one 6, .one 9, .one 10, .one 11], []) := by kernel_rfl
abbrev RSealedC (call : Abs.Callee) : Prop := ∀ (bs : List Nat) (v : Value) (h : AH), bs.length = 64 → (∀ x ∈ bs, x < 256) → WinB h v bs → ∃ h', call 35 [v] h = some (.bool (okSeal bs), h') ∧ Grow h.next h h'
theorem eqV_s {a : ByteArray} : eqV (.string a) (.string a) = true := by
  have : ∀ l : List UInt8, eqBytes l l = true := fun l => by induction l with
    | nil => rfl
    | cons x l ih => simp [eqBytes, ih]
  exact this _
theorem rSealed_S (hS : RSeal64C call) (bs : List Nat) (v : Value) (h : AH) (hl : bs.length = 64) (hb : ∀ x ∈ bs, x < 256) (hw : WinB h v bs) :
    ∃ h', frameB T0 X0 call 3000 35 [v] h = some (.bool (okSeal bs), h') ∧ Grow h.next h h' := by
  obtain ⟨v1, h1, a1, a2, a3⟩ := hS bs v h hl hb hw
  refine ⟨h1, ?_, a3⟩
  have hlen : ∀ ty h', evBuiltin T0 .len #[57] ty [v] h' = some (.value (iv 64), h') := fun ty h' => by rw [hw.row.len und_bytes, bytesV_len, hl]; rfl
  have c0 := conv_b2s hw.row
  have c1 := conv_b2s (hw.grow a3).row
  have c2 := conv_b2s a2
  have ce := fun p q => s_eql (p := p) (q := q) (h := h1) (sealB_lt hb) hb
  have hev : eqV v v = true := hw.row.eqv
  have hes : eqV (strB bs) (strB bs) = true := eqV_s
  rw [okSeal_eq hl hb]
  have hp := plan_RSd
  simp only [regOps, part, Tryz.f35, sub] at hp
  rw [frameB_eq ft35 rfl rfl]
  simp only [Tryz.f35, symM, opFn, Nat.reduceLT, symM]
  rw [codeB_draw, draw_plan hp rfl]
  simp only [drawAll, opFn, Nat.reduceBEq, hlen, bin_eql, show ((64 : Int) == 64) = true from rfl, hev, hes, c0, c1, evCall_fn ft67 rfl, a1, effE_cons, c2, ce]
  exact retB_one ft35 rfl get_same
end
end Go.Proofs.YtjdhdhmoedlfdaaGreat.Abs
namespace Go.Proofs.YtjdhdhmoedlfdaaGreat.Abs
open Go Go.Proofs
noncomputable section
variable {call : Abs.Callee}
set_option maxRecDepth 10000
theorem ft7 : T0.ft.get 7 = some Tryz.f7 := by kernel_rfl
noncomputable def bodyV1 : Code := part Tryz.f7 [1, 1, 1, 0, 1, 0, 0]
noncomputable def bodyV2 : Code := part Tryz.f7 [1, 1, 1, 1, 1, 1, 1, 1, 1, 0, 1, 0, 0]
abbrev EVo : Env := ⟨7, 112, none⟩
theorem plan_v21 : planB (regOps Tryz.f7 [1, 1, 1, 1, 1, 1, 1, 1, 1, 0, 1, 0, 0, 1, 0, 0, 1, 1]) 112 = some ([.one 0, .one 1, .one 2, .one 3, .one 4, .one 5, .eff [6] 7 [0], .one 8, .one 9, .eff [] 10 []], []) := by kernel_rfl
theorem OwnC.keep2 {s n k e : Nat} {h h' : AH} {v : Value} {cs : List Value} (ho : OwnC s n h v k cs e) (hn : h.next ≤ h'.next) (hk : ∀ q, q < h.next → tyAt h q e → h'.get q = h.get q) : OwnC s n h' v k cs e := by
  rcases ho with h1 | ⟨b, c, kd, cap, h1, h2, h3, h4, h5⟩
  · exact .inl h1
  · exact .inr ⟨b, c, kd, cap, h1, Nat.lt_of_lt_of_le h2 hn, h3, (hk b h2 ⟨_, _, _, _, _, h4⟩).trans h4, h5⟩
theorem field_V {b : Nat} : evFieldAddr T0 40 (pv b 0) 0 = some (pv b 0) ∧ evFieldAddr T0 40 (pv b 0) 1 = some (pv b 5) ∧ evFieldAddr T0 40 (pv b 0) 2 = some (pv b 6) ∧ evFieldAddr T0 40 (pv b 0) 3 = some (pv b 7) :=
  ⟨by kernel_rfl, by kernel_rfl, by kernel_rfl, by kernel_rfl⟩
theorem sz_bools : szOf T0 37 = some 1 := by kernel_rfl
theorem vol_sup {h : AH} {p : Nat} {x y : SI} {vf vn vb : Value} (hI : BoxL h p 40 (stX y vf vn vb)) :
    ∃ h', evStore T0 36 (pv p 0) (siV x) h = some h' ∧ BoxL h' p 40 (stX x vf vn vb) ∧ One p h h' := by
  obtain ⟨h', s1, s2, s3, s4⟩ := BoxL.store (n := p) (o := 0) (v := siV x) hI (ws := siL x) sz_Sup rfl (by simp [siL]) rfl (by simp [stX, siL]) (Nat.le_refl _)
  exact ⟨h', s1, s2, s4, evStore_keep s1⟩
theorem vol_up {h : AH} {p : Nat} {x : SI} {vf vn vb v : Value} (hI : BoxL h p 40 (stX x vf vn vb)) (hv : SLv v) :
    ∃ h', evStore T0 37 (pv p 5) v h = some h' ∧ BoxL h' p 40 (stX x v vn vb) ∧ One p h h' := by
  obtain ⟨h', s1, s2, s3, s4⟩ := BoxL.store (n := p) (o := 5) (v := v) hI (ws := [v]) sz_bools hv.one1.2.1 (by simp) (by simp [hv.one1.1]) (by simp [stX, siL]) (Nat.le_refl _)
  exact ⟨h', s1, s2, s4, evStore_keep s1⟩
theorem vol_nodes {h : AH} {p : Nat} {x : SI} {vf vn vb v : Value} (hI : BoxL h p 40 (stX x vf vn vb)) (hv : SLv v) :
    ∃ h', evStore T0 38 (pv p 6) v h = some h' ∧ BoxL h' p 40 (stX x vf v vb) ∧ One p h h' := by
  obtain ⟨h', s1, s2, s3, s4⟩ := BoxL.store (n := p) (o := 6) (v := v) hI (ws := [v]) sz_nodes hv.one1.2.1 (by simp) (by simp [hv.one1.1]) (by simp [stX, siL]) (Nat.le_refl _)
  exact ⟨h', s1, s2, s4, evStore_keep s1⟩
theorem v1Lp (v : Value) (bss : List (List Nat)) (h : AH) (hv : AB h v bss) (hl : bss.length < XB) (p4 : Value) : ∀ (l : List (List Nat)) (i : Nat) (tm : PM Value) (N : Nat), bss.drop i = l → i + l.length = bss.length → l.length + 60 ≤ N →
      tm.get 0 = some v → tm.get 4 = some p4 → tm.get 5 = some (iv i) →
      ∃ tm', (codeB T0 X0 call N EVo (.loop bodyV1) tm h [] = .jump .ret tm' h [] ∧ tm'.get 2 = some (.pointer none) ∧ tm'.get 3 = some (.bool false) ∧ (l.any fun bs => !len64 bs) = true) ∨ (codeB T0 X0 call N EVo (.loop bodyV1) tm h [] = .jump (.exit 0) tm' h [] ∧ (l.any fun bs => !len64 bs) = false ∧ tm'.get 0 = some v ∧ tm'.get 4 = some p4) := by
  rw [XB_val] at hl
  intro l
  induction l with
  | nil =>
    intro i tm N hd hi hN g0 g4 g5
    obtain ⟨N, rfl⟩ : ∃ a, N = a + 60 := ⟨N - 60, by simp at hN; omega⟩
    apply Exists.intro
    right
    refine ⟨?_, rfl, ?_, ?_⟩
    · rw [codeB_loop]
      simp only [bodyV1, part, Tryz.f7, sub, symM, opFn, Nat.reduceLT, Nat.reduceBEq, symM, g0, g5, hv.len, bin_lss, decide_eq_false (show ¬ (i : Int) < (bss.length : Nat) by simp at hi; omega)]
      rfl
    · simp only [symM, Nat.reduceBEq, g0]
    · simp only [symM, Nat.reduceBEq, g4]
  | cons bs l ih =>
    intro i tm N hd hi hN g0 g4 g5
    obtain ⟨N, rfl⟩ : ∃ a, N = a + 60 := ⟨N - 60, by simp at hN; omega⟩
    have hx1 : bss[i]? = some bs := by have := congrArg (fun l => l[0]?) hd; simpa using this
    have hil : i < bss.length := (List.getElem?_eq_some_iff.1 hx1).1
    obtain ⟨p, w, a1, a2, a3⟩ := hv.at hx1
    have hw := a3.1
    cases hq : len64 bs with
    | false =>
      have hne : (((bs.length : Nat) : Int) == 64) = false := by rw [len64_int, hq]
      apply Exists.intro
      left
      refine ⟨?_, ?_, ?_, ?_⟩
      · rw [codeB_loop]
        simp only [bodyV1, part, Tryz.f7, sub, symM, opFn, Nat.reduceLT, Nat.reduceBEq, symM, g0, g5, hv.len, bin_lss, decide_eq_true (show (i : Int) < (bss.length : Nat) by omega), a1, a2, hw, bin_neq, hne]
        rfl
      · simp only [symM, Nat.reduceBEq]
      · simp only [symM]
      · simp [hq]
    | true =>
      have hne : (((bs.length : Nat) : Int) == 64) = true := by rw [len64_int, hq]
      rw [show N + 60 = (N + 59) + 1 from rfl, codeB_loop]
      simp only [bodyV1, part, Tryz.f7, sub, symM, opFn, Nat.reduceLT, Nat.reduceBEq, symM, g0, g5, hv.len, bin_lss, decide_eq_true (show (i : Int) < (bss.length : Nat) by omega), a1, a2, hw, bin_neq, hne, bin_add, wadd1x (show i + 1 < 9223372036854775808 by omega)]
      rw [show (List.any (bs :: l) fun bs => !len64 bs) = (l.any fun bs => !len64 bs) from by simp [hq]]
      exact ih (i + 1) _ (N + 59) (by rw [← List.drop_drop, hd]; rfl) (by simp at hi ⊢; omega) (by simp at hN ⊢; omega) (by simp only [symM, Nat.reduceBEq, g0]) (by simp only [symM, Nat.reduceBEq, g4]) get_same
def VnR (call : Abs.Callee) (N : Nat) (tm : PM Value) (h : AH) (bss : List (List Nat)) (k i pV n : Nat) (x : SI) (v vu : Value) (us : List Value) (tm' : PM Value) (h' : AH) : Prop :=
  (codeB T0 X0 call N EVo (.loop bodyV2) tm h [] = .jump .ret tm' h' [] ∧ tm'.get 2 = some (.pointer none) ∧ tm'.get 3 = some (.bool false) ∧ allD bss k i = false) ∨
  (codeB T0 X0 call N EVo (.loop bodyV2) tm h [] = .jump (.exit 2) tm' h' [] ∧ allD bss k i = true ∧ tm'.get 4 = some (pv pV 0) ∧ ∃ vn' cs', BoxL h' pV 40 (stX x vu vn' v) ∧ OwnC 12 n h' vn' 32 cs' 48 ∧ cs'.all oneCell = true ∧ OwnC 1 n h' vu 480 us 4)
theorem v2Lp (hD : GDecC call 37) (pV n : Nat) (x : SI) (bss : List (List Nat)) (hB : 64 ≤ bss.length) (h64 : ∀ bs ∈ bss, bs.length = 64 ∧ ∀ x ∈ bs, x < 256) (v vu : Value) (us : List Value) (hnI : n ≤ pV) (h0 : AH) (hn0 : n = h0.next) (hv0 : WB h0 v bss) :
    ∀ (k i : Nat) (vn : Value) (cs : List Value) (h : AH) (tm : PM Value) (N : Nat), i + k = 32 → k + 60 ≤ N → pV < h.next → Grow n h0 h → BoxL h pV 40 (stX x vu vn v) → OwnC 12 n h vn i cs 48 → cs.all oneCell = true → OwnC 1 n h vu 480 us 4 →
      tm.get 0 = some v → tm.get 4 = some (pv pV 0) → tm.get 10 = some (iv i) →
      ∃ tm' h', VnR call N tm h bss k i pV n x v vu us tm' h' ∧ Grow n h h' := by
  intro k
  induction k with
  | zero =>
    intro i vn cs h tm N hi hN hpI hG hI ho hc hF g0 g4 g10
    obtain ⟨N, rfl⟩ : ∃ a, N = a + 60 := ⟨N - 60, by omega⟩
    have hiB : i = 32 := by omega
    subst hiB
    apply Exists.intro; apply Exists.intro
    refine ⟨.inr ⟨?_, rfl, ?_, vn, cs, hI, ho, hc, hF⟩, Grow.refl _ _⟩
    · rw [codeB_loop]
      simp only [bodyV2, part, Tryz.f7, sub, symM, opFn, Nat.reduceLT, symM, g10, bin_lss, show decide (((32 : Nat) : Int) < 32) = false from rfl]
      rfl
    · simp only [symM, Nat.reduceBEq, g4]
  | succ k ih =>
    intro i vn cs h tm N hi hN hpI hG hI ho hc hF g0 g4 g10
    obtain ⟨N, rfl⟩ : ∃ a, N = a + 60 := ⟨N - 60, by omega⟩
    have hv := hv0.grow (hn0 ▸ hG)
    obtain ⟨bs, m1, m2, m2', m3, m4, m5⟩ := halfB_ok (i := i) (by omega) hB h64
    obtain ⟨p, w, a1, _, a2⟩ := hv.ats m1
    obtain ⟨a3, a4⟩ := a2 h (Grow.refl _ _)
    have hm2 : i % 2 < 2 := Nat.mod_lt _ (by decide)
    obtain ⟨w2, c1, c2⟩ := a4.win (lov := some (iv ((i % 2 * 32 : Nat) : Int))) (hiv := some (iv ((i % 2 * 32 + 32 : Nat) : Int))) (lo := i % 2 * 32) (hh := i % 2 * 32 + 32) (.inl rfl) (.inl rfl) (by omega) (by omega)
    rw [show i % 2 * 32 + 32 - i % 2 * 32 = 32 by omega, ← m3] at c2
    obtain ⟨r, h1, d1, d2, d3⟩ := hD (halfB bss i) w2 h.next h m5 m4 (Nat.le_refl _) c2
    have n1 := d2.next
    generalize hh2 : h1.new (.cells (PM.ofList (nodeL NV.zero nilV)) 12 48 0 0 .ex) = h2
    have g2 : Grow h1.next h1 h2 := by rw [← hh2]; exact Grow.new _ _
    have n2 : h2.next = h1.next + 1 := by rw [← hh2]; rfl
    have nb2 : NodeB h2 h1.next NV.zero nilV := by rw [← hh2]; exact NodeB.new _ _ _
    have w1' : IntKind.i64.wrap (3 + ((i / 2 : Nat) : Int)) = ((3 + i / 2 : Nat) : Int) := by rw [wz (by omega)]; omega
    have w2' : IntKind.i64.wrap (32 * ((i % 2 : Nat) : Int)) = ((i % 2 * 32 : Nat) : Int) := by rw [wz (by omega)]; omega
    have w3' : IntKind.i64.wrap (((i % 2 * 32 : Nat) : Int) + 32) = ((i % 2 * 32 + 32 : Nat) : Int) := by rw [wz (by omega)]; omega
    have nn := hG.next
    rcases d3 with ⟨e1, rfl⟩ | ⟨e1, e, rfl, e2⟩
    · obtain ⟨h3, s1, s2, s3, s4⟩ := nb2.storeAll (k := h1.next) NV.zero (f := nilV) rfl (Nat.le_refl _)
      have G3 : Grow h.next h h3 := d2.trans (g2.trans s3 (Nat.le_refl _)) (by omega)
      apply Exists.intro; apply Exists.intro
      refine ⟨.inl ⟨?_, ?_, ?_, ?_⟩, G3.less (by omega)⟩
      · rw [codeB_loop]
        simp only [bodyV2, part, Tryz.f7, sub, symM, opFn, Nat.reduceLT, Nat.reduceBEq, symM, g0, g10, bin_lss, decide_eq_true (show (i : Int) < 32 by omega), quo_i i (by omega), rem_i i, bin_add, bin_mul, w1', w2', w3', a1, a3, ev3, evOpt, c1, evCall_fn ft37 rfl, d1, alloc_N, hh2, s1, bin_neq, show ((2 : Int) == 0) = false from rfl]
        rfl
      · simp only [symM, Nat.reduceBEq]
      · simp only [symM]
      · rw [allD, e1]; rfl
    · have ho1 := e2.one
      obtain ⟨h3, s1, s2, s3, s4⟩ := nb2.storeAll (k := h1.next) (decN (halfB bss i)) (f := e) ho1 (Nat.le_refl _)
      have G3 : Grow h.next h h3 := d2.trans (g2.trans s3 (Nat.le_refl _)) (by omega)
      have n3 := G3.next
      have hI3 := hI.grow G3 hpI
      have ho3 := ho.grow G3
      have hF3 := hF.grow G3
      generalize hh4 : h3.new (.cells (PM.ofList (nodeL (decN (halfB bss i)) e)) 12 48 0 0 .ex) = h4
      have g4' : Grow h3.next h3 h4 := by rw [← hh4]; exact Grow.new _ _
      have n4 : h4.next = h3.next + 1 := by rw [← hh4]; rfl
      have gt4 : h4.get h3.next = some (.cells (PM.ofList (nodeL (decN (halfB bss i)) e)) 12 48 0 0 .ex) := by rw [← hh4]; exact get_new_same _ _
      have ho4 := ho3.grow g4'
      obtain ⟨v', h5, f1, f2, f3, f4, f5⟩ := append_big und_nodes tt_Node ti_Node.1 ti_Node.2.1 ti_Node.2.2 ho4 (appended_slice (k := 1) (cap := 1) (new := nodeL (decN (halfB bss i)) e) und_nodes gt4 (by rw [nodeL_len, ti_Node.2.1]) (by rw [ti_Node.2.1]; decide) (fun j x hx => by rw [PM.get_ofList]; exact hx)) (by rw [nodeL_len]) (nodeL_one _ ho1) (by omega) (by omega) 38
      have n5 := f3.next
      have t4 : tyAt h4 pV 40 := (hI3.grow g4' (by omega)).ty
      have hI5 := (hI3.grow g4' (by omega)).keep (f4 pV (by omega) (ho4.offT t4 (by decide)))
      have hF5 : OwnC 1 n h5 vu 480 us 4 := (hF3.grow g4').keep2 n5 fun q hq hu => f4 q hq (ho4.offT hu (by decide))
      have hsl : SLv v' := by
        rcases f2 with ⟨_, q, _⟩ | ⟨b, c, kd, cap, _, _, rfl, _⟩
        · omega
        · exact ⟨_, _, _, rfl⟩
      obtain ⟨h6, q1, q2, q3⟩ := vol_nodes hI5 hsl
      have n6 := q3.next
      have G6 : Grow n h h6 := (((G3.less (by omega)).trans g4' (by omega)).trans f3 (Nat.le_refl _)).trans (q3.grow hnI) (Nat.le_refl _)
      have ho6 := f2.one q3 hI5.ty (by decide)
      have hF6 : OwnC 1 n h6 vu 480 us 4 := hF5.one q3 hI5.ty (by decide)
      have ld : evLoad T0 38 (pv pV 6) h3 = some vn := hI3.load agg_nodes rfl
      have ldn : evLoad T0 48 (pv h1.next 0) h3 = some (nodeV (decN (halfB bss i)) e) := s2.loads.2.2.2.2.2.2.2.2.2.2.2.2.1
      have hev : eqV vn vn = true := by
        rcases ho with ⟨rfl, _⟩ | ⟨b, c, kd, cap, _, _, rfl, _⟩
        · rfl
        · exact eqV_slice
      have hp := plan_v21
      simp only [regOps, part, Tryz.f7, sub] at hp
      have step : ∃ tm2, codeB T0 X0 call (N + 60) EVo (.loop bodyV2) tm h [] = codeB T0 X0 call (N + 59) EVo (.loop bodyV2) tm2 h6 [] ∧ tm2.get 0 = some v ∧ tm2.get 4 = some (pv pV 0) ∧ tm2.get 10 = some (iv ((i + 1 : Nat) : Int)) := by
        apply Exists.intro
        refine ⟨?_, ?_, ?_, ?_⟩
        · rw [show N + 60 = (N + 59) + 1 from rfl, codeB_loop]
          simp only [bodyV2, part, Tryz.f7, sub, symM, opFn, Nat.reduceLT, Nat.reduceBEq, symM, g0, g10, bin_lss, decide_eq_true (show (i : Int) < 32 by omega), quo_i i (by omega), rem_i i, bin_add, bin_mul, w1', w2', w3', a1, a3, ev3, evOpt, c1, evCall_fn ft37 rfl, d1, alloc_N, hh2, s1, bin_neq, show ((0 : Int) == 0) = true from rfl]
          rw [codeB_draw, draw_plan hp rfl]
          simp only [drawAll, opFn, Nat.reduceLT, Nat.reduceBEq, nil_pv, g4, g10, field_V, ld, ldn, effE_cons, goAB_some (bs_ndE e2), hh4, f1, q1, bin_add, wadd1 (show i ≤ 400000 by omega)]
          rfl
        · simp only [symM, Nat.reduceBEq, g0]
        · simp only [symM, Nat.reduceBEq, g4]
        · exact get_same
      obtain ⟨tm2, st1, st2, st3, st4⟩ := step
      obtain ⟨t', hh', u1, u2⟩ := ih (i + 1) v' (cs ++ nodeL (decN (halfB bss i)) e) h6 tm2 (N + 59) (by omega) (by omega) (by omega) (hG.trans G6 (Nat.le_refl _)) q2 ho6 (by rw [List.all_append, hc, nodeL_one _ ho1]; rfl) hF6 st2 st3 st4
      refine ⟨t', hh', ?_, G6.trans u2 (Nat.le_refl _)⟩
      unfold VnR at u1 ⊢
      rw [st1, allD, e1, Bool.true_and]
      exact u1
end
end Go.Proofs.YtjdhdhmoedlfdaaGreat.Abs
namespace Go.Proofs.YtjdhdhmoedlfdaaGreat.Abs
open Go Go.Proofs
noncomputable section
variable {call : Abs.Callee}
set_option maxRecDepth 10000
abbrev RSDecC (call : Abs.Callee) : Prop := ∀ (bs : List Nat) (v : Value) (h : AH), bs.length = 64 → (∀ x ∈ bs, x < 256) → WinB h v bs → ∃ r h', call 33 [v] h = some (r, h') ∧ Grow h.next h h' ∧ DecSR bs r
abbrev RGHeadC (call : Abs.Callee) : Prop := ∀ (bs : List Nat) (v : Value) (h : AH), bs.length = 64 → (∀ x ∈ bs, x < 256) → WinB h v bs → ∃ r h', call 34 [v] h = some (r, h') ∧ Grow h.next h h' ∧ DecHR bs r
abbrev RUpC (call : Abs.Callee) : Prop := ∀ (bs : List Nat) (m : Value) (h : AH), (∀ x ∈ bs, x < 256) → bs.length = 60 → Row h.next h m (bytesV bs) 5 → ∃ v h', call 36 [m] h = some (v, h') ∧ Own h.next h' v (boolsV (bitB bs) 0 480) 4 ∧ Grow h.next h h'
def VolX (n : Nat) (h : AH) (pV : Nat) (x : SI) (v : Value) (fb : List Nat) : Prop :=
  pV < h.next ∧ ∃ vu vn, BoxL h pV 40 (stX x vu vn v) ∧ OwnC 1 n h vu 480 (boolsV (bitB fb) 0 480) 4 ∧ ∃ cs, OwnC 12 n h vn 32 cs 48
def VolR (n : Nat) (h' : AH) (bss : List (List Nat)) (v r : Value) : Prop :=
  (okO bss = false ∧ r = .tuple #[.pointer none, .bool false]) ∨ (okO bss = true ∧ ∃ pV, r = .tuple #[pv pV 0, .bool true] ∧ n ≤ pV ∧ VolX n h' pV (svOf (bss.getD 0 [])).si v ((bss.getD 2 []).take 60))
theorem DecSR.two {bs : List Nat} {r : Value} (h : DecSR bs r) : ∃ (x : SI) (e : Int), r = .tuple #[siV x, iv e] ∧ ((e == 0) = okDS bs) ∧ (okDS bs = true → x = (svOf bs).si) := by
  rcases h with ⟨h, rfl⟩ | ⟨h, rfl⟩
  · exact ⟨_, 2, rfl, by rw [h]; rfl, fun q => by rw [h] at q; cases q⟩
  · exact ⟨_, 0, rfl, by rw [h]; rfl, fun _ => rfl⟩
theorem DecHR.two {bs : List Nat} {r : Value} (h : DecHR bs r) : ∃ (a s : Nat) (e : Int), r = .tuple #[hdV a s, iv e] ∧ ((e == 0) = okDH bs) := by
  rcases h with ⟨h, rfl⟩ | ⟨h, rfl⟩
  · exact ⟨_, _, 2, rfl, by rw [h]; rfl⟩
  · exact ⟨_, _, 0, rfl, by rw [h]; rfl⟩
theorem build_V {h : AH} {v : Value} (hv : (∃ b o l c, v = .slice (some ⟨b, o, none⟩) l c) ∨ v = nilV) : evBuild T0 40 [(3, v)] h = some (.agg (stX SI.zero nilV nilV v).toArray, h) := by
  rcases hv with ⟨_, _, _, _, rfl⟩ | rfl
  · kernel_rfl
  · kernel_rfl
theorem box_V {l : List Value} {h : AH} : rp (some (evNewVar h 40 (.agg l.toArray))) = some (.value (pv h.next 0), h.new (.cells (PM.ofList l) l.length 40 0 0 .ex)) := box_agg
theorem AB.sl {h : AH} {v : Value} {bss : List (List Nat)} (hv : AB h v bss) : (∃ b o l c, v = .slice (some ⟨b, o, none⟩) l c) ∨ v = nilV := by
  obtain ⟨vs, h1, _⟩ := hv
  rcases h1 with ⟨rfl, _⟩ | ⟨b, o, cap, c, m, lo, hi, kd, el, rfl, _⟩
  · exact .inr rfl
  · exact .inl ⟨_, _, _, _, rfl⟩
set_option maxHeartbeats 800000 in
theorem rOpen_S (M : Nat) (hSD : RSDecC call) (hGH : RGHeadC call) (hSl : RSealedC call) (hUp : RUpC call) (hD : GDecC call 37) (bss : List (List Nat)) (hbs : ∀ bs ∈ bss, ∀ x ∈ bs, x < 256) (hl : bss.length < XB) (hM : bss.length ≤ M) (v : Value) (h : AH) (hv : AB h v bss) :
    ∃ r h', frameB T0 X0 call (M + 3000) 7 [v] h = some (r, h') ∧ Grow h.next h h' ∧ VolR h.next h' bss v r := by
  have hlen : ∀ ty h', evBuiltin T0 .len #[22] ty [v] h' = some (.value (iv bss.length), h') := fun ty h' => hv.len ty
  have hbv : ∀ h, evBuild T0 40 [(3, v)] h = some (.agg (stX SI.zero nilV nilV v).toArray, h) := fun h => build_V hv.sl
  generalize hh1 : h.new (.cells (PM.ofList (stX SI.zero nilV nilV v)) (stX SI.zero nilV nilV v).length 40 0 0 .ex) = h1
  have g1 : Grow h.next h h1 := by rw [← hh1]; exact Grow.new _ _
  have n1 : h1.next = h.next + 1 := by rw [← hh1]; rfl
  have i1 : BoxL h1 h.next 40 (stX SI.zero nilV nilV v) := by rw [← hh1]; exact BoxL.new _ _ _
  have hv1 := hv.grow g1
  by_cases hlt : bss.length < 64
  · refine ⟨.tuple #[.pointer none, .bool false], h1, ?_, g1, .inl ⟨by unfold okO; rw [decide_eq_false (by omega)]; rfl, rfl⟩⟩
    rw [frameB_eq ft7 rfl rfl]
    simp only [Tryz.f7, symM, opFn, Nat.reduceLT, Nat.reduceBEq, symM, hbv, box_V, hh1, hlen, bin_lss, decide_eq_true (show (bss.length : Int) < 64 by omega)]
    exact retB_two ft7 rfl (by simp only [symM, Nat.reduceBEq]) get_same
  have hge : 64 ≤ bss.length := by omega
  have hdl : decide ((bss.length : Int) < 64) = false := decide_eq_false (by omega)
  rw [frameB_eq ft7 rfl rfl]
  simp only [Tryz.f7, symM, opFn, Nat.reduceLT, Nat.reduceBEq, symM, symL, hbv, box_V, hh1, hlen, bin_lss, hdl]
  generalize hX : codeB T0 X0 call _ EVo (.loop _) _ _ _ = X
  obtain ⟨t1, s1⟩ := use_loop (P := fun X => ∃ tm', (X = .jump .ret tm' h1 [] ∧ tm'.get 2 = some (.pointer none) ∧ tm'.get 3 = some (.bool false) ∧ (bss.any fun bs => !len64 bs) = true) ∨ (X = .jump (.exit 0) tm' h1 [] ∧ (bss.any fun bs => !len64 bs) = false ∧ tm'.get 0 = some v ∧ tm'.get 4 = some (pv h.next 0))) hX
    (v1Lp v bss h1 hv1 hl (pv h.next 0) bss 0 _ _ rfl (by simp) (by omega) (by simp only [symM, Nat.reduceBEq]) (by simp only [symM, Nat.reduceBEq]) (by simp only [symM]; rfl))
  clear hX
  rcases s1 with ⟨rfl, m1, m2, hany⟩ | ⟨rfl, hany, t0, t4⟩
  · refine ⟨.tuple #[.pointer none, .bool false], h1, ?_, g1, .inl ⟨by unfold okO; rw [hany, decide_eq_true hge]; rfl, rfl⟩⟩
    simp only [symM, symM]
    exact retB_two ft7 rfl m1 m2
  have h64 : ∀ bs ∈ bss, bs.length = 64 ∧ ∀ x ∈ bs, x < 256 := fun bs hb => ⟨any64 hany bs hb, hbs bs hb⟩
  have hw := hv1.wb fun bs hb => (h64 bs hb).1
  have hx : ∀ i, i < 64 → bss[i]? = some (bss.getD i []) := fun i hi => by
    rw [List.getD_eq_getElem?_getD, List.getElem?_eq_getElem (show i < bss.length by omega)]; rfl
  have hm : ∀ i, i < 64 → (bss.getD i []).length = 64 ∧ ∀ x ∈ bss.getD i [], x < 256 := fun i hi => h64 _ (List.mem_of_getElem? (hx i hi))
  obtain ⟨p0, w0, x0, ep0, y0⟩ := hw.ats (hx 0 (by decide))
  obtain ⟨p1, w1, x1, ep1, y1⟩ := hw.ats (hx 1 (by decide))
  obtain ⟨p2, w2, x2, ep2, y2⟩ := hw.ats (hx 2 (by decide))
  have x0 : evIndexAddr T0 22 v (iv 0) = some p0 := x0
  have x1 : evIndexAddr T0 22 v (iv 1) = some p1 := x1
  have x2 : evIndexAddr T0 22 v (iv 2) = some p2 := x2
  have okE : okO bss = (okDS (bss.getD 0 []) && (decide ((svOf (bss.getD 0 [])).s = bss.length) && (okDH (bss.getD 1 []) && (okSeal (bss.getD 2 []) && allD bss 32 0)))) := by
    unfold okO; rw [hany, decide_eq_true hge]; rfl
  obtain ⟨r2, h2, a1, a2, a3⟩ := hSD _ w0 h1 (hm 0 (by decide)).1 (hm 0 (by decide)).2 (y0 h1 (Grow.refl _ _)).2
  obtain ⟨xs, es, rfl, hes, hxs⟩ := a3.two
  have n2 := a2.next
  have ldw0 := (y0 h1 (Grow.refl _ _)).1
  generalize hh3 : h2.new (.cells (PM.ofList (siL SI.zero)) 5 36 0 0 .ex) = h3
  have g3 : Grow h2.next h2 h3 := by rw [← hh3]; exact Grow.new _ _
  have n3 : h3.next = h2.next + 1 := by rw [← hh3]; rfl
  have b3 : SiB h3 h2.next SI.zero := by rw [← hh3]; exact BoxL.new _ _ _
  obtain ⟨h4, c1, c2, c3⟩ := b3.storeAll xs
  have n4 := c3.next
  have G4 : Grow h1.next h1 h4 := (a2.trans g3 (by omega)).trans (c3.grow (show h1.next ≤ h2.next by omega)) (Nat.le_refl _)
  obtain ⟨r5, h5, d1, d2, d3⟩ := hGH _ w1 h4 (hm 1 (by decide)).1 (hm 1 (by decide)).2 (y1 h4 G4).2
  obtain ⟨ha, hs, eh, rfl, heh⟩ := d3.two
  have n5 := d2.next
  have ldw1 := (y1 h4 G4).1
  generalize hh6 : h5.new (.cells (PM.ofList (hdL 0 0)) 2 73 0 0 .ex) = h6
  have g6 : Grow h5.next h5 h6 := by rw [← hh6]; exact Grow.new _ _
  have n6 : h6.next = h5.next + 1 := by rw [← hh6]; rfl
  have b6 : BoxL h6 h5.next 73 (hdL 0 0) := by rw [← hh6]; exact BoxL.new _ _ _
  obtain ⟨h7, e1, e2, e3⟩ := hd_store ha hs b6
  have n7 := e3.next
  have G47 : Grow h4.next h4 h7 := (d2.trans g6 (by omega)).trans (e3.grow (show h4.next ≤ h5.next by omega)) (Nat.le_refl _)
  have G7 : Grow h1.next h1 h7 := G4.trans G47 (by omega)
  have G7' : Grow h.next h h7 := g1.trans G7 (by omega)
  have i7 := i1.grow G7 (by omega)
  have c7 : SiB h7 h2.next xs := BoxL.grow c2 G47 (by omega)
  have l7 : evLoad T0 3 (pv h2.next 0) h7 = some (iv xs.s) := c7.loads.1
  have ldw2 := (y2 h7 G7).1
  simp only [symM, opFn, Nat.reduceLT, Nat.reduceBEq, symM, symL, t0, x0, ldw0, evCall_fn ft33 rfl, a1, alloc_SiZ, hh3, c1, x1, ldw1, evCall_fn ft34 rfl, d1, alloc_HdZ, hh6, e1, bin_neq, hes]
  have bad : okO bss = false → ∃ r h', retB T0 7 = retB T0 7 ∧ r = Value.tuple #[.pointer none, .bool false] ∧ h' = h7 := fun _ => ⟨_, _, rfl, rfl, rfl⟩
  clear bad
  cases k1 : okDS (bss.getD 0 []) with
  | false =>
    refine ⟨.tuple #[.pointer none, .bool false], h7, ?_, G7', .inl ⟨by rw [okE, k1]; rfl, rfl⟩⟩
    simp only [Bool.not_false, symM, opFn, Nat.reduceLT, Nat.reduceBEq, symM]
    exact retB_two ft7 rfl (by simp only [symM, Nat.reduceBEq]) get_same
  | true =>
  have hxe := hxs k1
  subst hxe
  cases k2 : okDH (bss.getD 1 []) with
  | false =>
    refine ⟨.tuple #[.pointer none, .bool false], h7, ?_, G7', .inl ⟨by rw [okE, k1, k2]; simp, rfl⟩⟩
    simp only [k2, Bool.not_false, Bool.not_true, symM, opFn, Nat.reduceLT, Nat.reduceBEq, symM, bin_neq, heh]
    exact retB_two ft7 rfl (by simp only [symM, Nat.reduceBEq]) get_same
  | true =>
  cases hsz : decide ((svOf (bss.getD 0 [])).s = bss.length) with
  | false =>
    have hsz' : (((svOf (bss.getD 0 [])).si.s) == ((bss.length : Nat) : Int)) = false := by rw [← hsz]; exact int_ne
    refine ⟨.tuple #[.pointer none, .bool false], h7, ?_, G7', .inl ⟨by rw [okE, k1, hsz]; rfl, rfl⟩⟩
    simp only [k2, hsz', Bool.not_false, Bool.not_true, symM, opFn, Nat.reduceLT, Nat.reduceBEq, symM, bin_neq, heh, field_Su0, l7, hlen, t0]
    exact retB_two ft7 rfl (by simp only [symM, Nat.reduceBEq]) get_same
  | true =>
  have hsz' : (((svOf (bss.getD 0 [])).si.s) == ((bss.length : Nat) : Int)) = true := by rw [← hsz]; exact int_ne
  obtain ⟨h8, f1, f2⟩ := hSl _ w2 h7 (hm 2 (by decide)).1 (hm 2 (by decide)).2 (y2 h7 G7).2
  have n8 := f2.next
  have G8 : Grow h1.next h1 h8 := G7.trans f2 (by omega)
  have G8' : Grow h.next h h8 := g1.trans G8 (by omega)
  simp only [k2, hsz', Bool.not_false, Bool.not_true, symM, opFn, Nat.reduceLT, Nat.reduceBEq, symM, bin_neq, heh, field_Su0, l7, hlen, t0, x2, ldw2, evCall_fn ft35 rfl, f1]
  cases k3 : okSeal (bss.getD 2 []) with
  | false =>
    refine ⟨.tuple #[.pointer none, .bool false], h8, ?_, G8', .inl ⟨by rw [okE, hsz, k1, k2, k3]; rfl, rfl⟩⟩
    simp only [Bool.not_false, symM, opFn, Nat.reduceLT, symM]
    exact retB_two ft7 rfl (by simp only [symM, Nat.reduceBEq]) get_same
  | true =>
  have okE2 : okO bss = allD bss 32 0 := by rw [okE, hsz, k1, k2, k3]; rfl
  have c8 : SiB h8 h2.next (svOf (bss.getD 0 [])).si := BoxL.grow c7 f2 (by omega)
  have l8 := c8.loads.2.2.2.2.2
  have i8 := i7.grow f2 (by omega)
  obtain ⟨h9, u1, u2, u3⟩ := vol_sup (x := (svOf (bss.getD 0 [])).si) i8
  have n9 := u3.next
  have G9' : Grow h.next h h9 := G8'.trans (u3.grow (Nat.le_refl _)) (Nat.le_refl _)
  have hw9 : ∀ h', Grow h.next h h' → h1.next ≤ h'.next → True := fun _ _ _ => trivial
  clear hw9
  have hwv : WB h v bss := hv.wb fun bs hb => (h64 bs hb).1
  obtain ⟨p2', w2', z2, ez2, zz2⟩ := hwv.ats (hx 2 (by decide))
  have z2 : evIndexAddr T0 22 v (iv 2) = some p2' := z2
  have hpp : p2' = p2 := Option.some.inj (z2.symm.trans x2)
  subst hpp
  have ldw9 := (zz2 h9 G9').1
  obtain ⟨w3, o1, o2⟩ := (zz2 h9 G9').2.win (lov := none) (hiv := some (iv 60)) (lo := 0) (hh := 60) (.inr ⟨rfl, rfl⟩) (.inl rfl) (by omega) (by rw [(hm 2 (by decide)).1]; decide)
  rw [List.drop_zero, Nat.sub_zero] at o2
  have t60 : ((bss.getD 2 []).take 60).length = 60 := by rw [List.length_take, (hm 2 (by decide)).1]; rfl
  obtain ⟨vu, h10, q1, q2, q3⟩ := hUp _ w3 h9 (fun x hx => (hm 2 (by decide)).2 x (List.mem_of_mem_take hx)) t60 o2.row
  have n10 := q3.next
  have q2c : OwnC 1 h9.next h10 vu 480 (boolsV (bitB ((bss.getD 2 []).take 60)) 0 480) 4 := by have := q2.c; rwa [boolsV_len] at this
  have hsu : SLv vu := by
    rcases q2c with ⟨_, q, _⟩ | ⟨b, c, kd, cap, _, _, rfl, _⟩
    · omega
    · exact ⟨_, _, _, rfl⟩
  have i10 := u2.grow q3 (by omega)
  obtain ⟨h11, r1, r2, r3⟩ := vol_up i10 hsu
  have n11 := r3.next
  have U11 : OwnC 1 h.next h11 vu 480 (boolsV (bitB ((bss.getD 2 []).take 60)) 0 480) 4 := (q2c.one r3 i10.ty (by decide)).less (by omega)
  have G11 : Grow h.next h h11 := (G9'.trans q3 (by omega)).trans (r3.grow (Nat.le_refl _)) (Nat.le_refl _)
  simp only [Bool.not_true, symM, opFn, Nat.reduceLT, Nat.reduceBEq, symM, symL, t0, t4, l8, nil_pv, field_V, u1, x2, ldw9, ev3, evOpt, o1, evCall_fn ft36 rfl, q1, r1]
  generalize hX : codeB T0 X0 call _ EVo (.loop _) _ _ _ = X
  obtain ⟨t2, h12, s1, s8⟩ := use_loop (P := fun X => ∃ tm' h', ((X = .jump .ret tm' h' [] ∧ tm'.get 2 = some (.pointer none) ∧ tm'.get 3 = some (.bool false) ∧ allD bss 32 0 = false) ∨ (X = .jump (.exit 2) tm' h' [] ∧ allD bss 32 0 = true ∧ tm'.get 4 = some (pv h.next 0) ∧ ∃ vn' cs', BoxL h' h.next 40 (stX (svOf (bss.getD 0 [])).si vu vn' v) ∧ OwnC 12 h.next h' vn' 32 cs' 48 ∧ cs'.all oneCell = true ∧ OwnC 1 h.next h' vu 480 (boolsV (bitB ((bss.getD 2 []).take 60)) 0 480) 4)) ∧ Grow h.next h11 h') hX
    (v2Lp hD h.next h.next _ bss hge h64 v vu _ (Nat.le_refl _) h rfl hwv 32 0 nilV [] h11 _ _ (by omega) (by omega) (by omega) G11 r2 (.inl ⟨rfl, rfl, rfl⟩) rfl U11 (by simp only [symM, Nat.reduceBEq, t0]) (by simp only [symM, Nat.reduceBEq, t4]) (by simp only [symM]; rfl))
  clear hX
  have n12 := s8.next
  have G12 := G11.trans s8 (Nat.le_refl _)
  rcases s1 with ⟨rfl, m1, m2, m3⟩ | ⟨rfl, m3, s3, vn, ns, s4, s5, s6, s7⟩
  · refine ⟨.tuple #[.pointer none, .bool false], h12, ?_, G12, .inl ⟨by rw [okE2, m3], rfl⟩⟩
    simp only [symM, symM]
    exact retB_two ft7 rfl m1 m2
  · refine ⟨.tuple #[pv h.next 0, .bool true], h12, ?_, G12, .inr ⟨by rw [okE2, m3], h.next, rfl, Nat.le_refl _, by omega, vu, vn, s4, s7, ns, s5⟩⟩
    simp only [symM, opFn, Nat.reduceLT, symM, symL, s3]
    exact retB_two ft7 rfl (by simp only [symM, Nat.reduceBEq]) get_same
end
end Go.Proofs.YtjdhdhmoedlfdaaGreat.Abs
