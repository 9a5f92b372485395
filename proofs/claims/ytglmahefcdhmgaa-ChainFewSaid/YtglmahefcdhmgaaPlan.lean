
/- One block of a chain. -/
import Derived.Test.YtglmahefcdhmgaaSeq
namespace Go.Proofs.Ytglmahefcdhmgaa.Abs
open Go Go.Proofs
noncomputable section
variable {call call2 : Abs.Callee}
set_option maxRecDepth 10000
def nextF (F : List Nat) (cnt i : Nat) : Nat := if i = 0 then 0 else F.getD (cnt - i) 0
/-- What a round of Plan leaves. -/
structure PB (hS : AH) (b12 b13 : Nat) (lp : Loop) (F : List Nat) (cnt i : Nat) (h : AH) : Prop where
  loop : h.get (hS.next + 1) = some (.loop lp)
  defs : h.get hS.next = some (.defs (some []))
  nxt : hS.next + 2 ≤ h.next
  keep : ∀ k, k < hS.next → k ≠ b12 → k ≠ b13 → h.get k = hS.get k
  rows : ∃ wv, BoxL h b12 38 [wv] ∧ OwnW (hS.next + 2) h wv i ∧ BoxL h b13 3 [iv (nextF F cnt i)]
abbrev NewPageC (call : Abs.Callee) : Prop := ∀ (h : AH), ∃ b p h', call 18 [.string ⟨#[]⟩] h = some (pv b 0, h') ∧ h.next ≤ b ∧ h.next ≤ p ∧ b ≠ p ∧ b < h'.next ∧ p < h'.next ∧ PageB h' b p ∧ Grow h.next h h'
abbrev SetC (call : Abs.Callee) : Prop := ∀ (b p at_ size n n0 : Nat) (lv : Value) (h : AH), b ≠ p → size ≤ 4 → at_ + size ≤ 60 → n < 4294967296 → PageB h b p → Row n0 h lv [iv n] 3 → ∃ h', call 19 [pv b 0, iv at_, iv size, lv] h = some (pv b 0, h') ∧ PageB h' b p ∧ One p h h'
abbrev PSealC (call : Abs.Callee) : Prop := ∀ (b p : Nat) (h : AH), PageB h b p → p < h.next → ∃ q cap h', call 22 [pv b 0] h = some (.slice (some ⟨q, 0, none⟩) 64 cap, h') ∧ h.next ≤ q ∧ q < h'.next ∧ Grow h.next h h'
theorem plan_P15 : planB (regOps Try.f8 [1, 1, 1, 1, 1, 1, 1, 1, 1, 0, 1, 0, 0, 0, 0]) 96 = some ([.one 1, .one 2, .one 5, .eff [] 0 [1, 2, 5], .eff [3] 4 [5], .eff [6] 7 [], .one 8], []) := by kernel_rfl
theorem plan_P22 : planB (regOps Try.f8 [1, 1, 1, 1, 1, 1, 1, 1, 1, 0, 1, 0, 0, 0, 1, 1, 1]) 96 = some ([.one 0, .one 1, .one 2, .eff [] 3 [0, 1], .one 4, .eff [5] 6 [], .eff [] 7 []], []) := by kernel_rfl
theorem WinE.eqv {n : Nat} {h : AH} {v : Value} {xs : List XV} (hw : WinE n h v xs) : eqV v v = true := by
  obtain ⟨b, o, cap, c, m, kd, rfl, _⟩ := hw
  exact eqV_slice
theorem row_int1 (h : AH) (x : Nat) : Row (h.next + 1) (h.new (.cells (PM.ofList [iv x]) 1 3 0 0 .ex)) (.slice (some ⟨h.next, 0, none⟩) 1 1) [iv x] 3 :=
  .inr ⟨h.next, 0, 1, PM.ofList [iv x], 1, 0, 0, .ex, _, rfl, Nat.lt_succ_self _, get_new_same _ _, Nat.le_refl _, fun i y hy => by rw [PM.get_ofList, Nat.zero_add]; exact hy⟩
theorem setPs2_len {E : Env} {tm : PM Value} {p q : Nat} {a b : Code} {bd : Nat} {w u : Value} : (setPs (lpOf E tm #[p, q] a b bd) [w, u]).length = E.size := by
  simp [setPs, lpOf, tmpsOf_len]
theorem setPs2_get {E : Env} {tm : PM Value} {p q k : Nat} {a b : Code} {bd : Nat} {w u v : Value} (hk : k < E.size) (hkp : k ≠ p) (hkq : k ≠ q) (hv : tm.get k = some v) : (PM.ofList (setPs (lpOf E tm #[p, q] a b bd) [w, u])).get k = some v := by
  rw [PM.get_ofList]
  have : setPs (lpOf E tm #[p, q] a b bd) [w, u] = ((tmpsOf E.size tm).set p w).set q u := rfl
  rw [this, List.getElem?_set_ne (Ne.symm hkq), List.getElem?_set_ne (Ne.symm hkp), tmpsOf_get hk hv]
theorem setPs2_fst {E : Env} {tm : PM Value} {p q : Nat} {a b : Code} {bd : Nat} {w u : Value} (hp : p < E.size) (hpq : p ≠ q) : (PM.ofList (setPs (lpOf E tm #[p, q] a b bd) [w, u])).get p = some w := by
  rw [PM.get_ofList]
  have : setPs (lpOf E tm #[p, q] a b bd) [w, u] = ((tmpsOf E.size tm).set p w).set q u := rfl
  rw [this, List.getElem?_set_ne (Ne.symm hpq), List.getElem?_set_self (by rw [tmpsOf_len]; exact hp)]
theorem setPs2_snd {E : Env} {tm : PM Value} {p q : Nat} {a b : Code} {bd : Nat} {w u : Value} (hq : q < E.size) : (PM.ofList (setPs (lpOf E tm #[p, q] a b bd) [w, u])).get q = some u := by
  rw [PM.get_ofList]
  have : setPs (lpOf E tm #[p, q] a b bd) [w, u] = ((tmpsOf E.size tm).set p w).set q u := rfl
  rw [this, List.getElem?_set_self (by rw [List.length_set, tmpsOf_len]; exact hq)]
theorem PreN.keep {h h' : AH} {b cap : Nat} {L : List Nat} (hp : PreN h b cap L) (e : h'.get b = h.get b) : PreN h' b cap L := by
  obtain ⟨c, m, el, h1, h2⟩ := hp
  exact ⟨c, m, el, e.trans h1, h2⟩
theorem BoxL.keep {h h' : AH} {b el : Nat} {l : List Value} (hb : BoxL h b el l) (e : h'.get b = h.get b) : BoxL h' b el l := by
  obtain ⟨c, h1, h2⟩ := hb
  exact ⟨c, e.trans h1, h2⟩
theorem agg_ints : aggT T0 34 = some false := by kernel_rfl
theorem build_W {a q cap : Nat} {h : AH} : evBuild T0 64 [(0, iv a), (1, .slice (some ⟨q, 0, none⟩) 64 cap)] h = some (.agg #[iv a, .slice (some ⟨q, 0, none⟩) 64 cap], h) := by kernel_rfl
abbrev EPn : Env := ⟨8, 96, none⟩
theorem use_exit0 {N : Nat} {E : Env} {b : Code} {tm : PM Value} {h h' : AH} {df : List Nat} {i : Nat} {X : CO} {Q : PM Value → Prop} (hX : codeB T0 X0 call N E (.loop b) tm h df = X)
    (H : ∃ tm', codeB T0 X0 call N E (.loop b) tm h df = .jump (.exit i) tm' h' df ∧ Q tm') : ∃ tm', X = .jump (.exit i) tm' h' df ∧ Q tm' := hX ▸ H
set_option maxHeartbeats 2000000 in
theorem roundPl (hNP : NewPageC call2) (hS : SetC call2) (hT : TextC call2) (hPE : PutExtC call2) (hSl : PSealC call2) (h0 : AH) (b12 b13 bf bfr capf n : Nat) (F : List Nat) (tm : PM Value) (xs : List XV) (hx : ∀ x ∈ xs, okX x) (hL : xs.length ≤ 96) (hF : F.length = cntX xs) (hF2 : ∀ f ∈ F, f < 65536)
    (hn : n ≤ h0.next) (h12 : b12 < h0.next) (h13 : b13 < h0.next) (hf : bf < h0.next) (hfr : bfr < h0.next) (ne1 : b12 ≠ b13) (ne2 : bf ≠ b12) (ne3 : bf ≠ b13) (ne4 : bfr ≠ b12) (ne5 : bfr ≠ b13) (hn12 : n ≤ b12) (hn13 : n ≤ b13)
    (hbf : BoxL h0 bf 34 [preV bfr F.length capf]) (hpre : PreN h0 bfr capf F)
    (t3 : tm.get 3 = some (pv bf 0)) (t12 : tm.get 12 = some (pv b12 0)) (t13 : tm.get 13 = some (pv b13 0)) (i : Nat) (h : AH) (w : Value)
    (hp : PB h0 b12 b13 (lpOf EPn tm #[53, 54] (rngA rangePl) (rngB rangePl) h0.next) F (cntX xs) i h) (hi : i < cntX xs) (hw : WinE n h w (partX xs (cntX xs - 1 - i))) :
    ∃ h', RoundC call2 (h0.next + 1) (lpOf EPn tm #[53, 54] (rngA rangePl) (rngB rangePl) h0.next) [iv ((cntX xs - 1 - i : Nat) : Int), w] h h' ∧ PB h0 b12 b13 (lpOf EPn tm #[53, 54] (rngA rangePl) (rngB rangePl) h0.next) F (cntX xs) (i + 1) h' := by
  obtain ⟨p1, p2, p3, p4, wv, p5, p6, p7⟩ := hp
  generalize hlp : lpOf EPn tm #[53, 54] (rngA rangePl) (rngB rangePl) h0.next = lp at *
  generalize hj : cntX xs - 1 - i = j at *
  generalize hnx : nextF F (cntX xs) i = nx at *
  have hnx2 : nx < 65536 := by
    rw [← hnx]; unfold nextF
    split
    · omega
    · rw [List.getD_eq_getElem?_getD]
      cases hq : F[cntX xs - i]? with
      | none => simp
      | some f => exact hF2 f (List.mem_of_getElem? hq)
  have hpl : (partX xs j).length ≤ 14 ∧ 0 < (partX xs j).length := by
    unfold partX cntX at *
    simp
    omega
  have hrow : RowE n h w (partX xs j) := by
    rcases hw.row with hr | hr
    · exact hr
    · rw [hr] at hpl; simp at hpl
  -- the round begins
  generalize hhB : h.set (h0.next + 1) (.loop { lp with state := .busy }) = hB
  have nB : hB.next = h.next := by rw [← hhB]; rfl
  have gA : Grow (h0.next + 1) h hB := by rw [← hhB]; exact Grow.set h _ (Nat.le_refl _)
  have lB : hB.get (h0.next + 1) = some (.loop { lp with state := .busy }) := by rw [← hhB, AH.get_set, if_pos rfl]
  have o1 : OwnW (h0.next + 2) hB wv i := p6.keep (b := h0.next + 1) (by omega) (by omega) (fun k hk => by rw [← hhB, AH.get_set, if_neg hk])
  have b12B := p5.grow gA (by omega)
  have b13B := p7.grow gA (by omega)
  -- a page
  obtain ⟨b, p, hN, c1, c2, c3, c4, c5, c6, c7, c8⟩ := hNP hB
  have rw1 := row_int1 hN (partX xs j).length
  generalize hh1 : hN.new (.cells (PM.ofList [iv ((partX xs j).length : Nat)]) 1 3 0 0 .ex) = h1 at rw1
  have g1 : Grow hN.next hN h1 := by rw [← hh1]; exact Grow.new _ _
  obtain ⟨h2, d1, d2, d3⟩ := hS b p 0 1 (partX xs j).length _ _ h1 c4 (by omega) (by omega) (by omega) (c7.grow g1 c5 c6) rw1
  have rw2 := row_int1 h2 nx
  generalize hh3 : h2.new (.cells (PM.ofList [iv (nx : Nat)]) 1 3 0 0 .ex) = h3 at rw2
  have g3 : Grow h2.next h2 h3 := by rw [← hh3]; exact Grow.new _ _
  have n12 : hN.next ≤ h2.next := by rw [d3.next]; exact g1.next
  obtain ⟨h5, e1, e2, e3⟩ := hS b p 2 2 nx _ _ h3 c4 (by omega) (by omega) (by omega) (d2.grow g3 (by omega) (by omega)) rw2
  have G1 : Grow hB.next hB h1 := c8.trans g1 c8.next
  have G2 : Grow hB.next hB h2 := G1.trans (d3.grow c3) (Nat.le_refl _)
  have G3 : Grow hB.next hB h3 := G2.trans g3 G2.next
  have G5 : Grow hB.next hB h5 := G3.trans (e3.grow c3) (Nat.le_refl _)
  have n5 := G5.next
  have nN5 : hN.next ≤ h5.next := by rw [e3.next]; have := g3.next; omega
  obtain ⟨h6, x1, x2, x3⟩ := partL hPE hT (h0.next + 1) w (partX xs j) n hB.next b p (pv bf 0) (pv b12 0) (pv b13 0) (iv (j : Nat)) c4 (by omega) c2 c3 (fun x hx' => hx x (by unfold partX at hx'; exact List.mem_of_mem_drop (List.mem_of_mem_take hx'))) hpl.1 (partX xs j) 0 h5 rfl (by simp) (by omega) (by omega) ((hrow.grow gA (by omega)).grow G5 (by omega)) e2 (by omega) (by omega)
  have G6 : Grow hB.next hB h6 := G5.trans x3 (Nat.le_refl _)
  have A6 : Grow (h0.next + 1) h h6 := gA.trans (G6.less (by omega)) (Nat.le_refl _)
  have n6 := G6.next
  have n56 := x3.next
  -- the next block
  obtain ⟨f, hf1⟩ : ∃ f, F[j]? = some f := ⟨_, List.getElem?_eq_getElem (by omega)⟩
  have hf2 := hF2 f (List.mem_of_getElem? hf1)
  have bf6 : BoxL h6 bf 34 [preV bfr F.length capf] := (hbf.keep (p4 bf hf ne2 ne3)).grow A6 (by omega)
  have pre6 : PreN h6 bfr capf F := (hpre.keep (p4 bfr hfr ne4 ne5)).grow A6 (by omega)
  have hr6 := pre6.row (j := F.length) (Nat.le_refl _)
  rw [List.take_length] at hr6
  obtain ⟨pf, i1, i2⟩ := hr6.at und_ints sz_int agg_int (i := j) (x := iv f) (by simp [intsV, hf1])
  have b12_6 := b12B.grow G6 (by omega)
  have b13_6 := b13B.grow G6 (by omega)
  have o6 := o1.grow G6
  obtain ⟨h7, s1, s2, s3, s4⟩ := b13_6.store (n := 0) (t := 3) (ws := [iv f]) (o := 0) (v := iv f) sz_int rfl (by simp) rfl (by simp) (Nat.zero_le _)
  have k7 := evStore_keep s1
  have b12_7 : BoxL h7 b12 38 [wv] := b12_6.keep (k7 _ ne1)
  have s2 : BoxL h7 b13 3 [iv f] := s2
  have o7 : OwnW (h0.next + 2) h7 wv i := o6.keep (b := b13) (by omega) (by omega) k7
  have pg7 : PageB h7 b p := ⟨x2.1.keep (k7 _ (by omega)), by
    obtain ⟨bs, y1, y2, y3⟩ := x2.2
    exact ⟨bs, y1, y2, y3.keep (k7 _ (by omega))⟩⟩
  obtain ⟨q, cap, h8, u1, u2, u3, u4⟩ := hSl b p h7 pg7 (by omega)
  have b12_8 := b12_7.grow u4 (by omega)
  have b13_8 := s2.grow u4 (by omega)
  have o8 := o7.grow u4
  have n8 := u4.next
  have hd1 : oneCell (.slice (some ⟨q, 0, none⟩) 64 cap) = true ∧ (Value.slice (some ⟨q, 0, none⟩) 64 cap).cells.toList = [.slice (some ⟨q, 0, none⟩) 64 cap] := ⟨rfl, rfl⟩
  obtain ⟨v9, h9, a1, a2, a3⟩ := o8.append f hd1 (by unfold cntX at hi; omega) (by omega) 38
  have b12_9 := b12_8.grow a3 (by omega)
  have b13_9 := b13_8.grow a3 (by omega)
  have n9 := a3.next
  obtain ⟨hA, r1, r2, r3, r4⟩ := b12_9.store (n := 0) (t := 38) (ws := [v9]) (o := 0) (v := v9) (by kernel_rfl) a2.one1.2 (by simp) (by simp [a2.one1.1]) (by simp) (Nat.zero_le _)
  have kA := evStore_keep r1
  have r2 : BoxL hA b12 38 [v9] := r2
  have oA : OwnW (h0.next + 2) hA v9 (i + 1) := a2.keep (b := b12) (by omega) (by omega) kA
  have lA : hA.get (h0.next + 1) = some (.loop { lp with state := .busy }) := by
    rw [kA _ (by omega), a3.keep _ (by omega), u4.keep _ (by omega), k7 _ (by omega), G6.keep _ (by omega)]; exact lB
  have keepA : ∀ k, k < h0.next + 1 → k ≠ b12 → k ≠ b13 → hA.get k = h.get k := by
    intro k hk z1 z2
    rw [kA _ z1, a3.keep _ (by omega), u4.keep _ (by omega), k7 _ z2, A6.keep _ hk]
  refine ⟨hA.set (h0.next + 1) (.loop lp), ?_, ?_⟩
  · intro N
    have hlen : (setPs lp [iv (j : Nat), w]).length = 96 := by rw [← hlp]; exact setPs2_len
    have g3' : (PM.ofList (setPs lp [iv (j : Nat), w])).get 3 = some (pv bf 0) := by rw [← hlp]; exact setPs2_get (by decide) (by decide) (by decide) t3
    have g12 : (PM.ofList (setPs lp [iv (j : Nat), w])).get 12 = some (pv b12 0) := by rw [← hlp]; exact setPs2_get (by decide) (by decide) (by decide) t12
    have g13 : (PM.ofList (setPs lp [iv (j : Nat), w])).get 13 = some (pv b13 0) := by rw [← hlp]; exact setPs2_get (by decide) (by decide) (by decide) t13
    have g53 : (PM.ofList (setPs lp [iv (j : Nat), w])).get 53 = some (iv (j : Nat)) := by rw [← hlp]; exact setPs2_fst (by decide) (by decide)
    have g54 : (PM.ofList (setPs lp [iv (j : Nat), w])).get 54 = some w := by rw [← hlp]; exact setPs2_snd (by decide)
    have hfn : lp.fn = 8 := by rw [← hlp]; rfl
    have has : lp.assign = rngA rangePl := by rw [← hlp]; rfl
    have hbo : lp.body = rngB rangePl := by rw [← hlp]; rfl
    have hE : (⟨lp.fn, (setPs lp [iv (j : Nat), w]).length, some (h0.next + 1)⟩ : Env) = ⟨8, 96, some (h0.next + 1)⟩ := by rw [hlen, hfn]
    have hA2 : codeB T0 X0 call2 (N + 200) (EPl (h0.next + 1)) (.code (rngA rangePl)) (PM.ofList (setPs lp [iv (j : Nat), w])) h [] = .fall (((PM.ofList (setPs lp [iv (j : Nat), w])).set 15 (iv (j : Nat))).set 16 w) h [] := by
      generalize PM.ofList (setPs lp [iv (j : Nat), w]) = tm0 at g3' g12 g13 g53 g54
      simp only [rngA, rangePl, part, Try.f8, sub, symM, opFn, Nat.reduceLT, Nat.reduceBEq, symM, g53, g54]
    obtain ⟨tm2, hB2⟩ : ∃ tm2, codeB T0 X0 call2 (N + 200) (EPl (h0.next + 1)) (.code (rngB rangePl)) (((PM.ofList (setPs lp [iv (j : Nat), w])).set 15 (iv (j : Nat))).set 16 w) hB [] = .fall tm2 hA [] := by
      generalize PM.ofList (setPs lp [iv (j : Nat), w]) = tm0 at g3' g12 g13 g53 g54
      have hp15 := plan_P15
      have hp22 := plan_P22
      simp only [regOps, part, Try.f8, sub] at hp15 hp22
      have d1 : call2 19 [pv b 0, iv 0, iv 1, .slice (some ⟨hN.next, 0, none⟩) 1 1] h1 = some (pv b 0, h2) := d1
      have e1 : call2 19 [pv b 0, iv 2, iv 2, .slice (some ⟨h2.next, 0, none⟩) 1 1] h3 = some (pv b 0, h5) := e1
      have lo1 := b13B.load agg_int (i := 0) rfl
      have lo2 := (b13B.grow c8 (by omega)).load agg_int (i := 0) rfl
      have lo3 := (b13B.grow G2 (by omega)).load agg_int (i := 0) rfl
      simp only [rngB, rangePl, part, Try.f8, sub, symM, symM]
      rw [codeB_draw, draw_plan hp15 rfl]
      simp only [drawAll, opFn, Nat.reduceLT, Nat.reduceBEq, hw.len, hw.eqv, lo1, lo2, lo3, g13, evCall_fn ft18 rfl, c1, effE_cons, goAB_some bs_int1, hh1, evCall_fn ft19 rfl, d1, hh3, e1]
      rw [loop_same]
      generalize hX : codeB T0 X0 call2 _ (EPl (h0.next + 1)) (.loop _) _ _ _ = X
      obtain ⟨t6, y0, y1, y2, y3, y4, y5⟩ := use_exit0 hX (x1 _ _ (by omega) (by simp only [symM, Nat.reduceBEq, g3']) (by simp only [symM, Nat.reduceBEq, g12]) (by simp only [symM, Nat.reduceBEq, g13]) (by simp only [symM, Nat.reduceBEq]) (by simp only [symM, Nat.reduceBEq]) (by simp only [symM, Nat.reduceBEq]) (by simp only [symM, Nat.reduceBEq]) (by simp only [symM]; rfl))
      clear hX
      subst y0
      have lo6 := bf6.load agg_ints (i := 0) rfl
      have lo7 := b12_7.load agg_writes (i := 0) rfl
      have lo8 := b12_8.load agg_writes (i := 0) rfl
      have lq7 := s2.load agg_int (i := 0) rfl
      have lq8 := b13_8.load agg_int (i := 0) rfl
      simp only [symM, opFn, Nat.reduceLT, Nat.reduceBEq, symM, symL, y1, y3, y4, lo6, i1, i2, s1]
      rw [codeB_draw, draw_plan hp22 rfl]
      simp only [drawAll, opFn, Nat.reduceBEq, y2, y3, y5, lo7, lo8, lq7, lq8, eqV_own o7, evCall_fn ft22 rfl, u1, effE_cons, build_W, goAB_some (bs_w hd1), a1, r1]
      exact ⟨_, rfl⟩
    refine roundB_eq (h1 := h) (df1 := []) (tm1 := ((PM.ofList (setPs lp [iv (j : Nat), w])).set 15 (iv (j : Nat))).set 16 w) (tm2 := tm2) (df2 := []) (by rw [← hlp]; rfl) (by rw [← hlp]; rfl) ?_ p1 ?_ lA
    · rw [hE, has]; exact hA2
    · rw [hE, hhB, hbo]; exact hB2
  · refine ⟨by rw [AH.get_set, if_pos rfl], ?_, ?_, ?_, v9, r2.set (by omega), ?_, ?_⟩
    · rw [AH.get_set, if_neg (by omega), keepA _ (by omega) (by omega) (by omega)]; exact p2
    · show h0.next + 2 ≤ hA.next
      omega
    · intro k hk z1 z2
      rw [AH.get_set, if_neg (by omega), keepA _ (by omega) z1 z2]
      exact p4 k hk z1 z2
    · exact oA.keep (b := h0.next + 1) (by omega) (Nat.le_refl _) (fun k hk => by rw [AH.get_set, if_neg hk])
    · have hnf : nextF F (cntX xs) (i + 1) = f := by
        unfold nextF
        rw [if_neg (by omega), show cntX xs - (i + 1) = j by omega, List.getD_eq_getElem?_getD, hf1]; rfl
      rw [hnf]
      refine BoxL.set ?_ (by omega)
      exact (b13_9).keep (kA _ (by omega))
end
end Go.Proofs.Ytglmahefcdhmgaa.Abs
namespace Go.Proofs.Ytglmahefcdhmgaa.Abs
open Go Go.Proofs
noncomputable section
theorem ft4 : T0.ft.get 4 = some Try.f4 := by kernel_rfl
theorem ft6 : T0.ft.get 6 = some Try.f6 := by kernel_rfl
def awS : Sums := addS 6 trueT noSums
abbrev C (d : Nat) : Abs.Callee := callB T0 X0 awS 3000 d
theorem C_f {f : Nat} (hf : Nat.beq f 6 = false) (d : Nat) (args : List Value) (h : AH) : C (d + 1) f args h = frameB T0 X0 (C d) 3000 f args h := by
  have hn : awS f = none := by unfold awS addS; rw [hf]; rfl
  show (match awS f with
    | some g => (match g args h with
      | some r => some r
      | none => frameB T0 X0 (C d) 3000 f args h)
    | none => frameB T0 X0 (C d) 3000 f args h) = _
  rw [hn]
theorem C_aw (d : Nat) (hd : 1 ≤ d) (h : AH) : C d 6 [] h = some (.bool true, h) := by
  obtain ⟨e, rfl⟩ : ∃ e, d = e + 1 := ⟨d - 1, by omega⟩
  rfl
theorem at1 {d k : Nat} (h : k + 1 ≤ d) : ∃ e, d = e + 1 ∧ k ≤ e := ⟨d - 1, by omega, by omega⟩
set_option maxRecDepth 10000
theorem s_Abs (d : Nat) (hd : 1 ≤ d) (x : Nat) (h : AH) (hx : zok x = true) : C d 62 [fl x] h = some (fl x, h) := by
  obtain ⟨e, rfl, _⟩ := at1 hd
  rw [C_f rfl]; exact Abs_S x hx h
theorem s_Trunc (d : Nat) (hd : 1 ≤ d) (x : Int) (h : AH) (hx : zok x = true) : C d 63 [fl x] h = some (fl x, h) := by
  obtain ⟨e, rfl, _⟩ := at1 hd
  rw [C_f rfl]; exact Trunc_S x hx h
theorem s_whole (d : Nat) (hd : 2 ≤ d) (x : Nat) (h : AH) (hx : x ≤ 1048576) : C d 58 [fl x] h = some (.bool true, h) := by
  obtain ⟨e, rfl, he⟩ := at1 hd
  rw [C_f rfl]; exact whole_S (s_Abs e he) (s_Trunc e he) x hx h
theorem s_Whole (d : Nat) (hd : 3 ≤ d) (x y : Nat) (h : AH) (hx : x ≤ 1048576) (hy : y ≤ 1048576) : C d 56 [cx x y] h = some (.bool true, h) := by
  obtain ⟨e, rfl, he⟩ := at1 hd
  rw [C_f rfl]; exact Whole_S (s_whole e he) x y hx hy h
theorem s_RSound (d : Nat) (hd : 4 ≤ d) (x y : Nat) (h : AH) (hx : x ≤ 1048576) (hy : y ≤ 1048576) : C d 48 [cx x y] h = some (.bool (runOK x y), h) := by
  obtain ⟨e, rfl, he⟩ := at1 hd
  rw [C_f rfl]; exact Sound_S (s_Whole e he) x y hx hy h
theorem s_parts (d : Nat) (hd : 1 ≤ d) (x y : Nat) (h : AH) (hx : x ≤ 1048576) (hy : y ≤ 1048576) : C d 49 [cx x y] h = some (.tuple #[iv x, iv y], h) := by
  obtain ⟨e, rfl, he⟩ := at1 hd
  rw [C_f rfl]; exact parts_S x y hx hy h
theorem s_Parts (d : Nat) (hd : 5 ≤ d) (x y : Nat) (h : AH) (hx : x ≤ 1048576) (hy : y ≤ 1048576) : C d 30 [cx x y] h = some (partsV x y, h) := by
  obtain ⟨e, rfl, he⟩ := at1 hd
  rw [C_f rfl]; exact Parts_S (s_RSound e he) (s_parts e (by omega)) x y hx hy h
theorem s_make1 (d : Nat) (hd : 1 ≤ d) (x y : Int) (h : AH) (hx : zok x = true) (hy : zok y = true) : C d 51 [iv x, iv y] h = some (make1V x y, h) := by
  obtain ⟨e, rfl, he⟩ := at1 hd
  rw [C_f rfl]; exact make1_S x y hx hy h
theorem s_Meet (d : Nat) (hd : 5 ≤ d) (r x : XV) (h : AH) (hr : runOK r.x r.y = true) (hx : runOK x.x x.y = true) :
    ∃ a b : Int, C d 33 [cx r.x r.y, cx x.x x.y] h = some (make1V a b, h) ∧ zok a = true ∧ zok b = true ∧ decide (0 < b) = meetX r x := by
  obtain ⟨e, rfl, he⟩ := at1 hd
  rw [C_f rfl]; exact Meet_S (s_RSound e he) (s_parts e (by omega)) (s_make1 e (by omega)) r x hr hx h
theorem s_Ext1 (d : Nat) (hd : 6 ≤ d) (r x : XV) (hr : runOK r.x r.y = true) (hx : runOK x.x x.y = true) (b : Nat) (h : AH) (hb : BoxL h b 33 [iv x.a, cx x.x x.y]) :
    C d 32 [cx r.x r.y, pv b 0] h = some (.bool (meetX r x), h) := by
  obtain ⟨e, rfl, he⟩ := at1 hd
  rw [C_f rfl]; exact Ext1_S (s_Meet e he) r x hr hx b h hb
def meetP (x : XV) : Value → Bool
  | .complex .f64 a b => (match dz a, dz b with
    | some u, some w => decide (u < x.x + x.y ∧ (x.x : Int) < u + w)
    | _, _ => false)
  | _ => false
theorem meetP_cx (r x : XV) (hr : runOK r.x r.y = true) : meetP x (cx r.x r.y) = meetX r x := by
  have hr2 : 1 ≤ r.y ∧ r.x + r.y ≤ 480 := by simpa [runOK] using hr
  unfold meetP meetX
  simp only [dz_zd (zok_k (x := (r.x : Int)) (by omega)), dz_zd (zok_k (x := (r.y : Int)) (by omega))]
  rw [Bool.eq_iff_iff]
  simp only [decide_eq_true_eq]
  omega
theorem s_IndexE (d : Nat) (hd : 7 ≤ d) (v : Value) (prev : List XV) (x : XV) (n0 : Nat) (h : AH) (b : Nat) (hv : Row n0 h v (runsV prev) 30) (hl : prev.length < 200) (hb : BoxL h b 33 [iv x.a, cx x.x x.y]) (hp : ∀ r ∈ prev, runOK r.x r.y = true) (hx : runOK x.x x.y = true) :
    C d 50 [v, .func (.func 32) #[] #[pv b 0]] h = some (iv (idxF (meetP x) (runsV prev) 0), h) := by
  obtain ⟨e, rfl, he⟩ := at1 hd
  rw [C_f rfl]
  refine Index_S v (runsV prev) n0 h 32 [pv b 0] _ _ ft32 rfl (meetP x) hv (by simp [runsV]; omega) (fun y hy => ?_)
  simp only [runsV, List.mem_map] at hy
  obtain ⟨r, hr, rfl⟩ := hy
  rw [s_Ext1 e he r x (hp r hr) hx b h hb, meetP_cx r x (hp r hr)]
theorem s_ContE (d : Nat) (hd : 8 ≤ d) (v : Value) (prev : List XV) (x : XV) (n0 : Nat) (h : AH) (b : Nat) (hv : Row n0 h v (runsV prev) 30) (hl : prev.length < 200) (hb : BoxL h b 33 [iv x.a, cx x.x x.y]) (hp : ∀ r ∈ prev, runOK r.x r.y = true) (hx : runOK x.x x.y = true) :
    C d 31 [v, .func (.func 32) #[] #[pv b 0]] h = some (.bool (prev.any fun r => meetX r x), h) := by
  obtain ⟨e, rfl, he⟩ := at1 hd
  rw [C_f rfl, Contains_S v _ (runsV prev) (meetP x) h (s_IndexE e he v prev x n0 h b hv hl hb hp hx)]
  congr 3
  unfold runsV
  rw [List.any_map]
  rw [Bool.eq_iff_iff]
  simp only [List.any_eq_true, Function.comp_apply]
  exact ⟨fun ⟨r, h1, h2⟩ => ⟨r, h1, by rwa [meetP_cx r x (hp r h1)] at h2⟩, fun ⟨r, h1, h2⟩ => ⟨r, h1, by rwa [meetP_cx r x (hp r h1)]⟩⟩
theorem s_Extents (d : Nat) (hd : 9 ≤ d) (v : Value) (xs : List XV) (n0 : Nat) (h : AH) (hn : n0 ≤ h.next) (hx : ∀ x ∈ xs, okX x) (hL : xs.length ≤ 96) (hv : RowE n0 h v xs) : ∃ h', C d 10 [v] h = some (.bool (extG 0 (-1) [] xs), h') ∧ Grow h.next h h' := by
  obtain ⟨e, rfl, he⟩ := at1 hd
  rw [C_f rfl]; exact Extents_S (s_Parts e (by omega)) (s_ContE e he) v xs n0 h hn hx hL hv
theorem s_mod (d : Nat) (hd : 1 ≤ d) (z : Int) (h : AH) (h1 : -65521 < z) (h2 : z < 1000000) : C d 69 [fl z] h = some (fl (z % 65521), h) := by
  obtain ⟨e, rfl, he⟩ := at1 hd
  rw [C_f rfl]; exact mod_S z h1 h2 h
theorem s_reduce (d : Nat) (hd : 2 ≤ d) (x y : Int) (h : AH) (hx1 : -65521 < x) (hx2 : x < 1000000) (hy1 : -65521 < y) (hy2 : y < 1000000) : C d 64 [cx x y] h = some (cx (x % 65521) (y % 65521), h) := by
  obtain ⟨e, rfl, he⟩ := at1 hd
  rw [C_f rfl]; exact reduce_S (s_mod e he) x y hx1 hx2 hy1 hy2 h
theorem s_step (d : Nat) (hd : 3 ≤ d) (s : Nat × Nat) (x : Nat) (h : AH) (h1 : s.1 < 65521) (h2 : s.2 < 65521) (hx : x < 256) : C d 60 [cx s.1 s.2, .int .u8 x] h = some (cx (spinStep s x).1 (spinStep s x).2, h) := by
  obtain ⟨e, rfl, he⟩ := at1 hd
  rw [C_f rfl]; exact step_S (s_reduce e he) s x h1 h2 hx h
theorem s_sum (d : Nat) (hd : 1 ≤ d) (s : Nat × Nat) (h : AH) (h1 : s.1 < 65521) (h2 : s.2 < 65521) : C d 61 [cx s.1 s.2] h = some (wv (spinU s), h) := by
  obtain ⟨e, rfl, he⟩ := at1 hd
  rw [C_f rfl]; exact sum_S s h1 h2 h
theorem s_from (d : Nat) (hd : 3 ≤ d) (h : AH) : C d 59 [wv 65536] h = some (cx ((1 : Nat) : Int) ((0 : Nat) : Int), h) := by
  obtain ⟨e, rfl, he⟩ := at1 hd
  rw [C_f rfl]; exact from_S (s_reduce e he) h
theorem s_More (d : Nat) (hd : 4 ≤ d) (bs : List Nat) (v : Value) (h : AH) (hbs : ∀ x ∈ bs, x < 256) (hl : bs.length ≤ 1000) (hv : Row h.next h v (bytesV bs) 5) : C d 57 [wv 65536, v] h = some (wv (spinU (spinN bs)), h) := by
  obtain ⟨e, rfl, he⟩ := at1 hd
  rw [C_f rfl]; exact More_S (s_from e he) (s_step e he) (s_sum e (by omega)) bs hbs hl v _ h hv
theorem s_Sum (d : Nat) (hd : 5 ≤ d) (bs : List Nat) (v : Value) (h : AH) (hbs : ∀ x ∈ bs, x < 256) (hl : bs.length ≤ 1000) (hv : Row h.next h v (bytesV bs) 5) : C d 54 [v] h = some (wv (spinU (spinN bs)), h) := by
  obtain ⟨e, rfl, he⟩ := at1 hd
  rw [C_f rfl]; exact Sum_S (s_More e he) bs hbs hl v h hv
theorem s_PutExt (d : Nat) (hd : 1 ≤ d) (x : XV) (h : AH) (hx : okX x) : ∃ v' h', C d 21 [extV x] h = some (v', h') ∧ Own h.next h' v' (bytesV (encX x)) 5 ∧ Grow h.next h h' := by
  obtain ⟨e, rfl, he⟩ := at1 hd
  rw [C_f rfl]; exact PutExt_S x hx h
theorem s_Data (d : Nat) (hd : 1 ≤ d) (n : Nat) (h : AH) : C d 27 [iv n] h = some (.bool (dataN n), h) := by
  obtain ⟨e, rfl, he⟩ := at1 hd
  rw [C_f rfl]; exact Data_S n h
theorem s_Need (d : Nat) (hd : 1 ≤ d) (k : Nat) (h : AH) (hk : k ≤ 96) : C d 5 [iv k] h = some (.tuple #[iv (needK k), iv 0], h) := by
  obtain ⟨e, rfl, he⟩ := at1 hd
  rw [C_f rfl]; exact Need_S k hk h
theorem s_in1 (d : Nat) (hd : 6 ≤ d) (x : XV) (q b : Nat) (h : AH) (hx : runOK x.x x.y = true) (hq : q < 480) (hlt : b < h.next) (hb : BoxL h b 3 [iv q]) : ∃ h', C d 35 [extV x, pv b 0] h = some (.bool (meetX x ⟨0, q, 1⟩), h') ∧ Grow h.next h h' := by
  obtain ⟨e, rfl, he⟩ := at1 hd
  rw [C_f rfl]; exact in1_S (s_Meet e he) x hx q hq b h hlt hb
theorem s_ContX (d : Nat) (hd : 8 ≤ d) (v : Value) (xs : List XV) (q b n0 : Nat) (h : AH) (hv : RowE n0 h v xs) (hn : n0 ≤ h.next) (hl : xs.length < 900) (hx : ∀ x ∈ xs, runOK x.x x.y = true) (hq : q < 480) (hlt : b < h.next) (hb : BoxL h b 3 [iv q]) :
    ∃ h', C d 34 [v, .func (.func 35) #[] #[pv b 0]] h = some (.bool (xs.any fun x => meetX x ⟨0, q, 1⟩), h') ∧ Grow h.next h h' := by
  obtain ⟨e, rfl, he⟩ := at1 hd
  obtain ⟨e, rfl, he⟩ := at1 he
  obtain ⟨h', c1, c2⟩ : ∃ h', C (e + 1) 52 [v, .func (.func 35) #[] #[pv b 0]] h = some (iv (idxX (fun x => meetX x ⟨0, q, 1⟩) xs 0), h') ∧ Grow h.next h h' := by
    rw [C_f rfl]
    exact IndexE_S v xs n0 h 35 [pv b 0] _ _ ft35 rfl _ hv hn hl (fun x hm h1 g => s_in1 e (by omega) x q b h1 (hx x hm) hq (Nat.lt_of_lt_of_le hlt g.next) (hb.grow g hlt))
  refine ⟨h', ?_, c2⟩
  rw [C_f rfl]
  exact ContainsE_S v _ xs _ h h' c1
theorem s_in (d : Nat) (hd : 9 ≤ d) (v : Value) (xs : List XV) (q n0 : Nat) (h : AH) (hv : RowE n0 h v xs) (hn : n0 ≤ h.next) (hl : xs.length < 900) (hx : ∀ x ∈ xs, runOK x.x x.y = true) (hq : q < 480) :
    ∃ h', C d 13 [v, iv q] h = some (.bool (xs.any fun x => meetX x ⟨0, q, 1⟩), h') ∧ Grow h.next h h' := by
  obtain ⟨e, rfl, he⟩ := at1 hd
  rw [C_f rfl]; exact in_S (s_ContX e he) v xs q n0 h hv hn hl hx hq
theorem s_Plan1 (d : Nat) (hd : 10 ≤ d) (v : Value) (xs : List XV) (q b n0 : Nat) (h : AH) (hv : RowE n0 h v xs) (hn : n0 ≤ h.next) (hl : xs.length < 900) (hx : ∀ x ∈ xs, runOK x.x x.y = true) (hq : q < 480) (hb : BoxL h b 29 [v]) :
    ∃ h', C d 12 [iv q, pv b 0] h = some (.bool (xs.any fun x => meetX x ⟨0, q, 1⟩), h') ∧ Grow h.next h h' := by
  obtain ⟨e, rfl, he⟩ := at1 hd
  rw [C_f rfl]; exact Plan1_S (s_in e he) v xs q b n0 h hv hn hl hx hq hb
theorem s_IndexN (d : Nat) (hd : 1 ≤ d) (s : Value) (L : List Nat) (q n0 : Nat) (h : AH) (hs : Row n0 h s (intsV L) 3) (hL : L.length < 900) : C d 46 [s, iv q] h = some (iv (idxN q L 0), h) := by
  obtain ⟨e, rfl, he⟩ := at1 hd
  rw [C_f rfl]; exact IndexN_S s L q n0 h hs hL
theorem s_ContN (d : Nat) (hd : 2 ≤ d) (s : Value) (L : List Nat) (q n0 : Nat) (h : AH) (hs : Row n0 h s (intsV L) 3) (hL : L.length < 900) : C d 26 [s, iv q] h = some (.bool (L.any fun x => decide (q = x)), h) := by
  obtain ⟨e, rfl, he⟩ := at1 hd
  rw [C_f rfl]; exact ContainsN_S (s_IndexN e he) s L q n0 h hs hL
theorem s_CloneE (d : Nat) (hd : 1 ≤ d) (v : Value) (xs : List XV) (n0 : Nat) (h : AH) (hw : WinE n0 h v xs) (hn : n0 ≤ h.next) (hl : xs.length < 1000) : ∃ v' h', C d 14 [v] h = some (v', h') ∧ OwnE h.next h' v' xs ∧ Grow h.next h h' := by
  obtain ⟨e, rfl, he⟩ := at1 hd
  rw [C_f rfl]; exact CloneE_S v xs n0 h hw hn hl
theorem s_Chunk (d : Nat) (hd : 1 ≤ d) (v : Value) (n : Nat) (xs : List XV) (h : AH) (hw : WinE n h v xs) :
    ∃ h', C d 16 [v, iv 14] h = some (.func (.func 37) #[] #[pv h.next 0, pv (h.next + 1) 0], h') ∧ h'.next = h.next + 2 ∧ BoxL h' h.next 29 [v] ∧ BoxL h' (h.next + 1) 3 [iv 14] ∧ Grow h.next h h' := by
  obtain ⟨e, rfl, he⟩ := at1 hd
  rw [C_f rfl]; exact Chunk_S v n xs h hw
theorem s_Chunk1 (d : Nat) : Chunk1C (C (d + 1)) (C d) := by
  intro P l lp b1 b2 n v xs h hps hL hP hR h0
  rw [C_f rfl]; exact Chunk1_S P l lp b1 b2 n v xs hps hL hP hR h h0
theorem s_Collect (d : Nat) (hd : 3 ≤ d) (b1 b2 n : Nat) (v : Value) (xs : List XV) (h0 : AH) (hL : xs.length ≤ 96) (hb1 : BoxL h0 b1 29 [v]) (hb2 : BoxL h0 b2 3 [iv 14]) (l1 : b1 < h0.next) (l2 : b2 < h0.next) (hw : WinE n h0 v xs) (hn : n ≤ h0.next) :
    ∃ s ws h', C d 15 [.func (.func 37) #[] #[pv b1 0, pv b2 0]] h0 = some (s, h') ∧ Own h0.next h' s ws 29 ∧ ws.length = cntX xs ∧ Parts n h' xs ws ∧ Grow h0.next h0 h' := by
  obtain ⟨e1, rfl, he1⟩ := at1 hd
  obtain ⟨e2, rfl, he2⟩ := at1 he1
  obtain ⟨e, rfl, _⟩ := at1 he2
  obtain ⟨s, ws, h', c1, c2⟩ : ∃ s ws h', C (e + 1 + 1) 36 [nilV, .func (.func 37) #[] #[pv b1 0, pv b2 0]] h0 = some (s, h') ∧ Own h0.next h' s ws 29 ∧ ws.length = cntX xs ∧ Parts n h' xs ws ∧ Grow h0.next h0 h' := by
    rw [C_f rfl]; exact AppSeq_S (s_Chunk1 e) b1 b2 n v xs h0 hL hb1 hb2 l1 l2 hw hn
  refine ⟨s, ws, h', ?_, c2⟩
  rw [C_f rfl]; exact Collect_S s _ h0 h' c1
theorem s_Back (d : Nat) (hd : 1 ≤ d) (s : Value) (n : Nat) (ws : List Value) (h : AH) (hs : Own n h s ws 29) :
    ∃ h', C d 17 [s] h = some (.func (.func 38) #[] #[pv h.next 0], h') ∧ h'.next = h.next + 1 ∧ BoxL h' h.next 48 [s] ∧ Grow h.next h h' := by
  obtain ⟨e, rfl, he⟩ := at1 hd
  rw [C_f rfl]; exact Back_S s n ws h hs
theorem s_Back1 (d : Nat) (P : Nat → AH → Prop) (l : Nat) (lp : Loop) (b1 n : Nat) (s : Value) (ws : List Value) (hps : lp.params.size = 2) (hL : ws.length ≤ 96)
    (hP : ∀ i h, P i h → h.get l = some (.loop lp) ∧ BoxL h b1 48 [s] ∧ Row n h s ws 29)
    (hR : ∀ i h w, P i h → i < ws.length → ws[ws.length - 1 - i]? = some w → ∃ h', RoundC (C d) l lp [iv ((ws.length - 1 - i : Nat) : Int), w] h h' ∧ P (i + 1) h') (h : AH) (h0 : P 0 h) :
    ∃ h', C (d + 1) 38 [yieldV l, pv b1 0] h = some (.tuple #[], h') ∧ P ws.length h' := by
  rw [C_f rfl]; exact Back1_S P l lp b1 n s ws hps hL hP hR h h0
theorem s_put (d : Nat) (hd : 1 ≤ d) : PutC (C d) := by
  intro P n p o l cap h hl hst hP
  obtain ⟨e, rfl, he⟩ := at1 hd
  rw [C_f rfl]; exact putG_S P n p o l cap hl hst h hP
theorem s_NewPage (d : Nat) (hd : 1 ≤ d) : NewPageC (C d) := by
  intro h
  obtain ⟨e, rfl, he⟩ := at1 hd
  rw [C_f rfl]; exact NewPage_S h
theorem s_Set (d : Nat) (hd : 2 ≤ d) : SetC (C d) := by
  intro b p at_ size n n0 lv h hbp hs ha hn hpg hl
  obtain ⟨e, rfl, he⟩ := at1 hd
  rw [C_f rfl]
  refine Set_S (fun n p o l cap h hl hol hb => ?_) b p at_ size n n0 lv h hbp hs ha hn hpg hl
  exact s_put e he (fun h => Blk h p) n p o l cap h hl (fun h i x hb hi hx => by
    have := hb.store (i := o + i * 1) (x := x) (by omega) hx
    exact this) hb
theorem s_Text (d : Nat) (hd : 1 ≤ d) : TextC (C d) := by
  intro b p at_ bs h hbp h4 h256 ha hpg
  obtain ⟨e, rfl, he⟩ := at1 hd
  rw [C_f rfl]; exact Text_S b p at_ bs h hbp h4 h256 ha hpg
theorem s_BClone (d : Nat) (hd : 1 ≤ d) (p : Nat) (bs : List Nat) (h : AH) (hl : bs.length = 64) (hb : BoxL h p 5 (bytesV bs)) (hp : p < h.next) : ∃ v' h', C d 53 [.slice (some ⟨p, 0, none⟩) 64 64] h = some (v', h') ∧ Own h.next h' v' (bytesV bs) 5 ∧ Grow h.next h h' := by
  obtain ⟨e, rfl, he⟩ := at1 hd
  rw [C_f rfl]; exact BClone_S p 0 bs h hl hb hp
theorem s_Seal (d : Nat) (hd : 6 ≤ d) (p : Nat) (h : AH) (hb : Blk h p) (hp : p < h.next) : ∃ q cap h', C d 40 [.slice (some ⟨p, 0, none⟩) 64 64] h = some (.tuple #[.slice (some ⟨q, 0, none⟩) 64 cap, iv 0], h') ∧ h.next ≤ q ∧ q < h'.next ∧ Grow h.next h h' := by
  obtain ⟨e, rfl, he⟩ := at1 hd
  rw [C_f rfl]; exact Seal_S (s_BClone e (by omega)) (s_Sum e he) (s_put e (by omega)) p h hb hp
theorem s_PSeal (d : Nat) (hd : 7 ≤ d) : PSealC (C d) := by
  intro b p h hpg hp
  obtain ⟨e, rfl, he⟩ := at1 hd
  rw [C_f rfl]; exact PSeal_S (s_Seal e he) b p h hpg hp
theorem s_Rev (d : Nat) (hd : 1 ≤ d) (v : Value) (K n : Nat) (h : AH) (hK : K ≤ 90) (hn : n ≤ h.next) (ho : OwnW n h v K) : ∃ h', C d 23 [v] h = some (.tuple #[], h') ∧ OwnW n h' v K ∧ Grow n h h' := by
  obtain ⟨e, rfl, he⟩ := at1 hd
  rw [C_f rfl]; exact Rev_S v K n h hK hn ho
theorem s_FreshOK (d : Nat) (hd : 12 ≤ d) (v : Value) (xs : List XV) (bl n0 : Nat) (b cap : Nat) (L : List Nat) (h : AH) (hv : RowE n0 h v xs) (hn0 : n0 ≤ h.next) (hl : xs.length < 900) (hx : ∀ x ∈ xs, runOK x.x x.y = true) (hbl : BoxL h bl 29 [v]) (hbl2 : bl < h.next)
    (hp : PreN h b cap L) (hb : b < h.next) (hL : L.length < 100) (hd2 : ∀ x ∈ L, dataN x = true) (hnd : ∀ i x, L[i]? = some x → ((L.take i).any fun y => decide (x = y)) = false) (hm : ∀ q ∈ L, (xs.any fun x => meetX x ⟨0, q, 1⟩) = false) :
    ∃ h', C d 11 [preV b L.length cap, iv L.length, .func (.func 12) #[] #[pv bl 0]] h = some (iv 0, h') ∧ Grow h.next h h' := by
  obtain ⟨e, rfl, he⟩ := at1 hd
  rw [C_f rfl]
  refine Fresh_S (s_Data e (by omega)) (s_ContN e (by omega)) b cap L h hp hb hL 12 [pv bl 0] _ _ ft12 rfl hd2 hnd (fun q hq h1 g => ?_)
  have hq480 : q < 480 := by
    have := hd2 q hq
    unfold dataN at this
    simp at this; omega
  obtain ⟨h', c1, c2⟩ := s_Plan1 e (by omega) v xs q bl n0 h1 (hv.grow g hn0) (Nat.le_trans hn0 g.next) hl hx hq480 (hbl.grow g hbl2)
  rw [hm q hq] at c1
  exact ⟨h', c1, c2⟩
theorem s_FreshFew (d : Nat) (hd : 1 ≤ d) (b cap l m : Nat) (h : AH) (f : Value) (hlm : l < m) : C d 11 [preV b l cap, iv m, f] h = some (iv 6, h) := by
  obtain ⟨e, rfl, he⟩ := at1 hd
  rw [C_f rfl]; exact Fresh_few b cap l m h f hlm
end
end Go.Proofs.Ytglmahefcdhmgaa.Abs
namespace Go.Proofs.Ytglmahefcdhmgaa.Abs
open Go Go.Proofs
noncomputable section
set_option maxRecDepth 10000
theorem alloc_ws {h : AH} : evAlloc T0 38 h = some (pv h.next 0, h.new (.cells (PM.ofList [nilV]) 1 38 0 0 .ex)) := by
  unfold evAlloc
  rw [show zeroOf T0 38 = some nilV from by kernel_rfl]
  rfl
theorem alloc_int {h : AH} : evAlloc T0 3 h = some (pv h.next 0, h.new (.cells (PM.ofList [iv 0]) 1 3 0 0 .ex)) := by
  unfold evAlloc
  rw [show zeroOf T0 3 = some (iv 0) from by kernel_rfl]
  rfl
theorem build_N17 {b k cap : Nat} {h : AH} : evBuild T0 37 [(1, iv 2), (7, .slice (some ⟨b, 0, none⟩) k cap)] h = some (nodeV ⟨0, 2, 0, 0, 0, 0, 0, 0, 0, 0, 0⟩ (.slice (some ⟨b, 0, none⟩) k cap), h) := by kernel_rfl
theorem build_N17n {h : AH} : evBuild T0 37 [(1, iv 2), (7, nilV)] h = some (nodeV ⟨0, 2, 0, 0, 0, 0, 0, 0, 0, 0, 0⟩ nilV, h) := by kernel_rfl
theorem OwnE.buildN {n : Nat} {h h' : AH} {v : Value} {xs : List XV} (ho : OwnE n h v xs) : evBuild T0 37 [(1, iv 2), (7, v)] h' = some (nodeV ⟨0, 2, 0, 0, 0, 0, 0, 0, 0, 0, 0⟩ v, h') := by
  rcases ho with ⟨rfl, _⟩ | ⟨b, c, kd, cap, _, _, rfl, _⟩
  · exact build_N17n
  · exact build_N17
theorem OwnE.len {n : Nat} {h h' : AH} {v : Value} {xs : List XV} {ty : TypeId} (ho : OwnE n h v xs) : evBuiltin T0 .len #[29] ty [v] h' = some (.value (iv (xs.length : Nat)), h') := ho.row.len
theorem Own.rowK {m : Nat} {h0 h : AH} {v : Value} {l : List Value} {e : TypeId} (ho : Own m h0 v l e) (hk : ∀ k, m ≤ k → k < h0.next → h.get k = h0.get k) : Row h0.next h v l e := by
  rcases ho with h1 | ⟨b, c, kd, cap, q1, h2, h3, h4, h5, _⟩
  · exact .inl h1
  · exact .inr ⟨b, 0, cap, c, l.length, 0, 0, kd, e, h3, h2, (hk b q1 h2).trans h4, by omega, fun i x hi => by rw [Nat.zero_add]; exact h5 i x hi⟩
theorem WinE.keepK {n : Nat} {h0 h : AH} {v : Value} {xs : List XV} (hw : WinE n h0 v xs) (hk : ∀ k, k < n → h.get k = h0.get k) : WinE n h v xs := by
  obtain ⟨b, o, cap, c, m, kd, h1, h2, h3, h4⟩ := hw
  exact ⟨b, o, cap, c, m, kd, h1, h2, (hk b h2).trans h3, h4⟩
theorem plan_P25 : planB (regOps Try.f8 [1, 1, 1, 1, 1, 1, 1, 1, 1, 1, 1, 1, 0]) 96 = some ([.one 0, .one 1, .eff [] 2 [1], .one 3, .one 4], []) := by kernel_rfl
set_option maxHeartbeats 4000000 in
theorem s_Plan (d : Nat) (hd : 15 ≤ d) (v : Value) (xs : List XV) (n bfr capf : Nat) (F : List Nat) (h : AH) (hr : RowE n h v xs) (hw : WinE n h v xs) (hn : n ≤ h.next) (hx : ∀ x ∈ xs, okX x) (hrun : ∀ x ∈ xs, runOK x.x x.y = true) (hL : xs.length ≤ 96) (hext : extG 0 (-1) [] xs = true)
    (hp : PreN h bfr capf F) (hb : bfr < h.next) (hF : F.length = needK xs.length) (hd2 : ∀ f ∈ F, dataN f = true) (hnd : ∀ i x, F[i]? = some x → ((F.take i).any fun y => decide (x = y)) = false) (hm : ∀ q ∈ F, (xs.any fun x => meetX x ⟨0, q, 1⟩) = false) :
    ∃ e wv h', C d 8 [v, preV bfr F.length capf] h = some (.tuple #[nodeV ⟨0, 2, 0, 0, 0, 0, 0, 0, 0, 0, nextF F F.length F.length⟩ e, wv, iv 0], h') ∧ Grow h.next h h' ∧ oneCell e = true ∧ (∀ ty h', evBuiltin T0 .len #[29] ty [e] h' = some (.value (iv (xs.take 3).length), h')) ∧ (∀ ty h', evBuiltin T0 .len #[38] ty [wv] h' = some (.value (iv F.length), h')) := by
  obtain ⟨e1, rfl, he1⟩ := at1 hd
  obtain ⟨e, rfl, he⟩ := at1 he1
  rw [C_f rfl]
  have hcnt : cntX (xs.drop 3) = F.length := by unfold cntX needK at *; simp; omega
  have hneed : F.length ≤ 7 := by unfold needK at hF; omega
  have hFlt : ∀ f ∈ F, f < 65536 := fun f hf => by have := hd2 f hf; unfold dataN at this; simp at this; omega
  have hvv : v.cells.toList = [v] ∧ ∀ h, rp (some (evNewVar h 29 v)) = some (.value (pv h.next 0), h.new (.cells (PM.ofList [v]) 1 29 0 0 .ex)) := by
    obtain ⟨b, o, cap, c, m, kd, rfl, _⟩ := hw
    exact ⟨rfl, fun h => rfl⟩
  have x2 : ∀ h, rp (some (evNewVar h 34 (preV bfr F.length capf))) = some (.value (pv h.next 0), h.new (.cells (PM.ofList [preV bfr F.length capf]) 1 34 0 0 .ex)) := fun h => rfl
  generalize hh1 : h.new (.cells (PM.ofList [v]) 1 29 0 0 .ex) = h1
  have g1 : Grow h.next h h1 := by rw [← hh1]; exact Grow.new _ _
  have n1 : h1.next = h.next + 1 := by rw [← hh1]; rfl
  have bl1 : BoxL h1 h.next 29 [v] := by rw [← hh1]; exact BoxL.new _ _ _
  generalize hh2 : h1.new (.cells (PM.ofList [preV bfr F.length capf]) 1 34 0 0 .ex) = h2
  have g2 : Grow h1.next h1 h2 := by rw [← hh2]; exact Grow.new _ _
  have n2 : h2.next = h1.next + 1 := by rw [← hh2]; rfl
  have bf2 : BoxL h2 h1.next 34 [preV bfr F.length capf] := by rw [← hh2]; exact BoxL.new _ _ _
  generalize hh3 : h2.new (.cells (PM.ofList (nodeL NV.zero nilV)) 12 37 0 0 .ex) = h3
  have g3 : Grow h2.next h2 h3 := by rw [← hh3]; exact Grow.new _ _
  have n3 : h3.next = h2.next + 1 := by rw [← hh3]; rfl
  have b43 : NodeB h3 h2.next NV.zero nilV := by rw [← hh3]; exact NodeB.new _ _ _
  have G3 : Grow h.next h h3 := (g1.trans g2 (by omega)).trans g3 (by omega)
  obtain ⟨h4, c4, g4⟩ := s_Extents (e + 1) (by omega) v xs n h3 (by omega) hx hL (hr.grow G3 hn)
  rw [hext] at c4
  have G4 : Grow h.next h h4 := G3.trans g4 (by omega)
  have m4 := g4.next
  have g24 : Grow h2.next h2 h4 := g3.trans g4 (by omega)
  have bl4 : BoxL h4 h.next 29 [v] := (bl1.grow g2 (by omega)).grow g24 (by omega)
  have bf4 : BoxL h4 h1.next 34 [preV bfr F.length capf] := bf2.grow g24 (by omega)
  have cN := s_Need (e + 1) (by omega) xs.length h4 hL
  rw [← hF] at cN
  obtain ⟨h5, c5, g5⟩ := s_FreshOK (e + 1) (by omega) v xs h.next n bfr capf F h4 (hr.grow G4 hn) (by omega) (by omega) hrun bl4 (by omega) (hp.grow G4 hb) (by omega) (by omega) hd2 hnd hm
  have m5 := g5.next
  have G5 : Grow h.next h h5 := G4.trans g5 (by omega)
  have bl5 := bl4.grow g5 (by omega)
  have bf5 := bf4.grow g5 (by omega)
  have hw5 := hw.grow G5 hn
  have hk : (if (3 : Int) < (xs.length : Int) then (3 : Int) else (xs.length : Int)) = ((min xs.length 3 : Nat) : Int) := by split <;> omega
  obtain ⟨w0, i0, ww0⟩ := hw5.to (hh := min xs.length 3) (by omega)
  obtain ⟨ev0, h6, c6, o6, g6⟩ := s_CloneE (e + 1) (by omega) w0 _ n h5 ww0 (by omega) (by simp; omega)
  have m6 := g6.next
  generalize hh7 : h6.new (.cells (PM.ofList (nodeL NV.zero nilV)) 12 37 0 0 .ex) = h7
  have g7 : Grow h6.next h6 h7 := by rw [← hh7]; exact Grow.new _ _
  have n7 : h7.next = h6.next + 1 := by rw [← hh7]; rfl
  have b7 : NodeB h7 h6.next NV.zero nilV := by rw [← hh7]; exact NodeB.new _ _ _
  obtain ⟨h8, s8, b8, g8, n8⟩ := b7.storeAll (k := h6.next) ⟨0, 2, 0, 0, 0, 0, 0, 0, 0, 0, 0⟩ (f := ev0) o6.one (Nat.le_refl _)
  generalize hh9 : h8.new (.cells (PM.ofList [nilV]) 1 38 0 0 .ex) = h9
  have g9 : Grow h8.next h8 h9 := by rw [← hh9]; exact Grow.new _ _
  have n9 : h9.next = h8.next + 1 := by rw [← hh9]; rfl
  have b9 : BoxL h9 h8.next 38 [nilV] := by rw [← hh9]; exact BoxL.new _ _ _
  generalize hhA : h9.new (.cells (PM.ofList [iv 0]) 1 3 0 0 .ex) = hA
  have gA : Grow h9.next h9 hA := by rw [← hhA]; exact Grow.new _ _
  have nA : hA.next = h9.next + 1 := by rw [← hhA]; rfl
  have bA : BoxL hA h9.next 3 [iv 0] := by rw [← hhA]; exact BoxL.new _ _ _
  obtain ⟨hB, sB, bB, gB, nB⟩ := bA.store (n := h9.next) (t := 3) (ws := [iv 0]) (o := 0) (v := iv 0) sz_int rfl (by simp) rfl (by simp) (Nat.le_refl _)
  have bB : BoxL hB h9.next 3 [iv 0] := bB
  have g56 : Grow h5.next h5 h6 := g6
  have g5B : Grow h5.next h5 hB := ((((g6.trans g7 m6).trans g8 m6).trans g9 (by omega)).trans gA (by omega)).trans gB (by omega)
  have hwB := hw5.grow g5B (by omega)
  obtain ⟨w1, i1, ww1⟩ := hwB.from (l := min xs.length 3) (by omega)
  have hdrop : xs.drop (min xs.length 3) = xs.drop 3 := by
    by_cases h3 : xs.length ≤ 3
    · rw [Nat.min_eq_left h3, List.drop_eq_nil_of_le (Nat.le_refl _), List.drop_eq_nil_of_le h3]
    · rw [Nat.min_eq_right (by omega)]
  rw [hdrop] at ww1
  obtain ⟨hC, cC, nC, bC1, bC2, gC⟩ := s_Chunk (e + 1) (by omega) w1 n (xs.drop 3) hB ww1
  obtain ⟨s, ws, hD, cD, oD, lD, pD, gD⟩ := s_Collect (e + 1) (by omega) hB.next (hB.next + 1) n w1 (xs.drop 3) hC (by simp; omega) bC1 bC2 (by omega) (by omega) (ww1.grow gC (by omega)) (by omega)
  have mD := gD.next
  obtain ⟨hE, cE, nE, bE, gE⟩ := s_Back (e + 1) (by omega) s _ ws hD oD
  have g8B : Grow h8.next h8 hB := (g9.trans gA (by omega)).trans gB (by omega)
  have gBE : Grow hB.next hB hE := (gC.trans gD (by omega)).trans gE (by omega)
  have G5E : Grow h5.next h5 hE := g5B.trans gBE (by omega)
  have b11E : NodeB hE h6.next ⟨0, 2, 0, 0, 0, 0, 0, 0, 0, 0, 0⟩ ev0 := (b8.grow g8B (by omega)).grow gBE (by omega)
  have b12E : BoxL hE h8.next 38 [nilV] := ((b9.grow gA (by omega)).grow gB (by omega)).grow gBE (by omega)
  have b13E : BoxL hE h9.next 3 [iv 0] := bB.grow gBE (by omega)
  have b4E : NodeB hE h2.next NV.zero nilV := ((b43.grow g4 (by omega)).grow g5 (by omega)).grow G5E (by omega)
  have bfE := bf5.grow G5E (by omega)
  have preE : PreN hE bfr capf F := (hp.grow G5 hb).grow G5E (by omega)
  have oE := oD.grow gE
  have hwsl : ws.length = F.length := by rw [lD, hcnt]
  -- the loop over the parts
  have main : ∀ (tm : PM Value) (N : Nat), tm.get 3 = some (pv h1.next 0) → tm.get 12 = some (pv h8.next 0) → tm.get 13 = some (pv h9.next 0) → tm.get 52 = some (.func (.func 38) #[] #[pv hD.next 0]) →
      ∃ hG, codeB T0 X0 (C (e + 1)) (N + 1) EPn (.code rangePl) tm hE [] = .fall tm hG [hE.next] ∧ hG.get hE.next = some (.defs (some [])) ∧ hE.next + 2 ≤ hG.next ∧ (∀ k, k < hE.next → k ≠ h8.next → k ≠ h9.next → hG.get k = hE.get k) ∧ ∃ wv, BoxL hG h8.next 38 [wv] ∧ OwnW (hE.next + 2) hG wv F.length ∧ BoxL hG h9.next 3 [iv (nextF F F.length F.length)] := by
    intro tm N t3 t12 t13 t52
    generalize hlp : lpOf EPn tm #[53, 54] (rngA rangePl) (rngB rangePl) hE.next = lp
    have hps : lp.params.size = 2 := by rw [← hlp]; rfl
    generalize hhF : hE.new (.defs (some [])) = hF0
    have nF : hF0.next = hE.next + 1 := by rw [← hhF]; rfl
    have gF : Grow hE.next hE hF0 := by rw [← hhF]; exact Grow.new _ _
    generalize hhL : hF0.new (.loop lp) = hL0
    have nL : hL0.next = hF0.next + 1 := by rw [← hhL]; rfl
    have gL : Grow hF0.next hF0 hL0 := by rw [← hhL]; exact Grow.new _ _
    have gFL : Grow hE.next hE hL0 := gF.trans gL (by omega)
    have p0 : PB hE h8.next h9.next lp F (cntX (xs.drop 3)) 0 hL0 := by
      refine ⟨?_, ?_, by omega, fun k hk _ _ => gFL.keep k hk, nilV, b12E.grow gFL (by omega), OwnW.nil _ _, ?_⟩
      · rw [← hhL, AH.get_new, if_pos (by omega)]
      · rw [gL.keep _ (by omega), ← hhF, AH.get_new, if_pos rfl]
      · have : nextF F (cntX (xs.drop 3)) 0 = 0 := rfl
        rw [this]
        exact b13E.grow gFL (by omega)
    obtain ⟨hG, d1, d2⟩ := s_Back1 e (PB hE h8.next h9.next lp F (cntX (xs.drop 3))) (hE.next + 1) lp hD.next hE.next s ws hps (by omega)
      (fun i h hp => ⟨hp.loop, bE.keep (hp.keep _ (by omega) (by omega) (by omega)), oE.rowK (fun k q1 q2 => hp.keep k q2 (by omega) (by omega))⟩)
      (fun i h w hp hi hwi => by
        have hwD := pD _ _ hwi
        have hwh : WinE n h w (partX (xs.drop 3) (ws.length - 1 - i)) := (hwD.grow gE (by omega)).keepK (fun k hk => hp.keep k (by omega) (by omega) (by omega))
        rw [lD] at hi hwh ⊢
        rw [← hlp] at hp ⊢
        exact roundPl (s_NewPage e (by omega)) (s_Set e (by omega)) (s_Text e (by omega)) (s_PutExt e (by omega)) (s_PSeal e (by omega)) hE h8.next h9.next h1.next bfr capf n F tm (xs.drop 3) (fun x hx' => hx x (List.mem_of_mem_drop hx')) (by simp; omega) hcnt.symm hFlt
          (by omega) (by omega) (by omega) (by omega) (by omega) (by omega) (by omega) (by omega) (by omega) (by omega) (by omega) (by omega) bfE preE t3 t12 t13 i h w hp hi hwh) hL0 p0
    rw [lD] at d2
    obtain ⟨q1, q2, q3, q4, wv, q5, q6, q7⟩ := d2
    have d1' : C (e + 1) 38 (yieldV hF0.next :: [pv hD.next 0]) (hF0.new (.loop (lpOf EPn tm #[53, 54] (rngA rangePl) (rngB rangePl) hE.next))) = some (.tuple #[], hG) := by
      rw [hlp, hhL, nF]; exact d1
    have q1' : hG.get hF0.next = some (.loop (lpOf EPn tm #[53, 54] (rngA rangePl) (rngB rangePl) hE.next)) := by rw [hlp, nF]; exact q1
    have hrg : rangeB T0 X0 (C (e + 1)) EPn (.tmp 52) #[53, 54] (rngA rangePl) (rngB rangePl) tm hE.next hF0 [hE.next] = .fall tm (hG.set hF0.next (.loop { lpOf EPn tm #[53, 54] (rngA rangePl) (rngB rangePl) hE.next with state := .exhausted })) [hE.next] :=
      rangeB_clo (cs := [pv hD.next 0]) (by rw [ev_tmp]; exact t52) ft38 rfl d1' q1'
    refine ⟨hG.set (hE.next + 1) (.loop { lp with state := .exhausted }), ?_, ?_, q3, ?_, wv, q5.set (by omega), ?_, ?_⟩
    · have hc : rangePl = .rangeFunc (.tmp 52) #[53, 54] (rngA rangePl) (rngB rangePl) := rfl
      rw [hc, codeB_range rfl, hhF]
      rw [← hc] at *
      rw [hrg, hlp, nF]
    · rw [AH.get_set, if_neg (by omega)]; exact q2
    · intro k hk z1 z2
      rw [AH.get_set, if_neg (by omega)]; exact q4 k hk z1 z2
    · rw [← hcnt]
      exact q6.keep (b := hE.next + 1) (by omega) (Nat.le_refl _) (fun k hk => by rw [AH.get_set, if_neg hk])
    · rw [hcnt] at q7
      exact q7.set (by omega)
  have lb3 : evLoad T0 29 (pv h.next 0) h3 = some v := ((bl1.grow g2 (by omega)).grow g3 (by omega)).load agg_exts (i := 0) rfl
  have lb4 := bl4.load agg_exts (i := 0) rfl
  have lf4 := bf4.load agg_ints (i := 0) rfl
  have lb5 := bl5.load agg_exts (i := 0) rfl
  have lbB : evLoad T0 29 (pv h.next 0) hB = some v := (bl5.grow g5B (by omega)).load agg_exts (i := 0) rfl
  rw [frameB_eq ft8 rfl rfl]
  simp only [Try.f8, symM, opFn, Nat.reduceLT, Nat.reduceBEq, symM, hvv.2, hh1, x2, hh2, alloc_N, hh3, lb3, evCall_fn ft10 rfl, c4, lb4, hw.len, evCall_fn ft5 rfl, cN, lf4, evCall_fn ft11 rfl, c5, bin_neq, show ((0 : Int) == 0) = true from rfl, lb5, bi_min, hk, ev3, evOpt, i0, evCall_fn ft14 rfl, c6, o6.buildN, hh7, s8, alloc_ws, hh9, alloc_int, hhA, sB, lbB, i1, evCall_fn ft16 rfl, cC, evCall_fn ft15 rfl, cD, evCall_fn ft17 rfl, cE]
  generalize hX : codeB T0 X0 (C (e + 1)) _ EPn (.code (.rangeFunc _ _ _ _)) _ _ _ = X
  obtain ⟨hG, e0, u1, u2, u3, wv, u4, u5, u6⟩ := use_fall hX (main _ _ (by simp only [symM, Nat.reduceBEq]) (by simp only [symM, Nat.reduceBEq]) (by simp only [symM, Nat.reduceBEq]) (by simp only [symM]))
  clear hX
  subst e0
  have kG : ∀ k, k < hE.next → k ≠ h8.next → k ≠ h9.next → hG.get k = hE.get k := u3
  have b11G : NodeB hG h6.next ⟨0, 2, 0, 0, 0, 0, 0, 0, 0, 0, 0⟩ ev0 := BoxL.keep b11E (kG _ (by omega) (by omega) (by omega))
  have b4G : NodeB hG h2.next NV.zero nilV := BoxL.keep b4E (kG _ (by omega) (by omega) (by omega))
  obtain ⟨hH, sH, bH, gH, nH⟩ := b11G.storeC (k := h6.next) (nextF F F.length F.length) (Nat.le_refl _)
  have kH := evStore_keep sH
  have kH' : ∀ k, k ≠ h6.next → hH.get k = hG.get k := kH
  have bH : NodeB hH h6.next ⟨0, 2, 0, 0, 0, 0, 0, 0, 0, 0, nextF F F.length F.length⟩ ev0 := bH
  have b12H : BoxL hH h8.next 38 [wv] := u4.keep (kH _ (by omega))
  have oH : OwnW (hE.next + 2) hH wv F.length := u5.keep (b := h6.next) (by omega) (by omega) kH
  have b4H : NodeB hH h2.next NV.zero nilV := BoxL.keep b4G (kH _ (by omega))
  obtain ⟨hI, cI, oI, gI⟩ := s_Rev (e + 1) (by omega) wv F.length (hE.next + 2) hH (by omega) (by omega) oH
  have b12I := b12H.grow gI (by omega)
  have bI : NodeB hI h6.next ⟨0, 2, 0, 0, 0, 0, 0, 0, 0, 0, nextF F F.length F.length⟩ ev0 := bH.grow gI (by omega)
  have b4I : NodeB hI h2.next NV.zero nilV := b4H.grow gI (by omega)
  obtain ⟨hJ, sJ, bJ, gJ, nJ⟩ := b4I.storeAll (k := h2.next) ⟨0, 2, 0, 0, 0, 0, 0, 0, 0, 0, nextF F F.length F.length⟩ (f := ev0) o6.one (Nat.le_refl _)
  have kJ := evStore_keep sJ
  have b12J : BoxL hJ h8.next 38 [wv] := b12I.keep (kJ _ (by omega))
  have dJ : hJ.get hE.next = some (.defs (some [])) := by
    rw [kJ _ (by omega), gI.keep _ (by omega), kH _ (by omega)]; exact u1
  have bK : NodeB (hJ.set hE.next (.defs none)) h2.next ⟨0, 2, 0, 0, 0, 0, 0, 0, 0, 0, nextF F F.length F.length⟩ ev0 := BoxL.set bJ (by omega)
  have GE : Grow h.next h hE := G5.trans G5E (by omega)
  have GG : Grow h.next hE hG := ⟨by omega, fun k hk => u3 k (by omega) (by omega) (by omega)⟩
  have mI := gI.next
  have GK : Grow h.next h (hJ.set hE.next (.defs none)) := ((((GE.trans GG (Nat.le_refl _)).trans (gH.less (by omega)) (Nat.le_refl _)).trans (gI.less (by omega)) (Nat.le_refl _)).trans (gJ.less (by omega)) (Nat.le_refl _)).trans (Grow.set hJ _ (by omega)) (Nat.le_refl _)
  have l6 := u6.load agg_int (i := 0) rfl
  have l12H := b12H.load agg_writes (i := 0) rfl
  have l12I := b12I.load agg_writes (i := 0) rfl
  have l12J := b12J.load agg_writes (i := 0) rfl
  have hp25 := plan_P25
  simp only [regOps, part, Try.f8, sub] at hp25
  refine ⟨ev0, wv, hJ.set hE.next (.defs none), ?_, GK, o6.one, fun ty h' => ?_, fun ty h' => oI.len⟩
  · simp only [symM, opFn, Nat.reduceLT, Nat.reduceBEq, symM, l6, field_N, sH, l12H, evCall_fn ft23 rfl, cI]
    rw [codeB_draw, draw_plan hp25 rfl]
    simp only [drawAll, opFn, Nat.reduceBEq, bI.loads, l12I, l12J, eqV_own oI, sJ, effE_cons]
    exact retB_c3 ft8 rfl (by simp only [symM, Nat.reduceBEq]) dJ bK.loads.2.2.2.2.2.2.2.2.2.2.2.2.1 (by simp only [symM, Nat.reduceBEq]) (by simp only [symM])
  · rw [o6.len]
    rw [show xs.take (min xs.length 3) = xs.take 3 by
      by_cases h3 : xs.length ≤ 3
      · rw [Nat.min_eq_left h3, List.take_length, List.take_of_length_le h3]
      · rw [Nat.min_eq_right (by omega)]]
end
end Go.Proofs.Ytglmahefcdhmgaa.Abs
