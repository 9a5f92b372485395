
/- The nodes of a new volume, read. -/
import Derived.Test.YtonfgflgnnkniaaGreatRead
namespace Go.Proofs.YtonfgflgnnkniaaGreat.Abs
open Go Go.Proofs
noncomputable section
variable {call : Abs.Callee}
set_option maxRecDepth 10000
theorem dec_r1 : decOK (encN (rootN 1) []) = true ∧ decX (encN (rootN 1) []) = [] ∧ decN (encN (rootN 1) []) = rootN 1 := ⟨by kernel_rfl, by kernel_rfl, by kernel_rfl⟩
theorem dec_r2 : decOK (encN (rootN 2) []) = true ∧ decX (encN (rootN 2) []) = [] ∧ decN (encN (rootN 2) []) = rootN 2 := ⟨by kernel_rfl, by kernel_rfl, by kernel_rfl⟩
theorem dec_z : decOK (encN NV.zero []) = true ∧ decX (encN NV.zero []) = [] ∧ decN (encN NV.zero []) = NV.zero := ⟨by kernel_rfl, by kernel_rfl, by kernel_rfl⟩
theorem dec_at (f i : Nat) (h1 : 1 ≤ f) (h2 : f ≤ 2) : decOK (encN (nodeAt (rootN f) i) []) = true ∧ decX (encN (nodeAt (rootN f) i) []) = [] ∧ decN (encN (nodeAt (rootN f) i) []) = nodeAt (rootN f) i := by
  unfold nodeAt
  by_cases h0 : i = 0
  · rw [if_pos h0]
    rcases (show f = 1 ∨ f = 2 by omega) with rfl | rfl
    · exact dec_r1
    · exact dec_r2
  · rw [if_neg h0]; exact dec_z
/-- The half of a block that a node is. -/
theorem made_node (B f i : Nat) (hB : 64 ≤ B) (hi : i < 32) : ∃ bs, (madeL B f)[3 + i / 2]? = some bs ∧ (bs.length = 64 ∧ ∀ x ∈ bs, x < 256) ∧ (((bs.drop (i % 2 * 32)).take (64 - i % 2 * 32)).take 32 = encN (nodeAt (rootN f) i) []) := by
  refine ⟨wBlk f (i / 2), ?_, wBlk_ok f _, ?_⟩
  · unfold madeL
    rw [wr_get, if_pos, show 3 + i / 2 - 3 = i / 2 by omega]
    refine ⟨by omega, by omega, ?_⟩
    simp only [List.length_set, List.length_replicate]
    omega
  · have e1 := encN_len (nodeAt (rootN f) (2 * (i / 2)))
    have e2 := encN_len NV.zero
    unfold wBlk
    rcases (show i % 2 = 0 ∨ i % 2 = 1 by omega) with hm | hm
    · have hi2 : 2 * (i / 2) = i := by omega
      rw [hi2] at e1 ⊢
      rw [hm, Nat.zero_mul, List.drop_zero, Nat.sub_zero, List.take_take, show min 32 64 = 32 from rfl, List.take_append_of_le_length (by omega), List.take_of_length_le (by omega)]
    · rw [hm, Nat.one_mul, List.drop_append_of_le_length (by omega), List.drop_eq_nil_of_le (by omega), List.nil_append, List.take_of_length_le (by rw [List.length_take]; omega), List.take_of_length_le (by omega)]
      unfold nodeAt
      rw [if_neg (show ¬ i = 0 by omega)]
theorem made_lens (B f : Nat) (hB : 64 ≤ B) : ∀ bs ∈ madeL B f, bs.length = 64 ∧ ∀ x ∈ bs, x < 256 := by
  intro bs hbs
  obtain ⟨m, hm⟩ := List.getElem?_of_mem hbs
  unfold madeL at hm
  rw [wr_get] at hm
  split at hm
  · cases hm; exact wBlk_ok f _
  · rw [List.getElem?_set] at hm
    split at hm
    · split at hm
      · cases hm; exact flagBy_ok
      · cases hm
    · rw [List.getElem?_set] at hm
      split at hm
      · split at hm
        · cases hm; exact supBy_ok B f
        · cases hm
      · rw [List.getElem?_set] at hm
        split at hm
        · split at hm
          · cases hm; exact headBy_ok
          · cases hm
        · rw [List.getElem?_replicate] at hm
          split at hm
          · cases hm; exact zb_ok
          · cases hm
theorem made_012 (B f : Nat) (hB : 64 ≤ B) : (madeL B f)[0]? = some (supBy B f) ∧ (madeL B f)[1]? = some headBy ∧ (madeL B f)[2]? = some flagBy := by
  unfold madeL
  refine ⟨?_, ?_, ?_⟩ <;> rw [wr_get, if_neg (by omega)]
  · rw [List.getElem?_set_ne (by decide), List.getElem?_set_self (by simp; omega)]
  · rw [List.getElem?_set_ne (by decide), List.getElem?_set_ne (by decide), List.getElem?_set_self (by simp; omega)]
  · rw [List.getElem?_set_self (by simp; omega)]
end
end Go.Proofs.YtonfgflgnnkniaaGreat.Abs
namespace Go.Proofs.YtonfgflgnnkniaaGreat.Abs
open Go Go.Proofs
noncomputable section
variable {call : Abs.Callee}
set_option maxRecDepth 10000
/-- Nodes that may be copied. -/
def NcP (vn : Value) (h : AH) : Prop := ∃ n k cs, OwnC 12 n h vn k cs 51 ∧ 0 < k ∧ k < 1000 ∧ cs.all oneCell = true
abbrev CloN2C (call : Abs.Callee) : Prop := ∀ (n k : Nat) (v : Value) (cs : List Value) (h : AH), OwnC 12 n h v k cs 51 → 0 < k → k < 1000 → cs.all oneCell = true → ∃ v' h', call 54 [v] h = some (v', h') ∧ SLv v' ∧ Grow h.next h h'
theorem NcP.use {vn : Value} {h hh : AH} (hp : NcP vn h) (hCN : CloN2C call) (g : Grow h.next h hh) : ∃ v' h', call 54 [vn] hh = some (v', h') ∧ SLv v' ∧ Grow hh.next hh h' := by
  obtain ⟨n, k, cs, h1, h2, h3, h4⟩ := hp
  exact hCN n k vn cs hh (h1.grow g) h2 h3 h4
theorem CloneN2_S (n k : Nat) (v : Value) (cs : List Value) (h : AH) (hv : OwnC 12 n h v k cs 51) (hk : 0 < k) (hk2 : k < 1000) (hall : cs.all oneCell = true) :
    ∃ v' h', frameB T0 X0 call 3000 54 [v] h = some (v', h') ∧ SLv v' ∧ Grow h.next h h' := by
  have g1 := Grow.new h (.cells (PM.ofList []) 0 51 0 0 .ex)
  have ho : OwnC 12 h.next (h.new (.cells (PM.ofList []) 0 51 0 0 .ex)) (.slice (some ⟨h.next, 0, none⟩) 0 0) 0 [] 51 := .inr ⟨h.next, PM.ofList [], .ex, 0, Nat.le_refl _, Nat.lt_succ_self _, rfl, get_new_same _ _, rfl, fun i x hx => by simp at hx, .inl ⟨rfl, rfl⟩⟩
  have hx2 := hv.grow g1
  have hlen : cs.length = k * 12 := by
    rcases hv with ⟨_, rfl, rfl⟩ | ⟨b, c, kd, cap, _, _, _, _, q, _⟩
    · rfl
    · exact q
  rw [← ti_Node.2.1] at hx2
  obtain ⟨v', h', e1, e2, e3, _⟩ := append_big und_nodes tt_Node ti_Node.1 ti_Node.2.1 ti_Node.2.2 ho (appended_own und_nodes hx2) (by rw [hlen]) hall (by omega) g1.next 39
  have hsl : SLv v := by
    rcases hv with ⟨_, q, _⟩ | ⟨b, c, kd, cap, _, _, rfl, _⟩
    · omega
    · exact ⟨_, _, _, rfl⟩
  obtain ⟨a, l, c, rfl⟩ := hsl
  refine ⟨v', h', ?_, ?_, g1.trans e3 (Nat.le_refl _)⟩
  · rw [frameB_eq ft54 rfl rfl]
    simp only [Tryz.f54, symM, opFn, Nat.reduceLT, Nat.reduceBEq, symM, nil_eqN, bs_n0, e1]
    exact retB_one ft54 rfl get_same
  · rcases e2 with ⟨_, q, _⟩ | ⟨b, c, kd, cap, _, _, rfl, _⟩
    · omega
    · exact ⟨_, _, _, rfl⟩
theorem Copy2_S (hCl : BCloneC call) (hCN : CloN2C call) (hB : CloBC call) (n B f : Nat) (vf vn vb : Value) (fb : List Nat) (bss : List (List Nat)) (h : AH) (hvn : SLv vn) (hNc : NcP vn h) (hF : Bks h vf fb) (hb : BL n h vb bss) (h0 : bss.length ≠ 0) (hl : bss.length < 1000) :
    ∃ vf' vn' vb' h', frameB T0 X0 call 3000 28 [stV B f vf vn vb] h = some (stV B f vf' vn' vb', h') ∧ SLv vf' ∧ SLv vn' ∧ BL h.next h' vb' bss ∧ Grow h.next h h' := by
  generalize hh1 : h.new (.cells (PM.ofList (stL B f vf vn vb)) (stL B f vf vn vb).length 41 0 0 .ex) = h1
  have g1 : Grow h.next h h1 := by rw [← hh1]; exact Grow.new _ _
  have n1 : h1.next = h.next + 1 := by rw [← hh1]; rfl
  have s1 : BoxL h1 h.next 41 (stL B f vf vn vb) := by rw [← hh1]; exact BoxL.new _ _ _
  generalize hh2 : h1.new (.cells (PM.ofList (stL 0 0 nilV nilV nilV)) 8 41 0 0 .ex) = h2
  have g2 : Grow h1.next h1 h2 := by rw [← hh2]; exact Grow.new _ _
  have n2 : h2.next = h1.next + 1 := by rw [← hh2]; rfl
  have s2 : BoxL h2 h1.next 41 (stL 0 0 nilV nilV nilV) := by rw [← hh2]; exact BoxL.new _ _ _
  have G2 : Grow h.next h h2 := g1.trans g2 (by omega)
  have s12 := s1.grow g2 (by omega)
  obtain ⟨vf', h3, a1, a2, a3⟩ := (hF.grow G2).clone hCl
  have n3 := a3.next
  have G3 := G2.trans a3 G2.next
  have s13 := s12.grow a3 (by omega)
  obtain ⟨vn', h4, b1, b2, b3⟩ := hNc.use hCN G3
  have n4 := b3.next
  have G4 := G3.trans b3 G3.next
  have s14 := s13.grow b3 (by omega)
  obtain ⟨vb', h5, c1, c2, c3⟩ := hB n vb bss h4 (hb.grow G4) h0 hl
  have n5 := c3.next
  have G5 := G4.trans c3 G4.next
  have s15 := s14.grow c3 (by omega)
  have s25 : BoxL h5 h1.next 41 (stL 0 0 nilV nilV nilV) := ((s2.grow a3 (by omega)).grow b3 (by omega)).grow c3 (by omega)
  have k1 := a2.sl
  have k3 := c2.sl h0
  have kb := hb.sl h0
  obtain ⟨h6, d1, d2, d3, d4⟩ := BoxL.store (n := h.next) (o := 0) (v := stV B f vf' vn' vb') s25 (ws := stL B f vf' vn' vb') sz_st rfl (by simp [stL, supL]) (stL_one k1 b2 k3) (Nat.le_refl _) (by omega)
  have d2 : BoxL h6 h1.next 41 (stL B f vf' vn' vb') := d2
  have dk := evStore_keep d1
  refine ⟨vf', vn', vb', h6, ?_, k1, b2, ?_, G5.trans d3 (Nat.le_refl _)⟩
  · have hp := plan_cp
    simp only [regOps, part, Tryz.f28, sub] at hp
    have l2 := stL_loads s12
    have l3 := stL_loads s13
    have l4 := stL_loads s14
    have l5 := stL_loads s15
    have ef := hF.sl.one1.2.2
    have eb := kb.one1.2.2
    rw [frameB_eq ft28 rfl rfl]
    simp only [Tryz.f28, symM, opFn, Nat.reduceLT, symM, box_st, hh1, alloc_st, hh2]
    rw [codeB_draw, draw_plan hp rfl]
    simp only [drawAll, opFn, Nat.reduceBEq, field_st, l2, l3, l4, l5, eqV_sup, eb, hvn.one1.2.2, evCall_fn ft17 rfl, a1, effE_cons, evCall_fn ft54 rfl, b1, evCall_fn ft55 rfl, c1, build_st k1 b2 k3, d1]
    exact retB_cell ft28 rfl (by simp only [symM, Nat.reduceBEq]) (stL_loads d2).2.2.2.2
  · exact (c2.one ⟨d4, dk⟩ s25.ty (by decide) (by decide)).less (by omega)
abbrev Copy2C (call : Abs.Callee) : Prop := ∀ (n B f : Nat) (vf vn vb : Value) (fb : List Nat) (bss : List (List Nat)) (h : AH), SLv vn → NcP vn h → Bks h vf fb → BL n h vb bss → bss.length ≠ 0 → bss.length < 1000 →
  ∃ vf' vn' vb' h', call 28 [stV B f vf vn vb] h = some (stV B f vf' vn' vb', h') ∧ SLv vf' ∧ SLv vn' ∧ BL h.next h' vb' bss ∧ Grow h.next h h'
theorem Settle2_S (hC : Copy2C call) (pI n B f : Nat) (vf vn vb : Value) (fb : List Nat) (ws : List Value) (hw : ws.length = 8) (bss : List (List Nat)) (h : AH) (hI : BoxL h pI 43 (imgL B f vf vn vb ws)) (hpI : pI < h.next) (hnI : n ≤ pI)
    (hvn : SLv vn) (hNc : NcP vn h) (hF : Bks h vf fb) (hb : BL n h vb bss) (h0 : bss.length ≠ 0) (hl : bss.length < 1000) :
    ∃ vf' vn' vb' h', frameB T0 X0 call 3000 13 [pv pI 0] h = some (.tuple #[], h') ∧ BoxL h' pI 43 (imgL B f vf vn vb (stL B f vf' vn' vb')) ∧ BL n h' vb bss ∧ BL n h' vb' bss ∧ Bks h' vf fb ∧ Grow n h h' ∧ (∀ k, k < h.next → k ≠ pI → h'.get k = h.get k) := by
  obtain ⟨vf', vn', vb', h1, a1, a2, a3, a4, a5⟩ := hC n B f vf vn vb fb bss h hvn hNc hF hb h0 hl
  have n1 := a5.next
  have hI1 := hI.grow a5 hpI
  obtain ⟨h2, b1, b2, b3⟩ := img_was (vf' := vf') (vn' := vn') (vb' := vb') hw hI1 a2 a3 (a4.sl h0)
  refine ⟨vf', vn', vb', h2, ?_, b2, (hb.grow a5).one b3 hI1.ty (by decide) (by decide), (a4.one b3 hI1.ty (by decide) (by decide)).less (by omega), (hF.grow a5).keep (Nat.le_of_eq b3.next.symm) fun k hk hu => b3.keep k (tyAt.ne hu hI1.ty (by decide)), (a5.less (by omega)).trans (b3.grow hnI) (Nat.le_refl _), fun k hk hq => (b3.keep k hq).trans (a5.keep k hk)⟩
  have q := img_loads hI
  rw [frameB_eq ft13 rfl rfl]
  simp only [Tryz.f13, symM, opFn, Nat.reduceLT, Nat.reduceBEq, symM, ptr_neq, nil_pv, field_I, q, evCall_fn ft28 rfl, a1, b1]
  exact retB_zero ft13 rfl
end
end Go.Proofs.YtonfgflgnnkniaaGreat.Abs
namespace Go.Proofs.YtonfgflgnnkniaaGreat.Abs
open Go Go.Proofs
noncomputable section
variable {call : Abs.Callee}
set_option maxRecDepth 10000
theorem appended_win {h : AH} {v : Value} {bs : List Nat} {z : Value} (hw : WinB h v bs) : appendedA T0 38 (infoOf 5) z v h = some (bs.length, bytesV bs) := by
  obtain ⟨b, o, cap, c, m, l0, h0, kd, el, k, rfl, h2, h3, h4, h5, h6, h7⟩ := hw
  unfold appendedA
  simp only [und_bytes, lenOfA]
  have hold : firstA (infoOf 5).size bs.length h (.slice (some ⟨b, o, none⟩) bs.length cap) = some (bytesV bs) := by
    unfold firstA
    by_cases hk0 : bs.length = 0
    · rw [hk0, show bs = [] from List.length_eq_zero_iff.1 hk0]
      rfl
    · show ifB (Nat.beq bs.length 0) (some []) (ifB (Nat.ble bs.length bs.length) (loadRow h b o (bs.length * (infoOf 5).size)) none) = some (bytesV bs)
      rw [nbF (by simpa using hk0), ifB_false, Nat.ble_eq_true_of_le (Nat.le_refl _), ifB_true, ti_u8.2.1, Nat.mul_one]
      have := loadRow_of (l := bytesV bs) h5 (by rw [bytesV_len]; exact h6) (fun i y hy => by obtain ⟨x, q1, rfl⟩ := bytesV_at hy; exact h7 i x q1)
      rwa [bytesV_len] at this
  rw [hold]
  simp only
  rw [bytesV_len, ti_u8.2.1, Nat.mul_one, Nat.beq_refl, ifB_true]
abbrev WCloneC (call : Abs.Callee) : Prop := ∀ (v : Value) (bs : List Nat) (h : AH), WinB h v bs → bs.length ≠ 0 → bs.length < 1000 → (∀ x ∈ bs, x < 256) → ∃ v' h', call 17 [v] h = some (v', h') ∧ Bks h' v' bs ∧ Grow h.next h h'
theorem WClone_S (v : Value) (bs : List Nat) (h : AH) (hw : WinB h v bs) (h0 : bs.length ≠ 0) (hl : bs.length < 1000) (hb : ∀ x ∈ bs, x < 256) :
    ∃ v' h', frameB T0 X0 call 3000 17 [v] h = some (v', h') ∧ Bks h' v' bs ∧ Grow h.next h h' := by
  have g1 := Grow.new h (.cells (PM.ofList []) 0 5 0 0 .ex)
  have ho1 : OwnC 1 h.next (h.new (.cells (PM.ofList []) 0 5 0 0 .ex)) (.slice (some ⟨h.next, 0, none⟩) 0 0) 0 [] 5 := .inr ⟨h.next, PM.ofList [], .ex, 0, Nat.le_refl _, Nat.lt_succ_self _, rfl, get_new_same _ _, rfl, fun i x hx => by simp at hx, .inl ⟨rfl, rfl⟩⟩
  obtain ⟨v', h', e1, e2, e3, e4, e5⟩ := append_gen und_bytes tt_u8 ti_u8.1 ti_u8.2.1 ti_u8.2.2 ho1 (appended_win (hw.grow g1)) (by rw [bytesV_len, Nat.mul_one]) (bytesV_one bs) (by omega) g1.next 38
  have e2' : Own h.next h' v' (bytesV bs) 5 := by have := e2.own; simpa using this
  have hnil : ∀ p q h, evBin T0 .eql 38 p q v nilV h = some (.bool false) := by
    obtain ⟨b, o, cap, c, m, l0, h0, kd, el, k, rfl, _⟩ := hw
    intro p q h
    kernel_rfl
  refine ⟨v', h', ?_, Bks.own e2' h0 hl hb, g1.trans e3 (Nat.le_refl _)⟩
  rw [frameB_eq ft17 rfl rfl]
  simp only [Tryz.f17, symM, opFn, Nat.reduceLT, Nat.reduceBEq, symM, hnil, bs_b0, e1]
  exact retB_one ft17 rfl get_same
/-- A block, at its place, as long as it lies there. -/
theorem WB.ats {h : AH} {v : Value} {bs : List Nat} {bss : List (List Nat)} {i : Nat} (hb : WB h v bss) (hi : bss[i]? = some bs) : ∃ p w, evIndexAddr T0 30 v (iv i) = some p ∧ eqV p p = true ∧ ∀ h', Grow h.next h h' → evLoad T0 38 p h' = some w ∧ WinB h' w bs := by
  obtain ⟨vs, h1, h2, h3⟩ := hb
  have hl : i < vs.length := by rw [h2]; exact (List.getElem?_eq_some_iff.1 hi).1
  have hx : vs[i]? = some vs[i] := List.getElem?_eq_getElem hl
  obtain ⟨p, a1, a2, a3⟩ := h1.at3 und_blocks sz_bytes agg_bytes hx
  refine ⟨p, vs[i], a1, a3, fun h' g => ⟨?_, (h3 i _ bs hx hi).grow g⟩⟩
  have e1 : Row h'.next h' v vs 38 := by
    rcases h1 with q | ⟨b, o, cap, c, k, lo, hi, kd, el, q1, q2, q3, q4⟩
    · exact .inl q
    · exact .inr ⟨b, o, cap, c, k, lo, hi, kd, el, q1, Nat.lt_of_lt_of_le q2 g.next, (g.keep b q2).trans q3, q4⟩
  obtain ⟨p2, d3, d4⟩ := e1.at und_blocks sz_bytes agg_bytes hx
  rw [a1] at d3
  cases d3
  exact d4
theorem OwnC.offT {s n k : Nat} {h : AH} {v : Value} {cs : List Value} {e q e' : Nat} (ho : OwnC s n h v k cs e) (t : tyAt h q e') (hne : e ≠ e') : Off v q := by
  intro o l' c hv
  rcases ho with ⟨rfl, _⟩ | ⟨b, cc, kd, cap, _, _, rfl, h4, _⟩
  · cases hv
  · cases hv
    exact (tyAt.ne (⟨_, _, _, _, _, h4⟩ : tyAt h q e) t hne) rfl
theorem OwnC.one {s n k p e q : Nat} {h h' : AH} {v : Value} {cs : List Value} (ho : OwnC s n h v k cs e) (o : One p h h') (t : tyAt h p q) (hne : e ≠ q) : OwnC s n h' v k cs e := by
  rcases ho with h1 | ⟨b, c, kd, cap, h1, h2, h3, h4, h5⟩
  · exact .inl h1
  · exact .inr ⟨b, c, kd, cap, h1, by rw [o.next]; exact h2, h3, (o.keep b (tyAt.ne (⟨_, _, _, _, _, h4⟩ : tyAt h b _) t hne)).trans h4, h5⟩
/-- The nodes read so far. -/
def NdsC (f i : Nat) (cs : List Value) : Prop := cs.length = i * 12 ∧ cs.all oneCell = true ∧ ∀ i', i' < i → ∀ j x, (nodeL (nodeAt (rootN f) i') nilV)[j]? = some x → cs[i' * 12 + j]? = some x
theorem nodeL_len (a : NV) (e : Value) : (nodeL a e).length = 12 := rfl
theorem NdsC.snoc {f i : Nat} {cs : List Value} (hc : NdsC f i cs) : NdsC f (i + 1) (cs ++ nodeL (nodeAt (rootN f) i) nilV) := by
  obtain ⟨h1, h2, h3⟩ := hc
  refine ⟨by rw [List.length_append, nodeL_len, h1]; omega, by rw [List.all_append, h2, nodeL_one (nodeAt (rootN f) i) (e := nilV) rfl]; rfl, fun i' hi j x hx => ?_⟩
  have hj := (List.getElem?_eq_some_iff.1 hx).1
  rw [nodeL_len] at hj
  by_cases q : i' < i
  · rw [List.getElem?_append_left (by rw [h1]; omega)]
    exact h3 i' q j x hx
  · have : i' = i := by omega
    subst this
    rw [List.getElem?_append_right (by rw [h1]; omega), h1, show i' * 12 + j - i' * 12 = j by omega]
    exact hx
/-- The nodes of an image. -/
def NsR (h : AH) (v : Value) (f : Nat) : Prop :=
  ∃ pn cap c m el lo hi kd, v = .slice (some ⟨pn, 0, none⟩) 32 cap ∧ pn < h.next ∧ h.get pn = some (.cells c m el lo hi kd) ∧ 384 ≤ m ∧ ∀ i, i < 32 → ∀ j x, (nodeL (nodeAt (rootN f) i) nilV)[j]? = some x → c.get (i * 12 + j) = some x
theorem NsR.grow {h h' : AH} {v : Value} {f : Nat} (hn : NsR h v f) (g : Grow h.next h h') : NsR h' v f := by
  obtain ⟨pn, cap, c, m, el, lo, hi, kd, h1, h2, h3, h4, h5⟩ := hn
  exact ⟨pn, cap, c, m, el, lo, hi, kd, h1, Nat.lt_of_lt_of_le h2 g.next, (g.keep pn h2).trans h3, h4, h5⟩
theorem NdsC.nsR {n f : Nat} {h : AH} {v : Value} {cs : List Value} (ho : OwnC 12 n h v 32 cs 51) (hc : NdsC f 32 cs) : NsR h v f := by
  rcases ho with ⟨_, q, _⟩ | ⟨b, c, kd, cap, h1, h2, h3, h4, h5, h6, h7⟩
  · omega
  · exact ⟨b, cap, c, _, _, _, _, kd, h3, h2, h4, Nat.le_refl _, fun i hi j x hx => h6 _ _ (hc.2.2 i hi j x hx)⟩
theorem NsR.at {h : AH} {v : Value} {f i : Nat} (hn : NsR h v f) (hi : i < 32) : ∃ p, evIndexAddr T0 39 v (iv i) = some p ∧ evLoad T0 51 p h = some (nodeV (nodeAt (rootN f) i) nilV) := by
  obtain ⟨pn, cap, c, m, el, lo, hi', kd, rfl, h2, h3, h4, h5⟩ := hn
  refine ⟨pv pn (0 + i * 12), idx_slice und_nodes sz_Node hi, ?_⟩
  simp only [evLoad, loadVarA, agg_Node, sz_Node]
  rw [show loadRow h pn (0 + i * 12) 12 = some (nodeL (nodeAt (rootN f) i) nilV) from loadRow_of (l := nodeL (nodeAt (rootN f) i) nilV) h3 (by rw [nodeL_len]; omega) (fun j x hx => by rw [Nat.zero_add]; exact h5 i hi j x hx)]
  rfl
/-- An image that may be read. -/
def ImgR (h : AH) (pI B f : Nat) (bss : List (List Nat)) : Prop := pI < h.next ∧ ∃ vf vn vb ws, BoxL h pI 43 (imgL B f vf vn vb ws) ∧ BL 0 h vb bss ∧ NsR h vn f
theorem ImgR.grow {h h' : AH} {pI B f : Nat} {bss : List (List Nat)} (hi : ImgR h pI B f bss) (g : Grow h.next h h') : ImgR h' pI B f bss := by
  obtain ⟨h1, vf, vn, vb, ws, h2, h3, h4⟩ := hi
  exact ⟨Nat.lt_of_lt_of_le h1 g.next, vf, vn, vb, ws, h2.grow g h1, h3.grow g, h4.grow g⟩
theorem bs_nd {n : NV} {h : AH} : evBuildSlice T0 39 1 [(0, nodeV n nilV)] h = some (.slice (some ⟨h.next, 0, none⟩) 1 1, h.new (.cells (PM.ofList (nodeL n nilV)) 12 51 0 0 .ex)) := by kernel_rfl
end
end Go.Proofs.YtonfgflgnnkniaaGreat.Abs
namespace Go.Proofs.YtonfgflgnnkniaaGreat.Abs
open Go Go.Proofs
noncomputable section
variable {call : Abs.Callee}
set_option maxRecDepth 10000
abbrev NdC (call : Abs.Callee) : Prop := ∀ (f i : Nat) (v : Value) (h : AH), 1 ≤ f → f ≤ 2 → WinB h v (encN (nodeAt (rootN f) i) []) → ∃ h', call 70 [v] h = some (.tuple #[nodeV (nodeAt (rootN f) i) nilV, iv 0], h') ∧ Grow h.next h h'
noncomputable def bodyO1 : Code := part Tryz.f35 [1, 1, 1, 1, 1, 1, 1, 0, 1, 0, 0]
noncomputable def bodyO2 : Code := part Tryz.f35 [1, 1, 1, 1, 1, 1, 1, 1, 0, 1, 0, 0]
abbrev EOp : Env := ⟨35, 129, none⟩
theorem plan_o18 : planB (regOps Tryz.f35 [1, 1, 1, 1, 1, 1, 1, 0, 1, 0, 0, 1, 1, 0, 0, 1, 1, 1]) 129 = some ([.one 0, .one 1, .one 2, .one 3, .one 4, .one 5, .one 6, .eff [7] 8 [0], .one 9, .one 10, .one 11, .eff [] 12 []], []) := by kernel_rfl
theorem plan_o23 : planB (regOps Tryz.f35 [1, 1, 1, 1, 1, 1, 1, 1, 0, 1, 0, 0, 1, 1, 0, 0, 1]) 129 = some ([.one 0, .one 1, .one 2, .one 3, .one 4, .one 5, .one 6, .eff [] 7 [0, 1, 2, 3, 4, 5], .eff [8] 9 [0], .one 10, .one 11, .one 12, .eff [] 13 []], []) := by kernel_rfl
theorem quo_i (i : Nat) (hi : i < 400000) : ∀ p q h, evBin T0 .quo 3 p q (iv i) (iv 2) h = some (iv ((i / 2 : Nat) : Int)) := fun p q h => by
  rw [show iv 2 = iv ((2 : Nat) : Int) from rfl, bin_quo (n := 2) (by decide), IntWalk.i64_in _ (by omega)]
theorem rem_i (i : Nat) : ∀ p q h, evBin T0 .rem 3 p q (iv i) (iv 2) h = some (iv ((i % 2 : Nat) : Int)) := fun p q h => bin_rem (n := 2) (by decide)
theorem o1Lp (hD : NdC call) (pI n B f : Nat) (hB : 64 ≤ B) (hf1 : 1 ≤ f) (hf2 : f ≤ 2) (v vf vb : Value) (fb : List Nat) (ws : List Value) (hnI : n ≤ pI) (h0 : AH) (hn0 : n = h0.next) (hv0 : WB h0 v (madeL B f)) :
    ∀ (k i : Nat) (vn : Value) (cs : List Value) (h : AH) (tm : PM Value) (N : Nat), i + k = 32 → k + 60 ≤ N → pI < h.next → Grow n h0 h → BoxL h pI 43 (imgL B f vf vn vb ws) → OwnC 12 n h vn i cs 51 → NdsC f i cs → Bks h vf fb →
      tm.get 0 = some v → tm.get 4 = some (pv pI 0) → tm.get 73 = some (iv i) →
      ∃ tm' h', codeB T0 X0 call N EOp (.loop bodyO1) tm h [] = .jump (.exit 0) tm' h' [] ∧ ((tm'.get 0 = some v ∧ tm'.get 4 = some (pv pI 0) ∧ ∃ vn' cs', BoxL h' pI 43 (imgL B f vf vn' vb ws) ∧ OwnC 12 n h' vn' 32 cs' 51 ∧ NdsC f 32 cs' ∧ Bks h' vf fb) ∧ Grow n h h') := by
  intro k
  induction k with
  | zero =>
    intro i vn cs h tm N hi hN hpI hG hI ho hc hF g0 g4 g73
    obtain ⟨N, rfl⟩ : ∃ a, N = a + 60 := ⟨N - 60, by omega⟩
    have hiB : i = 32 := by omega
    subst hiB
    apply Exists.intro; apply Exists.intro
    refine ⟨?_, ⟨?_, ?_, vn, cs, hI, ho, hc, hF⟩, Grow.refl _ _⟩
    · rw [codeB_loop]
      simp only [bodyO1, part, Tryz.f35, sub, symM, opFn, Nat.reduceLT, symM, g73, bin_lss, show decide (((32 : Nat) : Int) < 32) = false from rfl]
      rfl
    · simp only [symM, Nat.reduceBEq, g0]
    · simp only [symM, Nat.reduceBEq, g4]
  | succ k ih =>
    intro i vn cs h tm N hi hN hpI hG hI ho hc hF g0 g4 g73
    obtain ⟨N, rfl⟩ : ∃ a, N = a + 60 := ⟨N - 60, by omega⟩
    have hv := hv0.grow (hn0 ▸ hG)
    obtain ⟨bs, m1, ⟨m2, m2'⟩, m3⟩ := made_node B f i hB (by omega)
    obtain ⟨p, w, a1, _, a2⟩ := hv.ats m1
    obtain ⟨a3, a4⟩ := a2 h (Grow.refl _ _)
    have hm2 : i % 2 < 2 := Nat.mod_lt _ (by decide)
    obtain ⟨w1, b1, b2⟩ := a4.win (lov := some (iv ((i % 2 * 32 : Nat) : Int))) (hiv := none) (lo := i % 2 * 32) (hh := 64) (.inl rfl) (.inr ⟨rfl, m2.symm⟩) (by omega) (by omega)
    obtain ⟨w2, c1, c2⟩ := b2.win (lov := none) (hiv := some (iv 32)) (lo := 0) (hh := 32) (.inr ⟨rfl, rfl⟩) (.inl rfl) (by omega) (by rw [List.length_take, List.length_drop, m2]; omega)
    rw [List.drop_zero, Nat.sub_zero, m3] at c2
    obtain ⟨h1, d1, d2⟩ := hD f i w2 h hf1 hf2 c2
    have n1 := d2.next
    generalize hh2 : h1.new (.cells (PM.ofList (nodeL NV.zero nilV)) 12 51 0 0 .ex) = h2
    have g2 : Grow h1.next h1 h2 := by rw [← hh2]; exact Grow.new _ _
    have n2 : h2.next = h1.next + 1 := by rw [← hh2]; rfl
    have nb2 : NodeB h2 h1.next NV.zero nilV := by rw [← hh2]; exact NodeB.new _ _ _
    obtain ⟨h3, s1, s2, s3, s4⟩ := nb2.storeAll (k := h1.next) (nodeAt (rootN f) i) (f := nilV) rfl (Nat.le_refl _)
    have G3 : Grow h.next h h3 := d2.trans (g2.trans s3 (Nat.le_refl _)) (by omega)
    have n3 := G3.next
    have hI3 := hI.grow G3 hpI
    have ho3 := ho.grow G3
    have hF3 := hF.grow G3
    have nn := hG.next
    have hx1 : OwnC 1 h3.next (h3.new (.cells (PM.ofList (nodeL (nodeAt (rootN f) i) nilV)) 12 51 0 0 .ex)) vn i cs 51 → True := fun _ => trivial
    generalize hh4 : h3.new (.cells (PM.ofList (nodeL (nodeAt (rootN f) i) nilV)) 12 51 0 0 .ex) = h4
    have g4' : Grow h3.next h3 h4 := by rw [← hh4]; exact Grow.new _ _
    have n4 : h4.next = h3.next + 1 := by rw [← hh4]; rfl
    have gt4 : h4.get h3.next = some (.cells (PM.ofList (nodeL (nodeAt (rootN f) i) nilV)) 12 51 0 0 .ex) := by rw [← hh4]; exact get_new_same _ _
    have ho4 := ho3.grow g4'
    obtain ⟨v', h5, e1, e2, e3, e4, e5⟩ := append_big und_nodes tt_Node ti_Node.1 ti_Node.2.1 ti_Node.2.2 ho4 (appended_slice (k := 1) (cap := 1) (new := nodeL (nodeAt (rootN f) i) nilV) und_nodes gt4 (by rw [nodeL_len, ti_Node.2.1]) (by rw [ti_Node.2.1]; decide) (fun j x hx => by rw [PM.get_ofList]; exact hx)) (by rw [nodeL_len]) (nodeL_one _ rfl) (by omega) (by omega) 39
    have n5 := e3.next
    have t4 : tyAt h4 pI 43 := (hI3.grow g4' (by omega)).ty
    have hI5 := (hI3.grow g4' (by omega)).keep (e4 pI (by omega) (ho4.offT t4 (by decide)))
    have hF5 : Bks h5 vf fb := (hF3.grow g4').keep n5 fun q hq hu => e4 q hq (ho4.offT hu (by decide))
    have hsl : SLv v' := by
      rcases e2 with ⟨_, q, _⟩ | ⟨b, c, kd, cap, _, _, rfl, _⟩
      · omega
      · exact ⟨_, _, _, rfl⟩
    obtain ⟨h6, q1, q2, q3⟩ := img_nodes hI5 hsl
    have n6 := q3.next
    have G6 : Grow n h h6 := (((G3.less (by omega)).trans g4' (by omega)).trans e3 (Nat.le_refl _)).trans (q3.grow hnI) (Nat.le_refl _)
    have ho6 := e2.one q3 hI5.ty (by decide)
    have hF6 : Bks h6 vf fb := hF5.keep (Nat.le_of_eq q3.next.symm) fun q hq hu => q3.keep q (tyAt.ne hu hI5.ty (by decide))
    have ld := (img_loads hI3).2.1
    have ldn : evLoad T0 51 (pv h1.next 0) h3 = some (nodeV (nodeAt (rootN f) i) nilV) := s2.loads.2.2.2.2.2.2.2.2.2.2.2.2.1
    have hev : eqV vn vn = true := by
      rcases ho with ⟨rfl, _⟩ | ⟨b, c, kd, cap, _, _, rfl, _⟩
      · rfl
      · exact eqV_slice
    have w1' : IntKind.i64.wrap (3 + ((i / 2 : Nat) : Int)) = ((3 + i / 2 : Nat) : Int) := by rw [wz (by omega)]; omega
    have w2' : IntKind.i64.wrap (((i % 2 : Nat) : Int) * 32) = ((i % 2 * 32 : Nat) : Int) := by rw [wz (by omega)]; omega
    have hp := plan_o18
    simp only [regOps, part, Tryz.f35, sub] at hp
    rw [show N + 60 = (N + 59) + 1 from rfl, codeB_loop]
    simp only [bodyO1, part, Tryz.f35, sub, symM, opFn, Nat.reduceLT, Nat.reduceBEq, symM, g0, g73, bin_lss, decide_eq_true (show (i : Int) < 32 by omega), quo_i i (by omega), rem_i i, bin_add, bin_mul, w1', w2', a1, a3, ev3, evOpt, b1, c1, evCall_fn ft70 rfl, d1, alloc_N, hh2, s1, bin_neq, show ((0 : Int) == 0) = true from rfl]
    rw [codeB_draw, draw_plan hp rfl]
    simp only [drawAll, opFn, Nat.reduceLT, Nat.reduceBEq, nil_pv, g4, g73, field_I, field_st, ld, ldn, effE_cons, goAB_some bs_nd, hh4, e1, q1, bin_add, wadd1 (show i ≤ 400000 by omega)]
    exact wrapE (ih (i + 1) v' (cs ++ nodeL (nodeAt (rootN f) i) nilV) h6 _ (N + 59) (by omega) (by omega) (by omega) (hG.trans G6 (Nat.le_refl _)) q2 ho6 hc.snoc hF6 (by simp only [symM, Nat.reduceBEq, g0]) (by simp only [symM, Nat.reduceBEq, g4]) get_same) G6
theorem o2Lp (hCl : WCloneC call) (pI n B f : Nat) (hB : 64 ≤ B) (hB2 : B ≤ 480) (v vf vn : Value) (cs : List Value) (fb : List Nat) (ws : List Value) (hnI : n ≤ pI) (h0 : AH) (hn0 : n = h0.next) (bss : List (List Nat)) (hbl : bss.length = B) (h64 : ∀ bs ∈ bss, bs.length = 64 ∧ ∀ x ∈ bs, x < 256) (hv0 : WB h0 v bss) :
    ∀ (k i : Nat) (vb : Value) (h : AH) (tm : PM Value) (N : Nat), i + k = B → k + 60 ≤ N → pI < h.next → Grow n h0 h → BoxL h pI 43 (imgL B f vf vn vb ws) → OwnC 12 n h vn 32 cs 51 → Bks h vf fb → BL n h vb (bss.take i) →
      tm.get 4 = some (pv pI 0) → tm.get 106 = some v → tm.get 107 = some (iv B) → tm.get 108 = some (iv i) →
      ∃ tm' h', codeB T0 X0 call N EOp (.loop bodyO2) tm h [] = .jump (.exit 2) tm' h' [] ∧ ((tm'.get 4 = some (pv pI 0) ∧ ∃ vb', BoxL h' pI 43 (imgL B f vf vn vb' ws) ∧ OwnC 12 n h' vn 32 cs 51 ∧ Bks h' vf fb ∧ BL n h' vb' bss) ∧ Grow n h h') := by
  intro k
  induction k with
  | zero =>
    intro i vb h tm N hi hN hpI hG hI ho hF hb g4 g106 g107 g108
    obtain ⟨N, rfl⟩ : ∃ a, N = a + 60 := ⟨N - 60, by omega⟩
    have hiB : i = B := by omega
    subst hiB
    rw [List.take_of_length_le (by omega)] at hb
    apply Exists.intro; apply Exists.intro
    refine ⟨?_, ⟨?_, vb, hI, ho, hF, hb⟩, Grow.refl _ _⟩
    · rw [codeB_loop]
      simp only [bodyO2, part, Tryz.f35, sub, symM, opFn, Nat.reduceLT, symM, g107, g108, bin_lss, decide_eq_false (show ¬ (i : Int) < (i : Nat) by omega)]
      rfl
    · simp only [symM, Nat.reduceBEq, g4]
  | succ k ih =>
    intro i vb h tm N hi hN hpI hG hI ho hF hb g4 g106 g107 g108
    obtain ⟨N, rfl⟩ : ∃ a, N = a + 60 := ⟨N - 60, by omega⟩
    have hv := hv0.grow (hn0 ▸ hG)
    have hil : i < bss.length := by omega
    have hxi : bss[i]? = some bss[i] := List.getElem?_eq_getElem hil
    obtain ⟨m1, m2⟩ := h64 _ (List.getElem_mem hil)
    obtain ⟨p, w, a1, _, a2⟩ := hv.ats hxi
    obtain ⟨a3, a4⟩ := a2 h (Grow.refl _ _)
    obtain ⟨w', h1, b1, b2, b3⟩ := hCl w _ h a4 (by omega) (by omega) m2
    have n1 := b3.next
    have nn := hG.next
    have hI1 := hI.grow b3 hpI
    have hb1 := hb.grow b3
    have ho1 := ho.grow b3
    have hF1 := hF.grow b3
    obtain ⟨v', h2, c1, c2, c3, c4, c5⟩ := hb1.append b2 (by rw [List.length_take]; omega) (by omega) 30
    have n2 := c3.next
    have hI2 := hI1.keep (c4 pI (by omega) (hb1.off hI1.ty (by decide)))
    have ho2 : OwnC 12 n h2 vn 32 cs 51 := by
      rcases ho1 with q | ⟨b, c, kd, cap, q1, q2, q3, q4, q5⟩
      · exact .inl q
      · exact .inr ⟨b, c, kd, cap, q1, Nat.lt_of_lt_of_le q2 n2, q3, (c4 b q2 (hb1.off (⟨_, _, _, _, _, q4⟩ : tyAt h1 b _) (by decide))).trans q4, q5⟩
    have hF2 : Bks h2 vf fb := hF1.keep n2 fun k hk hu => c4 k hk (hb1.off hu (by decide))
    obtain ⟨h3, d1, d2, d3⟩ := img_blocks hI2 c5
    have n3 := d3.next
    have ho3 := ho2.one d3 hI2.ty (by decide)
    have hF3 : Bks h3 vf fb := hF2.keep (Nat.le_of_eq d3.next.symm) fun k hk hu => d3.keep k (tyAt.ne hu hI2.ty (by decide))
    have hb3 := c2.one d3 hI2.ty (by decide) (by decide)
    rw [show bss.take i ++ [bss[i]] = bss.take (i + 1) from (List.take_succ_eq_append_getElem hil).symm] at hb3
    have ld := (img_loads hI).2.2.1
    have ld1 := (img_loads hI1).2.2.1
    have G3 : Grow n h h3 := ((b3.less (by omega)).trans c3 (Nat.le_refl _)).trans (d3.grow hnI) (Nat.le_refl _)
    have hew : eqV w w = true := a4.row.eqv
    have hp := plan_o23
    simp only [regOps, part, Tryz.f35, sub] at hp
    rw [show N + 60 = (N + 59) + 1 from rfl, codeB_loop]
    simp only [bodyO2, part, Tryz.f35, sub, symM, opFn, Nat.reduceLT, Nat.reduceBEq, symM, g106, g107, g108, bin_lss, decide_eq_true (show (i : Int) < (B : Int) by omega), a1, a3]
    rw [codeB_draw, draw_plan hp rfl]
    simp only [drawAll, opFn, Nat.reduceLT, Nat.reduceBEq, nil_pv, g4, g108, field_I, field_st, ld, ld1, hb.eqv, evCall_fn ft17 rfl, b1, effE_cons, goAB_some (bs_bk b2.one1.1), c1, d1, bin_add, wadd1 (show i ≤ 400000 by omega)]
    exact wrapE (ih (i + 1) v' h3 _ (N + 59) (by omega) (by omega) (by omega) (hG.trans G3 (Nat.le_refl _)) d2 ho3 hF3 hb3 (by simp only [symM, Nat.reduceBEq, g4]) (by simp only [symM, Nat.reduceBEq, g106]) (by simp only [symM, Nat.reduceBEq, g107]) get_same) G3
end
end Go.Proofs.YtonfgflgnnkniaaGreat.Abs
namespace Go.Proofs.YtonfgflgnnkniaaGreat.Abs
open Go Go.Proofs
noncomputable section
variable {call : Abs.Callee}
set_option maxRecDepth 10000
abbrev ContBC (call : Abs.Callee) : Prop := ∀ (v : Value) (bss : List (List Nat)) (h : AH), WB h v bss → bss.length < 900 → (∀ bs ∈ bss, bs.length = 64) → call 65 [v, .func (.func 66) #[] #[]] h = some (.bool false, h)
abbrev SDecC (call : Abs.Callee) : Prop := ∀ (B f : Nat) (v : Value) (h : AH), 64 ≤ B → B ≤ 480 → 1 ≤ f → f ≤ 2 → WinB h v (supBy B f) → ∃ h', call 67 [v] h = some (.tuple #[supV B f, iv 0], h') ∧ Grow h.next h h'
abbrev GHeadC (call : Abs.Callee) : Prop := ∀ (v : Value) (h : AH), WinB h v headBy → ∃ h', call 68 [v] h = some (.tuple #[headV0, iv 0], h') ∧ Grow h.next h h'
abbrev Settle2C (call : Abs.Callee) : Prop := ∀ (pI n B f : Nat) (vf vn vb : Value) (fb : List Nat) (ws : List Value) (bss : List (List Nat)) (h : AH), ws.length = 8 → BoxL h pI 43 (imgL B f vf vn vb ws) → pI < h.next → n ≤ pI → SLv vn → NcP vn h → Bks h vf fb → BL n h vb bss → bss.length ≠ 0 → bss.length < 1000 →
  ∃ vf' vn' vb' h', call 13 [pv pI 0] h = some (.tuple #[], h') ∧ BoxL h' pI 43 (imgL B f vf vn vb (stL B f vf' vn' vb')) ∧ BL n h' vb bss ∧ BL n h' vb' bss ∧ Bks h' vf fb ∧ Grow n h h' ∧ (∀ k, k < h.next → k ≠ pI → h'.get k = h.get k)
theorem flag_take : flagBy.take 60 = markL 59 := by kernel_rfl
theorem field_Su0 {b : Nat} : evFieldAddr T0 37 (pv b 0) 0 = some (pv b 0) := by kernel_rfl
theorem plan_o11 : planB (regOps Tryz.f35 [1, 1, 1, 1, 1, 1, 0]) 129 = some ([.one 0, .one 1, .one 2, .one 3, .eff [] 4 [0, 1, 2, 3], .one 5, .one 6, .eff [] 7 [0], .one 8, .one 9, .one 10, .eff [] 11 []], []) := by kernel_rfl
theorem Open_S (hCo : ContBC call) (hSD : SDecC call) (hGH : GHeadC call) (hSl : SealedC call) (hNew : NewC call) (hCl : WCloneC call) (hD : NdC call) (hSt : Settle2C call) (B f : Nat) (k1 : 64 ≤ B) (k2 : B ≤ 480) (hf1 : 1 ≤ f) (hf2 : f ≤ 2) (v : Value) (h : AH) (hv : WB h v (madeL B f)) :
    ∃ pI h', frameB T0 X0 call 3000 35 [v] h = some (.tuple #[pv pI 0, iv 0], h') ∧ ImgR h' pI B f (madeL B f) ∧ h.next ≤ pI ∧ Grow h.next h h' := by
  have hL := made_lens B f k1
  have hlen : ∀ ty h', evBuiltin T0 .len #[30] ty [v] h' = some (.value (iv B), h') := fun ty h' => by rw [hv.len, madeL_len]
  have cc := hCo v _ h hv (by rw [madeL_len]; omega) (fun bs hb => (hL bs hb).1)
  obtain ⟨z0, z1, z2⟩ := made_012 B f k1
  obtain ⟨p0, w0, x0, ep0, y0⟩ := hv.ats z0
  obtain ⟨p1, w1, x1, ep1, y1⟩ := hv.ats z1
  obtain ⟨p2, w2, x2, ep2, y2⟩ := hv.ats z2
  have x0 : evIndexAddr T0 30 v (iv 0) = some p0 := x0
  have x1 : evIndexAddr T0 30 v (iv 1) = some p1 := x1
  have x2 : evIndexAddr T0 30 v (iv 2) = some p2 := x2
  generalize hws : stL 0 0 nilV nilV nilV = ws
  have hwl : ws.length = 8 := by rw [← hws]; rfl
  generalize hh1 : h.new (.cells (PM.ofList (imgL 0 0 nilV nilV nilV ws)) (imgL 0 0 nilV nilV nilV ws).length 43 0 0 .ex) = h1
  have g1 : Grow h.next h h1 := by rw [← hh1]; exact Grow.new _ _
  have n1 : h1.next = h.next + 1 := by rw [← hh1]; rfl
  have i1 : BoxL h1 h.next 43 (imgL 0 0 nilV nilV nilV ws) := by rw [← hh1]; exact BoxL.new _ _ _
  obtain ⟨h2, a1, a2⟩ := hSD B f w0 h1 k1 k2 hf1 hf2 (y0 h1 g1).2
  have n2 := a2.next
  have i2 := i1.grow a2 (by omega)
  obtain ⟨h3, b1, b2, b3⟩ := img_sup (B := B) (f := f) i2
  have n3 := b3.next
  have G3 : Grow h.next h h3 := (g1.trans a2 (by omega)).trans (b3.grow (Nat.le_refl _)) (Nat.le_refl _)
  obtain ⟨h4, c1, c2⟩ := hGH w1 h3 (y1 h3 G3).2
  have n4 := c2.next
  have i4 := b2.grow c2 (by omega)
  generalize hh5 : h4.new (.cells (PM.ofList [iv 0, iv 0]) 2 54 0 0 .ex) = h5
  have g5 : Grow h4.next h4 h5 := by rw [← hh5]; exact Grow.new _ _
  have n5 : h5.next = h4.next + 1 := by rw [← hh5]; rfl
  have e5 : BoxL h5 h4.next 54 [iv 0, iv 0] := by rw [← hh5]; exact BoxL.new _ _ _
  obtain ⟨h6, d1, d2, d3⟩ := head_store rfl e5
  have n6 := d3.next
  have G6 : Grow h.next h h6 := ((G3.trans c2 (by omega)).trans g5 (by omega)).trans (d3.grow (show h.next ≤ h4.next by omega)) (Nat.le_refl _)
  have i6 : BoxL h6 h.next 43 (imgL B f nilV nilV nilV ws) := (i4.grow g5 (by omega)).one d3 (by omega)
  have cs := hSl (setAt (List.replicate 64 0) 0 (markL 59)) w2 h6 (by rw [setAt0_len _ (by rw [markL_len]; decide)]; decide) (setAt_lt (by simp) (markL_lt 59)) (y2 h6 G6).2
  obtain ⟨v7, p7, h7, f1, f2, f3, f4, f5⟩ := hNew h6
  have n7 := f5.next
  have G7 : Grow h.next h h7 := G6.trans f5 (by omega)
  have hlen7 : ∀ ty h', evBuiltin T0 .len #[38] ty [v7] h' = some (.value (iv 60), h') := fun ty h' => by rw [f4.row.len und_bytes, bytesV_len, markL_len]; rfl
  obtain ⟨w3, u1, u2⟩ := (y2 h7 G7).2.win (lov := none) (hiv := some (iv 60)) (lo := 0) (hh := 60) (.inr ⟨rfl, rfl⟩) (.inl rfl) (by omega) (by rw [flagBy_ok.1]; decide)
  rw [List.drop_zero, Nat.sub_zero, flag_take] at u2
  obtain ⟨vf, h8, q1, q2, q3⟩ := hCl w3 _ h7 u2 (by rw [markL_len]; decide) (by rw [markL_len]; decide) (markL_lt 59)
  have n8 := q3.next
  have i8 := (i6.grow f5 (by omega)).grow q3 (by omega)
  obtain ⟨h9, r1, r2, r3⟩ := img_flags i8 q2.sl
  have n9 := r3.next
  have F9 : Bks h9 vf (markL 59) := q2.keep (Nat.le_of_eq r3.next.symm) fun k hk hu => r3.keep k (tyAt.ne hu i8.ty (by decide))
  have G9 : Grow h.next h h9 := (G7.trans q3 (by omega)).trans (r3.grow (Nat.le_refl _)) (Nat.le_refl _)
  have l3 : evLoad T0 3 (pv h.next 0) h3 = some (iv B) := b2.load agg_int (i := 0) rfl
  have ldw0 := (y0 h1 g1).1
  have ldw1 := (y1 h3 G3).1
  have ldw2 := (y2 h6 G6).1
  have ldw2' := (y2 h7 G7).1
  have hew2 : eqV w2 w2 = true := (y2 h6 G6).2.row.eqv
  have hp := plan_o11
  simp only [regOps, part, Tryz.f35, sub] at hp
  rw [frameB_eq ft35 rfl rfl]
  simp only [Tryz.f35, symM, opFn, Nat.reduceLT, Nat.reduceBEq, symM, hlen, bin_lss, decide_eq_false (show ¬ (B : Int) < 64 by omega), evCall_fn ft65 rfl, cc, alloc_I, hws, box_I, hh1, x0, ldw0, evCall_fn ft67 rfl, a1, nil_pv, field_I, field_st, field_Su0, b1, bin_neq, show ((0 : Int) == 0) = true from rfl, l3, beq_self_eq_true, x1, ldw1, evCall_fn ft68 rfl, c1, alloc_Hd, hh5, d1, x2, ldw2, evCall_fn ft69 rfl, cs]
  rw [codeB_draw, draw_plan hp rfl]
  simp only [drawAll, opFn, Nat.reduceLT, Nat.reduceBEq, nil_pv, x2, ldw2, ldw2', hew2, ep2, hv.eqv, evCall_fn ft10 rfl, f1, effE_cons, hlen7, ev3, evOpt, u1, evCall_fn ft17 rfl, q1, field_I, field_st, r1]
  simp only [symL]
  generalize hX : codeB T0 X0 call _ EOp (.loop _) _ _ _ = X
  obtain ⟨t1, h10, s1, ⟨s2, s3, vn, ns, s4, s5, s6, s7⟩, s8⟩ := use_exit hX (o1Lp hD h.next h.next B f k1 hf1 hf2 v vf nilV (markL 59) ws (Nat.le_refl _) h rfl hv 32 0 nilV [] h9 _ _ (by omega) (by omega) (by omega) G9 r2 (.inl ⟨rfl, rfl, rfl⟩) ⟨rfl, rfl, fun i' hi => absurd hi (by omega)⟩ F9 (by simp only [symM, Nat.reduceBEq]) (by simp only [symM, Nat.reduceBEq]) (by simp only [symM]; rfl))
  clear hX
  subst s1
  have n10 := s8.next
  have G10 := G9.trans s8 (Nat.le_refl _)
  simp only [symM, opFn, Nat.reduceLT, symM, symL, s2, hlen]
  generalize hX : codeB T0 X0 call _ EOp (.loop _) _ _ _ = X
  obtain ⟨t2, h11, m1, ⟨m2, vb, m3, m4, m5, m6⟩, m7⟩ := use_exit hX (o2Lp hCl h.next h.next B f k1 k2 v vf vn ns (markL 59) ws (Nat.le_refl _) h rfl (madeL B f) (madeL_len B f) hL hv B 0 nilV h10 _ _ (by omega) (by omega) (by omega) G10 s4 s5 s7 ⟨[], Own.nil _ _ _, rfl, fun i w bs hi _ => by simp at hi⟩ (by simp only [symM, Nat.reduceBEq, s3]) (by simp only [symM, Nat.reduceBEq]) (by simp only [symM, Nat.reduceBEq]) (by simp only [symM]; rfl))
  clear hX
  subst m1
  have n11 := m7.next
  have hvn : SLv vn := by
    rcases m4 with ⟨_, q, _⟩ | ⟨b, c, kd, cap, _, _, rfl, _⟩
    · omega
    · exact ⟨_, _, _, rfl⟩
  obtain ⟨vf', vn', vb', h12, o1, o2, o3, o4, o5, o6, o7⟩ := hSt h.next h.next B f vf vn vb (markL 59) ws (madeL B f) h11 hwl m3 (by omega) (Nat.le_refl _) hvn ⟨h.next, 32, ns, m4, by decide, by decide, s6.2.1⟩ m5 m6 (by rw [madeL_len]; omega) (by rw [madeL_len]; omega)
  have n12 := o6.next
  have G12 := (G10.trans m7 (Nat.le_refl _)).trans o6 (Nat.le_refl _)
  have hNs : NsR h12 vn f := by
    obtain ⟨pn, cap, c, m, el, lo, hi, kd, r1, r2, r3, r4⟩ := NdsC.nsR m4 s6
    refine ⟨pn, cap, c, m, el, lo, hi, kd, r1, Nat.lt_of_lt_of_le r2 n12, ?_, r4⟩
    rw [o7 pn r2, r3]
    rcases m4 with ⟨_, q, _⟩ | ⟨b, c', kd', cap', _, _, q3, q4, _⟩
    · omega
    · rw [q3] at r1
      injection r1 with r1
      injection r1 with r1
      injection r1 with r1
      rw [← r1]
      exact tyAt.ne (⟨_, _, _, _, _, q4⟩ : tyAt h11 b _) m3.ty (by decide)
  refine ⟨h.next, h12, ?_, ⟨by omega, vf, vn, vb, _, o2, o3.less (Nat.zero_le _), hNs⟩, Nat.le_refl _, G12⟩
  simp only [symM, opFn, Nat.reduceLT, Nat.reduceBEq, symM, symL, m2, evCall_fn ft13 rfl, o1]
  exact retB_two ft35 rfl (by simp only [symM, Nat.reduceBEq]) get_same
end
end Go.Proofs.YtonfgflgnnkniaaGreat.Abs
namespace Go.Proofs.YtonfgflgnnkniaaGreat.Abs
open Go Go.Proofs
noncomputable section
variable {call : Abs.Callee}
set_option maxRecDepth 10000
theorem und_writes : und T0 124 = some (.slice 157) := by kernel_rfl
theorem sz_Write : szOf T0 157 = some 2 := by kernel_rfl
theorem agg_Write : aggT T0 157 = some true := by kernel_rfl
theorem tt_Write : T0.tt.get 157 = some (infoOf 157) := by kernel_rfl
theorem ti_Write : (infoOf 157).zero = some (.agg #[iv 0, nilV]) ∧ (infoOf 157).size = 2 ∧ (infoOf 157).bytes ≤ 64 := ⟨by kernel_rfl, by kernel_rfl, Nat.le_of_ble_eq_true (by kernel_rfl)⟩
def OwnW (n : Nat) (h : AH) (v : Value) (k : Nat) : Prop := ∃ cs, OwnC 2 n h v k cs 157 ∧ cs.all oneCell = true
theorem OwnW.nil (n : Nat) (h : AH) : OwnW n h nilV 0 := ⟨[], .inl ⟨rfl, rfl, rfl⟩, rfl⟩
theorem OwnW.len {n k : Nat} {h h' : AH} {v : Value} {ty : TypeId} (ho : OwnW n h v k) : evBuiltin T0 .len #[124] ty [v] h' = some (.value (iv k), h') := by
  obtain ⟨cs, ho, _⟩ := ho
  rcases ho with ⟨rfl, rfl, _⟩ | ⟨b, c, kd, cap, _, _, rfl, _⟩
  · exact len_slice und_writes
  · exact len_slice und_writes
theorem OwnW.one1 {n k : Nat} {h : AH} {v : Value} (ho : OwnW n h v k) : oneCell v = true ∧ v.cells.toList = [v] := by
  obtain ⟨cs, ho, _⟩ := ho
  rcases ho with ⟨rfl, _⟩ | ⟨b, c, kd, cap, _, _, rfl, _⟩ <;> exact ⟨rfl, rfl⟩
theorem OwnW.grow {n k : Nat} {h h' : AH} {v : Value} (ho : OwnW n h v k) (g : Grow h.next h h') : OwnW n h' v k := by
  obtain ⟨cs, ho, h1⟩ := ho
  exact ⟨cs, ho.grow g, h1⟩
theorem OwnW.less {n m k : Nat} {h : AH} {v : Value} (ho : OwnW m h v k) (hn : n ≤ m) : OwnW n h v k := by
  obtain ⟨cs, ho, h1⟩ := ho
  exact ⟨cs, ho.less hn, h1⟩
theorem eqV_own {n k : Nat} {h : AH} {v : Value} (ho : OwnW n h v k) : eqV v v = true := by
  obtain ⟨cs, ho, _⟩ := ho
  rcases ho with ⟨rfl, _⟩ | ⟨b, c, kd, cap, _, _, rfl, _⟩
  · rfl
  · exact eqV_slice
theorem bs_w {a : Nat} {d : Value} {h : AH} (hd : oneCell d = true ∧ d.cells.toList = [d]) : evBuildSlice T0 124 1 [(0, .agg #[iv a, d])] h = some (.slice (some ⟨h.next, 0, none⟩) 1 1, h.new (.cells (PM.ofList [iv a, d]) 2 157 0 0 .ex)) := by
  unfold evBuildSlice
  simp only [und_writes, sz_Write, show zeroOf T0 157 = some (.agg #[iv 0, nilV]) from by kernel_rfl]
  rfl
theorem OwnW.append {n k : Nat} {h : AH} {v d : Value} (ho : OwnW n h v k) (a : Nat) (hd : oneCell d = true ∧ d.cells.toList = [d]) (hl : k < 1000) (hn : n ≤ h.next) (ty : TypeId) :
    ∃ v' h', evBuiltin T0 .append #[124, 124] ty [v, .slice (some ⟨h.next, 0, none⟩) 1 1] (h.new (.cells (PM.ofList [iv a, d]) 2 157 0 0 .ex)) = some (.value v', h') ∧ OwnW n h' v' (k + 1) ∧ Grow n h h' := by
  obtain ⟨cs, ho, h1⟩ := ho
  have g := Grow.new h (.cells (PM.ofList [iv a, d]) 2 157 0 0 .ex)
  have h2 : [iv a, d].all oneCell = true := by show (true && (oneCell d && true)) = true; rw [hd.1]; rfl
  obtain ⟨v', h', e1, e2, e3, _⟩ := append_gen und_writes tt_Write ti_Write.1 ti_Write.2.1 ti_Write.2.2 (ho.grow g)
    (appended_slice (k := 1) (cap := 1) (new := [iv a, d]) und_writes (get_new_same _ _) (by rw [ti_Write.2.1]; rfl) (by rw [ti_Write.2.1]; exact Nat.le_refl _) (fun j w hj => by rw [PM.get_ofList]; exact hj)) rfl h2 (by omega) (Nat.le_succ_of_le hn) ty
  exact ⟨v', h', e1, ⟨cs ++ [iv a, d], e2, by rw [List.all_append, h1, h2]; rfl⟩, (g.less hn).trans e3 (Nat.le_refl _)⟩
theorem ft72 : T0.ft.get 72 = some Tryz.f72 := by kernel_rfl
theorem BL.tail {n lo : Nat} {h : AH} {v : Value} {bss : List (List Nat)} (hb : BL n h v bss) (hlo : lo < bss.length) (hl : bss.length < 1000) : ∃ w, evSliceX T0 30 v (some (iv lo)) none none h = some (w, h) ∧ WB h w (bss.drop lo) := by
  obtain ⟨vs, h1, h2, h3⟩ := hb
  rcases h1 with ⟨_, q⟩ | ⟨b, c, kd, cap, q1, q2, rfl, q4, q5, q6⟩
  · rw [q] at h2; simp at h2; omega
  · have hrow : ∀ w, Row h.next h (.slice (some ⟨b, lo, none⟩) (vs.length - lo) w) (vs.drop lo) 38 := fun w =>
      .inr ⟨b, lo, w, c, _, 0, 0, kd, _, by rw [List.length_drop], q2, q4, by rw [List.length_drop]; omega, fun i x hi => by rw [List.getElem?_drop] at hi; exact q5 _ _ hi⟩
    have hw : ∀ w, WB h (.slice (some ⟨b, lo, none⟩) (vs.length - lo) w) (bss.drop lo) := fun w => ⟨vs.drop lo, hrow w, by rw [List.length_drop, List.length_drop, h2], fun i x bs hx hy => by
      rw [List.getElem?_drop] at hx hy
      exact (h3 _ x bs hx hy).winB⟩
    rcases q6 with ⟨rfl, rfl⟩ | ⟨rfl, rfl⟩
    · refine ⟨_, ?_, hw (vs.length - lo)⟩
      have hk : capOf vs.length = vs.length := capOf_lt (by rw [XB_val]; omega)
      have hbnd : boundsA vs.length vs.length (some (iv lo)) none none = some (lo, vs.length, vs.length) := by
        simp only [boundsA, boundA, show natOf (iv (lo : Int)) = some lo from rfl, Nat.ble_eq_true_of_le (show lo ≤ vs.length by omega), ifB_true]
      simp only [evSliceX, evSlice, und_blocks, sz_bytes, evSliceS, hk, hbnd, Nat.ble_eq_true_of_le (Nat.le_refl vs.length), ifB_true, ble_lt' (show vs.length < XB by rw [XB_val]; omega), ifB_false, offS, nbF (show (vs.length == lo) = false by simp; omega), Nat.mul_one, Nat.zero_add]
    · refine ⟨_, ?_, hw (XB + (vs.length - lo))⟩
      have hbnd : boundsA vs.length vs.length (some (iv lo)) none none = some (lo, vs.length, vs.length) := by
        simp only [boundsA, boundA, show natOf (iv (lo : Int)) = some lo from rfl, Nat.ble_eq_true_of_le (show lo ≤ vs.length by omega), ifB_true]
      have hls : looseSz T0 h b 1 = true := by
        unfold looseSz
        rw [q4]
        simp only [sz_bytes]
        rfl
      simp only [evSliceX, evSlice, und_blocks, sz_bytes, evSliceS, capOf_ge, hbnd, Nat.ble_eq_true_of_le (Nat.le_refl vs.length), ifB_true, Nat.ble_eq_true_of_le (show XB ≤ XB + vs.length by omega), hls, offS, nbF (show (vs.length == lo) = false by simp; omega), ifB_false, Nat.mul_one, Nat.zero_add]
noncomputable def bodyDa : Code := part Tryz.f72 [1, 1, 0, 1, 0, 0]
abbrev EDa : Env := ⟨72, 27, none⟩
theorem build_W {a b o l cap : Nat} {h : AH} : evBuild T0 157 [(0, iv a), (1, .slice (some ⟨b, o, none⟩) l cap)] h = some (.agg #[iv a, .slice (some ⟨b, o, none⟩) l cap], h) := by kernel_rfl
theorem daLp (n : Nat) (v : Value) (bss : List (List Nat)) (h0 : AH) (hn0 : n = h0.next) (hv0 : WB h0 v bss) (hl : bss.length < 900) :
    ∀ (k i : Nat) (w : Value) (h : AH) (tm : PM Value) (N : Nat), i + k = bss.length → k + 60 ≤ N → Grow n h0 h → OwnW n h w i →
      tm.get 3 = some w → tm.get 11 = some v → tm.get 12 = some (iv bss.length) → tm.get 13 = some (iv i) →
      ∃ tm' h', codeB T0 X0 call N EDa (.loop bodyDa) tm h [] = .jump (.exit 0) tm' h' [] ∧ ((∃ w', tm'.get 3 = some w' ∧ OwnW n h' w' bss.length) ∧ Grow n h h') := by
  intro k
  induction k with
  | zero =>
    intro i w h tm N hi hN hG ho g3 g11 g12 g13
    obtain ⟨N, rfl⟩ : ∃ a, N = a + 60 := ⟨N - 60, by omega⟩
    have hiB : i = bss.length := by omega
    subst hiB
    apply Exists.intro; apply Exists.intro
    refine ⟨?_, ⟨w, ?_, ho⟩, Grow.refl _ _⟩
    · rw [codeB_loop]
      simp only [bodyDa, part, Tryz.f72, sub, symM, opFn, Nat.reduceLT, symM, g12, g13, bin_lss, decide_eq_false (show ¬ ((bss.length : Nat) : Int) < (bss.length : Nat) by omega)]
      rfl
    · simp only [symM, Nat.reduceBEq, g3]
  | succ k ih =>
    intro i w h tm N hi hN hG ho g3 g11 g12 g13
    obtain ⟨N, rfl⟩ : ∃ a, N = a + 60 := ⟨N - 60, by omega⟩
    have hv := hv0.grow (hn0 ▸ hG)
    have hil : i < bss.length := by omega
    obtain ⟨p, x, a1, _, a2⟩ := hv.ats (List.getElem?_eq_getElem hil)
    obtain ⟨a3, a4⟩ := a2 h (Grow.refl _ _)
    have hx : (oneCell x = true ∧ x.cells.toList = [x]) ∧ ∀ a h, evBuild T0 157 [(0, iv (a : Nat)), (1, x)] h = some (.agg #[iv a, x], h) := by
      obtain ⟨b, o, cap, c, m, l0, h0, kd, el, k, rfl, _⟩ := a4
      exact ⟨⟨rfl, rfl⟩, fun a h => build_W⟩
    obtain ⟨hx, hbw⟩ := hx
    obtain ⟨w', h1, b1, b2, b3⟩ := ho.append (59 + i) hx (by omega) (by have := hG.next; omega) 124
    have w1 : IntKind.i64.wrap (59 + (i : Int)) = ((59 + i : Nat) : Int) := by rw [wz (by omega)]; omega
    rw [show N + 60 = (N + 59) + 1 from rfl, codeB_loop]
    simp only [bodyDa, part, Tryz.f72, sub, symM, opFn, Nat.reduceLT, Nat.reduceBEq, symM, g3, g11, g12, g13, bin_lss, decide_eq_true (show (i : Int) < (bss.length : Nat) by omega), a1, a3, bin_add, w1, hbw, bs_w hx, b1, wadd1 (show i ≤ 400000 by omega)]
    exact wrapE (ih (i + 1) w' h1 _ (N + 59) (by omega) (by omega) (hG.trans b3 (Nat.le_refl _)) b2 (by simp only [symM, Nat.reduceBEq]) (by simp only [symM, Nat.reduceBEq, g11]) (by simp only [symM, Nat.reduceBEq, g12]) get_same) b3
theorem Data_S2 (pI B f : Nat) (bss : List (List Nat)) (h : AH) (hI : ImgR h pI B f bss) (hl : bss.length < 900) (hl2 : 59 < bss.length) :
    ∃ v' h', frameB T0 X0 call 3000 72 [pv pI 0] h = some (v', h') ∧ SLv v' ∧ Grow h.next h h' := by
  obtain ⟨i1, vf, vn, vb, ws, i2, i3, i4⟩ := hI
  obtain ⟨w, s1, s2⟩ := i3.tail (lo := 59) hl2 (by omega)
  have s1 : evSliceX T0 30 vb (some (iv 59)) none none h = some (w, h) := s1
  have ld := (img_loads i2).2.2.1
  have hlen : ∀ ty h', evBuiltin T0 .len #[30] ty [w] h' = some (.value (iv (bss.drop 59).length), h') := fun ty h' => s2.len ty
  rw [frameB_eq ft72 rfl rfl]
  simp only [Tryz.f72, symM, opFn, Nat.reduceLT, Nat.reduceBEq, symM, symL, nil_pv, field_I, field_st, ld, ev3, evOpt, s1, hlen]
  generalize hX : codeB T0 X0 call _ EDa (.loop _) _ _ _ = X
  obtain ⟨t1, h1, e1, ⟨w', e2, e3⟩, e4⟩ := use_exit hX (daLp h.next w (bss.drop 59) h rfl s2 (by rw [List.length_drop]; omega) (bss.drop 59).length 0 nilV h _ _ (by omega) (by rw [List.length_drop]; omega) (Grow.refl _ _) (OwnW.nil _ _) (by simp only [symM, Nat.reduceBEq]) (by simp only [symM, Nat.reduceBEq]) (by simp only [symM, Nat.reduceBEq]) (by simp only [symM]; rfl))
  clear hX
  subst e1
  refine ⟨w', h1, ?_, ?_, e4⟩
  · simp only [symM, opFn, Nat.reduceLT, symM, symL, e2]
    exact retB_one ft72 rfl get_same
  · obtain ⟨cs, e3, _⟩ := e3
    rcases e3 with ⟨_, q, _⟩ | ⟨b, c, kd, cap, _, _, rfl, _⟩
    · rw [List.length_drop] at q; omega
    · exact ⟨_, _, _, rfl⟩
end
end Go.Proofs.YtonfgflgnnkniaaGreat.Abs
