
/- The image is made: its parts. -/
import Derived.Test.YtjiilfinllfmgaaGreatImg
namespace Go.Proofs.YtjiilfinllfmgaaGreat.Abs
open Go Go.Proofs
noncomputable section
variable {call : Abs.Callee}
set_option maxRecDepth 10000
theorem ft4 : T0.ft.get 4 = some Tryz.f4 := by kernel_rfl
theorem ptr_neq {b : Nat} {p q : Operand} {h : AH} : evBin T0 .neq 22 p q (pv b 0) (.pointer none) h = some (.bool true) := by kernel_rfl
theorem ptr_eql {b : Nat} {p q : Operand} {h : AH} : evBin T0 .eql 22 p q (pv b 0) (.pointer none) h = some (.bool false) := by kernel_rfl
theorem sz_bb : szOf T0 28 = some 1 := by kernel_rfl
theorem sz_nodes : szOf T0 39 = some 1 := by kernel_rfl
theorem sz_Img : szOf T0 43 = some 16 := by kernel_rfl
/-- Cells of the image are stored. -/
theorem img_sup {h : AH} {pI B f B' f' : Nat} {vf vn vb : Value} {ws : List Value} (hI : BoxL h pI 43 (imgL B' f' vf vn vb ws)) :
    ∃ h', evStore T0 32 (pv pI 0) (supV B f) h = some h' ∧ BoxL h' pI 43 (imgL B f vf vn vb ws) ∧ One pI h h' := by
  obtain ⟨h', s1, s2, s3, s4⟩ := BoxL.store (n := pI) (o := 0) (v := supV B f) hI (ws := supL B f) sz_Sup rfl (by simp [supL]) rfl (by simp [imgL, supL]) (Nat.le_refl _)
  exact ⟨h', s1, s2, s4, evStore_keep s1⟩
theorem img_flags {h : AH} {pI B f : Nat} {vf vn vb v : Value} {ws : List Value} (hI : BoxL h pI 43 (imgL B f vf vn vb ws)) (hv : SLv v) :
    ∃ h', evStore T0 38 (pv pI 5) v h = some h' ∧ BoxL h' pI 43 (imgL B f v vn vb ws) ∧ One pI h h' := by
  obtain ⟨h', s1, s2, s3, s4⟩ := BoxL.store (n := pI) (o := 5) (v := v) hI (ws := [v]) sz_bytes hv.one1.2.1 (by simp) (by simp [hv.one1.1]) (by simp [imgL, supL]) (Nat.le_refl _)
  exact ⟨h', s1, s2, s4, evStore_keep s1⟩
theorem img_nodes {h : AH} {pI B f : Nat} {vf vn vb v : Value} {ws : List Value} (hI : BoxL h pI 43 (imgL B f vf vn vb ws)) (hv : SLv v) :
    ∃ h', evStore T0 39 (pv pI 6) v h = some h' ∧ BoxL h' pI 43 (imgL B f vf v vb ws) ∧ One pI h h' := by
  obtain ⟨h', s1, s2, s3, s4⟩ := BoxL.store (n := pI) (o := 6) (v := v) hI (ws := [v]) sz_nodes hv.one1.2.1 (by simp) (by simp [hv.one1.1]) (by simp [imgL, supL]) (Nat.le_refl _)
  exact ⟨h', s1, s2, s4, evStore_keep s1⟩
theorem img_blocks {h : AH} {pI B f : Nat} {vf vn vb v : Value} {ws : List Value} (hI : BoxL h pI 43 (imgL B f vf vn vb ws)) (hv : SLv v) :
    ∃ h', evStore T0 28 (pv pI 7) v h = some h' ∧ BoxL h' pI 43 (imgL B f vf vn v ws) ∧ One pI h h' := by
  obtain ⟨h', s1, s2, s3, s4⟩ := BoxL.store (n := pI) (o := 7) (v := v) hI (ws := [v]) sz_bb hv.one1.2.1 (by simp) (by simp [hv.one1.1]) (by simp [imgL, supL]) (Nat.le_refl _)
  exact ⟨h', s1, s2, s4, evStore_keep s1⟩
theorem img_was {h : AH} {pI B f : Nat} {vf vn vb vf' vn' vb' : Value} {ws : List Value} (hw : ws.length = 8) (hI : BoxL h pI 43 (imgL B f vf vn vb ws)) (h1 : SLv vf') (h2 : SLv vn') (h3 : SLv vb') :
    ∃ h', evStore T0 41 (pv pI 8) (stV B f vf' vn' vb') h = some h' ∧ BoxL h' pI 43 (imgL B f vf vn vb (stL B f vf' vn' vb')) ∧ One pI h h' := by
  obtain ⟨h', s1, s2, s3, s4⟩ := BoxL.store (n := pI) (o := 8) (v := stV B f vf' vn' vb') hI (ws := stL B f vf' vn' vb') sz_st rfl (by simp [stL, supL]) (stL_one h1 h2 h3) (by simp [imgL, supL, stL, hw]) (Nat.le_refl _)
  refine ⟨h', s1, ?_, s4, evStore_keep s1⟩
  have e : (imgL B f vf vn vb ws).take 8 ++ stL B f vf' vn' vb' ++ (imgL B f vf vn vb ws).drop (8 + (stL B f vf' vn' vb').length) = imgL B f vf vn vb (stL B f vf' vn' vb') := by
    have e1 : (imgL B f vf vn vb ws).take 8 = supL B f ++ [vf, vn, vb] := by
      show supL B f ++ [vf, vn, vb] ++ ws.take 0 = _
      simp
    have e2 : (imgL B f vf vn vb ws).drop (8 + (stL B f vf' vn' vb').length) = [] := List.drop_eq_nil_of_le (by simp [imgL, supL, stL, hw])
    rw [e1, e2, List.append_nil]
    rfl
  rw [e] at s2
  exact s2
theorem img_loads {h : AH} {pI B f : Nat} {vf vn vb : Value} {ws : List Value} (hI : BoxL h pI 43 (imgL B f vf vn vb ws)) :
    evLoad T0 38 (pv pI 5) h = some vf ∧ evLoad T0 39 (pv pI 6) h = some vn ∧ evLoad T0 28 (pv pI 7) h = some vb ∧ evLoad T0 32 (pv pI 0) h = some (supV B f) ∧ evLoad T0 41 (pv pI 0) h = some (stV B f vf vn vb) :=
  ⟨hI.load agg_bytes rfl, hI.load agg_nodes rfl, hI.load agg_blocks rfl, hI.loadA (o := 0) (ws := supL B f) agg_Sup sz_Sup (by simp [imgL, supL]) (fun i x hi => by
    rw [Nat.zero_add]
    unfold imgL
    rw [List.append_assoc, List.getElem?_append_left (List.getElem?_eq_some_iff.1 hi).1]; exact hi), hI.loadA (o := 0) (ws := stL B f vf vn vb) agg_state sz_st (by simp [imgL, supL, stL]) (fun i x hi => by
    rw [Nat.zero_add]
    unfold imgL
    rw [List.getElem?_append_left (by exact (List.getElem?_eq_some_iff.1 hi).1)]; exact hi)⟩
abbrev CopyC (call : Abs.Callee) : Prop := ∀ (pn n B f : Nat) (vf vb : Value) (fb : List Nat) (bss : List (List Nat)) (h : AH), NsB h pn (rootN f) → pn < h.next → Bks h vf fb → BL n h vb bss → bss.length ≠ 0 → bss.length < 1000 →
  ∃ vf' vn' vb' h', call 39 [stV B f vf (nodesV pn) vb] h = some (stV B f vf' vn' vb', h') ∧ SLv vf' ∧ SLv vn' ∧ BL h.next h' vb' bss ∧ Grow h.next h h'
theorem Settle_S (hC : CopyC call) (pI pn n B f : Nat) (vf vb : Value) (fb : List Nat) (ws : List Value) (hw : ws.length = 8) (bss : List (List Nat)) (h : AH) (hI : BoxL h pI 43 (imgL B f vf (nodesV pn) vb ws)) (hpI : pI < h.next) (hnI : n ≤ pI)
    (hNs : NsB h pn (rootN f)) (hpn : pn < h.next) (hF : Bks h vf fb) (hb : BL n h vb bss) (h0 : bss.length ≠ 0) (hl : bss.length < 1000) :
    ∃ vf' vn' vb' h', frameB T0 X0 call 3000 16 [pv pI 0] h = some (.tuple #[], h') ∧ BoxL h' pI 43 (imgL B f vf (nodesV pn) vb (stL B f vf' vn' vb')) ∧ BL n h' vb bss ∧ BL n h' vb' bss ∧ Bks h' vf fb ∧ Grow n h h' := by
  obtain ⟨vf', vn', vb', h1, a1, a2, a3, a4, a5⟩ := hC pn n B f vf vb fb bss h hNs hpn hF hb h0 hl
  have n1 := a5.next
  have hI1 := hI.grow a5 hpI
  obtain ⟨h2, b1, b2, b3⟩ := img_was (vf' := vf') (vn' := vn') (vb' := vb') hw hI1 a2 a3 (a4.sl h0)
  refine ⟨vf', vn', vb', h2, ?_, b2, (hb.grow a5).one b3 hI1.ty (by decide) (by decide), (a4.one b3 hI1.ty (by decide) (by decide)).less (by omega), (hF.grow a5).keep (Nat.le_of_eq b3.next.symm) fun k hk hu => b3.keep k (tyAt.ne hu hI1.ty (by decide)), (a5.less (by omega)).trans (b3.grow hnI) (Nat.le_refl _)⟩
  have q := img_loads hI
  rw [frameB_eq ft16 rfl rfl]
  simp only [Tryz.f16, symM, opFn, Nat.reduceLT, Nat.reduceBEq, symM, ptr_neq, nil_pv, field_I, q, evCall_fn ft39 rfl, a1, b1]
  exact retB_zero ft16 rfl
/-- A block behind blocks. -/
theorem bs_bk {w : Value} {h : AH} (hw : oneCell w = true) : evBuildSlice T0 28 1 [(0, w)] h = some (.slice (some ⟨h.next, 0, none⟩) 1 1, h.new (.cells (PM.ofList [w]) 1 38 0 0 .ex)) := bs_one und_blocks sz_bytes zero_bytes rfl hw
theorem BL.append {n : Nat} {h : AH} {v w : Value} {bs : List Nat} {bss : List (List Nat)} (hb : BL n h v bss) (hw : Bks h w bs) (hl : bss.length < 1000) (hn : n ≤ h.next) (ty : TypeId) :
    ∃ v' h', evBuiltin T0 .append #[28, 28] ty [v, .slice (some ⟨h.next, 0, none⟩) 1 1] (h.new (.cells (PM.ofList [w]) 1 38 0 0 .ex)) = some (.value v', h') ∧ BL n h' v' (bss ++ [bs]) ∧ Grow n h h' ∧ (∀ k, k < h.next → Off v k → h'.get k = h.get k) ∧ SLv v' := by
  obtain ⟨vs, a1, a2, a3⟩ := hb
  obtain ⟨v', h', e1, e2, e3, e4⟩ := append_one2 und_blocks tt_bytes ti_bytes.1 ti_bytes.2.1 ti_bytes.2.2 a1 hw.one1.1 (by omega) hn ty
  have ku : ∀ k, k < h.next → tyAt h k 5 → h'.get k = h.get k := fun k hk hu => e4 k hk (a1.offT hu (by decide))
  refine ⟨v', h', e1, ⟨vs ++ [w], e2.less hn, by simp [a2], ?_⟩, e3, e4, ?_⟩
  · intro i x cs hx hc
    by_cases hi : i < vs.length
    · rw [List.getElem?_append_left hi] at hx
      rw [List.getElem?_append_left (by rw [← a2]; exact hi)] at hc
      exact (a3 i x cs hx hc).keep e3.next ku
    · rw [List.getElem?_append_right (by omega)] at hx
      rw [List.getElem?_append_right (by omega), ← a2] at hc
      have h0 : i - vs.length = 0 := by
        have := (List.getElem?_eq_some_iff.1 hx).1
        simp at this; omega
      rw [h0] at hx hc
      cases hx; cases hc
      exact hw.keep e3.next ku
  · rcases e2 with ⟨_, q⟩ | ⟨b, c, kd, cap, _, _, rfl, _⟩
    · simp at q
    · exact ⟨_, _, _, rfl⟩
end
end Go.Proofs.YtjiilfinllfmgaaGreat.Abs
namespace Go.Proofs.YtjiilfinllfmgaaGreat.Abs
open Go Go.Proofs
noncomputable section
variable {call : Abs.Callee}
set_option maxRecDepth 10000
def zb : List Nat := List.replicate 64 0
theorem zb_ok : zb.length = 64 ∧ ∀ x ∈ zb, x < 256 := ⟨by decide, by decide⟩
noncomputable def bodyMa : Code := part Tryz.f4 [1, 1, 1, 1, 1, 1, 1, 0, 1, 0, 0]
abbrev EMa : Env := ⟨4, 85, none⟩
theorem plan_ma : planB (regOps Tryz.f4 [1, 1, 1, 1, 1, 1, 1, 0, 1, 0, 0, 1, 1, 0, 0]) 85 = some ([.one 0, .one 1, .one 2, .one 3, .one 4, .one 5, .eff [] 6 [0, 1, 2, 3, 4, 5], .eff [7] 8 [0], .one 9, .one 10, .one 11, .eff [] 12 []], []) := by kernel_rfl
theorem mkBlock (h : AH) : ∃ h1 w, evMakeSlice T0 38 (iv 64) (iv 64) h = some (w, h1) ∧ Bks h1 w zb ∧ Grow h.next h h1 := by
  obtain ⟨h1, e1, e2, e3⟩ := make_bytes (h := h) (k := 64) (by omega)
  exact ⟨h1, _, e1, Bks.own e2 (by decide) (by decide) zb_ok.2, e3⟩
theorem maLp (pI pn n B f : Nat) (hB : B ≤ 480) (vf : Value) (fb : List Nat) (ws : List Value) (hnI : n ≤ pI) :
    ∀ (k i : Nat) (vb : Value) (h : AH) (tm : PM Value) (N : Nat), i + k = B → k + 60 ≤ N → n ≤ h.next → pI < h.next → pn < h.next → BoxL h pI 43 (imgL B f vf (nodesV pn) vb ws) → NsB h pn (rootN f) → Bks h vf fb → BL n h vb (List.replicate i zb) →
      tm.get 6 = some (pv pI 0) → tm.get 53 = some (iv B) → tm.get 54 = some (iv i) →
      ∃ tm' h', codeB T0 X0 call N EMa (.loop bodyMa) tm h [] = .jump (.exit 0) tm' h' [] ∧ ((tm'.get 6 = some (pv pI 0) ∧ ∃ vb', BoxL h' pI 43 (imgL B f vf (nodesV pn) vb' ws) ∧ NsB h' pn (rootN f) ∧ Bks h' vf fb ∧ BL n h' vb' (List.replicate B zb)) ∧ Grow n h h') := by
  intro k
  induction k with
  | zero =>
    intro i vb h tm N hi hN hn hpI hpn hI hNs hF hb g6 g53 g54
    obtain ⟨N, rfl⟩ : ∃ a, N = a + 60 := ⟨N - 60, by omega⟩
    have hiB : i = B := by omega
    subst hiB
    apply Exists.intro; apply Exists.intro
    refine ⟨?_, ⟨?_, vb, hI, hNs, hF, hb⟩, Grow.refl _ _⟩
    · rw [codeB_loop]
      simp only [bodyMa, part, Tryz.f4, sub, symM, opFn, Nat.reduceLT, symM, g53, g54, bin_lss, decide_eq_false (show ¬ (i : Int) < (i : Nat) by omega)]
      rfl
    · simp only [symM, Nat.reduceBEq, g6]
  | succ k ih =>
    intro i vb h tm N hi hN hn hpI hpn hI hNs hF hb g6 g53 g54
    obtain ⟨N, rfl⟩ : ∃ a, N = a + 60 := ⟨N - 60, by omega⟩
    obtain ⟨h1, w, a1, a2, a3⟩ := mkBlock h
    have n1 := a3.next
    have hI1 := hI.grow a3 hpI
    have hb1 := hb.grow a3
    obtain ⟨v', h2, b1, b2, b3, b4, b5⟩ := hb1.append a2 (by simp; omega) (by omega) 28
    have n2 := b3.next
    have hI2 := hI1.keep (b4 pI (by omega) (hb1.off hI1.ty (by decide)))
    have hNs1 : NsB h1 pn (rootN f) := BoxL.grow hNs a3 hpn
    have hNs2 : NsB h2 pn (rootN f) := BoxL.keep hNs1 (b4 pn (by omega) (hb1.off (BoxL.ty hNs1) (by decide)))
    have hF2 : Bks h2 vf fb := (hF.grow a3).keep n2 fun k hk hu => b4 k hk (hb1.off hu (by decide))
    obtain ⟨h3, c1, c2, c3⟩ := img_blocks hI2 b5
    have hNs3 : NsB h3 pn (rootN f) := BoxL.one hNs2 c3 (tyAt.ne (BoxL.ty hNs2) hI2.ty (by decide))
    have hF3 : Bks h3 vf fb := hF2.keep (Nat.le_of_eq c3.next.symm) fun k hk hu => c3.keep k (tyAt.ne hu hI2.ty (by decide))
    have hb3 := b2.one c3 hI2.ty (by decide) (by decide)
    rw [show List.replicate i zb ++ [zb] = List.replicate (i + 1) zb from (List.replicate_succ' ..).symm] at hb3
    have ld := (img_loads hI).2.2.1
    have ld1 := (img_loads hI1).2.2.1
    have hp := plan_ma
    simp only [regOps, part, Tryz.f4, sub] at hp
    rw [show N + 60 = (N + 59) + 1 from rfl, codeB_loop]
    simp only [bodyMa, part, Tryz.f4, sub, symM, opFn, Nat.reduceLT, symM, g53, g54, bin_lss, decide_eq_true (show (i : Int) < (B : Int) by omega)]
    rw [codeB_draw, draw_plan hp rfl]
    simp only [drawAll, opFn, Nat.reduceLT, Nat.reduceBEq, nil_pv, g6, g54, field_I, field_st, ld, ld1, hb.eqv, a1, effE_cons, goAB_some (bs_bk a2.one1.1), b1, c1, bin_add, wadd1 (show i ≤ 400000 by omega)]
    exact wrapE (ih (i + 1) v' h3 _ (N + 59) (by omega) (by omega) (by rw [c3.next]; omega) (by rw [c3.next]; omega) (by rw [c3.next]; omega) c2 hNs3 hF3 hb3 (by simp only [symM, Nat.reduceBEq, g6]) (by simp only [symM, Nat.reduceBEq, g53]) get_same) (((a3.less hn).trans b3 (Nat.le_refl _)).trans (c3.grow hnI) (Nat.le_refl _))
/-- The blocks of a new image. -/
def madeL (B f : Nat) : List (List Nat) := wr f 16 0 (((((List.replicate B zb).set 1 headBy).set 0 (supBy B f))).set 2 flagBy)
theorem madeL_len (B f : Nat) : (madeL B f).length = B := by unfold madeL; rw [wr_len]; simp
/-- A new image. -/
def ImgOK (n : Nat) (h : AH) (pI B f : Nat) (bss : List (List Nat)) : Prop := pI < h.next ∧ ∃ vf vn vb vf' vn' vb', BoxL h pI 43 (imgL B f vf vn vb (stL B f vf' vn' vb')) ∧ BL n h vb bss ∧ BL n h vb' bss ∧ Bks h vf (markL 59)
theorem zd_59 : zd 59 = 4633500329122463744 := by decide
theorem alloc_I {h : AH} : evBuild T0 43 [] h = some (.agg (imgL 0 0 nilV nilV nilV (stL 0 0 nilV nilV nilV)).toArray, h) := by kernel_rfl
theorem box_I {l : List Value} {h : AH} : rp (some (evNewVar h 43 (.agg l.toArray))) = some (.value (pv h.next 0), h.new (.cells (PM.ofList l) l.length 43 0 0 .ex)) := box_agg
theorem build_Su {b f : Nat} {h : AH} : evBuild T0 32 [(0, iv b), (1, iv f)] h = some (supV b f, h) := by kernel_rfl
theorem build_Ro {f : Nat} {h : AH} : evBuild T0 51 [(0, iv 2), (1, iv f), (2, iv 1)] h = some (nodeV (rootN f) nilV, h) := by kernel_rfl
theorem build_Hd {h : AH} : evBuild T0 54 [(1, iv 1)] h = some (headV0, h) := by kernel_rfl
theorem make_nodes (h : AH) : ∃ h1, evMakeSlice T0 39 (iv 32) (iv 32) h = some (nodesV h.next, h1) ∧ NsB h1 h.next NV.zero ∧ Grow h.next h h1 ∧ h1.next = h.next + 1 := by
  refine ⟨newCells h 51 (fillPM (nodeV NV.zero nilV) 384) 384, by kernel_rfl, ?_, Grow.new _ _, rfl⟩
  refine ⟨fillPM (nodeV NV.zero nilV) 384, by rw [nodesL_len]; exact get_new_same _ _, fun i x hi => ?_⟩
  have hl := (List.getElem?_eq_some_iff.1 hi).1
  rw [nodesL_len] at hl
  rw [fillPM_get _ _ _ hl]
  unfold nodesL at hi
  rw [List.getElem?_map, List.getElem?_range hl] at hi
  simp only [Option.map_some, ite_self] at hi
  rw [← hi]
  have hk : i % 12 < 12 := Nat.mod_lt _ (by decide)
  show some ((nodeV NV.zero nilV).cells[i % 12]!) = _
  generalize i % 12 = j at hk
  match j, hk with
  | 0, _ | 1, _ | 2, _ | 3, _ | 4, _ | 5, _ | 6, _ | 7, _ | 8, _ | 9, _ | 10, _ | 11, _ => rfl
theorem root_store {h : AH} {pn f : Nat} (hb : NsB h pn NV.zero) : ∃ h', evStore T0 51 (pv pn 0) (nodeV (rootN f) nilV) h = some h' ∧ NsB h' pn (rootN f) ∧ One pn h h' := by
  obtain ⟨h', s1, s2, s3, s4⟩ := BoxL.store (n := pn) (o := 0) (v := nodeV (rootN f) nilV) hb (ws := nodeL (rootN f) nilV) sz_Node rfl (by simp [nodeL]) rfl (by rw [nodesL_len]; show 0 + 12 ≤ 384; decide) (Nat.le_refl _)
  refine ⟨h', s1, ?_, s4, evStore_keep s1⟩
  have e : (nodesL NV.zero).take 0 ++ nodeL (rootN f) nilV ++ (nodesL NV.zero).drop (0 + (nodeL (rootN f) nilV).length) = nodesL (rootN f) := by kernel_rfl
  rw [e] at s2
  exact s2
end
end Go.Proofs.YtjiilfinllfmgaaGreat.Abs
namespace Go.Proofs.YtjiilfinllfmgaaGreat.Abs
open Go Go.Proofs
noncomputable section
variable {call : Abs.Callee}
set_option maxRecDepth 10000
theorem plan_ma12 : planB (regOps Tryz.f4 [1, 1, 1, 1, 1, 1, 1, 1, 0]) 85 = some ([.one 0, .one 1, .one 2, .one 3, .one 4, .one 5, .eff [] 6 [0, 1, 2, 3, 4], .one 7, .one 8, .one 9, .one 10, .eff [] 11 [9]], []) := by kernel_rfl
/-- May an image of this size and format be made? -/
def okMake (B f : Int) : Bool := decide (¬ (B < 64 ∨ 480 < B ∨ (f ≠ 1 ∧ f ≠ 2)))
theorem Make_bad (B f : Int) (h : AH) (hb : okMake B f = false) : frameB T0 X0 call 3000 4 [iv B, iv f] h = some (.tuple #[.pointer none, iv 1], h) := by
  have hb : B < 64 ∨ 480 < B ∨ (f ≠ 1 ∧ f ≠ 2) := by
    unfold okMake at hb
    exact Classical.byContradiction fun q => by rw [decide_eq_true q] at hb; cases hb
  rw [frameB_eq ft4 rfl rfl]
  by_cases h1 : B < 64
  · simp only [Tryz.f4, symM, opFn, Nat.reduceLT, Nat.reduceBEq, symM, bin_lss, decide_eq_true h1]
    exact retB_two ft4 rfl (by simp only [symM, Nat.reduceBEq]) get_same
  · by_cases h2 : B > 480
    · simp only [Tryz.f4, symM, opFn, Nat.reduceLT, Nat.reduceBEq, symM, bin_lss, decide_eq_false h1, bin_gtr, decide_eq_true h2]
      exact retB_two ft4 rfl (by simp only [symM, Nat.reduceBEq]) get_same
    · have h3 : f ≠ 1 ∧ f ≠ 2 := by rcases hb with q | q | q; exact absurd q h1; exact absurd q h2; exact q
      have e1 : (f == 1) = false := by simpa using h3.1
      have e2 : (f == 2) = false := by simpa using h3.2
      simp only [Tryz.f4, symM, opFn, Nat.reduceLT, Nat.reduceBEq, symM, bin_lss, decide_eq_false h1, bin_gtr, decide_eq_false h2, bin_neq, e1, e2]
      exact retB_two ft4 rfl (by simp only [symM, Nat.reduceBEq]) get_same
abbrev NewC (call : Abs.Callee) : Prop := ∀ h, ∃ v' p' h', call 13 [] h = some (v', h') ∧ h.next ≤ p' ∧ p' < h'.next ∧ OwnB p' h' v' (markL 0) ∧ Grow h.next h h'
abbrev MarkC (call : Abs.Callee) (g : Nat) : Prop := ∀ (p b : Nat) (v : Value) (h : AH), OwnB p h v (markL 0) → p < h.next → BoxL h b 47 [cx ((0 : Nat) : Int) ((59 : Nat) : Int)] → b < h.next → ∃ v' p' h', call g [v, .bool true, .slice (some ⟨b, 0, none⟩) 1 1] h = some (.tuple #[v', iv 0], h') ∧ h.next ≤ p' ∧ p' < h'.next ∧ OwnB p' h' v' (markL 59) ∧ Grow h.next h h'
abbrev PutHC (call : Abs.Callee) : Prop := ∀ h, ∃ v' p' h', call 14 [headV0] h = some (.tuple #[v', iv 0], h') ∧ h.next ≤ p' ∧ p' < h'.next ∧ OwnB p' h' v' headBy ∧ Grow h.next h h'
abbrev WriteC (call : Abs.Callee) : Prop := ∀ (pI pn n B f : Nat) (vf vb : Value) (ws : List Value) (bss : List (List Nat)) (h : AH), 64 ≤ B → B ≤ 480 → 1 ≤ f → f ≤ 2 → BoxL h pI 43 (imgL B f vf (nodesV pn) vb ws) → pI < h.next → NsB h pn (rootN f) → pn < h.next → Bks h vf (markL 59) → BL n h vb bss → 19 ≤ bss.length → n ≤ h.next →
  ∃ h', call 15 [pv pI 0] h = some (.tuple #[], h') ∧ BL n h' vb (wr f 16 0 ((bss.set 0 (supBy B f)).set 2 flagBy)) ∧ BoxL h' pI 43 (imgL B f vf (nodesV pn) vb ws) ∧ NsB h' pn (rootN f) ∧ Bks h' vf (markL 59) ∧ Grow n h h'
abbrev SettleC (call : Abs.Callee) : Prop := ∀ (pI pn n B f : Nat) (vf vb : Value) (fb : List Nat) (ws : List Value) (bss : List (List Nat)) (h : AH), ws.length = 8 → BoxL h pI 43 (imgL B f vf (nodesV pn) vb ws) → pI < h.next → n ≤ pI → NsB h pn (rootN f) → pn < h.next → Bks h vf fb → BL n h vb bss → bss.length ≠ 0 → bss.length < 1000 →
  ∃ vf' vn' vb' h', call 16 [pv pI 0] h = some (.tuple #[], h') ∧ BoxL h' pI 43 (imgL B f vf (nodesV pn) vb (stL B f vf' vn' vb')) ∧ BL n h' vb bss ∧ BL n h' vb' bss ∧ Bks h' vf fb ∧ Grow n h h'
theorem Make_S (hNew : NewC call) (hMk : MarkC call 12) (hPH : PutHC call) (hW : WriteC call) (hS : SettleC call) (B f : Nat) (k1 : 64 ≤ B) (k2 : B ≤ 480) (hf1 : 1 ≤ f) (hf2 : f ≤ 2) (h : AH) :
    ∃ pI h', frameB T0 X0 call 3000 4 [iv B, iv f] h = some (.tuple #[pv pI 0, iv 0], h') ∧ ImgOK h.next h' pI B f (madeL B f) ∧ Grow h.next h h' := by
  generalize hws : stL 0 0 nilV nilV nilV = ws
  have hwl : ws.length = 8 := by rw [← hws]; rfl
  generalize hh1 : h.new (.cells (PM.ofList (imgL 0 0 nilV nilV nilV ws)) (imgL 0 0 nilV nilV nilV ws).length 43 0 0 .ex) = h1
  have g1 : Grow h.next h h1 := by rw [← hh1]; exact Grow.new _ _
  have n1 : h1.next = h.next + 1 := by rw [← hh1]; rfl
  have i1 : BoxL h1 h.next 43 (imgL 0 0 nilV nilV nilV ws) := by rw [← hh1]; exact BoxL.new _ _ _
  obtain ⟨h2, a1, a2, a3⟩ := img_sup (B := B) (f := f) i1
  have n2 := a3.next
  obtain ⟨v3, p3, h3, b1, b2, b3, b4, b5⟩ := hNew h2
  have n3 := b5.next
  generalize hh4 : h3.new (.cells (PM.ofList [cx ((0 : Nat) : Int) ((59 : Nat) : Int)]) 1 47 0 0 .ex) = h4
  have g4 : Grow h3.next h3 h4 := by rw [← hh4]; exact Grow.new _ _
  have n4 : h4.next = h3.next + 1 := by rw [← hh4]; rfl
  have cb : BoxL h4 h3.next 47 [cx ((0 : Nat) : Int) ((59 : Nat) : Int)] := by rw [← hh4]; exact BoxL.new _ _ _
  have hbs : evBuildSlice T0 65 1 [(0, .complex .f64 0 4633500329122463744)] h3 = some (.slice (some ⟨h3.next, 0, none⟩) 1 1, h4) := by
    rw [← hh4, ← zd_59]
    exact bs_cx (a := ((0 : Nat) : Int)) (b := ((59 : Nat) : Int))
  obtain ⟨vf, p5, h5, c1, c2, c3, c4, c5⟩ := hMk p3 h3.next v3 h4 (b4.grow g4 b3) (by omega) cb (by omega)
  have n5 := c5.next
  have F5 : Bks h5 vf (markL 59) := ⟨by rw [markL_len]; decide, by rw [markL_len]; decide, markL_lt 59, p5, c3, c4⟩
  have i5 : BoxL h5 h.next 43 (imgL B f nilV nilV nilV ws) := ((a2.grow b5 (by omega)).grow g4 (by omega)).grow c5 (by omega)
  obtain ⟨h6, d1, d2, d3⟩ := img_flags i5 F5.sl
  have n6 := d3.next
  have F6 : Bks h6 vf (markL 59) := F5.keep (Nat.le_of_eq d3.next.symm) fun k hk hu => d3.keep k (tyAt.ne hu i5.ty (by decide))
  obtain ⟨h7, e1, e2, e3, e4⟩ := make_nodes h6
  have i7 := d2.grow e3 (by omega)
  obtain ⟨h8, f1, f2, f3⟩ := img_nodes (v := nodesV h6.next) i7 ⟨_, _, _, rfl⟩
  have n8 := f3.next
  have N8 : NsB h8 h6.next NV.zero := BoxL.one e2 f3 (by omega)
  have F8 : Bks h8 vf (markL 59) := (F6.grow e3).keep (Nat.le_of_eq f3.next.symm) fun k hk hu => f3.keep k (tyAt.ne hu i7.ty (by decide))
  obtain ⟨h9, r1, r2, r3⟩ := root_store (f := f) N8
  have n9 := r3.next
  have i9 : BoxL h9 h.next 43 (imgL B f vf (nodesV h6.next) nilV ws) := f2.one r3 (by omega)
  have F9 : Bks h9 vf (markL 59) := F8.keep (Nat.le_of_eq r3.next.symm) fun k hk hu => r3.keep k (tyAt.ne hu (BoxL.ty N8) (by decide))
  have ix : evIndexAddr T0 39 (nodesV h6.next) (iv 0) = some (pv h6.next 0) := by
    have := (N8.at 0 (by decide)).1
    exact this
  have G9 : Grow h.next h h9 := by
    have x1 := g1.trans (a3.grow (Nat.le_refl _)) (Nat.le_refl _)
    have x2 := x1.trans b5 (by omega)
    have x3 := x2.trans g4 (by omega)
    have x4 := x3.trans c5 (by omega)
    have x5 := x4.trans (d3.grow (Nat.le_refl _)) (Nat.le_refl _)
    have x6 := x5.trans e3 (by omega)
    have x7 := x6.trans (f3.grow (Nat.le_refl _)) (Nat.le_refl _)
    exact x7.trans (r3.grow (show h.next ≤ h6.next by omega)) (Nat.le_refl _)
  have ld8 := (img_loads f2).2.1
  have q9 : BL h.next h9 nilV (List.replicate 0 zb) := ⟨[], Own.nil _ _ _, rfl, fun i w bs hi _ => by simp at hi⟩
  have hb1 : ¬ (B : Int) < 64 := by omega
  have hb2 : ¬ (B : Int) > 480 := by omega
  have hff : (!(f : Int) == 1) = false ∨ ((!(f : Int) == 1) = true ∧ (!(f : Int) == 2) = false) := by
    have : f = 1 ∨ f = 2 := by omega
    rcases this with rfl | rfl
    · exact .inl rfl
    · exact .inr ⟨rfl, rfl⟩
  rw [frameB_eq ft4 rfl rfl]
  rcases hff with hff | ⟨hff, hff2⟩
  · simp only [Tryz.f4, symM, opFn, Nat.reduceLT, Nat.reduceBEq, symM, symL, bin_lss, decide_eq_false hb1, bin_gtr, decide_eq_false hb2, bin_neq, hff, alloc_I, hws, box_I, hh1, nil_pv, build_Su, field_I, field_st, a1, evCall_fn ft13 rfl, b1, hbs, evCall_fn ft12 rfl, c1, d1, e1, f1, ld8, build_Ro, ix, r1]
    generalize hX : codeB T0 X0 call _ EMa (.loop _) _ _ _ = X
    obtain ⟨t2, h10, s1, ⟨s2, vb, s3, s4, s5, s6⟩, s7⟩ := use_exit hX (maLp h.next h6.next h.next B f k2 vf (markL 59) ws (Nat.le_refl _) B 0 nilV h9 _ _ (by omega) (by omega) (by omega) (by omega) (by omega) i9 r2 F9 q9 (by simp only [symM, Nat.reduceBEq]) (by simp only [symM, Nat.reduceBEq]) (by simp only [symM]; rfl))
    clear hX
    subst s1
    have n10 := s7.next
    obtain ⟨v11, p11, h11, t1, t3, t4, t5, t6⟩ := hPH h10
    have n11 := t6.next
    have B11 : Bks h11 v11 headBy := ⟨by rw [headBy_ok.1]; decide, by rw [headBy_ok.1]; decide, headBy_ok.2, p11, t4, t5⟩
    have i11 := s3.grow t6 (by omega)
    have N11 : NsB h11 h6.next (rootN f) := BoxL.grow s4 t6 (by omega)
    have b11 := s6.grow t6
    obtain ⟨q, h12, u1, u2, u3, u4, u5, u6⟩ := b11.store (i := 1) (by simp; omega) B11
    have u1 : evIndexAddr T0 28 vb (iv 1) = some q := u1
    have i12 := i11.keep (u6 h.next (b11.off i11.ty (by decide)))
    have N12 : NsB h12 h6.next (rootN f) := BoxL.keep N11 (u6 h6.next (b11.off (BoxL.ty N11) (by decide)))
    have F12 : Bks h12 vf (markL 59) := (s5.grow t6).keep (Nat.le_of_eq u5.symm) fun k hk hu => u6 k (b11.off hu (by decide))
    obtain ⟨h13, w1, w2, w3, w4, w5, w6⟩ := hW h.next h6.next h.next B f vf vb ws _ h12 k1 k2 hf1 hf2 i12 (by omega) N12 (by omega) F12 u3 (by simp; omega) (by omega)
    have n13 := w6.next
    have hml : (wr f 16 0 ((((List.replicate B zb).set 1 headBy).set 0 (supBy B f)).set 2 flagBy)).length = B := madeL_len B f
    obtain ⟨vf', vn', vb', h14, x1, x2, x3, x4, x5, x6⟩ := hS h.next h6.next h.next B f vf vb (markL 59) ws _ h13 hwl w3 (by omega) (Nat.le_refl _) w4 (by omega) w5 w2 (by rw [hml]; omega) (by rw [hml]; omega)
    have G14 : Grow h.next h h14 := (((G9.trans s7 (Nat.le_refl _)).trans (t6.less (by omega)) (Nat.le_refl _)).trans u4 (Nat.le_refl _)).trans (w6.trans x6 (Nat.le_refl _)) (Nat.le_refl _)
    refine ⟨h.next, h14, ?_, ⟨?_, vf, nodesV h6.next, vb, vf', vn', vb', x2, x3, x4, x5⟩, G14⟩
    · have l10 := (img_loads s3).2.2.1
      have l11 := (img_loads i11).2.2.1
      have hp := plan_ma12
      simp only [regOps, part, Tryz.f4, sub] at hp
      simp only [symM, symM, symL]
      rw [codeB_draw, draw_plan hp rfl]
      simp only [drawAll, opFn, Nat.reduceLT, Nat.reduceBEq, nil_pv, s2, field_I, field_st, l10, l11, s6.eqv, build_Hd, evCall_fn ft14 rfl, t1, effE_cons, u1, u2, evCall_fn ft15 rfl, w1, evCall_fn ft16 rfl, x1]
      exact retB_two ft4 rfl (by simp only [symM, Nat.reduceBEq]) get_same
    · have := x6.next
      omega
  · simp only [Tryz.f4, symM, opFn, Nat.reduceLT, Nat.reduceBEq, symM, symL, bin_lss, decide_eq_false hb1, bin_gtr, decide_eq_false hb2, bin_neq, hff, hff2, alloc_I, hws, box_I, hh1, nil_pv, build_Su, field_I, field_st, a1, evCall_fn ft13 rfl, b1, hbs, evCall_fn ft12 rfl, c1, d1, e1, f1, ld8, build_Ro, ix, r1]
    generalize hX : codeB T0 X0 call _ EMa (.loop _) _ _ _ = X
    obtain ⟨t2, h10, s1, ⟨s2, vb, s3, s4, s5, s6⟩, s7⟩ := use_exit hX (maLp h.next h6.next h.next B f k2 vf (markL 59) ws (Nat.le_refl _) B 0 nilV h9 _ _ (by omega) (by omega) (by omega) (by omega) (by omega) i9 r2 F9 q9 (by simp only [symM, Nat.reduceBEq]) (by simp only [symM, Nat.reduceBEq]) (by simp only [symM]; rfl))
    clear hX
    subst s1
    have n10 := s7.next
    obtain ⟨v11, p11, h11, t1, t3, t4, t5, t6⟩ := hPH h10
    have n11 := t6.next
    have B11 : Bks h11 v11 headBy := ⟨by rw [headBy_ok.1]; decide, by rw [headBy_ok.1]; decide, headBy_ok.2, p11, t4, t5⟩
    have i11 := s3.grow t6 (by omega)
    have N11 : NsB h11 h6.next (rootN f) := BoxL.grow s4 t6 (by omega)
    have b11 := s6.grow t6
    obtain ⟨q, h12, u1, u2, u3, u4, u5, u6⟩ := b11.store (i := 1) (by simp; omega) B11
    have u1 : evIndexAddr T0 28 vb (iv 1) = some q := u1
    have i12 := i11.keep (u6 h.next (b11.off i11.ty (by decide)))
    have N12 : NsB h12 h6.next (rootN f) := BoxL.keep N11 (u6 h6.next (b11.off (BoxL.ty N11) (by decide)))
    have F12 : Bks h12 vf (markL 59) := (s5.grow t6).keep (Nat.le_of_eq u5.symm) fun k hk hu => u6 k (b11.off hu (by decide))
    obtain ⟨h13, w1, w2, w3, w4, w5, w6⟩ := hW h.next h6.next h.next B f vf vb ws _ h12 k1 k2 hf1 hf2 i12 (by omega) N12 (by omega) F12 u3 (by simp; omega) (by omega)
    have n13 := w6.next
    have hml : (wr f 16 0 ((((List.replicate B zb).set 1 headBy).set 0 (supBy B f)).set 2 flagBy)).length = B := madeL_len B f
    obtain ⟨vf', vn', vb', h14, x1, x2, x3, x4, x5, x6⟩ := hS h.next h6.next h.next B f vf vb (markL 59) ws _ h13 hwl w3 (by omega) (Nat.le_refl _) w4 (by omega) w5 w2 (by rw [hml]; omega) (by rw [hml]; omega)
    have G14 : Grow h.next h h14 := (((G9.trans s7 (Nat.le_refl _)).trans (t6.less (by omega)) (Nat.le_refl _)).trans u4 (Nat.le_refl _)).trans (w6.trans x6 (Nat.le_refl _)) (Nat.le_refl _)
    refine ⟨h.next, h14, ?_, ⟨?_, vf, nodesV h6.next, vb, vf', vn', vb', x2, x3, x4, x5⟩, G14⟩
    · have l10 := (img_loads s3).2.2.1
      have l11 := (img_loads i11).2.2.1
      have hp := plan_ma12
      simp only [regOps, part, Tryz.f4, sub] at hp
      simp only [symM, symM, symL]
      rw [codeB_draw, draw_plan hp rfl]
      simp only [drawAll, opFn, Nat.reduceLT, Nat.reduceBEq, nil_pv, s2, field_I, field_st, l10, l11, s6.eqv, build_Hd, evCall_fn ft14 rfl, t1, effE_cons, u1, u2, evCall_fn ft15 rfl, w1, evCall_fn ft16 rfl, x1]
      exact retB_two ft4 rfl (by simp only [symM, Nat.reduceBEq]) get_same
    · have := x6.next
      omega
end
end Go.Proofs.YtjiilfinllfmgaaGreat.Abs
namespace Go.Proofs.YtjiilfinllfmgaaGreat.Abs
open Go Go.Proofs
noncomputable section
variable {call : Abs.Callee}
set_option maxRecDepth 10000
theorem ft7 : T0.ft.get 7 = some Tryz.f7 := by kernel_rfl
theorem ft9 : T0.ft.get 9 = some Tryz.f9 := by kernel_rfl
theorem ft28 : T0.ft.get 28 = some Tryz.f28 := by kernel_rfl
theorem ft11 : T0.ft.get 11 = some Tryz.f11 := by kernel_rfl
noncomputable def bodyBs : Code := part Tryz.f7 [1, 1, 1, 0, 1, 0, 0]
abbrev EBs : Env := ⟨7, 25, none⟩
theorem bsLp (hCl : BCloneC call) (n : Nat) (vb : Value) (bss : List (List Nat)) (h0 : AH) (hb0 : BL n h0 vb bss) (hl : bss.length < 900) :
    ∀ (k i : Nat) (acc : Value) (h : AH) (tm : PM Value) (N : Nat), i + k = bss.length → k + 60 ≤ N → Grow h0.next h0 h → BL h0.next h acc (bss.take i) →
      tm.get 3 = some acc → tm.get 12 = some vb → tm.get 13 = some (iv bss.length) → tm.get 14 = some (iv i) →
      ∃ tm' h', codeB T0 X0 call N EBs (.loop bodyBs) tm h [] = .jump (.exit 0) tm' h' [] ∧ ((∃ v', tm'.get 3 = some v' ∧ BL h0.next h' v' bss) ∧ Grow h0.next h h') := by
  intro k
  induction k with
  | zero =>
    intro i acc h tm N hi hN hg ha g3 g12 g13 g14
    obtain ⟨N, rfl⟩ : ∃ a, N = a + 60 := ⟨N - 60, by omega⟩
    have hiB : i = bss.length := by omega
    subst hiB
    rw [List.take_length] at ha
    apply Exists.intro; apply Exists.intro
    refine ⟨?_, ⟨acc, ?_, ha⟩, Grow.refl _ _⟩
    · rw [codeB_loop]
      simp only [bodyBs, part, Tryz.f7, sub, symM, opFn, Nat.reduceLT, symM, g13, g14, bin_lss, decide_eq_false (show ¬ (bss.length : Int) < (bss.length : Nat) by omega)]
      rfl
    · simp only [symM, Nat.reduceBEq, g3]
  | succ k ih =>
    intro i acc h tm N hi hN hg ha g3 g12 g13 g14
    obtain ⟨N, rfl⟩ : ∃ a, N = a + 60 := ⟨N - 60, by omega⟩
    have hil : i < bss.length := by omega
    have hx : bss[i]? = some bss[i] := List.getElem?_eq_getElem hil
    obtain ⟨p, w, a1, a2, a3⟩ := (hb0.grow hg).at hx
    obtain ⟨w1, h1, b1, b2, b3⟩ := a3.clone hCl
    have n0 := hg.next
    have n1 := b3.next
    obtain ⟨v2, h2, c1, c2, c3, c4, _⟩ := (ha.grow b3).append b2 (by simp; omega) (by omega) 28
    rw [show bss.take i ++ [bss[i]] = bss.take (i + 1) from (List.take_succ_eq_append_getElem hil).symm] at c2
    rw [show N + 60 = (N + 59) + 1 from rfl, codeB_loop]
    simp only [bodyBs, part, Tryz.f7, sub, symM, opFn, Nat.reduceLT, Nat.reduceBEq, symM, g3, g12, g13, g14, bin_lss, decide_eq_true (show (i : Int) < (bss.length : Nat) by omega), a1, a2, evCall_fn ft20 rfl, b1, bs_bk b2.one1.1, c1, bin_add, wadd1 (show i ≤ 400000 by omega)]
    have G : Grow h0.next h h2 := (b3.less n0).trans c3 (Nat.le_refl _)
    exact wrapE (ih (i + 1) v2 h2 _ (N + 59) (by omega) (by omega) (hg.trans G (Nat.le_refl _)) c2 (by simp only [symM, Nat.reduceBEq]) (by simp only [symM, Nat.reduceBEq, g12]) (by simp only [symM, Nat.reduceBEq, g13]) get_same) G
theorem Blocks_S (hCl : BCloneC call) (n pI B f : Nat) (bss : List (List Nat)) (h : AH) (hI : ImgOK n h pI B f bss) (hl : bss.length < 900) :
    ∃ v' h', frameB T0 X0 call 3000 7 [pv pI 0] h = some (v', h') ∧ BL h.next h' v' bss ∧ Grow h.next h h' := by
  obtain ⟨hp, vf, vn, vb, vf', vn', vb', i1, i2, i3, i4⟩ := hI
  have ld := (img_loads i1).2.2.1
  have hlen : ∀ ty h', evBuiltin T0 .len #[28] ty [vb] h' = some (.value (iv bss.length), h') := fun ty h' => i2.len ty
  have q0 : BL h.next h nilV (bss.take 0) := ⟨[], Own.nil _ _ _, rfl, fun i w bs hi _ => by simp at hi⟩
  rw [frameB_eq ft7 rfl rfl]
  simp only [Tryz.f7, symM, opFn, Nat.reduceLT, Nat.reduceBEq, symM, symL, ptr_eql, nil_pv, field_I, field_st, ld, hlen]
  generalize hX : codeB T0 X0 call _ EBs (.loop _) _ _ _ = X
  obtain ⟨t2, h2, e1, ⟨v2, e2, e3⟩, e4⟩ := use_exit hX (bsLp hCl n vb bss h i2 hl bss.length 0 nilV h _ _ (by omega) (by omega) (Grow.refl _ _) q0 (by simp only [symM, Nat.reduceBEq]) (by simp only [symM, Nat.reduceBEq]) (by simp only [symM, Nat.reduceBEq]) (by simp only [symM]; rfl))
  clear hX
  subst e1
  refine ⟨v2, h2, ?_, e3, e4⟩
  simp only [symM, opFn, Nat.reduceLT, symM, symL, e2]
  exact retB_one ft7 rfl get_same
theorem alloc_Su {h : AH} : evAlloc T0 32 h = some (pv h.next 0, h.new (.cells (PM.ofList (supL 0 0)) 5 32 0 0 .ex)) := by
  unfold evAlloc
  rw [show zeroOf T0 32 = some (supV 0 0) from by kernel_rfl]
  rfl
theorem Super_S (n pI B f : Nat) (bss : List (List Nat)) (h : AH) (hI : ImgOK n h pI B f bss) :
    ∃ h', frameB T0 X0 call 3000 9 [pv pI 0] h = some (supV B f, h') ∧ Grow h.next h h' := by
  obtain ⟨hp, vf, vn, vb, vf', vn', vb', i1, i2, i3, i4⟩ := hI
  generalize hh1 : h.new (.cells (PM.ofList (supL 0 0)) 5 32 0 0 .ex) = h1
  have g1 : Grow h.next h h1 := by rw [← hh1]; exact Grow.new _ _
  have s1 : BoxL h1 h.next 32 (supL 0 0) := by rw [← hh1]; exact BoxL.new _ _ _
  have ld := (img_loads (i1.grow g1 hp)).2.2.2.1
  obtain ⟨h2, d1, d2, d3, d4⟩ := BoxL.store (n := h.next) (o := 0) (v := supV B f) s1 (ws := supL B f) sz_Sup rfl (by simp [supL]) rfl (Nat.le_refl _) (Nat.le_refl _)
  have d2 : SupB h2 h.next B f := d2
  refine ⟨h2, ?_, g1.trans d3 (Nat.le_refl _)⟩
  rw [frameB_eq ft9 rfl rfl]
  simp only [Tryz.f9, symM, opFn, Nat.reduceLT, Nat.reduceBEq, symM, alloc_Su, hh1, ptr_eql, nil_pv, field_I, field_st, ld, d1]
  exact retB_cell ft9 rfl (by simp only [symM, Nat.reduceBEq]) d2.loads.2.2.2.2.2
theorem limit_S (n pI B f : Nat) (bss : List (List Nat)) (h : AH) (hI : ImgOK n h pI B f bss) :
    frameB T0 X0 call 3000 28 [pv pI 0] h = some (iv B, h) := by
  obtain ⟨hp, vf, vn, vb, vf', vn', vb', i1, i2, i3, i4⟩ := hI
  have l0 : evLoad T0 3 (pv pI 0) h = some (iv B) := i1.load agg_int rfl
  have l2 : evLoad T0 3 (pv pI (0 + 2)) h = some (iv 0) := i1.load agg_int rfl
  rw [frameB_eq ft28 rfl rfl]
  simp only [Tryz.f28, symM, opFn, Nat.reduceLT, Nat.reduceBEq, symM, nil_pv, field_I, field_st, field_S, l0, l2, bin_eql, show ((0 : Int) == 2) = false from rfl]
  exact retB_one ft28 rfl get_same
noncomputable def bodyCh : Code := part Tryz.f11 [1, 1, 1, 0, 1, 0, 0]
abbrev ECh : Env := ⟨11, 49, none⟩
theorem chLp (hE : BEqC call) (n pI B f : Nat) (bss : List (List Nat)) (h : AH) (vf vn vb vf' vn' vb' : Value) (i1 : BoxL h pI 43 (imgL B f vf vn vb (stL B f vf' vn' vb'))) (i2 : BL n h vb bss) (i3 : BL n h vb' bss) (hl : bss.length < 900) :
    ∀ (k i : Nat) (tm : PM Value) (N : Nat), i + k = bss.length → k + 60 ≤ N → tm.get 0 = some (pv pI 0) → tm.get 3 = some nilV → tm.get 12 = some vb → tm.get 13 = some (iv bss.length) → tm.get 14 = some (iv i) →
      ∃ tm' h', codeB T0 X0 call N ECh (.loop bodyCh) tm h [] = .jump (.exit 0) tm' h' [] ∧ (h' = h ∧ tm'.get 3 = some nilV) := by
  intro k
  induction k with
  | zero =>
    intro i tm N hi hN g0 g3 g12 g13 g14
    obtain ⟨N, rfl⟩ : ∃ a, N = a + 60 := ⟨N - 60, by omega⟩
    have hiB : i = bss.length := by omega
    subst hiB
    apply Exists.intro; apply Exists.intro
    refine ⟨?_, rfl, ?_⟩
    · rw [codeB_loop]
      simp only [bodyCh, part, Tryz.f11, sub, symM, opFn, Nat.reduceLT, symM, g13, g14, bin_lss, decide_eq_false (show ¬ (bss.length : Int) < (bss.length : Nat) by omega)]
      rfl
    · simp only [symM, Nat.reduceBEq, g3]
  | succ k ih =>
    intro i tm N hi hN g0 g3 g12 g13 g14
    obtain ⟨N, rfl⟩ : ∃ a, N = a + 60 := ⟨N - 60, by omega⟩
    have hil : i < bss.length := by omega
    have hx : bss[i]? = some bss[i] := List.getElem?_eq_getElem hil
    obtain ⟨p, w, a1, a2, a3⟩ := i2.at hx
    obtain ⟨q, u, b1, b2, b3⟩ := i3.at hx
    have ldw : evLoad T0 28 (pv pI 15) h = some vb' := i1.load agg_blocks rfl
    have hlen : ∀ ty h', evBuiltin T0 .len #[28] ty [vb'] h' = some (.value (iv bss.length), h') := fun ty h' => i3.len ty
    have he := hE _ _ w u _ _ h a3.2.2.1 b3.2.2.1 a3.row b3.row
    rw [decide_eq_true rfl] at he
    rw [show N + 60 = (N + 59) + 1 from rfl, codeB_loop]
    simp only [bodyCh, part, Tryz.f11, sub, symM, opFn, Nat.reduceLT, Nat.reduceBEq, symM, g0, g12, g13, g14, bin_lss, decide_eq_true (show (i : Int) < (bss.length : Nat) by omega), a1, a2, nil_pv, field_I, field_st, ldw, hlen, bin_geq, decide_eq_false (show ¬ (i : Int) ≥ (bss.length : Nat) by omega), b1, b2, evCall_fn ft29 rfl, he, bin_add, wadd1 (show i ≤ 400000 by omega)]
    exact ih (i + 1) _ (N + 59) (by omega) (by omega) (by simp only [symM, Nat.reduceBEq, g0]) (by simp only [symM, Nat.reduceBEq, g3]) (by simp only [symM, Nat.reduceBEq, g12]) (by simp only [symM, Nat.reduceBEq, g13]) get_same
theorem Changes_S (hE : BEqC call) (n pI B f : Nat) (bss : List (List Nat)) (h : AH) (hI : ImgOK n h pI B f bss) (hl : bss.length < 900) :
    frameB T0 X0 call 3000 11 [pv pI 0] h = some (nilV, h) := by
  obtain ⟨hp, vf, vn, vb, vf', vn', vb', i1, i2, i3, i4⟩ := hI
  have ld := (img_loads i1).2.2.1
  have hlen : ∀ ty h', evBuiltin T0 .len #[28] ty [vb] h' = some (.value (iv bss.length), h') := fun ty h' => i2.len ty
  rw [frameB_eq ft11 rfl rfl]
  simp only [Tryz.f11, symM, opFn, Nat.reduceLT, Nat.reduceBEq, symM, symL, ptr_eql, nil_pv, field_I, field_st, ld, hlen]
  generalize hX : codeB T0 X0 call _ ECh (.loop _) _ _ _ = X
  obtain ⟨t2, h2, e1, e2, e3⟩ := use_exit hX (chLp hE n pI B f bss h vf vn vb vf' vn' vb' i1 i2 i3 hl bss.length 0 _ _ (by omega) (by omega) (by simp only [symM, Nat.reduceBEq]) (by simp only [symM, Nat.reduceBEq]) (by simp only [symM, Nat.reduceBEq]) (by simp only [symM, Nat.reduceBEq]) (by simp only [symM]; rfl))
  clear hX
  subst e1 e2
  simp only [symM, opFn, Nat.reduceLT, symM, symL, e3]
  exact retB_one ft11 rfl get_same
end
end Go.Proofs.YtjiilfinllfmgaaGreat.Abs
