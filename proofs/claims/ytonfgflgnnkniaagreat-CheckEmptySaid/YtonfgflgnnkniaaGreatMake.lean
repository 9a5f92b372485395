
/- The image is made: its parts. -/
import Derived.Test.YtonfgflgnnkniaaGreatImg
namespace Go.Proofs.YtonfgflgnnkniaaGreat.Abs
open Go Go.Proofs
noncomputable section
variable {call : Abs.Callee}
set_option maxRecDepth 10000
theorem ft4 : T0.ft.get 4 = some Tryz.f4 := by kernel_rfl
theorem ptr_neq {b : Nat} {p q : Operand} {h : AH} : evBin T0 .neq 23 p q (pv b 0) (.pointer none) h = some (.bool true) := by kernel_rfl
theorem ptr_eql {b : Nat} {p q : Operand} {h : AH} : evBin T0 .eql 23 p q (pv b 0) (.pointer none) h = some (.bool false) := by kernel_rfl
theorem sz_bb : szOf T0 30 = some 1 := by kernel_rfl
theorem sz_nodes : szOf T0 39 = some 1 := by kernel_rfl
theorem sz_Img : szOf T0 43 = some 16 := by kernel_rfl
/-- Cells of the image are stored. -/
theorem img_sup {h : AH} {pI B f B' f' : Nat} {vf vn vb : Value} {ws : List Value} (hI : BoxL h pI 43 (imgL B' f' vf vn vb ws)) :
    ∃ h', evStore T0 37 (pv pI 0) (supV B f) h = some h' ∧ BoxL h' pI 43 (imgL B f vf vn vb ws) ∧ One pI h h' := by
  obtain ⟨h', s1, s2, s3, s4⟩ := BoxL.store (n := pI) (o := 0) (v := supV B f) hI (ws := supL B f) sz_Sup rfl (by simp [supL]) rfl (by simp [imgL, supL]) (Nat.le_refl _)
  exact ⟨h', s1, s2, s4, evStore_keep s1⟩
theorem img_flags {h : AH} {pI B f : Nat} {vf vn vb v : Value} {ws : List Value} (hI : BoxL h pI 43 (imgL B f vf vn vb ws)) (hv : SLv v) :
    ∃ h', evStore T0 38 (pv pI 5) v h = some h' ∧ BoxL h' pI 43 (imgL B f v vn vb ws) ∧ One pI h h' := by
  obtain ⟨h', s1, s2, s3, s4⟩ := BoxL.store (n := pI) (o := 5) (v := v) hI (ws := [v]) sz_bytes hv.one1.2.1 (by simp) (by simp [hv.one1.1]) (by simp [imgL, supL]) (Nat.le_refl _)
  exact ⟨h', s1, s2, s4, evStore_keep s1⟩
theorem img_nodes {h : AH} {pI B f : Nat} {vf vn vb v : Value} {ws : List Value} (hI : BoxL h pI 43 (imgL B f vf vn vb ws)) (hv : SLv v) :
    ∃ h', evStore T0 39 (pv pI 6) v h = some h' ∧ BoxL h' pI 43 (imgL B f vf v vb ws) ∧ One pI h h' := by
  obtain ⟨h', s1, s2, s3, s4⟩ := BoxL.store (n := pI) (o := 6) (v := v) hI (ws := [v]) sz_nodes hv.one1.2.1 (by simp) (by simp [hv.one1.1]) (by simp [imgL, supL]) (Nat.le_refl _)
  exact ⟨h', s1, s2, s4, evStore_keep s1⟩
theorem img_blocks {h : AH} {pI B f : Nat} {vf vn vb v : Value} {ws : List Value} (hI : BoxL h pI 43 (imgL B f vf vn vb ws)) (hv : SLv v) :
    ∃ h', evStore T0 30 (pv pI 7) v h = some h' ∧ BoxL h' pI 43 (imgL B f vf vn v ws) ∧ One pI h h' := by
  obtain ⟨h', s1, s2, s3, s4⟩ := BoxL.store (n := pI) (o := 7) (v := v) hI (ws := [v]) sz_bb hv.one1.2.1 (by simp) (by simp [hv.one1.1]) (by simp [imgL, supL]) (Nat.le_refl _)
  exact ⟨h', s1, s2, s4, evStore_keep s1⟩
theorem img_was {h : AH} {pI B f : Nat} {vf vn vb vf' vn' vb' : Value} {ws : List Value} (hw : ws.length = 8) (hI : BoxL h pI 43 (imgL B f vf vn vb ws)) (h1 : SLv vf') (h2 : SLv vn') (h3 : SLv vb') :
    ∃ h', evStore T0 41 (pv pI 8) (stV B f vf' vn' vb') h = some h' ∧ BoxL h' pI 43 (imgL B f vf vn vb (stL B f vf' vn' vb')) ∧ One pI h h' := by
  obtain ⟨h', s1, s2, s3, s4⟩ := BoxL.store (n := pI) (o := 8) (v := stV B f vf' vn' vb') hI (ws := stL B f vf' vn' vb') sz_st rfl (by simp [stL, supL]) (stL_one h1 h2 h3) (by simp [imgL, supL, stL, hw]) (Nat.le_refl _)
  refine ⟨h', s1, ?_, s4, evStore_keep s1⟩
  have e : (imgL B f vf vn vb ws).take 8 ++ stL B f vf' vn' vb' ++ (imgL B f vf vn vb ws).drop (8 + (stL B f vf' vn' vb').length) = imgL B f vf vn vb (stL B f vf' vn' vb') := by
    have e1 : (imgL B f vf vn vb ws).take 8 = supL B f ++ [vf, vn, vb] := by
      show supL B f ++ [vf, vn, vb] ++ ws.take 0 = _
      simp
    have e2 : (imgL B f vf vn vb ws).drop (8 + (stL B f vf' vn' vb').length) = [] := List.drop_eq_nil_of_le (by simp [imgL, supL, stL, hw])
    rw [e1, e2, List.append_nil]
    rfl
  rw [e] at s2
  exact s2
theorem img_loads {h : AH} {pI B f : Nat} {vf vn vb : Value} {ws : List Value} (hI : BoxL h pI 43 (imgL B f vf vn vb ws)) :
    evLoad T0 38 (pv pI 5) h = some vf ∧ evLoad T0 39 (pv pI 6) h = some vn ∧ evLoad T0 30 (pv pI 7) h = some vb ∧ evLoad T0 37 (pv pI 0) h = some (supV B f) ∧ evLoad T0 41 (pv pI 0) h = some (stV B f vf vn vb) :=
  ⟨hI.load agg_bytes rfl, hI.load agg_nodes rfl, hI.load agg_blocks rfl, hI.loadA (o := 0) (ws := supL B f) agg_Sup sz_Sup (by simp [imgL, supL]) (fun i x hi => by
    rw [Nat.zero_add]
    unfold imgL
    rw [List.append_assoc, List.getElem?_append_left (List.getElem?_eq_some_iff.1 hi).1]; exact hi), hI.loadA (o := 0) (ws := stL B f vf vn vb) agg_state sz_st (by simp [imgL, supL, stL]) (fun i x hi => by
    rw [Nat.zero_add]
    unfold imgL
    rw [List.getElem?_append_left (by exact (List.getElem?_eq_some_iff.1 hi).1)]; exact hi)⟩
abbrev CopyC (call : Abs.Callee) : Prop := ∀ (pn n B f : Nat) (vf vb : Value) (fb : List Nat) (bss : List (List Nat)) (h : AH), NsB h pn (rootN f) → pn < h.next → Bks h vf fb → BL n h vb bss → bss.length ≠ 0 → bss.length < 1000 →
  ∃ vf' vn' vb' h', call 28 [stV B f vf (nodesV pn) vb] h = some (stV B f vf' vn' vb', h') ∧ SLv vf' ∧ SLv vn' ∧ BL h.next h' vb' bss ∧ Grow h.next h h'
theorem Settle_S (hC : CopyC call) (pI pn n B f : Nat) (vf vb : Value) (fb : List Nat) (ws : List Value) (hw : ws.length = 8) (bss : List (List Nat)) (h : AH) (hI : BoxL h pI 43 (imgL B f vf (nodesV pn) vb ws)) (hpI : pI < h.next) (hnI : n ≤ pI)
    (hNs : NsB h pn (rootN f)) (hpn : pn < h.next) (hF : Bks h vf fb) (hb : BL n h vb bss) (h0 : bss.length ≠ 0) (hl : bss.length < 1000) :
    ∃ vf' vn' vb' h', frameB T0 X0 call 3000 13 [pv pI 0] h = some (.tuple #[], h') ∧ BoxL h' pI 43 (imgL B f vf (nodesV pn) vb (stL B f vf' vn' vb')) ∧ BL n h' vb bss ∧ BL n h' vb' bss ∧ Bks h' vf fb ∧ Grow n h h' := by
  obtain ⟨vf', vn', vb', h1, a1, a2, a3, a4, a5⟩ := hC pn n B f vf vb fb bss h hNs hpn hF hb h0 hl
  have n1 := a5.next
  have hI1 := hI.grow a5 hpI
  obtain ⟨h2, b1, b2, b3⟩ := img_was (vf' := vf') (vn' := vn') (vb' := vb') hw hI1 a2 a3 (a4.sl h0)
  refine ⟨vf', vn', vb', h2, ?_, b2, (hb.grow a5).one b3 hI1.ty (by decide) (by decide), (a4.one b3 hI1.ty (by decide) (by decide)).less (by omega), (hF.grow a5).keep (Nat.le_of_eq b3.next.symm) fun k hk hu => b3.keep k (tyAt.ne hu hI1.ty (by decide)), (a5.less (by omega)).trans (b3.grow hnI) (Nat.le_refl _)⟩
  have q := img_loads hI
  rw [frameB_eq ft13 rfl rfl]
  simp only [Tryz.f13, symM, opFn, Nat.reduceLT, Nat.reduceBEq, symM, ptr_neq, nil_pv, field_I, q, evCall_fn ft28 rfl, a1, b1]
  exact retB_zero ft13 rfl
/-- A block behind blocks. -/
theorem bs_bk {w : Value} {h : AH} (hw : oneCell w = true) : evBuildSlice T0 30 1 [(0, w)] h = some (.slice (some ⟨h.next, 0, none⟩) 1 1, h.new (.cells (PM.ofList [w]) 1 38 0 0 .ex)) := bs_one und_blocks sz_bytes zero_bytes rfl hw
theorem BL.append {n : Nat} {h : AH} {v w : Value} {bs : List Nat} {bss : List (List Nat)} (hb : BL n h v bss) (hw : Bks h w bs) (hl : bss.length < 1000) (hn : n ≤ h.next) (ty : TypeId) :
    ∃ v' h', evBuiltin T0 .append #[30, 30] ty [v, .slice (some ⟨h.next, 0, none⟩) 1 1] (h.new (.cells (PM.ofList [w]) 1 38 0 0 .ex)) = some (.value v', h') ∧ BL n h' v' (bss ++ [bs]) ∧ Grow n h h' ∧ (∀ k, k < h.next → Off v k → h'.get k = h.get k) ∧ SLv v' := by
  obtain ⟨vs, a1, a2, a3⟩ := hb
  obtain ⟨v', h', e1, e2, e3, e4⟩ := append_one2 und_blocks tt_bytes ti_bytes.1 ti_bytes.2.1 ti_bytes.2.2 a1 hw.one1.1 (by omega) hn ty
  have ku : ∀ k, k < h.next → tyAt h k 5 → h'.get k = h.get k := fun k hk hu => e4 k hk (a1.offT hu (by decide))
  refine ⟨v', h', e1, ⟨vs ++ [w], e2.less hn, by simp [a2], ?_⟩, e3, e4, ?_⟩
  · intro i x cs hx hc
    by_cases hi : i < vs.length
    · rw [List.getElem?_append_left hi] at hx
      rw [List.getElem?_append_left (by rw [← a2]; exact hi)] at hc
      exact (a3 i x cs hx hc).keep e3.next ku
    · rw [List.getElem?_append_right (by omega)] at hx
      rw [List.getElem?_append_right (by omega), ← a2] at hc
      have h0 : i - vs.length = 0 := by
        have := (List.getElem?_eq_some_iff.1 hx).1
        simp at this; omega
      rw [h0] at hx hc
      cases hx; cases hc
      exact hw.keep e3.next ku
  · rcases e2 with ⟨_, q⟩ | ⟨b, c, kd, cap, _, _, rfl, _⟩
    · simp at q
    · exact ⟨_, _, _, rfl⟩
end
end Go.Proofs.YtonfgflgnnkniaaGreat.Abs
namespace Go.Proofs.YtonfgflgnnkniaaGreat.Abs
open Go Go.Proofs
noncomputable section
variable {call : Abs.Callee}
set_option maxRecDepth 10000
def zb : List Nat := List.replicate 64 0
theorem zb_ok : zb.length = 64 ∧ ∀ x ∈ zb, x < 256 := ⟨by decide, by decide⟩
noncomputable def bodyMa : Code := part Tryz.f4 [1, 1, 1, 1, 1, 1, 1, 0, 1, 0, 0]
abbrev EMa : Env := ⟨4, 85, none⟩
theorem plan_ma : planB (regOps Tryz.f4 [1, 1, 1, 1, 1, 1, 1, 0, 1, 0, 0, 1, 1, 0, 0]) 85 = some ([.one 0, .one 1, .one 2, .one 3, .one 4, .one 5, .eff [] 6 [0, 1, 2, 3, 4, 5], .eff [7] 8 [0], .one 9, .one 10, .one 11, .eff [] 12 []], []) := by kernel_rfl
theorem mkBlock (h : AH) : ∃ h1 w, evMakeSlice T0 38 (iv 64) (iv 64) h = some (w, h1) ∧ Bks h1 w zb ∧ Grow h.next h h1 := by
  obtain ⟨h1, e1, e2, e3⟩ := make_bytes (h := h) (k := 64) (by omega)
  exact ⟨h1, _, e1, Bks.own e2 (by decide) (by decide) zb_ok.2, e3⟩
theorem maLp (pI pn n B f : Nat) (hB : B ≤ 480) (vf : Value) (fb : List Nat) (ws : List Value) (hnI : n ≤ pI) :
    ∀ (k i : Nat) (vb : Value) (h : AH) (tm : PM Value) (N : Nat), i + k = B → k + 60 ≤ N → n ≤ h.next → pI < h.next → pn < h.next → BoxL h pI 43 (imgL B f vf (nodesV pn) vb ws) → NsB h pn (rootN f) → Bks h vf fb → BL n h vb (List.replicate i zb) →
      tm.get 6 = some (pv pI 0) → tm.get 53 = some (iv B) → tm.get 54 = some (iv i) →
      ∃ tm' h', codeB T0 X0 call N EMa (.loop bodyMa) tm h [] = .jump (.exit 0) tm' h' [] ∧ ((tm'.get 6 = some (pv pI 0) ∧ ∃ vb', BoxL h' pI 43 (imgL B f vf (nodesV pn) vb' ws) ∧ NsB h' pn (rootN f) ∧ Bks h' vf fb ∧ BL n h' vb' (List.replicate B zb)) ∧ Grow n h h') := by
  intro k
  induction k with
  | zero =>
    intro i vb h tm N hi hN hn hpI hpn hI hNs hF hb g6 g53 g54
    obtain ⟨N, rfl⟩ : ∃ a, N = a + 60 := ⟨N - 60, by omega⟩
    have hiB : i = B := by omega
    subst hiB
    apply Exists.intro; apply Exists.intro
    refine ⟨?_, ⟨?_, vb, hI, hNs, hF, hb⟩, Grow.refl _ _⟩
    · rw [codeB_loop]
      simp only [bodyMa, part, Tryz.f4, sub, symM, opFn, Nat.reduceLT, symM, g53, g54, bin_lss, decide_eq_false (show ¬ (i : Int) < (i : Nat) by omega)]
      rfl
    · simp only [symM, Nat.reduceBEq, g6]
  | succ k ih =>
    intro i vb h tm N hi hN hn hpI hpn hI hNs hF hb g6 g53 g54
    obtain ⟨N, rfl⟩ : ∃ a, N = a + 60 := ⟨N - 60, by omega⟩
    obtain ⟨h1, w, a1, a2, a3⟩ := mkBlock h
    have n1 := a3.next
    have hI1 := hI.grow a3 hpI
    have hb1 := hb.grow a3
    obtain ⟨v', h2, b1, b2, b3, b4, b5⟩ := hb1.append a2 (by simp; omega) (by omega) 30
    have n2 := b3.next
    have hI2 := hI1.keep (b4 pI (by omega) (hb1.off hI1.ty (by decide)))
    have hNs1 : NsB h1 pn (rootN f) := BoxL.grow hNs a3 hpn
    have hNs2 : NsB h2 pn (rootN f) := BoxL.keep hNs1 (b4 pn (by omega) (hb1.off (BoxL.ty hNs1) (by decide)))
    have hF2 : Bks h2 vf fb := (hF.grow a3).keep n2 fun k hk hu => b4 k hk (hb1.off hu (by decide))
    obtain ⟨h3, c1, c2, c3⟩ := img_blocks hI2 b5
    have hNs3 : NsB h3 pn (rootN f) := BoxL.one hNs2 c3 (tyAt.ne (BoxL.ty hNs2) hI2.ty (by decide))
    have hF3 : Bks h3 vf fb := hF2.keep (Nat.le_of_eq c3.next.symm) fun k hk hu => c3.keep k (tyAt.ne hu hI2.ty (by decide))
    have hb3 := b2.one c3 hI2.ty (by decide) (by decide)
    rw [show List.replicate i zb ++ [zb] = List.replicate (i + 1) zb from (List.replicate_succ' ..).symm] at hb3
    have ld := (img_loads hI).2.2.1
    have ld1 := (img_loads hI1).2.2.1
    have hp := plan_ma
    simp only [regOps, part, Tryz.f4, sub] at hp
    rw [show N + 60 = (N + 59) + 1 from rfl, codeB_loop]
    simp only [bodyMa, part, Tryz.f4, sub, symM, opFn, Nat.reduceLT, symM, g53, g54, bin_lss, decide_eq_true (show (i : Int) < (B : Int) by omega)]
    rw [codeB_draw, draw_plan hp rfl]
    simp only [drawAll, opFn, Nat.reduceLT, Nat.reduceBEq, nil_pv, g6, g54, field_I, field_st, ld, ld1, hb.eqv, a1, effE_cons, goAB_some (bs_bk a2.one1.1), b1, c1, bin_add, wadd1 (show i ≤ 400000 by omega)]
    exact wrapE (ih (i + 1) v' h3 _ (N + 59) (by omega) (by omega) (by rw [c3.next]; omega) (by rw [c3.next]; omega) (by rw [c3.next]; omega) c2 hNs3 hF3 hb3 (by simp only [symM, Nat.reduceBEq, g6]) (by simp only [symM, Nat.reduceBEq, g53]) get_same) (((a3.less hn).trans b3 (Nat.le_refl _)).trans (c3.grow hnI) (Nat.le_refl _))
/-- The blocks of a new image. -/
def madeL (B f : Nat) : List (List Nat) := wr f 16 0 (((((List.replicate B zb).set 1 headBy).set 0 (supBy B f))).set 2 flagBy)
theorem madeL_len (B f : Nat) : (madeL B f).length = B := by unfold madeL; rw [wr_len]; simp
/-- A new image. -/
def ImgOK (n : Nat) (h : AH) (pI B f : Nat) (bss : List (List Nat)) : Prop := pI < h.next ∧ ∃ vf vn vb vf' vn' vb', BoxL h pI 43 (imgL B f vf vn vb (stL B f vf' vn' vb')) ∧ BL n h vb bss ∧ BL n h vb' bss ∧ Bks h vf (markL 59)
theorem zd_59 : zd 59 = 4633500329122463744 := by decide
theorem alloc_I {h : AH} : evBuild T0 43 [] h = some (.agg (imgL 0 0 nilV nilV nilV (stL 0 0 nilV nilV nilV)).toArray, h) := by kernel_rfl
theorem box_I {l : List Value} {h : AH} : rp (some (evNewVar h 43 (.agg l.toArray))) = some (.value (pv h.next 0), h.new (.cells (PM.ofList l) l.length 43 0 0 .ex)) := box_agg
theorem build_Su {b f : Nat} {h : AH} : evBuild T0 37 [(0, iv b), (1, iv f)] h = some (supV b f, h) := by kernel_rfl
theorem build_Ro {f : Nat} {h : AH} : evBuild T0 51 [(0, iv 2), (1, iv f), (2, iv 1)] h = some (nodeV (rootN f) nilV, h) := by kernel_rfl
theorem build_Hd {h : AH} : evBuild T0 54 [(1, iv 1)] h = some (headV0, h) := by kernel_rfl
theorem make_nodes (h : AH) : ∃ h1, evMakeSlice T0 39 (iv 32) (iv 32) h = some (nodesV h.next, h1) ∧ NsB h1 h.next NV.zero ∧ Grow h.next h h1 ∧ h1.next = h.next + 1 := by
  refine ⟨newCells h 51 (fillPM (nodeV NV.zero nilV) 384) 384, by kernel_rfl, ?_, Grow.new _ _, rfl⟩
  refine ⟨fillPM (nodeV NV.zero nilV) 384, by rw [nodesL_len]; exact get_new_same _ _, fun i x hi => ?_⟩
  have hl := (List.getElem?_eq_some_iff.1 hi).1
  rw [nodesL_len] at hl
  rw [fillPM_get _ _ _ hl]
  unfold nodesL at hi
  rw [List.getElem?_map, List.getElem?_range hl] at hi
  simp only [Option.map_some, ite_self] at hi
  rw [← hi]
  have hk : i % 12 < 12 := Nat.mod_lt _ (by decide)
  show some ((nodeV NV.zero nilV).cells[i % 12]!) = _
  generalize i % 12 = j at hk
  match j, hk with
  | 0, _ | 1, _ | 2, _ | 3, _ | 4, _ | 5, _ | 6, _ | 7, _ | 8, _ | 9, _ | 10, _ | 11, _ => rfl
theorem root_store {h : AH} {pn f : Nat} (hb : NsB h pn NV.zero) : ∃ h', evStore T0 51 (pv pn 0) (nodeV (rootN f) nilV) h = some h' ∧ NsB h' pn (rootN f) ∧ One pn h h' := by
  obtain ⟨h', s1, s2, s3, s4⟩ := BoxL.store (n := pn) (o := 0) (v := nodeV (rootN f) nilV) hb (ws := nodeL (rootN f) nilV) sz_Node rfl (by simp [nodeL]) rfl (by rw [nodesL_len]; show 0 + 12 ≤ 384; decide) (Nat.le_refl _)
  refine ⟨h', s1, ?_, s4, evStore_keep s1⟩
  have e : (nodesL NV.zero).take 0 ++ nodeL (rootN f) nilV ++ (nodesL NV.zero).drop (0 + (nodeL (rootN f) nilV).length) = nodesL (rootN f) := by kernel_rfl
  rw [e] at s2
  exact s2
end
end Go.Proofs.YtonfgflgnnkniaaGreat.Abs
namespace Go.Proofs.YtonfgflgnnkniaaGreat.Abs
open Go Go.Proofs
noncomputable section
variable {call : Abs.Callee}
set_option maxRecDepth 10000
theorem plan_ma12 : planB (regOps Tryz.f4 [1, 1, 1, 1, 1, 1, 1, 1, 0]) 85 = some ([.one 0, .one 1, .one 2, .one 3, .one 4, .one 5, .eff [] 6 [0, 1, 2, 3, 4], .one 7, .one 8, .one 9, .one 10, .eff [] 11 [9]], []) := by kernel_rfl
/-- May an image of this size and format be made? -/
def okMake (B f : Int) : Bool := decide (¬ (B < 64 ∨ 480 < B ∨ (f ≠ 1 ∧ f ≠ 2)))
theorem Make_bad (B f : Int) (h : AH) (hb : okMake B f = false) : frameB T0 X0 call 3000 4 [iv B, iv f] h = some (.tuple #[.pointer none, iv 1], h) := by
  have hb : B < 64 ∨ 480 < B ∨ (f ≠ 1 ∧ f ≠ 2) := by
    unfold okMake at hb
    exact Classical.byContradiction fun q => by rw [decide_eq_true q] at hb; cases hb
  rw [frameB_eq ft4 rfl rfl]
  by_cases h1 : B < 64
  · simp only [Tryz.f4, symM, opFn, Nat.reduceLT, Nat.reduceBEq, symM, bin_lss, decide_eq_true h1]
    exact retB_two ft4 rfl (by simp only [symM, Nat.reduceBEq]) get_same
  · by_cases h2 : B > 480
    · simp only [Tryz.f4, symM, opFn, Nat.reduceLT, Nat.reduceBEq, symM, bin_lss, decide_eq_false h1, bin_gtr, decide_eq_true h2]
      exact retB_two ft4 rfl (by simp only [symM, Nat.reduceBEq]) get_same
    · have h3 : f ≠ 1 ∧ f ≠ 2 := by rcases hb with q | q | q; exact absurd q h1; exact absurd q h2; exact q
      have e1 : (f == 1) = false := by simpa using h3.1
      have e2 : (f == 2) = false := by simpa using h3.2
      simp only [Tryz.f4, symM, opFn, Nat.reduceLT, Nat.reduceBEq, symM, bin_lss, decide_eq_false h1, bin_gtr, decide_eq_false h2, bin_neq, e1, e2]
      exact retB_two ft4 rfl (by simp only [symM, Nat.reduceBEq]) get_same
abbrev NewC (call : Abs.Callee) : Prop := ∀ h, ∃ v' p' h', call 10 [] h = some (v', h') ∧ h.next ≤ p' ∧ p' < h'.next ∧ OwnB p' h' v' (markL 0) ∧ Grow h.next h h'
abbrev MarkC (call : Abs.Callee) (g : Nat) : Prop := ∀ (p b : Nat) (v : Value) (h : AH), OwnB p h v (markL 0) → p < h.next → BoxL h b 47 [cx ((0 : Nat) : Int) ((59 : Nat) : Int)] → b < h.next → ∃ v' p' h', call g [v, .bool true, .slice (some ⟨b, 0, none⟩) 1 1] h = some (.tuple #[v', iv 0], h') ∧ h.next ≤ p' ∧ p' < h'.next ∧ OwnB p' h' v' (markL 59) ∧ Grow h.next h h'
abbrev PutHC (call : Abs.Callee) : Prop := ∀ h, ∃ v' p' h', call 11 [headV0] h = some (.tuple #[v', iv 0], h') ∧ h.next ≤ p' ∧ p' < h'.next ∧ OwnB p' h' v' headBy ∧ Grow h.next h h'
abbrev WriteC (call : Abs.Callee) : Prop := ∀ (pI pn n B f : Nat) (vf vb : Value) (ws : List Value) (bss : List (List Nat)) (h : AH), 64 ≤ B → B ≤ 480 → 1 ≤ f → f ≤ 2 → BoxL h pI 43 (imgL B f vf (nodesV pn) vb ws) → pI < h.next → NsB h pn (rootN f) → pn < h.next → Bks h vf (markL 59) → BL n h vb bss → 19 ≤ bss.length → n ≤ h.next →
  ∃ h', call 12 [pv pI 0] h = some (.tuple #[], h') ∧ BL n h' vb (wr f 16 0 ((bss.set 0 (supBy B f)).set 2 flagBy)) ∧ BoxL h' pI 43 (imgL B f vf (nodesV pn) vb ws) ∧ NsB h' pn (rootN f) ∧ Bks h' vf (markL 59) ∧ Grow n h h'
abbrev SettleC (call : Abs.Callee) : Prop := ∀ (pI pn n B f : Nat) (vf vb : Value) (fb : List Nat) (ws : List Value) (bss : List (List Nat)) (h : AH), ws.length = 8 → BoxL h pI 43 (imgL B f vf (nodesV pn) vb ws) → pI < h.next → n ≤ pI → NsB h pn (rootN f) → pn < h.next → Bks h vf fb → BL n h vb bss → bss.length ≠ 0 → bss.length < 1000 →
  ∃ vf' vn' vb' h', call 13 [pv pI 0] h = some (.tuple #[], h') ∧ BoxL h' pI 43 (imgL B f vf (nodesV pn) vb (stL B f vf' vn' vb')) ∧ BL n h' vb bss ∧ BL n h' vb' bss ∧ Bks h' vf fb ∧ Grow n h h'
theorem Make_S (hNew : NewC call) (hMk : MarkC call 9) (hPH : PutHC call) (hW : WriteC call) (hS : SettleC call) (B f : Nat) (k1 : 64 ≤ B) (k2 : B ≤ 480) (hf1 : 1 ≤ f) (hf2 : f ≤ 2) (h : AH) :
    ∃ pI h', frameB T0 X0 call 3000 4 [iv B, iv f] h = some (.tuple #[pv pI 0, iv 0], h') ∧ ImgOK h.next h' pI B f (madeL B f) ∧ Grow h.next h h' := by
  generalize hws : stL 0 0 nilV nilV nilV = ws
  have hwl : ws.length = 8 := by rw [← hws]; rfl
  generalize hh1 : h.new (.cells (PM.ofList (imgL 0 0 nilV nilV nilV ws)) (imgL 0 0 nilV nilV nilV ws).length 43 0 0 .ex) = h1
  have g1 : Grow h.next h h1 := by rw [← hh1]; exact Grow.new _ _
  have n1 : h1.next = h.next + 1 := by rw [← hh1]; rfl
  have i1 : BoxL h1 h.next 43 (imgL 0 0 nilV nilV nilV ws) := by rw [← hh1]; exact BoxL.new _ _ _
  obtain ⟨h2, a1, a2, a3⟩ := img_sup (B := B) (f := f) i1
  have n2 := a3.next
  obtain ⟨v3, p3, h3, b1, b2, b3, b4, b5⟩ := hNew h2
  have n3 := b5.next
  generalize hh4 : h3.new (.cells (PM.ofList [cx ((0 : Nat) : Int) ((59 : Nat) : Int)]) 1 47 0 0 .ex) = h4
  have g4 : Grow h3.next h3 h4 := by rw [← hh4]; exact Grow.new _ _
  have n4 : h4.next = h3.next + 1 := by rw [← hh4]; rfl
  have cb : BoxL h4 h3.next 47 [cx ((0 : Nat) : Int) ((59 : Nat) : Int)] := by rw [← hh4]; exact BoxL.new _ _ _
  have hbs : evBuildSlice T0 66 1 [(0, .complex .f64 0 4633500329122463744)] h3 = some (.slice (some ⟨h3.next, 0, none⟩) 1 1, h4) := by
    rw [← hh4, ← zd_59]
    exact bs_cx (a := ((0 : Nat) : Int)) (b := ((59 : Nat) : Int))
  obtain ⟨vf, p5, h5, c1, c2, c3, c4, c5⟩ := hMk p3 h3.next v3 h4 (b4.grow g4 b3) (by omega) cb (by omega)
  have n5 := c5.next
  have F5 : Bks h5 vf (markL 59) := ⟨by rw [markL_len]; decide, by rw [markL_len]; decide, markL_lt 59, p5, c3, c4⟩
  have i5 : BoxL h5 h.next 43 (imgL B f nilV nilV nilV ws) := ((a2.grow b5 (by omega)).grow g4 (by omega)).grow c5 (by omega)
  obtain ⟨h6, d1, d2, d3⟩ := img_flags i5 F5.sl
  have n6 := d3.next
  have F6 : Bks h6 vf (markL 59) := F5.keep (Nat.le_of_eq d3.next.symm) fun k hk hu => d3.keep k (tyAt.ne hu i5.ty (by decide))
  obtain ⟨h7, e1, e2, e3, e4⟩ := make_nodes h6
  have i7 := d2.grow e3 (by omega)
  obtain ⟨h8, f1, f2, f3⟩ := img_nodes (v := nodesV h6.next) i7 ⟨_, _, _, rfl⟩
  have n8 := f3.next
  have N8 : NsB h8 h6.next NV.zero := BoxL.one e2 f3 (by omega)
  have F8 : Bks h8 vf (markL 59) := (F6.grow e3).keep (Nat.le_of_eq f3.next.symm) fun k hk hu => f3.keep k (tyAt.ne hu i7.ty (by decide))
  obtain ⟨h9, r1, r2, r3⟩ := root_store (f := f) N8
  have n9 := r3.next
  have i9 : BoxL h9 h.next 43 (imgL B f vf (nodesV h6.next) nilV ws) := f2.one r3 (by omega)
  have F9 : Bks h9 vf (markL 59) := F8.keep (Nat.le_of_eq r3.next.symm) fun k hk hu => r3.keep k (tyAt.ne hu (BoxL.ty N8) (by decide))
  have ix : evIndexAddr T0 39 (nodesV h6.next) (iv 0) = some (pv h6.next 0) := by
    have := (N8.at 0 (by decide)).1
    exact this
  have G9 : Grow h.next h h9 := by
    have x1 := g1.trans (a3.grow (Nat.le_refl _)) (Nat.le_refl _)
    have x2 := x1.trans b5 (by omega)
    have x3 := x2.trans g4 (by omega)
    have x4 := x3.trans c5 (by omega)
    have x5 := x4.trans (d3.grow (Nat.le_refl _)) (Nat.le_refl _)
    have x6 := x5.trans e3 (by omega)
    have x7 := x6.trans (f3.grow (Nat.le_refl _)) (Nat.le_refl _)
    exact x7.trans (r3.grow (show h.next ≤ h6.next by omega)) (Nat.le_refl _)
  have ld8 := (img_loads f2).2.1
  have q9 : BL h.next h9 nilV (List.replicate 0 zb) := ⟨[], Own.nil _ _ _, rfl, fun i w bs hi _ => by simp at hi⟩
  have hb1 : ¬ (B : Int) < 64 := by omega
  have hb2 : ¬ (B : Int) > 480 := by omega
  have hff : (!(f : Int) == 1) = false ∨ ((!(f : Int) == 1) = true ∧ (!(f : Int) == 2) = false) := by
    have : f = 1 ∨ f = 2 := by omega
    rcases this with rfl | rfl
    · exact .inl rfl
    · exact .inr ⟨rfl, rfl⟩
  rw [frameB_eq ft4 rfl rfl]
  rcases hff with hff | ⟨hff, hff2⟩
  · simp only [Tryz.f4, symM, opFn, Nat.reduceLT, Nat.reduceBEq, symM, symL, bin_lss, decide_eq_false hb1, bin_gtr, decide_eq_false hb2, bin_neq, hff, alloc_I, hws, box_I, hh1, nil_pv, build_Su, field_I, field_st, a1, evCall_fn ft10 rfl, b1, hbs, evCall_fn ft9 rfl, c1, d1, e1, f1, ld8, build_Ro, ix, r1]
    generalize hX : codeB T0 X0 call _ EMa (.loop _) _ _ _ = X
    obtain ⟨t2, h10, s1, ⟨s2, vb, s3, s4, s5, s6⟩, s7⟩ := use_exit hX (maLp h.next h6.next h.next B f k2 vf (markL 59) ws (Nat.le_refl _) B 0 nilV h9 _ _ (by omega) (by omega) (by omega) (by omega) (by omega) i9 r2 F9 q9 (by simp only [symM, Nat.reduceBEq]) (by simp only [symM, Nat.reduceBEq]) (by simp only [symM]; rfl))
    clear hX
    subst s1
    have n10 := s7.next
    obtain ⟨v11, p11, h11, t1, t3, t4, t5, t6⟩ := hPH h10
    have n11 := t6.next
    have B11 : Bks h11 v11 headBy := ⟨by rw [headBy_ok.1]; decide, by rw [headBy_ok.1]; decide, headBy_ok.2, p11, t4, t5⟩
    have i11 := s3.grow t6 (by omega)
    have N11 : NsB h11 h6.next (rootN f) := BoxL.grow s4 t6 (by omega)
    have b11 := s6.grow t6
    obtain ⟨q, h12, u1, u2, u3, u4, u5, u6⟩ := b11.store (i := 1) (by simp; omega) B11
    have u1 : evIndexAddr T0 30 vb (iv 1) = some q := u1
    have i12 := i11.keep (u6 h.next (b11.off i11.ty (by decide)))
    have N12 : NsB h12 h6.next (rootN f) := BoxL.keep N11 (u6 h6.next (b11.off (BoxL.ty N11) (by decide)))
    have F12 : Bks h12 vf (markL 59) := (s5.grow t6).keep (Nat.le_of_eq u5.symm) fun k hk hu => u6 k (b11.off hu (by decide))
    obtain ⟨h13, w1, w2, w3, w4, w5, w6⟩ := hW h.next h6.next h.next B f vf vb ws _ h12 k1 k2 hf1 hf2 i12 (by omega) N12 (by omega) F12 u3 (by simp; omega) (by omega)
    have n13 := w6.next
    have hml : (wr f 16 0 ((((List.replicate B zb).set 1 headBy).set 0 (supBy B f)).set 2 flagBy)).length = B := madeL_len B f
    obtain ⟨vf', vn', vb', h14, x1, x2, x3, x4, x5, x6⟩ := hS h.next h6.next h.next B f vf vb (markL 59) ws _ h13 hwl w3 (by omega) (Nat.le_refl _) w4 (by omega) w5 w2 (by rw [hml]; omega) (by rw [hml]; omega)
    have G14 : Grow h.next h h14 := (((G9.trans s7 (Nat.le_refl _)).trans (t6.less (by omega)) (Nat.le_refl _)).trans u4 (Nat.le_refl _)).trans (w6.trans x6 (Nat.le_refl _)) (Nat.le_refl _)
    refine ⟨h.next, h14, ?_, ⟨?_, vf, nodesV h6.next, vb, vf', vn', vb', x2, x3, x4, x5⟩, G14⟩
    · have l10 := (img_loads s3).2.2.1
      have l11 := (img_loads i11).2.2.1
      have hp := plan_ma12
      simp only [regOps, part, Tryz.f4, sub] at hp
      simp only [symM, symM, symL]
      rw [codeB_draw, draw_plan hp rfl]
      simp only [drawAll, opFn, Nat.reduceLT, Nat.reduceBEq, nil_pv, s2, field_I, field_st, l10, l11, s6.eqv, build_Hd, evCall_fn ft11 rfl, t1, effE_cons, u1, u2, evCall_fn ft12 rfl, w1, evCall_fn ft13 rfl, x1]
      exact retB_two ft4 rfl (by simp only [symM, Nat.reduceBEq]) get_same
    · have := x6.next
      omega
  · simp only [Tryz.f4, symM, opFn, Nat.reduceLT, Nat.reduceBEq, symM, symL, bin_lss, decide_eq_false hb1, bin_gtr, decide_eq_false hb2, bin_neq, hff, hff2, alloc_I, hws, box_I, hh1, nil_pv, build_Su, field_I, field_st, a1, evCall_fn ft10 rfl, b1, hbs, evCall_fn ft9 rfl, c1, d1, e1, f1, ld8, build_Ro, ix, r1]
    generalize hX : codeB T0 X0 call _ EMa (.loop _) _ _ _ = X
    obtain ⟨t2, h10, s1, ⟨s2, vb, s3, s4, s5, s6⟩, s7⟩ := use_exit hX (maLp h.next h6.next h.next B f k2 vf (markL 59) ws (Nat.le_refl _) B 0 nilV h9 _ _ (by omega) (by omega) (by omega) (by omega) (by omega) i9 r2 F9 q9 (by simp only [symM, Nat.reduceBEq]) (by simp only [symM, Nat.reduceBEq]) (by simp only [symM]; rfl))
    clear hX
    subst s1
    have n10 := s7.next
    obtain ⟨v11, p11, h11, t1, t3, t4, t5, t6⟩ := hPH h10
    have n11 := t6.next
    have B11 : Bks h11 v11 headBy := ⟨by rw [headBy_ok.1]; decide, by rw [headBy_ok.1]; decide, headBy_ok.2, p11, t4, t5⟩
    have i11 := s3.grow t6 (by omega)
    have N11 : NsB h11 h6.next (rootN f) := BoxL.grow s4 t6 (by omega)
    have b11 := s6.grow t6
    obtain ⟨q, h12, u1, u2, u3, u4, u5, u6⟩ := b11.store (i := 1) (by simp; omega) B11
    have u1 : evIndexAddr T0 30 vb (iv 1) = some q := u1
    have i12 := i11.keep (u6 h.next (b11.off i11.ty (by decide)))
    have N12 : NsB h12 h6.next (rootN f) := BoxL.keep N11 (u6 h6.next (b11.off (BoxL.ty N11) (by decide)))
    have F12 : Bks h12 vf (markL 59) := (s5.grow t6).keep (Nat.le_of_eq u5.symm) fun k hk hu => u6 k (b11.off hu (by decide))
    obtain ⟨h13, w1, w2, w3, w4, w5, w6⟩ := hW h.next h6.next h.next B f vf vb ws _ h12 k1 k2 hf1 hf2 i12 (by omega) N12 (by omega) F12 u3 (by simp; omega) (by omega)
    have n13 := w6.next
    have hml : (wr f 16 0 ((((List.replicate B zb).set 1 headBy).set 0 (supBy B f)).set 2 flagBy)).length = B := madeL_len B f
    obtain ⟨vf', vn', vb', h14, x1, x2, x3, x4, x5, x6⟩ := hS h.next h6.next h.next B f vf vb (markL 59) ws _ h13 hwl w3 (by omega) (Nat.le_refl _) w4 (by omega) w5 w2 (by rw [hml]; omega) (by rw [hml]; omega)
    have G14 : Grow h.next h h14 := (((G9.trans s7 (Nat.le_refl _)).trans (t6.less (by omega)) (Nat.le_refl _)).trans u4 (Nat.le_refl _)).trans (w6.trans x6 (Nat.le_refl _)) (Nat.le_refl _)
    refine ⟨h.next, h14, ?_, ⟨?_, vf, nodesV h6.next, vb, vf', vn', vb', x2, x3, x4, x5⟩, G14⟩
    · have l10 := (img_loads s3).2.2.1
      have l11 := (img_loads i11).2.2.1
      have hp := plan_ma12
      simp only [regOps, part, Tryz.f4, sub] at hp
      simp only [symM, symM, symL]
      rw [codeB_draw, draw_plan hp rfl]
      simp only [drawAll, opFn, Nat.reduceLT, Nat.reduceBEq, nil_pv, s2, field_I, field_st, l10, l11, s6.eqv, build_Hd, evCall_fn ft11 rfl, t1, effE_cons, u1, u2, evCall_fn ft12 rfl, w1, evCall_fn ft13 rfl, x1]
      exact retB_two ft4 rfl (by simp only [symM, Nat.reduceBEq]) get_same
    · have := x6.next
      omega
end
end Go.Proofs.YtonfgflgnnkniaaGreat.Abs
namespace Go.Proofs.YtonfgflgnnkniaaGreat.Abs
open Go Go.Proofs
noncomputable section
variable {call : Abs.Callee}
set_option maxRecDepth 10000
theorem ft7 : T0.ft.get 7 = some Tryz.f7 := by kernel_rfl
theorem ft16 : T0.ft.get 16 = some Tryz.f16 := by kernel_rfl
noncomputable def bodyBs : Code := part Tryz.f7 [1, 1, 1, 0, 1, 0, 0]
abbrev EBs : Env := ⟨7, 25, none⟩
theorem bsLp (hCl : BCloneC call) (n : Nat) (vb : Value) (bss : List (List Nat)) (h0 : AH) (hb0 : BL n h0 vb bss) (hl : bss.length < 900) :
    ∀ (k i : Nat) (acc : Value) (h : AH) (tm : PM Value) (N : Nat), i + k = bss.length → k + 60 ≤ N → Grow h0.next h0 h → BL h0.next h acc (bss.take i) →
      tm.get 3 = some acc → tm.get 12 = some vb → tm.get 13 = some (iv bss.length) → tm.get 14 = some (iv i) →
      ∃ tm' h', codeB T0 X0 call N EBs (.loop bodyBs) tm h [] = .jump (.exit 0) tm' h' [] ∧ ((∃ v', tm'.get 3 = some v' ∧ BL h0.next h' v' bss) ∧ Grow h0.next h h') := by
  intro k
  induction k with
  | zero =>
    intro i acc h tm N hi hN hg ha g3 g12 g13 g14
    obtain ⟨N, rfl⟩ : ∃ a, N = a + 60 := ⟨N - 60, by omega⟩
    have hiB : i = bss.length := by omega
    subst hiB
    rw [List.take_length] at ha
    apply Exists.intro; apply Exists.intro
    refine ⟨?_, ⟨acc, ?_, ha⟩, Grow.refl _ _⟩
    · rw [codeB_loop]
      simp only [bodyBs, part, Tryz.f7, sub, symM, opFn, Nat.reduceLT, symM, g13, g14, bin_lss, decide_eq_false (show ¬ (bss.length : Int) < (bss.length : Nat) by omega)]
      rfl
    · simp only [symM, Nat.reduceBEq, g3]
  | succ k ih =>
    intro i acc h tm N hi hN hg ha g3 g12 g13 g14
    obtain ⟨N, rfl⟩ : ∃ a, N = a + 60 := ⟨N - 60, by omega⟩
    have hil : i < bss.length := by omega
    have hx : bss[i]? = some bss[i] := List.getElem?_eq_getElem hil
    obtain ⟨p, w, a1, a2, a3⟩ := (hb0.grow hg).at hx
    obtain ⟨w1, h1, b1, b2, b3⟩ := a3.clone hCl
    have n0 := hg.next
    have n1 := b3.next
    obtain ⟨v2, h2, c1, c2, c3, c4, _⟩ := (ha.grow b3).append b2 (by simp; omega) (by omega) 30
    rw [show bss.take i ++ [bss[i]] = bss.take (i + 1) from (List.take_succ_eq_append_getElem hil).symm] at c2
    rw [show N + 60 = (N + 59) + 1 from rfl, codeB_loop]
    simp only [bodyBs, part, Tryz.f7, sub, symM, opFn, Nat.reduceLT, Nat.reduceBEq, symM, g3, g12, g13, g14, bin_lss, decide_eq_true (show (i : Int) < (bss.length : Nat) by omega), a1, a2, evCall_fn ft17 rfl, b1, bs_bk b2.one1.1, c1, bin_add, wadd1 (show i ≤ 400000 by omega)]
    have G : Grow h0.next h h2 := (b3.less n0).trans c3 (Nat.le_refl _)
    exact wrapE (ih (i + 1) v2 h2 _ (N + 59) (by omega) (by omega) (hg.trans G (Nat.le_refl _)) c2 (by simp only [symM, Nat.reduceBEq]) (by simp only [symM, Nat.reduceBEq, g12]) (by simp only [symM, Nat.reduceBEq, g13]) get_same) G
theorem Blocks_S (hCl : BCloneC call) (n pI B f : Nat) (bss : List (List Nat)) (h : AH) (hI : ImgOK n h pI B f bss) (hl : bss.length < 900) :
    ∃ v' h', frameB T0 X0 call 3000 7 [pv pI 0] h = some (v', h') ∧ BL h.next h' v' bss ∧ Grow h.next h h' := by
  obtain ⟨hp, vf, vn, vb, vf', vn', vb', i1, i2, i3, i4⟩ := hI
  have ld := (img_loads i1).2.2.1
  have hlen : ∀ ty h', evBuiltin T0 .len #[30] ty [vb] h' = some (.value (iv bss.length), h') := fun ty h' => i2.len ty
  have q0 : BL h.next h nilV (bss.take 0) := ⟨[], Own.nil _ _ _, rfl, fun i w bs hi _ => by simp at hi⟩
  rw [frameB_eq ft7 rfl rfl]
  simp only [Tryz.f7, symM, opFn, Nat.reduceLT, Nat.reduceBEq, symM, symL, ptr_eql, nil_pv, field_I, field_st, ld, hlen]
  generalize hX : codeB T0 X0 call _ EBs (.loop _) _ _ _ = X
  obtain ⟨t2, h2, e1, ⟨v2, e2, e3⟩, e4⟩ := use_exit hX (bsLp hCl n vb bss h i2 hl bss.length 0 nilV h _ _ (by omega) (by omega) (Grow.refl _ _) q0 (by simp only [symM, Nat.reduceBEq]) (by simp only [symM, Nat.reduceBEq]) (by simp only [symM, Nat.reduceBEq]) (by simp only [symM]; rfl))
  clear hX
  subst e1
  refine ⟨v2, h2, ?_, e3, e4⟩
  simp only [symM, opFn, Nat.reduceLT, symM, symL, e2]
  exact retB_one ft7 rfl get_same
theorem alloc_Su {h : AH} : evAlloc T0 37 h = some (pv h.next 0, h.new (.cells (PM.ofList (supL 0 0)) 5 37 0 0 .ex)) := by
  unfold evAlloc
  rw [show zeroOf T0 37 = some (supV 0 0) from by kernel_rfl]
  rfl
theorem Super_S (n pI B f : Nat) (bss : List (List Nat)) (h : AH) (hI : ImgOK n h pI B f bss) :
    ∃ h', frameB T0 X0 call 3000 16 [pv pI 0] h = some (supV B f, h') ∧ Grow h.next h h' := by
  obtain ⟨hp, vf, vn, vb, vf', vn', vb', i1, i2, i3, i4⟩ := hI
  generalize hh1 : h.new (.cells (PM.ofList (supL 0 0)) 5 37 0 0 .ex) = h1
  have g1 : Grow h.next h h1 := by rw [← hh1]; exact Grow.new _ _
  have s1 : BoxL h1 h.next 37 (supL 0 0) := by rw [← hh1]; exact BoxL.new _ _ _
  have ld := (img_loads (i1.grow g1 hp)).2.2.2.1
  obtain ⟨h2, d1, d2, d3, d4⟩ := BoxL.store (n := h.next) (o := 0) (v := supV B f) s1 (ws := supL B f) sz_Sup rfl (by simp [supL]) rfl (Nat.le_refl _) (Nat.le_refl _)
  have d2 : SupB h2 h.next B f := d2
  refine ⟨h2, ?_, g1.trans d3 (Nat.le_refl _)⟩
  rw [frameB_eq ft16 rfl rfl]
  simp only [Tryz.f16, symM, opFn, Nat.reduceLT, Nat.reduceBEq, symM, alloc_Su, hh1, ptr_eql, nil_pv, field_I, field_st, ld, d1]
  exact retB_cell ft16 rfl (by simp only [symM, Nat.reduceBEq]) d2.loads.2.2.2.2.2
end
end Go.Proofs.YtonfgflgnnkniaaGreat.Abs
namespace Go.Proofs.YtonfgflgnnkniaaGreat.Abs
open Go Go.Proofs
noncomputable section
variable {call : Abs.Callee}
set_option maxRecDepth 10000
theorem free_all : (List.range 480).all (fun i => Nat.blt i 59 || !bitB (markL 59) i) = true := by kernel_rfl
theorem free_at {i : Nat} (h1 : 59 ≤ i) (h2 : i < 480) : bitB (markL 59) i = false := by
  have := all_lt free_all i h2
  rw [show Nat.blt i 59 = false from (by rw [Bool.eq_false_iff]; intro q; rw [Nat.blt_eq] at q; omega), Bool.false_or] at this
  simpa using this
theorem down_made (B : Nat) (h1 : 64 ≤ B) (h2 : B ≤ 480) : downG (markL 59) 59 B = [(59, B - 59)] ∧ downE (markL 59).length 59 B = 0 := by
  have he : downE (markL 59).length 59 B = 0 := by
    unfold downE
    rw [markL_len, if_neg (by decide), if_neg (by omega)]
  refine ⟨?_, he⟩
  unfold downG
  rw [if_pos he, show ((B : Int).toNat) = B from rfl, show ((59 : Int).toNat) = 59 from rfl, gapsG_in _ 59 (B - 59) (B - 59) 59 (Nat.le_refl _) (fun i k1 k2 => by rw [free_at k1 (by omega)]; rfl), Nat.sub_self]
  show (bif Nat.blt 59 (59 + (B - 59)) then [(59, 59 + (B - 59) - 59)] else []) = _
  rw [show Nat.blt 59 (59 + (B - 59)) = true from by simp; omega, show 59 + (B - 59) - 59 = B - 59 by omega]
  rfl
end
end Go.Proofs.YtonfgflgnnkniaaGreat.Abs
namespace Go.Proofs.YtonfgflgnnkniaaGreat.Abs
open Go Go.Proofs
noncomputable section
variable {call : Abs.Callee}
set_option maxRecDepth 10000
theorem ft14 : T0.ft.get 14 = some Tryz.f14 := by kernel_rfl
noncomputable def bodyE0 : Code := part Tryz.f14 [1, 1, 0, 1, 0, 0]
noncomputable def bodyEm : Code := part Tryz.f14 [1, 1, 1, 1, 1, 1, 1, 1, 1, 0, 1, 0, 0]
abbrev EEm : Env := ⟨14, 82, none⟩
theorem e0Lp (n B f : Nat) (hB : B ≤ 480) : ∀ (k i : Nat) (v : Value) (h : AH) (tm : PM Value) (N : Nat), i + k = B → k + 60 ≤ N → n ≤ h.next → BL n h v (List.replicate i zb) →
    tm.get 0 = some (iv B) → tm.get 1 = some (iv f) → tm.get 5 = some v → tm.get 6 = some (iv i) →
    ∃ tm' h', codeB T0 X0 call N EEm (.loop bodyE0) tm h [] = .jump (.exit 0) tm' h' [] ∧ ((tm'.get 0 = some (iv B) ∧ tm'.get 1 = some (iv f) ∧ ∃ v', tm'.get 5 = some v' ∧ BL n h' v' (List.replicate B zb)) ∧ Grow n h h') := by
  intro k
  induction k with
  | zero =>
    intro i v h tm N hi hN hn hb g0 g1 g5 g6
    obtain ⟨N, rfl⟩ : ∃ a, N = a + 60 := ⟨N - 60, by omega⟩
    have hiB : i = B := by omega
    subst hiB
    apply Exists.intro; apply Exists.intro
    refine ⟨?_, ⟨?_, ?_, v, ?_, hb⟩, Grow.refl _ _⟩
    · rw [codeB_loop]
      simp only [bodyE0, part, Tryz.f14, sub, symM, opFn, Nat.reduceLT, Nat.reduceBEq, symM, g0, g6, bin_lss, decide_eq_false (show ¬ (i : Int) < (i : Nat) by omega)]
      rfl
    · simp only [symM, Nat.reduceBEq, g0]
    · simp only [symM, Nat.reduceBEq, g1]
    · simp only [symM, Nat.reduceBEq, g5]
  | succ k ih =>
    intro i v h tm N hi hN hn hb g0 g1 g5 g6
    obtain ⟨N, rfl⟩ : ∃ a, N = a + 60 := ⟨N - 60, by omega⟩
    obtain ⟨h1, w, a1, a2, a3⟩ := mkBlock h
    have n1 := a3.next
    obtain ⟨v', h2, b1, b2, b3, b4, b5⟩ := (hb.grow a3).append a2 (by simp; omega) (by omega) 30
    rw [show List.replicate i zb ++ [zb] = List.replicate (i + 1) zb from (List.replicate_succ' ..).symm] at b2
    rw [show N + 60 = (N + 59) + 1 from rfl, codeB_loop]
    simp only [bodyE0, part, Tryz.f14, sub, symM, opFn, Nat.reduceLT, Nat.reduceBEq, symM, g0, g5, g6, bin_lss, decide_eq_true (show (i : Int) < (B : Int) by omega), a1, bs_bk a2.one1.1, b1, bin_add, wadd1 (show i ≤ 400000 by omega)]
    have n2 := b3.next
    exact wrapE (ih (i + 1) v' h2 _ (N + 59) (by omega) (by omega) (by omega) b2 (by simp only [symM, Nat.reduceBEq, g0]) (by simp only [symM, Nat.reduceBEq, g1]) (by simp only [symM, Nat.reduceBEq]) get_same) ((a3.less hn).trans b3 (Nat.le_refl _))
/-- Two rows of bytes, one behind the other, in a new row. -/
theorem two_app {h : AH} {x y : Value} {a b : List Nat} (hx : Bks h x a) (hy : Bks h y b) (hl : a.length + b.length < 1000) :
    ∃ v1 h1 v2 h2, evBuiltin T0 .append #[38, 38] 38 [.slice (some ⟨h.next, 0, none⟩) 0 0, x] (h.new (.cells (PM.ofList []) 0 5 0 0 .ex)) = some (.value v1, h1) ∧ evBuiltin T0 .append #[38, 38] 38 [v1, y] h1 = some (.value v2, h2) ∧ Bks h2 v2 (a ++ b) ∧ Grow h.next h h2 := by
  obtain ⟨x0, x1, x2, p, x3, x4⟩ := hx
  obtain ⟨y0, y1, y2, q, y3, y4⟩ := hy
  obtain ⟨v1, p1, h1, a1, a2, a3, a4, a5⟩ := app_first x4 x3 x0 x1 38
  have o1 : Own h.next h1 v1 (bytesV a) 5 := a4.own a3 a2
  have o2 : Own 0 h1 y (bytesV b) 5 := (y4.own y3 (Nat.zero_le _)).grow a5
  obtain ⟨v2, h2, b1, b2, b3, _⟩ := app_own o1 o2 hl a5.next 38
  refine ⟨v1, h1, v2, h2, a1, b1, Bks.own b2 (by rw [List.length_append]; omega) (by rw [List.length_append]; exact hl) ?_, a5.trans b3 (Nat.le_refl _)⟩
  intro z hz
  rcases List.mem_append.1 hz with hz | hz
  · exact x2 z hz
  · exact y2 z hz
def zz : List Nat := encN NV.zero [] ++ encN NV.zero []
def wz2 : Nat → Nat → List (List Nat) → List (List Nat)
  | 0, _, bss => bss
  | k + 1, i, bss => wz2 k (i + 1) (bss.set i zz)
theorem wz2_len : ∀ k i bss, (wz2 k i bss).length = bss.length := by
  intro k
  induction k with
  | zero => intros; rfl
  | succ k ih => intro i bss; rw [wz2, ih, List.length_set]
theorem emLp (n : Nat) (v v9 v11 : Value) (b9 : List Nat) : ∀ (k i : Nat) (bss : List (List Nat)) (h : AH) (tm : PM Value) (N : Nat), i + k = 19 → k + 60 ≤ N → 19 ≤ bss.length → n ≤ h.next → BL n h v bss → Bks h v9 b9 → Bks h v11 (encN NV.zero []) →
    tm.get 5 = some v → tm.get 9 = some v9 → tm.get 11 = some v11 → tm.get 13 = some (iv i) →
    ∃ tm' h', codeB T0 X0 call N EEm (.loop bodyEm) tm h [] = .jump (.exit 2) tm' h' [] ∧ ((tm'.get 5 = some v ∧ tm'.get 9 = some v9 ∧ tm'.get 11 = some v11 ∧ BL n h' v (wz2 k i bss) ∧ Bks h' v9 b9 ∧ Bks h' v11 (encN NV.zero [])) ∧ Grow n h h') := by
  intro k
  induction k with
  | zero =>
    intro i bss h tm N hi hN hl hn hb h9 h11 g5 g9 g11 g13
    obtain ⟨N, rfl⟩ : ∃ a, N = a + 60 := ⟨N - 60, by omega⟩
    apply Exists.intro; apply Exists.intro
    refine ⟨?_, ⟨?_, ?_, ?_, hb, h9, h11⟩, Grow.refl _ _⟩
    · rw [codeB_loop]
      simp only [bodyEm, part, Tryz.f14, sub, symM, opFn, Nat.reduceLT, symM, g13, bin_lss, decide_eq_false (show ¬ (i : Int) < 19 by omega)]
      rfl
    · simp only [symM, Nat.reduceBEq, g5]
    · simp only [symM, Nat.reduceBEq, g9]
    · simp only [symM, Nat.reduceBEq, g11]
  | succ k ih =>
    intro i bss h tm N hi hN hl hn hb h9 h11 g5 g9 g11 g13
    obtain ⟨N, rfl⟩ : ∃ a, N = a + 60 := ⟨N - 60, by omega⟩
    obtain ⟨v1, h1, v2, h2, a1, a2, a3, a4⟩ := two_app h11 h11 (by rw [encN_len]; decide)
    have n2 := a4.next
    have hb2 := hb.grow a4
    obtain ⟨q, h3, u1, u2, u3, u4, u5, u6⟩ := hb2.store (i := i) (by omega) a3
    have k9 : Bks h3 v9 b9 := (h9.grow a4).keep (Nat.le_of_eq u5.symm) fun k hk hu => u6 k (hb2.off hu (by decide))
    have k11 : Bks h3 v11 (encN NV.zero []) := (h11.grow a4).keep (Nat.le_of_eq u5.symm) fun k hk hu => u6 k (hb2.off hu (by decide))
    rw [show N + 60 = (N + 59) + 1 from rfl, codeB_loop]
    simp only [bodyEm, part, Tryz.f14, sub, symM, opFn, Nat.reduceLT, Nat.reduceBEq, symM, g5, g11, g13, bin_lss, decide_eq_true (show (i : Int) < 19 by omega), bs_b0, a1, a2, u1, u2, bin_add, wadd1 (show i ≤ 400000 by omega)]
    exact wrapE (ih (i + 1) (bss.set i zz) h3 _ (N + 59) (by omega) (by omega) (by rw [List.length_set]; exact hl) (by omega) u3 k9 k11 (by simp only [symM, Nat.reduceBEq, g5]) (by simp only [symM, Nat.reduceBEq, g9]) (by simp only [symM, Nat.reduceBEq, g11]) get_same) ((a4.less hn).trans u4 (Nat.le_refl _))
theorem wr_get (f : Nat) : ∀ k j bss m, (wr f k j bss)[m]? = if 3 + j ≤ m ∧ m < 3 + j + k ∧ m < bss.length then some (wBlk f (m - 3)) else bss[m]? := by
  intro k
  induction k with
  | zero => intro j bss m; rw [wr, if_neg (by omega)]
  | succ k ih =>
    intro j bss m
    rw [wr, ih, List.length_set, List.getElem?_set]
    by_cases h : m = 3 + j
    · subst h
      rw [if_neg (by omega), if_pos rfl]
      by_cases h2 : 3 + j < bss.length
      · rw [if_pos h2, if_pos ⟨Nat.le_refl _, by omega, h2⟩, show 3 + j - 3 = j by omega]
      · rw [if_neg h2, if_neg (by omega)]
        exact (List.getElem?_eq_none (by omega)).symm
    · rw [if_neg (show ¬ 3 + j = m by omega)]
      by_cases h2 : 3 + (j + 1) ≤ m ∧ m < 3 + (j + 1) + k ∧ m < bss.length
      · rw [if_pos h2, if_pos (by omega)]
      · rw [if_neg h2, if_neg (by omega)]
theorem wz2_get : ∀ k i bss m, (wz2 k i bss)[m]? = if i ≤ m ∧ m < i + k ∧ m < bss.length then some zz else bss[m]? := by
  intro k
  induction k with
  | zero => intro i bss m; rw [wz2, if_neg (by omega)]
  | succ k ih =>
    intro i bss m
    rw [wz2, ih, List.length_set, List.getElem?_set]
    by_cases h : m = i
    · subst h
      rw [if_neg (by omega), if_pos rfl]
      by_cases h2 : m < bss.length
      · rw [if_pos h2, if_pos ⟨Nat.le_refl _, by omega, h2⟩]
      · rw [if_neg h2, if_neg (by omega)]
        exact (List.getElem?_eq_none (by omega)).symm
    · rw [if_neg (show ¬ i = m by omega)]
      by_cases h2 : i + 1 ≤ m ∧ m < i + 1 + k ∧ m < bss.length
      · rw [if_pos h2, if_pos (by omega)]
      · rw [if_neg h2, if_neg (by omega)]
/-- The document's blocks. -/
def emptyL (B f : Nat) : List (List Nat) := (wz2 16 3 ((((List.replicate B zb).set 0 (rsupBy B f)).set 1 rheadBy).set 2 (sealR (markL 59)))).set 3 (encN (rootN f) [] ++ encN NV.zero [])
theorem flag_same : sealR (markL 59) = flagBy := by
  unfold sealR flagBy sealB
  rw [show (setAt (List.replicate 64 0) 0 (markL 59)).take 60 = pad 60 (markL 59) from by decide]
theorem empty_made (B f : Nat) (hB : 64 ≤ B) (hf : f < 256) : emptyL B f = madeL B f := by
  apply List.ext_getElem?
  intro m
  unfold emptyL madeL
  rw [wr_get, List.getElem?_set, wz2_len, wz2_get]
  simp only [List.length_set, List.length_replicate, List.getElem?_set, sup_same B f hf, head_same, flag_same]
  by_cases h3 : m = 3
  · subst h3
    rw [if_pos rfl, if_pos (by omega), if_pos (by omega)]
    rfl
  · rw [if_neg (show ¬ 3 = m by omega)]
    by_cases hm : 3 ≤ m ∧ m < 3 + 16 ∧ m < B
    · rw [if_pos hm, if_pos (by omega)]
      unfold zz wBlk nodeAt
      rw [if_neg (show ¬ 2 * (m - 3) = 0 by omega)]
    · rw [if_neg hm, if_neg (show ¬ (3 + 0 ≤ m ∧ m < 3 + 0 + 16 ∧ m < B) by omega)]
      have p0 : 0 < B := by omega
      have p1 : 1 < B := by omega
      have p2 : 2 < B := by omega
      by_cases h2 : 2 = m
      · subst h2; simp [p2]
      · by_cases h1 : 1 = m
        · subst h1; simp [p1]
        · by_cases h0 : 0 = m
          · subst h0; simp [p0]
          · simp only [if_neg h2, if_neg h1, if_neg h0]
end
end Go.Proofs.YtonfgflgnnkniaaGreat.Abs
namespace Go.Proofs.YtonfgflgnnkniaaGreat.Abs
open Go Go.Proofs
noncomputable section
variable {call : Abs.Callee}
set_option maxRecDepth 10000
theorem plan_em : planB (regOps Tryz.f14 [1, 1, 1, 1, 1, 0]) 82 = some ([.eff [] 1 [], .eff [0, 2] 3 [], .one 4, .one 5, .one 6, .one 7, .one 8], []) := by kernel_rfl
abbrev RSEC (call : Abs.Callee) : Prop := ∀ (B f : Nat) (h : AH), 64 ≤ B → B ≤ 480 → 1 ≤ f → f ≤ 2 → ∃ v' h', call 29 [supV B f] h = some (.tuple #[v', iv 0], h') ∧ Own h.next h' v' (bytesV (rsupBy B f)) 5 ∧ Grow h.next h h'
abbrev RPHC (call : Abs.Callee) : Prop := ∀ h, ∃ v' h', call 30 [headV0] h = some (.tuple #[v', iv 0], h') ∧ Own h.next h' v' (bytesV rheadBy) 5 ∧ Grow h.next h h'
theorem bks64 {n : Nat} {h : AH} {w : Value} {bs : List Nat} (ho : Own n h w (bytesV bs) 5) (hl : bs.length = 64) (hb : ∀ x ∈ bs, x < 256) : Bks h w bs := Bks.own ho (by omega) (by omega) hb
theorem Bks.own0 {h : AH} {w : Value} {bs : List Nat} (hb : Bks h w bs) : Own 0 h w (bytesV bs) 5 := by
  obtain ⟨_, _, _, p, h1, h2⟩ := hb
  exact h2.own h1 (Nat.zero_le _)
theorem Empty_S (hSE : RSEC call) (hPH : RPHC call) (hRn : ∀ h, call 32 [iv 0, iv 59] h = some (cx ((0 : Nat) : Int) ((59 : Nat) : Int), h)) (hMk : MarkC call 31) (hSl : RSealC call) (hEn : EncC call 34) (B f : Nat) (k1 : 64 ≤ B) (k2 : B ≤ 480) (hf1 : 1 ≤ f) (hf2 : f ≤ 2) (h : AH) :
    ∃ v' h', frameB T0 X0 call 3000 14 [iv B, iv f] h = some (v', h') ∧ BL h.next h' v' (madeL B f) ∧ Grow h.next h h' := by
  have g1 := Grow.new h (.cells (PM.ofList []) 0 38 0 0 .ex)
  have b1 : BL h.next (h.new (.cells (PM.ofList []) 0 38 0 0 .ex)) (.slice (some ⟨h.next, 0, none⟩) 0 0) (List.replicate 0 zb) := ⟨[], Own.empty _ _ (Nat.le_refl _) _ _, rfl, fun i w bs hi _ => by simp at hi⟩
  rw [frameB_eq ft14 rfl rfl]
  simp only [Tryz.f14, symM, opFn, Nat.reduceLT, symM, symL, bs_bb0]
  generalize hX : codeB T0 X0 call _ EEm (.loop _) _ _ _ = X
  obtain ⟨t2, h2, c0, ⟨c1, c2, v, c3, c4⟩, c5⟩ := use_exit hX (e0Lp h.next B f k2 B 0 _ _ _ _ (by omega) (by omega) g1.next b1 (by simp only [symM, Nat.reduceBEq]) (by simp only [symM, Nat.reduceBEq]) (by simp only [symM, Nat.reduceBEq]) (by simp only [symM]; rfl))
  clear hX
  subst c0
  have G2 : Grow h.next h h2 := g1.trans c5 (Nat.le_refl _)
  have n2 := G2.next
  obtain ⟨v3, h3, d1, d2, d3⟩ := hSE B f h2 k1 k2 hf1 hf2
  have n3 := d3.next
  have K3 : Bks h3 v3 (rsupBy B f) := bks64 d2 (by rw [sup_same B f (by omega)]; exact (supBy_ok B f).1) (by rw [sup_same B f (by omega)]; exact (supBy_ok B f).2)
  obtain ⟨q4, h4, e1, e2, e3, e4, e5, _⟩ := (c4.grow d3).store (i := 0) (by simp; omega) K3
  have e1 : evIndexAddr T0 30 v (iv 0) = some q4 := e1
  obtain ⟨v5, h5, f1, f2, f3⟩ := hPH h4
  have n5 := f3.next
  have K5 : Bks h5 v5 rheadBy := bks64 f2 (by rw [head_same]; exact headBy_ok.1) (by rw [head_same]; exact headBy_ok.2)
  obtain ⟨q6, h6, r1, r2, r3, r4, r5, _⟩ := (e3.grow f3).store (i := 1) (by simp; omega) K5
  have r1 : evIndexAddr T0 30 v (iv 1) = some q6 := r1
  obtain ⟨h7, s1, s2, s3⟩ := make_bytes (h := h6) (k := 60) (by omega)
  have s1 : evMakeSlice T0 38 (iv 60) (iv 60) h6 = _ := s1
  obtain ⟨p7, p71, p72, p73⟩ := s2.toB (by simp)
  rw [← markL_0] at p73
  generalize hh8 : h7.new (.cells (PM.ofList [cx ((0 : Nat) : Int) ((59 : Nat) : Int)]) 1 47 0 0 .ex) = h8
  have g8 : Grow h7.next h7 h8 := by rw [← hh8]; exact Grow.new _ _
  have n7 := s3.next
  have n8 : h8.next = h7.next + 1 := by rw [← hh8]; rfl
  have cb : BoxL h8 h7.next 47 [cx ((0 : Nat) : Int) ((59 : Nat) : Int)] := by rw [← hh8]; exact BoxL.new _ _ _
  have hbs : evBuildSlice T0 66 1 [(0, cx ((0 : Nat) : Int) ((59 : Nat) : Int))] h7 = some (.slice (some ⟨h7.next, 0, none⟩) 1 1, h8) := by
    rw [← hh8]
    exact bs_cx
  obtain ⟨v9, p9, h9, t1, t3, t4, t5, t6⟩ := hMk p7 h7.next _ h8 (p73.grow g8 p72) (by omega) cb (by omega)
  have n9 := t6.next
  obtain ⟨v10, h10, u1, u2, u3⟩ := hSl h8.next (markL 59) v9 h9 (by rw [markL_len]; decide) (by rw [markL_len]; decide) (markL_lt 59) (t5.own t4 t3)
  have n10 := u3.next
  have G10 : Grow h6.next h6 h10 := ((s3.trans g8 n7).trans t6 (by omega)).trans u3 (by omega)
  have K10 : Bks h10 v10 (sealR (markL 59)) := bks64 u2 (by rw [flag_same]; exact flagBy_ok.1) (by rw [flag_same]; exact flagBy_ok.2)
  obtain ⟨q11, h11, w1, w2, w3, w4, w5, _⟩ := (r3.grow G10).store (i := 2) (by simp; omega) K10
  have w1 : evIndexAddr T0 30 v (iv 2) = some q11 := w1
  obtain ⟨v12, h12, x1, x2, x3⟩ := hEn (rootN f) h11 (soundR f hf1 hf2).1 (soundR f hf1 hf2).2
  have n12 := x3.next
  obtain ⟨v13, h13, y1, y2, y3⟩ := hEn NV.zero h12 soundZ.1 soundZ.2
  have n13 := y3.next
  have K12 : Bks h13 v12 (encN (rootN f) []) := (Bks.own x2 (by rw [encN_len]; decide) (by rw [encN_len]; decide) (encN_lt _)).grow y3
  have K13 : Bks h13 v13 (encN NV.zero []) := Bks.own y2 (by rw [encN_len]; decide) (by rw [encN_len]; decide) (encN_lt _)
  have B13 := (w3.grow x3).grow y3
  have hp := plan_em
  simp only [regOps, part, Tryz.f14, sub] at hp
  simp only [symM, opFn, Nat.reduceLT, Nat.reduceBEq, symM, symL, c1, c2, c3, build_Su, evCall_fn ft29 rfl, d1, e1, e2, build_Hd, evCall_fn ft30 rfl, f1, r1, r2]
  rw [codeB_draw, draw_plan hp rfl]
  simp only [drawAll, opFn, Nat.reduceLT, Nat.reduceBEq, c2, c3, evCall_fn ft32 rfl, hRn, goA_ms, goAM_some s1, goAB_some hbs, evCall_fn ft31 rfl, t1, evCall_fn ft33 rfl, u1, w1, w2, build_Ro, evCall_fn ft34 rfl, x1, build_N0, y1]
  rw [loop_same]
  generalize hX : codeB T0 X0 call _ EEm (.loop _) _ _ _ = X
  obtain ⟨t3', h14, z0, ⟨z1, z2, z3, z4, z5, z6⟩, z7⟩ := use_exit hX (emLp h.next v v12 v13 (encN (rootN f) []) 16 3 _ h13 _ _ (by omega) (by omega) (by simp; omega) (by omega) B13 K12 K13 (by simp only [symM, Nat.reduceBEq, c3]) (by simp only [symM, Nat.reduceBEq]) (by simp only [symM, Nat.reduceBEq]) (by simp only [symM]; rfl))
  clear hX
  subst z0
  have n14 := z7.next
  obtain ⟨va, ha, vc, hc, o1, o2, o3, o4⟩ := two_app z5 z6 (by rw [encN_len, encN_len]; decide)
  obtain ⟨q15, h15, l1, l2, l3, l4, l5, _⟩ := (z4.grow o4).store (i := 3) (by rw [wz2_len]; simp; omega) o3
  have l1 : evIndexAddr T0 30 v (iv 3) = some q15 := l1
  refine ⟨v, h15, ?_, ?_, ?_⟩
  · simp only [symM, opFn, Nat.reduceLT, Nat.reduceBEq, symM, symL, z1, z2, z3, bs_b0, o1, o2, l1, l2]
    exact retB_one ft14 rfl get_same
  · rw [← empty_made B f k1 (by omega)]
    exact l3
  · have X1 := G2.trans (d3.less (by omega : h.next ≤ h2.next)) (Nat.le_refl _)
    have X2 := (X1.trans e4 (Nat.le_refl _)).trans (f3.less (by omega)) (Nat.le_refl _)
    have X3 := (X2.trans r4 (Nat.le_refl _)).trans (G10.less (by omega)) (Nat.le_refl _)
    have X4 := ((X3.trans w4 (Nat.le_refl _)).trans (x3.less (by omega)) (Nat.le_refl _)).trans (y3.less (by omega)) (Nat.le_refl _)
    exact ((X4.trans z7 (Nat.le_refl _)).trans (o4.less (by omega)) (Nat.le_refl _)).trans l4 (Nat.le_refl _)
end
end Go.Proofs.YtonfgflgnnkniaaGreat.Abs
