
/- The node that bytes are. -/
import Derived.Test.YtjdhdhmoedlfdaaGreatGen
namespace Go.Proofs.YtjdhdhmoedlfdaaGreat.Abs
open Go Go.Proofs
noncomputable section
variable {call : Abs.Callee}
set_option maxRecDepth 10000
theorem ft31 : T0.ft.get 31 = some Tryz.f31 := by kernel_rfl
theorem plan_D3 : planB (regOps Tryz.f31 [1, 1, 0]) 83 = some ([.one 0, .one 1, .one 2, .one 3, .one 4, .one 5, .one 6, .one 7, .one 8, .one 10, .eff [] 9 [0, 1, 2, 3, 4, 5, 6, 7, 10], .eff [] 11 [0, 1, 2, 3, 4, 5, 6, 7], .one 12, .eff [13] 14 []], []) := by kernel_rfl
theorem plan_D14 : planB (regOps Tryz.f31 [1, 1, 1, 0, 1, 1, 1]) 83 = some ([.one 0, .one 1, .one 2, .one 3, .one 4, .one 5, .one 6, .one 7, .one 8, .one 9, .eff [] 10 [3, 4, 5, 6, 7, 8], .one 11, .eff [] 12 [6, 7, 8], .one 13, .eff [] 14 []], []) := by kernel_rfl
noncomputable def bodyDn : Code := part Tryz.f31 [1, 1, 1, 0, 1, 0, 0, 1, 0, 0]
abbrev ED : Env := ⟨31, 83, none⟩
abbrev GetC (call : Abs.Callee) : Prop := ∀ (bs : List Nat) (v : Value) (n0 : Nat) (h : AH), (∀ x ∈ bs, x < 256) → 4 ≤ bs.length → RowX n0 h v bs → n0 ≤ h.next → ∃ h', call 77 [v] h = some (.tuple #[extV (extAt bs 0), .bool (!eqE (extAt bs 0) ⟨0, 0, 0⟩)], h') ∧ Grow h.next h h'
theorem decL (hG : GetC call) (bs : List Nat) (hbs : ∀ x ∈ bs, x < 256) (hl : bs.length = 32) (v : Value) (n0 b c : Nat) (n : NV) (hnb : n0 ≤ b) :
    ∀ (k i : Nat) (xs : List XV) (e : Value) (h : AH) (tm : PM Value) (N : Nat), i + k = 3 → xs.length ≤ i → k + 60 ≤ N → b < h.next → RowX n0 h v bs → NodeB h b n e → OwnE (b + 1) h e xs →
      tm.get 0 = some v → tm.get 2 = some (pv c 0) → tm.get 4 = some (pv b 0) → tm.get 31 = some (iv i) →
      ∃ tm' h', codeB T0 X0 call N ED (.loop bodyDn) tm h [] = .jump (.exit 0) tm' h' [] ∧ ((∃ e', tm'.get 0 = some v ∧ tm'.get 2 = some (pv c 0) ∧ tm'.get 4 = some (pv b 0) ∧ NodeB h' b n e' ∧ OwnE (b + 1) h' e' (xs ++ extsF bs i k)) ∧ Grow b h h') := by
  intro k
  induction k with
  | zero =>
    intro i xs e h tm N hk hx hN hb hv hnd ho g0 g2 g4 g31
    obtain ⟨N, rfl⟩ : ∃ a, N = a + 60 := ⟨N - 60, by omega⟩
    apply Exists.intro; apply Exists.intro
    refine ⟨?_, ⟨e, ?_, ?_, ?_, hnd, by simpa [extsF] using ho⟩, Grow.refl _ _⟩
    · rw [codeB_loop]
      simp only [bodyDn, part, Tryz.f31, sub, symM, opFn, Nat.reduceLT, g31, bin_lss, decide_eq_false (show ¬ (i : Int) < 3 by omega)]
      rfl
    · simp only [symM, Nat.reduceBEq, g0]
    · simp only [symM, Nat.reduceBEq, g2]
    · simp only [symM, Nat.reduceBEq, g4]
  | succ k ih =>
    intro i xs e h tm N hk hx hN hb hv hnd ho g0 g2 g4 g31
    obtain ⟨N, rfl⟩ : ∃ a, N = a + 60 := ⟨N - 60, by omega⟩
    have w1 : IntKind.i64.wrap (4 * (i : Int)) = ((4 * i : Nat) : Int) := by rw [wz (by omega)]; omega
    have w2 : IntKind.i64.wrap (6 + ((4 * i : Nat) : Int)) = ((6 + 4 * i : Nat) : Int) := by rw [wz (by omega)]; omega
    obtain ⟨w, e1, e2⟩ := hv.win (hi := none) (lo := 6 + 4 * i) (hh := 32) (.inr ⟨rfl, hl.symm⟩) (by omega) (by omega)
    obtain ⟨h1, c1, q1⟩ := hG _ w n0 h (win_lt hbs) (by simp; omega) e2 (by omega)
    rw [win_ext (by omega)] at c1
    generalize hxx : extAt bs (6 + 4 * i) = x at c1
    generalize hh2 : h1.new (.cells (PM.ofList [iv 0, .complex .f64 0 0]) 2 107 0 0 .ex) = h2
    have q2 : Grow h1.next h1 h2 := by rw [← hh2]; exact Grow.new _ _
    have hb2 : BoxL h2 h1.next 107 [iv 0, .complex .f64 0 0] := by rw [← hh2]; exact BoxL.new _ _ _
    obtain ⟨h3, s1, s2, s3, s4⟩ := BoxE.store hb2 x (Nat.le_refl _)
    obtain ⟨f1, _, _⟩ := BoxE.load s2
    have q3 : Grow h.next h h3 := q1.trans (q2.trans s3 (Nat.le_refl _)) q1.next
    have ho3 := ho.grow q3
    have hnd3 : NodeB h3 b n e := hnd.grow q3 hb
    have ld3 := hnd3.loads
    rw [show N + 60 = (N + 59) + 1 from rfl, codeB_loop, extsF_succ, hxx]
    cases hz : eqE x ⟨0, 0, 0⟩ with
    | true =>
      rw [hz] at c1
      simp only [bodyDn, part, Tryz.f31, sub, symM, opFn, Nat.reduceLT, Nat.reduceBEq, symM, g0, g31, bin_lss, decide_eq_true (show (i : Int) < 3 by omega), bin_mul, w1, bin_add, w2, ev3, evOpt, e1, evCall_fn ft77 rfl, c1, alloc_E, hh2, s1, wadd1 (show i ≤ 400000 by omega)]
      rw [show nzX x = false by unfold nzX; rw [hz]; rfl, if_neg (by simp), List.nil_append]
      exact wrapE (ih (i + 1) xs e h3 _ (N + 59) (by omega) (by omega) (by omega) (Nat.lt_of_lt_of_le hb q3.next) (hv.grow q3 (by omega)) hnd3 ho3 (by simp only [symM, Nat.reduceBEq, g0]) (by simp only [symM, Nat.reduceBEq, g2]) (by simp only [symM, Nat.reduceBEq, g4]) get_same) (q3.less (by omega))
    | false =>
      rw [hz] at c1
      have hb3 := Nat.lt_of_lt_of_le hb q3.next
      obtain ⟨v4, h4, a1, a2, a3⟩ := OwnE.append ho3 x (by omega) (by omega) 46
      have hnd4 := hnd3.grow a3 (Nat.lt_succ_self b)
      obtain ⟨h5, t1, t2, t3, t4⟩ := hnd4.storeE a2.one a2.cell (Nat.le_refl b)
      have ho5 : OwnE (b + 1) h5 v4 (xs ++ [x]) := OwnC.keep a2 (Nat.lt_succ_self b) (by omega) (evStore_keep t1)
      have q5 : Grow b h h5 := (q3.less (by omega)).trans ((a3.less (by omega)).trans t3 (Nat.le_refl _)) (Nat.le_refl _)
      simp only [bodyDn, part, Tryz.f31, sub, symM, opFn, Nat.reduceLT, Nat.reduceBEq, symM, g0, g4, g31, bin_lss, decide_eq_true (show (i : Int) < 3 by omega), bin_mul, w1, bin_add, w2, ev3, evOpt, e1, evCall_fn ft77 rfl, c1, alloc_E, hh2, s1, field_N, ld3, f1, bs_ext, a1, t1, wadd1 (show i ≤ 400000 by omega)]
      rw [show nzX x = true by unfold nzX; rw [hz]; rfl, if_pos rfl, ← List.append_assoc]
      exact wrapE (ih (i + 1) (xs ++ [x]) v4 h5 _ (N + 59) (by omega) (by simp; omega) (by omega) (Nat.lt_of_lt_of_le hb q5.next) (hv.grow q5 hnb) t2 ho5 (by simp only [symM, Nat.reduceBEq, g0]) (by simp only [symM, Nat.reduceBEq, g2]) (by simp only [symM, Nat.reduceBEq, g4]) get_same) q5
end
end Go.Proofs.YtjdhdhmoedlfdaaGreat.Abs
namespace Go.Proofs.YtjdhdhmoedlfdaaGreat.Abs
open Go Go.Proofs
noncomputable section
variable {call : Abs.Callee}
set_option maxRecDepth 10000
theorem box4 {hh : AH} {bp m el lo hi : Nat} {kd : BKind} {c : PM Value} {x0 x1 x2 x3 : Nat} (hC : hh.get bp = some (.cells c m el lo hi kd)) (hm : 4 ≤ m) (h0 : c.get 0 = some (iv x0)) (h1 : c.get 1 = some (iv x1)) (h2 : c.get 2 = some (iv x2)) (h3 : c.get 3 = some (iv x3)) :
    evLoad T0 45 (pv bp 0) hh = some (.agg #[iv x0, iv x1, iv x2, iv x3]) := by
  simp only [evLoad, loadVarA, agg_arr4, sz_arr4]
  rw [show loadRow hh bp 0 4 = some [iv x0, iv x1, iv x2, iv x3] from loadRow_of (l := [iv x0, iv x1, iv x2, iv x3]) hC (by simpa using hm) (fun j w hj => by
    rw [Nat.zero_add]
    match j with
    | 0 => simp at hj; subst hj; exact h0
    | 1 => simp at hj; subst hj; exact h1
    | 2 => simp at hj; subst hj; exact h2
    | 3 => simp at hj; subst hj; exact h3
    | j + 4 => simp at hj)]
theorem s2a_ints {bp cap : Nat} : evS2A T0 45 (.slice (some ⟨bp, 0, none⟩) 6 cap) = some (pv bp 0) := by
  simp only [evS2A, und_arr4]
  rfl
theorem eqV_agg4 {a b c d : Int} : eqV (.agg #[iv a, iv b, iv c, iv d]) (.agg #[iv a, iv b, iv c, iv d]) = true := by simp [eqV, eqVs]
abbrev NumC (call : Abs.Callee) (f : Nat) : Prop := ∀ (bs : List Nat) (i : Nat) (v : Value) (n0 : Nat) (h : AH), (∀ x ∈ bs, x < 256) → i + 2 ≤ bs.length → bs.length < 1000 → RowX n0 h v bs → call f [v, iv i, iv 2] h = some (iv (numAt bs i), h)
abbrev NumsC (call : Abs.Callee) : Prop := ∀ (bs : List Nat) (v : Value) (a cnt n0 : Nat) (h : AH), (∀ x ∈ bs, x < 256) → bs.length < 1000 → a + 2 * cnt ≤ bs.length → n0 ≤ h.next → RowX n0 h v bs → ∃ v' h', call 78 [v, iv a, iv 2, iv cnt] h = some (v', h') ∧ Own h.next h' v' (intsV (numsAt bs a cnt)) 3 ∧ Grow h.next h h'
abbrev DEncC (call : Abs.Callee) (f : Nat) : Prop := ∀ (n : NV) (v : Value) (xs : List XV) (n0 : Nat) (h : AH), okN n → RowE n0 h v xs → (∀ x ∈ xs, okX x) → xs.length ≤ 60 → n0 ≤ h.next →
  ∃ r h', call f [nodeV n v] h = some (r, h') ∧ Grow h.next h h' ∧ ((soundN n xs = false ∧ r = .tuple #[nilV, iv 2]) ∨ (soundN n xs = true ∧ ∃ v', r = .tuple #[v', iv 0] ∧ Own h.next h' v' (bytesV (encN n xs)) 5))
theorem encN_lt2 (n : NV) (xs : List XV) : ∀ x ∈ encN n xs, x < 256 := by
  intro x hx
  unfold encN at hx
  rcases List.mem_append.1 hx with hx | hx
  · exact firstB_lt n xs x hx
  · exact leN_lt hx
def DecR (n : Nat) (h' : AH) (bs : List Nat) (r : Value) : Prop := (decOK bs = false ∧ r = .tuple #[nodeV NV.zero nilV, iv 2]) ∨ (decOK bs = true ∧ ∃ w, r = .tuple #[nodeV (decN bs) w, iv 0] ∧ OwnE n h' w (decX bs))
theorem decTail (hE : DEncC call 79) (hB : BEqC call) (bs : List Nat) (hbs : ∀ x ∈ bs, x < 256) (hl : bs.length = 32) (v : Value) (n0 b c : Nat) (hc : c < b) (hn : n0 ≤ c) (h : AH) (e : Value) (hb : b < h.next) (hv : RowX n0 h v bs) (hnd : NodeB h b (decN bs) e) (hz : NodeB h c NV.zero nilV) (ho : OwnE (b + 1) h e (decX bs)) :
    ∃ r h6, call 79 [nodeV (decN bs) e] h = some (r, h6) ∧ evLoad T0 48 (pv b 0) h = some (nodeV (decN bs) e) ∧ evLoad T0 48 (pv b 0) h6 = some (nodeV (decN bs) e) ∧
      ((decOK bs = false ∧ (r = .tuple #[nilV, iv 2] ∨ ∃ v', r = .tuple #[v', iv 0] ∧ call 71 [v', v] h6 = some (.bool false, h6)) ∧ ∃ h7, evStore T0 48 (pv c 0) (nodeV NV.zero nilV) h6 = some h7 ∧ NodeB h7 c NV.zero nilV ∧ Grow c h h7) ∨
       (decOK bs = true ∧ ∃ v' h7, r = .tuple #[v', iv 0] ∧ call 71 [v', v] h6 = some (.bool true, h6) ∧ evStore T0 48 (pv c 0) (nodeV (decN bs) e) h6 = some h7 ∧ NodeB h7 c (decN bs) e ∧ OwnE (b + 1) h7 e (decX bs) ∧ Grow c h h7)) := by
  obtain ⟨r, h6, c1, g1, hr⟩ := hE (decN bs) e (decX bs) h.next h (decN_ok hbs) ho.row (decX_ok hbs) (by have := decX_len bs; omega) (Nat.le_refl _)
  have hz6 := hz.grow g1 (by omega)
  have hnd6 := hnd.grow g1 hb
  have gc : Grow c h h6 := g1.less (by omega)
  refine ⟨r, h6, c1, hnd.loads.2.2.2.2.2.2.2.2.2.2.2.2.1, hnd6.loads.2.2.2.2.2.2.2.2.2.2.2.2.1, ?_⟩
  have zer : ∃ h7, evStore T0 48 (pv c 0) (nodeV NV.zero nilV) h6 = some h7 ∧ NodeB h7 c NV.zero nilV ∧ Grow c h h7 := by
    obtain ⟨h7, s1, s2, s3, _⟩ := hz6.storeAll (k := c) NV.zero (f := nilV) rfl (Nat.le_refl _)
    exact ⟨h7, s1, s2, gc.trans s3 (Nat.le_refl _)⟩
  have hd : decOK bs = (soundN (decN bs) (decX bs) && decide (encN (decN bs) (decX bs) = bs)) := by unfold decOK; rw [hl]; rfl
  rcases hr with ⟨r1, rfl⟩ | ⟨r1, v', rfl, r2⟩
  · exact .inl ⟨by rw [hd, r1]; rfl, .inl rfl, zer⟩
  · have hq := hB _ bs v' v h6.next n0 h6 (encN_lt2 (decN bs) (decX bs)) hbs r2.row (hv.grow g1 (by omega)).row
    by_cases hcmp : encN (decN bs) (decX bs) = bs
    · rw [decide_eq_true hcmp] at hq
      obtain ⟨h7, s1, s2, s3, s4⟩ := hz6.storeAll (k := c) (decN bs) (f := e) ho.one (Nat.le_refl _)
      exact .inr ⟨by rw [hd, r1, decide_eq_true hcmp]; rfl, v', h7, rfl, hq, s1, s2, OwnC.keep (ho.grow g1) (by omega) (by omega) (evStore_keep s1), gc.trans s3 (Nat.le_refl _)⟩
    · rw [decide_eq_false hcmp] at hq
      exact .inl ⟨by rw [hd, r1, decide_eq_false hcmp]; rfl, .inr ⟨v', rfl, hq⟩, zer⟩
end
end Go.Proofs.YtjdhdhmoedlfdaaGreat.Abs
namespace Go.Proofs.YtjdhdhmoedlfdaaGreat.Abs
open Go Go.Proofs
noncomputable section
variable {call : Abs.Callee}
set_option maxRecDepth 10000
theorem frame_len (bs : List Nat) (v : Value) (n0 : Nat) (h : AH) (hv : Row n0 h v (bytesV bs) 5) (ty : TypeId) (h' : AH) : evBuiltin T0 .len #[57] ty [v] h' = some (.value (iv bs.length), h') := by rw [hv.len und_bytes, bytesV_len]
set_option maxHeartbeats 2000000 in
theorem Dec_S (hN : NumC call 73) (hG : GetC call) (hNs : NumsC call) (hE : DEncC call 79) (hB : BEqC call) (bs : List Nat) (hbs : ∀ x ∈ bs, x < 256) (hl : bs.length = 32) (v : Value) (n0 : Nat) (h : AH) (hn : n0 ≤ h.next) (hv : RowX n0 h v bs) :
    ∃ r h', frameB T0 X0 call 3000 31 [v] h = some (r, h') ∧ Grow h.next h h' ∧ DecR h.next h' bs r := by
  generalize hh1 : h.new (.cells (PM.ofList (nodeL NV.zero nilV)) 12 48 0 0 .ex) = h1
  have g1 : Grow h.next h h1 := by rw [← hh1]; exact Grow.new _ _
  have n1 : h1.next = h.next + 1 := by rw [← hh1]; rfl
  have hz1 : NodeB h1 h.next NV.zero nilV := by rw [← hh1]; exact NodeB.new _ _ _
  have hv1 := hv.grow g1 hn
  obtain ⟨p0, a0, b0, k0⟩ := hv1.row.at3 und_bytes sz_u8 agg_u8 (i := 0) (x := .int .u8 (byteAt bs 0 : Int)) (by simp [bytesV, byteAt_get (show 0 < bs.length by omega)])
  obtain ⟨p1, a1, b1, k1⟩ := hv1.row.at3 und_bytes sz_u8 agg_u8 (i := 1) (x := .int .u8 (byteAt bs 1 : Int)) (by simp [bytesV, byteAt_get (show 1 < bs.length by omega)])
  have a0 : evIndexAddr T0 57 v (iv 0) = some p0 := a0
  have a1 : evIndexAddr T0 57 v (iv 1) = some p1 := a1
  have l0 := byteAt_lt hbs (i := 0); have l1 := byteAt_lt hbs (i := 1)
  have w0 : IntKind.i64.wrap (byteAt bs 0 : Int) = byteAt bs 0 := wz (by omega)
  have w1 : IntKind.i64.wrap (byteAt bs 1 : Int) = byteAt bs 1 := wz (by omega)
  have c2 : call 73 [v, iv 2, iv 2] h1 = some (iv (numAt bs 2), h1) := hN bs 2 v n0 h1 hbs (by omega) (by omega) hv1
  have c4 : call 73 [v, iv 4, iv 2] h1 = some (iv (numAt bs 4), h1) := hN bs 4 v n0 h1 hbs (by omega) (by omega) hv1
  generalize hh2 : h1.new (.cells (PM.ofList (nodeL NV.zero nilV)) 12 48 0 0 .ex) = h2
  have g2 : Grow h1.next h1 h2 := by rw [← hh2]; exact Grow.new _ _
  have hb2 : NodeB h2 h1.next NV.zero nilV := by rw [← hh2]; exact NodeB.new _ _ _
  have n2 : h2.next = h1.next + 1 := by rw [← hh2]; rfl
  obtain ⟨h3, s1, s2, s3, s4⟩ := hb2.storeAll (k := h1.next) ⟨byteAt bs 0, byteAt bs 1, numAt bs 2, numAt bs 4, 0, 0, 0, 0, 0, 0, 0⟩ (f := nilV) rfl (Nat.le_refl _)
  have q3 := s2.loads
  have g13 : Grow h1.next h1 h3 := g2.trans s3 (Nat.le_refl _)
  have g03 : Grow h.next h h3 := g1.trans g13 (by omega)
  have hp3 := plan_D3
  simp only [regOps, part, Tryz.f31, sub] at hp3
  rw [frameB_eq ft31 rfl rfl]
  simp only [Tryz.f31, symM, opFn, Nat.reduceLT, Nat.reduceBEq, symM, alloc_N, hh1, frame_len bs v n0 h hv.row, hl, bin_neq, eqT (show ((32 : Nat) : Int) = 32 by omega)]
  rw [codeB_draw, draw_plan hp3 rfl]
  simp only [drawAll, opFn, Nat.reduceBEq, a0, b0, k0, a1, b1, k1, hv.eqv, conv_i2i und_u8 und_int, w0, w1, evCall_fn ft73 rfl, c2, c4, effE_cons, build_N4, goA_alloc alloc_N, hh2, s1]
  have e13 : (3 : Nat) = 3 := rfl
  by_cases f2 : byteAt bs 1 = 2
  · simp only [symM, opFn, Nat.reduceLT, symM, symL, field_N, q3, bin_eql, eqT (show (byteAt bs 1 : Int) = 2 by omega)]
    generalize hX : codeB T0 X0 call _ ED (.loop _) _ _ _ = X
    obtain ⟨t4, h4, u1, ⟨e, u2, u3, u4, u5, u6⟩, u7⟩ := use_exit hX (decL hG bs hbs hl v n0 h1.next h.next _ (by omega) 3 0 [] nilV h3 _ _ (by omega) (by simp) (by omega) (by omega) (hv1.grow g13 (by omega)) s2 (OwnE.nil _ _) (by simp only [symM, Nat.reduceBEq]) (by simp only [symM, Nat.reduceBEq]) (by simp only [symM, Nat.reduceBEq]) (by simp only [symM]; rfl))
    clear hX
    subst u1
    have hv4 := hv1.grow (g13.trans u7 (Nat.le_refl _)) (by omega)
    have hz4 := (hz1.grow g13 (by omega)).grow u7 (by omega)
    have c18 : call 73 [v, iv 18, iv 2] h4 = some (iv (numAt bs 18), h4) := hN bs 18 v n0 h4 hbs (by omega) (by omega) hv4
    obtain ⟨h5, s5, s6, s7, s8⟩ := u5.storeC (k := h1.next) (numAt bs 18) (Nat.le_refl _)
    have hN : ({ k := byteAt bs 0, f := byteAt bs 1, l := numAt bs 2, s := numAt bs 4, d0 := 0, d1 := 0, d2 := 0, d3 := 0, si := 0, du := 0, c := numAt bs 18 } : NV) = decN bs := by unfold decN; rw [if_pos f2]
    have hX2 : [] ++ extsF bs 0 3 = decX bs := by unfold decX; rw [if_pos f2]; rfl
    have s6 : NodeB h5 h1.next (decN bs) e := by rw [← hN]; exact s6
    rw [hX2] at u6
    have u6 : OwnE (h1.next + 1) h5 e (decX bs) := OwnC.keep u6 (Nat.lt_succ_self _) (by omega) (evStore_keep s5)
    have n4 := u7.next
    obtain ⟨r, h6, d1, d2, d3, d4⟩ := decTail hE hB bs hbs hl v n0 h1.next h.next (by omega) hn h5 e (by omega) (hv4.grow s7 (by omega)) s6 (hz4.grow s7 (by omega)) u6
    have g5 : Grow h.next h h5 := g03.trans ((u7.trans s7 (Nat.le_refl _)).less (by omega)) (Nat.le_refl _)
    rcases d4 with ⟨m1, m2, h7, m3, m4, m5⟩ | ⟨m1, v', h7, rfl, m2, m3, m4, m5, m6⟩
    · refine ⟨.tuple #[nodeV NV.zero nilV, iv 2], h7, ?_, g5.trans m5 (Nat.le_refl _), .inl ⟨m1, rfl⟩⟩
      rcases m2 with rfl | ⟨v', rfl, m2⟩
      · simp only [symM, opFn, Nat.reduceLT, Nat.reduceBEq, symM, symL, u2, u3, u4, evCall_fn ft73 rfl, c18, field_N, s5, d2, evCall_fn ft79 rfl, d1, bin_neq, show ((2 : Int) == 0) = false from rfl, build_N0, m3]
        exact retB_cell1 ft31 rfl (by simp only [symM, Nat.reduceBEq, u3]) m4.loads.2.2.2.2.2.2.2.2.2.2.2.2.1 get_same
      · simp only [symM, opFn, Nat.reduceLT, Nat.reduceBEq, symM, symL, u2, u3, u4, evCall_fn ft73 rfl, c18, field_N, s5, d2, evCall_fn ft79 rfl, d1, bin_neq, show ((0 : Int) == 0) = true from rfl, evCall_fn ft71 rfl, m2, build_N0, m3]
        exact retB_cell1 ft31 rfl (by simp only [symM, Nat.reduceBEq, u3]) m4.loads.2.2.2.2.2.2.2.2.2.2.2.2.1 get_same
    · refine ⟨.tuple #[nodeV (decN bs) e, iv 0], h7, ?_, g5.trans m6 (Nat.le_refl _), .inr ⟨m1, e, rfl, OwnC.less m5 (by omega)⟩⟩
      simp only [symM, opFn, Nat.reduceLT, Nat.reduceBEq, symM, symL, u2, u3, u4, evCall_fn ft73 rfl, c18, field_N, s5, d2, d3, evCall_fn ft79 rfl, d1, bin_neq, show ((0 : Int) == 0) = true from rfl, evCall_fn ft71 rfl, m2, m3]
      exact retB_cell1 ft31 rfl (by simp only [symM, Nat.reduceBEq, u3]) m4.loads.2.2.2.2.2.2.2.2.2.2.2.2.1 get_same
  · obtain ⟨p, h4, c6, o4, g4⟩ := hNs bs v 6 6 n0 h3 hbs (by omega) (by omega) (by have := g03.next; omega) (hv1.grow g13 (by omega))
    have c6 : call 78 [v, iv 6, iv 2, iv 6] h3 = some (p, h4) := c6
    rw [show intsV (numsAt bs 6 6) = [iv (numAt bs 6), iv (numAt bs 8), iv (numAt bs 10), iv (numAt bs 12), iv (numAt bs 14), iv (numAt bs 16)] from rfl] at o4
    rcases o4 with ⟨_, o4⟩ | ⟨bp, cc, kd, cap, o1, o2, hpp, o3, o4, _⟩
    · cases o4
    have hpp : p = .slice (some ⟨bp, 0, none⟩) 6 cap := hpp
    subst hpp
    have F : ∀ hh : AH, hh.get bp = h4.get bp → evLoad T0 45 (pv bp 0) hh = some (.agg #[iv (numAt bs 6), iv (numAt bs 8), iv (numAt bs 10), iv (numAt bs 12)]) ∧ evLoad T0 3 (pv bp 4) hh = some (iv (numAt bs 14)) ∧ evLoad T0 3 (pv bp 5) hh = some (iv (numAt bs 16)) := by
      intro hh e
      rw [o3] at e
      exact ⟨box4 e (by simp) (o4 0 _ rfl) (o4 1 _ rfl) (o4 2 _ rfl) (o4 3 _ rfl), load_one agg_int e (by simp) (o4 4 _ rfl), load_one agg_int e (by simp) (o4 5 _ rfl)⟩
    have i4 : evIndexAddr T0 31 (.slice (some ⟨bp, 0, none⟩) 6 cap) (iv 4) = some (pv bp 4) := idx_slice (i := 4) und_ints sz_int (by omega)
    have i5 : evIndexAddr T0 31 (.slice (some ⟨bp, 0, none⟩) 6 cap) (iv 5) = some (pv bp 5) := idx_slice (i := 5) und_ints sz_int (by omega)
    have n3 := g13.next
    have nd4 : NodeB h4 h1.next ⟨byteAt bs 0, byteAt bs 1, numAt bs 2, numAt bs 4, 0, 0, 0, 0, 0, 0, 0⟩ nilV := s2.grow g4 (by omega)
    obtain ⟨h5, x1, x2, x3, x4⟩ := nd4.storeArr (k := h1.next) (numAt bs 6) (numAt bs 8) (numAt bs 10) (numAt bs 12) (Nat.le_refl _)
    obtain ⟨h6, y1, y2, y3, y4⟩ := x2.storeSi (k := h1.next) (numAt bs 14) (Nat.le_refl _)
    obtain ⟨h7, z1, z2, z3, z4⟩ := y2.storeDu (k := h1.next) (numAt bs 16) (Nat.le_refl _)
    have k5 : h5.get bp = h4.get bp := evStore_keep x1 bp (by omega)
    have k6 : h6.get bp = h4.get bp := (evStore_keep y1 bp (by omega)).trans k5
    obtain ⟨F1, F2, F3⟩ := F h4 rfl
    obtain ⟨_, F5, F6⟩ := F h5 k5
    obtain ⟨_, _, F9⟩ := F h6 k6
    have hN : ({ k := byteAt bs 0, f := byteAt bs 1, l := numAt bs 2, s := numAt bs 4, d0 := numAt bs 6, d1 := numAt bs 8, d2 := numAt bs 10, d3 := numAt bs 12, si := numAt bs 14, du := numAt bs 16, c := 0 } : NV) = decN bs := by unfold decN; rw [if_neg f2]
    have hX2 : ([] : List XV) = decX bs := by unfold decX; rw [if_neg f2]
    have z2 : NodeB h7 h1.next (decN bs) nilV := by rw [← hN]; exact z2
    have u6 : OwnE (h1.next + 1) h7 nilV (decX bs) := by rw [← hX2]; exact OwnE.nil _ _
    have q47 : Grow h1.next h4 h7 := (x3.trans y3 (Nat.le_refl _)).trans z3 (Nat.le_refl _)
    have q37 : Grow h1.next h3 h7 := (g4.less (by omega)).trans q47 (Nat.le_refl _)
    have q17 : Grow h1.next h1 h7 := g13.trans q37 (Nat.le_refl _)
    have n7 := q37.next
    obtain ⟨r, h8, d1, d2, d3, d4⟩ := decTail hE hB bs hbs hl v n0 h1.next h.next (by omega) hn h7 nilV (by omega) (hv1.grow q17 (by omega)) z2 (hz1.grow q17 (by omega)) u6
    have g5 : Grow h.next h h7 := g1.trans q17 (by omega)
    have hp14 := plan_D14
    simp only [regOps, part, Tryz.f31, sub] at hp14
    simp only [symM, opFn, Nat.reduceLT, Nat.reduceBEq, symM, field_N, q3, bin_eql, eqF (show ¬ (byteAt bs 1 : Int) = 2 by omega), evCall_fn ft78 rfl, c6]
    rw [codeB_draw, draw_plan hp14 rfl]
    simp only [drawAll, opFn, Nat.reduceBEq, s2a_ints, F1, F2, F3, i4, i5, field_N, x1, effE_cons, F5, F6, y1, F9, z1]
    rcases d4 with ⟨m1, m2, h9, m3, m4, m5⟩ | ⟨m1, v', h9, rfl, m2, m3, m4, m5, m6⟩
    · refine ⟨.tuple #[nodeV NV.zero nilV, iv 2], h9, ?_, g5.trans m5 (Nat.le_refl _), .inl ⟨m1, rfl⟩⟩
      rcases m2 with rfl | ⟨v', rfl, m2⟩
      · simp only [symM, opFn, Nat.reduceLT, Nat.reduceBEq, symM, d2, evCall_fn ft79 rfl, d1, bin_neq, show ((2 : Int) == 0) = false from rfl, build_N0, m3]
        exact retB_cell1 ft31 rfl (by simp only [symM, Nat.reduceBEq]) m4.loads.2.2.2.2.2.2.2.2.2.2.2.2.1 get_same
      · simp only [symM, opFn, Nat.reduceLT, Nat.reduceBEq, symM, d2, evCall_fn ft79 rfl, d1, bin_neq, show ((0 : Int) == 0) = true from rfl, evCall_fn ft71 rfl, m2, build_N0, m3]
        exact retB_cell1 ft31 rfl (by simp only [symM, Nat.reduceBEq]) m4.loads.2.2.2.2.2.2.2.2.2.2.2.2.1 get_same
    · refine ⟨.tuple #[nodeV (decN bs) nilV, iv 0], h9, ?_, g5.trans m6 (Nat.le_refl _), .inr ⟨m1, nilV, rfl, OwnC.less m5 (by omega)⟩⟩
      simp only [symM, opFn, Nat.reduceLT, Nat.reduceBEq, symM, d2, d3, evCall_fn ft79 rfl, d1, bin_neq, show ((0 : Int) == 0) = true from rfl, evCall_fn ft71 rfl, m2, m3]
      exact retB_cell1 ft31 rfl (by simp only [symM, Nat.reduceBEq]) m4.loads.2.2.2.2.2.2.2.2.2.2.2.2.1 get_same
end
end Go.Proofs.YtjdhdhmoedlfdaaGreat.Abs
namespace Go.Proofs.YtjdhdhmoedlfdaaGreat.Abs
open Go Go.Proofs
noncomputable section
variable {call : Abs.Callee}
set_option maxRecDepth 10000
theorem ft37 : T0.ft.get 37 = some Tryz.f37 := by kernel_rfl
theorem plan_R3 : planB (regOps Tryz.f37 [1, 1, 0]) 88 = some ([.one 0, .one 1, .one 2, .one 3, .one 4, .one 5, .one 6, .one 7, .one 8, .one 10, .eff [] 9 [0, 1, 2, 3, 4, 5, 6, 7, 10], .eff [] 11 [0, 1, 2, 3, 4, 5, 6, 7], .one 12, .eff [13] 14 []], []) := by kernel_rfl
theorem plan_R9 : planB (regOps Tryz.f37 [1, 1, 1, 0, 1, 0, 0, 1, 0, 0, 1, 0, 0, 1, 0]) 88 = some ([.one 0, .one 1, .one 2, .one 3, .one 4, .one 5, .one 6, .eff [] 7 [0, 1], .eff [8] 9 [], .one 10, .eff [] 11 []], []) := by kernel_rfl
noncomputable def bodyRD : Code := part Tryz.f37 [1, 1, 1, 0, 1, 0, 0, 1, 0, 0]
abbrev ERD : Env := ⟨37, 88, none⟩
abbrev rGetC (call : Abs.Callee) : Prop := ∀ (bs : List Nat) (v : Value) (n0 : Nat) (h : AH), (∀ x ∈ bs, x < 256) → 4 ≤ bs.length → bs.length < 1000 → RowX n0 h v bs → n0 ≤ h.next → ∃ h', call 84 [v] h = some (extV (extAt bs 0), h') ∧ Grow h.next h h'
theorem zero4 : (.string ⟨#[0, 0, 0, 0]⟩ : Value) = strB [0, 0, 0, 0] := rfl
theorem num2_zero {x y : Nat} : num2 x y = 0 ↔ x = 0 ∧ y = 0 := by unfold num2; omega
theorem win4 {bs : List Nat} {i : Nat} (h : i + 4 ≤ bs.length) : (bs.drop i).take (i + 4 - i) = [byteAt bs i, byteAt bs (i + 1), byteAt bs (i + 2), byteAt bs (i + 3)] := by
  rw [show i + 4 - i = 4 by omega]
  have h0 := byteAt_get (bs := bs) (i := i) (by omega)
  have h1 := byteAt_get (bs := bs) (i := i + 1) (by omega)
  have h2 := byteAt_get (bs := bs) (i := i + 2) (by omega)
  have h3 := byteAt_get (bs := bs) (i := i + 3) (by omega)
  apply List.ext_getElem?
  intro j
  match j with
  | 0 => simpa using h0
  | 1 => simpa using h1
  | 2 => simpa using h2
  | 3 => simpa using h3
  | j + 4 => simp [List.getElem?_take]; omega
theorem nz4 {bs : List Nat} {i : Nat} (h : i + 4 ≤ bs.length) : (!decide ((bs.drop i).take (i + 4 - i) = [0, 0, 0, 0])) = nzX (extAt bs i) := by
  rw [win4 h]
  unfold nzX eqE extAt numAt
  congr 1
  rw [Bool.eq_iff_iff]
  simp only [decide_eq_true_eq, List.cons.injEq, and_true, Bool.and_eq_true, num2_zero]
  have e : i + 1 + 1 = i + 2 := rfl
  rw [e]
  exact ⟨fun ⟨a, b, c, d⟩ => ⟨a, ⟨b, c⟩, d⟩, fun ⟨a, ⟨b, c⟩, d⟩ => ⟨a, b, c, d⟩⟩
set_option maxHeartbeats 2000000 in
theorem rdecL (hG : rGetC call) (bs : List Nat) (hbs : ∀ x ∈ bs, x < 256) (hl : bs.length = 32) (v : Value) (n0 b c : Nat) (n : NV) (hnb : n0 ≤ b) :
    ∀ (k i : Nat) (xs : List XV) (e : Value) (h : AH) (tm : PM Value) (N : Nat), i + k = 3 → xs.length ≤ i → k + 60 ≤ N → b < h.next → RowX n0 h v bs → NodeB h b n e → OwnE (b + 1) h e xs →
      tm.get 0 = some v → tm.get 2 = some (pv c 0) → tm.get 4 = some (pv b 0) → tm.get 5 = some (iv ((6 + 4 * i : Nat) : Int)) →
      ∃ tm' h', codeB T0 X0 call N ERD (.loop bodyRD) tm h [] = .jump (.exit 0) tm' h' [] ∧ ((∃ e', tm'.get 0 = some v ∧ tm'.get 2 = some (pv c 0) ∧ tm'.get 4 = some (pv b 0) ∧ NodeB h' b n e' ∧ OwnE (b + 1) h' e' (xs ++ extsF bs i k)) ∧ Grow b h h') := by
  intro k
  induction k with
  | zero =>
    intro i xs e h tm N hk hx hN hb hv hnd ho g0 g2 g4 g5
    obtain ⟨N, rfl⟩ : ∃ a, N = a + 60 := ⟨N - 60, by omega⟩
    apply Exists.intro; apply Exists.intro
    refine ⟨?_, ⟨e, ?_, ?_, ?_, hnd, by simpa [extsF] using ho⟩, Grow.refl _ _⟩
    · rw [codeB_loop]
      simp only [bodyRD, part, Tryz.f37, sub, symM, opFn, Nat.reduceLT, g5, bin_lss, decide_eq_false (show ¬ ((6 + 4 * i : Nat) : Int) < 18 by omega)]
      rfl
    · simp only [symM, Nat.reduceBEq, g0]
    · simp only [symM, Nat.reduceBEq, g2]
    · simp only [symM, Nat.reduceBEq, g4]
  | succ k ih =>
    intro i xs e h tm N hk hx hN hb hv hnd ho g0 g2 g4 g5
    obtain ⟨N, rfl⟩ : ∃ a, N = a + 60 := ⟨N - 60, by omega⟩
    have w1 : IntKind.i64.wrap (((6 + 4 * i : Nat) : Int) + 4) = ((6 + 4 * i + 4 : Nat) : Int) := by rw [wz (by omega)]; omega
    have hs : ((6 + 4 * i + 4 : Nat) : Int) = ((6 + 4 * (i + 1) : Nat) : Int) := by omega
    obtain ⟨w, e1, e2⟩ := hv.win (hi := some (iv ((6 + 4 * i + 4 : Nat) : Int))) (lo := 6 + 4 * i) (hh := 6 + 4 * i + 4) (.inl rfl) (by omega) (by omega)
    have cs := conv_b2s e2.row
    have hne : ∀ p q, evBin T0 .neq 9 p q (strB ((bs.drop (6 + 4 * i)).take (6 + 4 * i + 4 - (6 + 4 * i)))) (.string ⟨#[0, 0, 0, 0]⟩) h = some (.bool (nzX (extAt bs (6 + 4 * i)))) := fun p q => by
      rw [zero4, s_neq (win_lt hbs) (by simp), nz4 (by omega)]
    rw [show N + 60 = (N + 59) + 1 from rfl, codeB_loop, extsF_succ]
    cases hz : nzX (extAt bs (6 + 4 * i)) with
    | false =>
      rw [hz] at hne
      simp only [bodyRD, part, Tryz.f37, sub, symM, opFn, Nat.reduceLT, Nat.reduceBEq, symM, g0, g5, bin_lss, decide_eq_true (show ((6 + 4 * i : Nat) : Int) < 18 by omega), bin_add, w1, ev3, evOpt, e1, cs, hne]
      rw [if_neg (by simp), List.nil_append]
      exact ih (i + 1) xs e h _ (N + 59) (by omega) (by omega) (by omega) hb hv hnd ho (by simp only [symM, Nat.reduceBEq, g0]) (by simp only [symM, Nat.reduceBEq, g2]) (by simp only [symM, Nat.reduceBEq, g4]) (by rw [← hs]; exact get_same)
    | true =>
      rw [hz] at hne
      obtain ⟨h1, c1, q1⟩ := hG _ w n0 h (win_lt hbs) (by simp; omega) (by simp; omega) e2 (by omega)
      rw [win_ext (by omega)] at c1
      generalize hxx : extAt bs (6 + 4 * i) = x at c1
      have hb1 := Nat.lt_of_lt_of_le hb q1.next
      have ho1 := ho.grow q1
      have hnd1 := hnd.grow q1 hb
      obtain ⟨v4, h4, a1, a2, a3⟩ := OwnE.append ho1 x (by omega) (by omega) 46
      have hnd4 := hnd1.grow a3 (Nat.lt_succ_self b)
      obtain ⟨h5, t1, t2, t3, t4⟩ := hnd4.storeE a2.one a2.cell (Nat.le_refl b)
      have ho5 : OwnE (b + 1) h5 v4 (xs ++ [x]) := OwnC.keep a2 (Nat.lt_succ_self b) (by omega) (evStore_keep t1)
      have q5 : Grow b h h5 := (q1.less (by omega)).trans ((a3.less (by omega)).trans t3 (Nat.le_refl _)) (Nat.le_refl _)
      have ld := hnd.loads
      have ld1 := hnd1.loads
      have hp := plan_R9
      simp only [regOps, part, Tryz.f37, sub] at hp
      simp only [bodyRD, part, Tryz.f37, sub, symM, opFn, Nat.reduceLT, Nat.reduceBEq, symM, g0, g5, bin_lss, decide_eq_true (show ((6 + 4 * i : Nat) : Int) < 18 by omega), bin_add, w1, ev3, evOpt, e1, cs, hne]
      rw [codeB_draw, draw_plan hp rfl]
      simp only [drawAll, opFn, Nat.reduceLT, Nat.reduceBEq, g0, g4, g5, field_N, ld, ev3, evOpt, bin_add, w1, e1, evCall_fn ft84 rfl, c1, effE_cons, ld1, ho.row.eqv, goAB_some bs_ext, a1, t1]
      rw [← List.append_assoc]
      exact wrapE (ih (i + 1) (xs ++ [x]) v4 h5 _ (N + 59) (by omega) (by simp; omega) (by omega) (Nat.lt_of_lt_of_le hb q5.next) (hv.grow q5 hnb) t2 ho5 (by simp only [symM, Nat.reduceBEq, g0]) (by simp only [symM, Nat.reduceBEq, g2]) (by simp only [symM, Nat.reduceBEq, g4]) (by rw [← hs]; exact get_same)) q5
end
end Go.Proofs.YtjdhdhmoedlfdaaGreat.Abs
namespace Go.Proofs.YtjdhdhmoedlfdaaGreat.Abs
open Go Go.Proofs
noncomputable section
variable {call : Abs.Callee}
set_option maxRecDepth 10000
theorem rdecTail (hE : DEncC call 85) (bs : List Nat) (hbs : ∀ x ∈ bs, x < 256) (hl : bs.length = 32) (v : Value) (n0 b c : Nat) (hc : c < b) (hn : n0 ≤ c) (h : AH) (e : Value) (hb : b < h.next) (hv : RowX n0 h v bs) (hnd : NodeB h b (decN bs) e) (hz : NodeB h c NV.zero nilV) (ho : OwnE (b + 1) h e (decX bs)) :
    ∃ r h6, call 85 [nodeV (decN bs) e] h = some (r, h6) ∧ evLoad T0 48 (pv b 0) h = some (nodeV (decN bs) e) ∧ evLoad T0 48 (pv b 0) h6 = some (nodeV (decN bs) e) ∧ evConvert T0 57 9 v h6 = some (strB bs, h6) ∧
      ((decOK bs = false ∧ (r = .tuple #[nilV, iv 2] ∨ ∃ v' l, r = .tuple #[v', iv 0] ∧ evConvert T0 57 9 v' h6 = some (strB l, h6) ∧ ∀ p q, evBin T0 .neq 9 p q (strB l) (strB bs) h6 = some (.bool true)) ∧ ∃ h7, evStore T0 48 (pv c 0) (nodeV NV.zero nilV) h6 = some h7 ∧ NodeB h7 c NV.zero nilV ∧ Grow c h h7) ∨
       (decOK bs = true ∧ ∃ v' l h7, r = .tuple #[v', iv 0] ∧ evConvert T0 57 9 v' h6 = some (strB l, h6) ∧ (∀ p q, evBin T0 .neq 9 p q (strB l) (strB bs) h6 = some (.bool false)) ∧ evStore T0 48 (pv c 0) (nodeV (decN bs) e) h6 = some h7 ∧ NodeB h7 c (decN bs) e ∧ OwnE (b + 1) h7 e (decX bs) ∧ Grow c h h7)) := by
  obtain ⟨r, h6, c1, g1, hr⟩ := hE (decN bs) e (decX bs) h.next h (decN_ok hbs) ho.row (decX_ok hbs) (by have := decX_len bs; omega) (Nat.le_refl _)
  have hz6 := hz.grow g1 (by omega)
  have hnd6 := hnd.grow g1 hb
  have gc : Grow c h h6 := g1.less (by omega)
  refine ⟨r, h6, c1, hnd.loads.2.2.2.2.2.2.2.2.2.2.2.2.1, hnd6.loads.2.2.2.2.2.2.2.2.2.2.2.2.1, conv_b2s (hv.grow g1 (by omega)).row, ?_⟩
  have zer : ∃ h7, evStore T0 48 (pv c 0) (nodeV NV.zero nilV) h6 = some h7 ∧ NodeB h7 c NV.zero nilV ∧ Grow c h h7 := by
    obtain ⟨h7, s1, s2, s3, _⟩ := hz6.storeAll (k := c) NV.zero (f := nilV) rfl (Nat.le_refl _)
    exact ⟨h7, s1, s2, gc.trans s3 (Nat.le_refl _)⟩
  have hd : decOK bs = (soundN (decN bs) (decX bs) && decide (encN (decN bs) (decX bs) = bs)) := by unfold decOK; rw [hl]; rfl
  rcases hr with ⟨r1, rfl⟩ | ⟨r1, v', rfl, r2⟩
  · exact .inl ⟨by rw [hd, r1]; rfl, .inl rfl, zer⟩
  · have hcv := conv_b2s r2.row
    have hq := fun p q => s_neq (p := p) (q := q) (h := h6) (encN_lt2 (decN bs) (decX bs)) hbs
    by_cases hcmp : encN (decN bs) (decX bs) = bs
    · rw [decide_eq_true hcmp] at hq
      obtain ⟨h7, s1, s2, s3, s4⟩ := hz6.storeAll (k := c) (decN bs) (f := e) ho.one (Nat.le_refl _)
      exact .inr ⟨by rw [hd, r1, decide_eq_true hcmp]; rfl, v', _, h7, rfl, hcv, hq, s1, s2, OwnC.keep (ho.grow g1) (by omega) (by omega) (evStore_keep s1), gc.trans s3 (Nat.le_refl _)⟩
    · rw [decide_eq_false hcmp] at hq
      exact .inl ⟨by rw [hd, r1, decide_eq_false hcmp]; rfl, .inr ⟨v', _, rfl, hcv, hq⟩, zer⟩
theorem NodeB.storeD0 {k : Nat} {h : AH} {b : Nat} {n : NV} {e : Value} (hb : NodeB h b n e) (c : Nat) (hn : k ≤ b) : ∃ h', evStore T0 3 (pv b 4) (iv c) h = some h' ∧ NodeB h' b { n with d0 := c } e ∧ Grow k h h' ∧ h'.next = h.next :=
  BoxL.store hb (ws := [iv c]) (o := 4) sz_int rfl (by simp) rfl (by simp [nodeL]) hn
theorem NodeB.storeD1 {k : Nat} {h : AH} {b : Nat} {n : NV} {e : Value} (hb : NodeB h b n e) (c : Nat) (hn : k ≤ b) : ∃ h', evStore T0 3 (pv b 5) (iv c) h = some h' ∧ NodeB h' b { n with d1 := c } e ∧ Grow k h h' ∧ h'.next = h.next :=
  BoxL.store hb (ws := [iv c]) (o := 5) sz_int rfl (by simp) rfl (by simp [nodeL]) hn
theorem NodeB.storeD2 {k : Nat} {h : AH} {b : Nat} {n : NV} {e : Value} (hb : NodeB h b n e) (c : Nat) (hn : k ≤ b) : ∃ h', evStore T0 3 (pv b 6) (iv c) h = some h' ∧ NodeB h' b { n with d2 := c } e ∧ Grow k h h' ∧ h'.next = h.next :=
  BoxL.store hb (ws := [iv c]) (o := 6) sz_int rfl (by simp) rfl (by simp [nodeL]) hn
theorem NodeB.storeD3 {k : Nat} {h : AH} {b : Nat} {n : NV} {e : Value} (hb : NodeB h b n e) (c : Nat) (hn : k ≤ b) : ∃ h', evStore T0 3 (pv b 7) (iv c) h = some h' ∧ NodeB h' b { n with d3 := c } e ∧ Grow k h h' ∧ h'.next = h.next :=
  BoxL.store hb (ws := [iv c]) (o := 7) sz_int rfl (by simp) rfl (by simp [nodeL]) hn
set_option maxHeartbeats 2000000 in
theorem rDec_S (hN : NumC call 81) (hG : rGetC call) (hE : DEncC call 85) (bs : List Nat) (hbs : ∀ x ∈ bs, x < 256) (hl : bs.length = 32) (v : Value) (n0 : Nat) (h : AH) (hn : n0 ≤ h.next) (hv : RowX n0 h v bs) :
    ∃ r h', frameB T0 X0 call 3000 37 [v] h = some (r, h') ∧ Grow h.next h h' ∧ DecR h.next h' bs r := by
  generalize hh1 : h.new (.cells (PM.ofList (nodeL NV.zero nilV)) 12 48 0 0 .ex) = h1
  have g1 : Grow h.next h h1 := by rw [← hh1]; exact Grow.new _ _
  have n1 : h1.next = h.next + 1 := by rw [← hh1]; rfl
  have hz1 : NodeB h1 h.next NV.zero nilV := by rw [← hh1]; exact NodeB.new _ _ _
  have hv1 := hv.grow g1 hn
  obtain ⟨p0, a0, b0, k0⟩ := hv1.row.at3 und_bytes sz_u8 agg_u8 (i := 0) (x := .int .u8 (byteAt bs 0 : Int)) (by simp [bytesV, byteAt_get (show 0 < bs.length by omega)])
  obtain ⟨p1, a1, b1, k1⟩ := hv1.row.at3 und_bytes sz_u8 agg_u8 (i := 1) (x := .int .u8 (byteAt bs 1 : Int)) (by simp [bytesV, byteAt_get (show 1 < bs.length by omega)])
  have a0 : evIndexAddr T0 57 v (iv 0) = some p0 := a0
  have a1 : evIndexAddr T0 57 v (iv 1) = some p1 := a1
  have l0 := byteAt_lt hbs (i := 0); have l1 := byteAt_lt hbs (i := 1)
  have w0 : IntKind.i64.wrap (byteAt bs 0 : Int) = byteAt bs 0 := wz (by omega)
  have w1 : IntKind.i64.wrap (byteAt bs 1 : Int) = byteAt bs 1 := wz (by omega)
  have c2 : call 81 [v, iv 2, iv 2] h1 = some (iv (numAt bs 2), h1) := hN bs 2 v n0 h1 hbs (by omega) (by omega) hv1
  have c4 : call 81 [v, iv 4, iv 2] h1 = some (iv (numAt bs 4), h1) := hN bs 4 v n0 h1 hbs (by omega) (by omega) hv1
  generalize hh2 : h1.new (.cells (PM.ofList (nodeL NV.zero nilV)) 12 48 0 0 .ex) = h2
  have g2 : Grow h1.next h1 h2 := by rw [← hh2]; exact Grow.new _ _
  have hb2 : NodeB h2 h1.next NV.zero nilV := by rw [← hh2]; exact NodeB.new _ _ _
  have n2 : h2.next = h1.next + 1 := by rw [← hh2]; rfl
  obtain ⟨h3, s1, s2, s3, s4⟩ := hb2.storeAll (k := h1.next) ⟨byteAt bs 0, byteAt bs 1, numAt bs 2, numAt bs 4, 0, 0, 0, 0, 0, 0, 0⟩ (f := nilV) rfl (Nat.le_refl _)
  have q3 := s2.loads
  have g13 : Grow h1.next h1 h3 := g2.trans s3 (Nat.le_refl _)
  have g03 : Grow h.next h h3 := g1.trans g13 (by omega)
  have hp3 := plan_R3
  simp only [regOps, part, Tryz.f37, sub] at hp3
  rw [frameB_eq ft37 rfl rfl]
  simp only [Tryz.f37, symM, opFn, Nat.reduceLT, Nat.reduceBEq, symM, alloc_N, hh1, frame_len bs v n0 h hv.row, hl, bin_neq, eqT (show ((32 : Nat) : Int) = 32 by omega)]
  rw [codeB_draw, draw_plan hp3 rfl]
  simp only [drawAll, opFn, Nat.reduceBEq, a0, b0, k0, a1, b1, k1, hv.eqv, conv_i2i und_u8 und_int, w0, w1, evCall_fn ft81 rfl, c2, c4, effE_cons, build_N4, goA_alloc alloc_N, hh2, s1]
  by_cases f2 : byteAt bs 1 = 2
  · simp only [symM, opFn, Nat.reduceLT, symM, symL, field_N, q3, bin_eql, eqT (show (byteAt bs 1 : Int) = 2 by omega)]
    generalize hX : codeB T0 X0 call _ ERD (.loop _) _ _ _ = X
    obtain ⟨t4, h4, u1, ⟨e, u2, u3, u4, u5, u6⟩, u7⟩ := use_exit hX (rdecL hG bs hbs hl v n0 h1.next h.next _ (by omega) 3 0 [] nilV h3 _ _ (by omega) (by simp) (by omega) (by omega) (hv1.grow g13 (by omega)) s2 (OwnE.nil _ _) (by simp only [symM, Nat.reduceBEq]) (by simp only [symM, Nat.reduceBEq]) (by simp only [symM, Nat.reduceBEq]) (by simp only [symM]; rfl))
    clear hX
    subst u1
    have hv4 := hv1.grow (g13.trans u7 (Nat.le_refl _)) (by omega)
    have hz4 := (hz1.grow g13 (by omega)).grow u7 (by omega)
    have c18 : call 81 [v, iv 18, iv 2] h4 = some (iv (numAt bs 18), h4) := hN bs 18 v n0 h4 hbs (by omega) (by omega) hv4
    obtain ⟨h5, s5, s6, s7, s8⟩ := u5.storeC (k := h1.next) (numAt bs 18) (Nat.le_refl _)
    have hN : ({ k := byteAt bs 0, f := byteAt bs 1, l := numAt bs 2, s := numAt bs 4, d0 := 0, d1 := 0, d2 := 0, d3 := 0, si := 0, du := 0, c := numAt bs 18 } : NV) = decN bs := by unfold decN; rw [if_pos f2]
    have hX2 : [] ++ extsF bs 0 3 = decX bs := by unfold decX; rw [if_pos f2]; rfl
    have s6 : NodeB h5 h1.next (decN bs) e := by rw [← hN]; exact s6
    rw [hX2] at u6
    have u6 : OwnE (h1.next + 1) h5 e (decX bs) := OwnC.keep u6 (Nat.lt_succ_self _) (by omega) (evStore_keep s5)
    have n4 := u7.next
    obtain ⟨r, h6, d1, d2, d3, d5, d4⟩ := rdecTail hE bs hbs hl v n0 h1.next h.next (by omega) hn h5 e (by omega) (hv4.grow s7 (by omega)) s6 (hz4.grow s7 (by omega)) u6
    have g5 : Grow h.next h h5 := g03.trans ((u7.trans s7 (Nat.le_refl _)).less (by omega)) (Nat.le_refl _)
    rcases d4 with ⟨m1, m2, h7, m3, m4, m5⟩ | ⟨m1, v', l, h7, rfl, d6, d7, m3, m4, m5, m6⟩
    · refine ⟨.tuple #[nodeV NV.zero nilV, iv 2], h7, ?_, g5.trans m5 (Nat.le_refl _), .inl ⟨m1, rfl⟩⟩
      rcases m2 with rfl | ⟨v', l, rfl, d6, d7⟩
      · simp only [symM, opFn, Nat.reduceLT, Nat.reduceBEq, symM, symL, u2, u3, u4, evCall_fn ft81 rfl, c18, field_N, s5, d2, evCall_fn ft85 rfl, d1, bin_neq, show ((2 : Int) == 0) = false from rfl, build_N0, m3]
        exact retB_cell1 ft37 rfl (by simp only [symM, Nat.reduceBEq, u3]) m4.loads.2.2.2.2.2.2.2.2.2.2.2.2.1 get_same
      · simp only [symM, opFn, Nat.reduceLT, Nat.reduceBEq, symM, symL, u2, u3, u4, evCall_fn ft81 rfl, c18, field_N, s5, d2, evCall_fn ft85 rfl, d1, bin_neq, show ((0 : Int) == 0) = true from rfl, d5, d6, d7, build_N0, m3]
        exact retB_cell1 ft37 rfl (by simp only [symM, Nat.reduceBEq, u3]) m4.loads.2.2.2.2.2.2.2.2.2.2.2.2.1 get_same
    · refine ⟨.tuple #[nodeV (decN bs) e, iv 0], h7, ?_, g5.trans m6 (Nat.le_refl _), .inr ⟨m1, e, rfl, OwnC.less m5 (by omega)⟩⟩
      simp only [symM, opFn, Nat.reduceLT, Nat.reduceBEq, symM, symL, u2, u3, u4, evCall_fn ft81 rfl, c18, field_N, s5, d2, d3, evCall_fn ft85 rfl, d1, bin_neq, show ((0 : Int) == 0) = true from rfl, d5, d6, d7, m3]
      exact retB_cell1 ft37 rfl (by simp only [symM, Nat.reduceBEq, u3]) m4.loads.2.2.2.2.2.2.2.2.2.2.2.2.1 get_same
  · have n3 := g13.next
    obtain ⟨h4, x1, y1, z1, _⟩ := s2.storeD0 (k := h1.next) (numAt bs 6) (Nat.le_refl _)
    obtain ⟨h5, x2, y2, z2, _⟩ := y1.storeD1 (k := h1.next) (numAt bs 8) (Nat.le_refl _)
    obtain ⟨h6, x3, y3, z3, _⟩ := y2.storeD2 (k := h1.next) (numAt bs 10) (Nat.le_refl _)
    obtain ⟨h7, x4, y4, z4, _⟩ := y3.storeD3 (k := h1.next) (numAt bs 12) (Nat.le_refl _)
    obtain ⟨h8, x5, y5, z5, _⟩ := y4.storeSi (k := h1.next) (numAt bs 14) (Nat.le_refl _)
    obtain ⟨h9, x6, y6, z6, _⟩ := y5.storeDu (k := h1.next) (numAt bs 16) (Nat.le_refl _)
    have q14 := g13.trans z1 (Nat.le_refl _)
    have q15 := q14.trans z2 (Nat.le_refl _)
    have q16 := q15.trans z3 (Nat.le_refl _)
    have q17 := q16.trans z4 (Nat.le_refl _)
    have q18 := q17.trans z5 (Nat.le_refl _)
    have q19 := q18.trans z6 (Nat.le_refl _)
    have e1 : call 81 [v, iv 6, iv 2] h3 = some (iv (numAt bs 6), h3) := hN bs 6 v n0 h3 hbs (by omega) (by omega) (hv1.grow g13 (by omega))
    have e2 : call 81 [v, iv 8, iv 2] h4 = some (iv (numAt bs 8), h4) := hN bs 8 v n0 h4 hbs (by omega) (by omega) (hv1.grow q14 (by omega))
    have e3 : call 81 [v, iv 10, iv 2] h5 = some (iv (numAt bs 10), h5) := hN bs 10 v n0 h5 hbs (by omega) (by omega) (hv1.grow q15 (by omega))
    have e4 : call 81 [v, iv 12, iv 2] h6 = some (iv (numAt bs 12), h6) := hN bs 12 v n0 h6 hbs (by omega) (by omega) (hv1.grow q16 (by omega))
    have e5 : call 81 [v, iv 14, iv 2] h7 = some (iv (numAt bs 14), h7) := hN bs 14 v n0 h7 hbs (by omega) (by omega) (hv1.grow q17 (by omega))
    have e6 : call 81 [v, iv 16, iv 2] h8 = some (iv (numAt bs 16), h8) := hN bs 16 v n0 h8 hbs (by omega) (by omega) (hv1.grow q18 (by omega))
    have hN2 : ({ k := byteAt bs 0, f := byteAt bs 1, l := numAt bs 2, s := numAt bs 4, d0 := numAt bs 6, d1 := numAt bs 8, d2 := numAt bs 10, d3 := numAt bs 12, si := numAt bs 14, du := numAt bs 16, c := 0 } : NV) = decN bs := by unfold decN; rw [if_neg f2]
    have hX2 : ([] : List XV) = decX bs := by unfold decX; rw [if_neg f2]
    have y6 : NodeB h9 h1.next (decN bs) nilV := by rw [← hN2]; exact y6
    have u6 : OwnE (h1.next + 1) h9 nilV (decX bs) := by rw [← hX2]; exact OwnE.nil _ _
    have n9 := q19.next
    have z69 : Grow h1.next h3 h9 := ((((z1.trans z2 (Nat.le_refl _)).trans z3 (Nat.le_refl _)).trans z4 (Nat.le_refl _)).trans z5 (Nat.le_refl _)).trans z6 (Nat.le_refl _)
    have n39 := z69.next
    obtain ⟨r, hA, d1, d2, d3, d5, d4⟩ := rdecTail hE bs hbs hl v n0 h1.next h.next (by omega) hn h9 nilV (by omega) (hv1.grow q19 (by omega)) y6 (hz1.grow q19 (by omega)) u6
    have g5 : Grow h.next h h9 := g1.trans q19 (by omega)
    have W : IntKind.i64.wrap (2 * 0) = 0 ∧ IntKind.i64.wrap (2 * 1) = 2 ∧ IntKind.i64.wrap (2 * 2) = 4 ∧ IntKind.i64.wrap (2 * 3) = 6 ∧ IntKind.i64.wrap (6 + 0) = 6 ∧ IntKind.i64.wrap (6 + 2) = 8 ∧ IntKind.i64.wrap (6 + 4) = 10 ∧ IntKind.i64.wrap (6 + 6) = 12 ∧
      IntKind.i64.wrap (0 + 1) = 1 ∧ IntKind.i64.wrap (1 + 1) = 2 ∧ IntKind.i64.wrap (2 + 1) = 3 ∧ IntKind.i64.wrap (3 + 1) = 4 ∧ decide ((0 : Int) < 4) = true ∧ decide ((1 : Int) < 4) = true ∧ decide ((2 : Int) < 4) = true ∧ decide ((3 : Int) < 4) = true ∧ decide ((4 : Int) < 4) = false := by decide
    simp only [symM, opFn, Nat.reduceLT, Nat.reduceBEq, symM, symL, codeB_loop, field_N, q3, bin_eql, eqF (show ¬ (byteAt bs 1 : Int) = 2 by omega), bin_lss, bin_mul, bin_add, W, index_A, evCall_fn ft81 rfl, e1, x1, e2, x2, e3, x3, e4, x4, e5, x5, e6, x6]
    rcases d4 with ⟨m1, m2, h7, m3, m4, m5⟩ | ⟨m1, v', l, h7, rfl, d6, d7, m3, m4, m5, m6⟩
    · refine ⟨.tuple #[nodeV NV.zero nilV, iv 2], h7, ?_, g5.trans m5 (Nat.le_refl _), .inl ⟨m1, rfl⟩⟩
      rcases m2 with rfl | ⟨v', l, rfl, d6, d7⟩
      · simp only [symM, opFn, Nat.reduceLT, Nat.reduceBEq, symM, d2, evCall_fn ft85 rfl, d1, bin_neq, show ((2 : Int) == 0) = false from rfl, build_N0, m3]
        exact retB_cell1 ft37 rfl (by simp only [symM, Nat.reduceBEq]) m4.loads.2.2.2.2.2.2.2.2.2.2.2.2.1 get_same
      · simp only [symM, opFn, Nat.reduceLT, Nat.reduceBEq, symM, d2, evCall_fn ft85 rfl, d1, bin_neq, show ((0 : Int) == 0) = true from rfl, d5, d6, d7, build_N0, m3]
        exact retB_cell1 ft37 rfl (by simp only [symM, Nat.reduceBEq]) m4.loads.2.2.2.2.2.2.2.2.2.2.2.2.1 get_same
    · refine ⟨.tuple #[nodeV (decN bs) nilV, iv 0], h7, ?_, g5.trans m6 (Nat.le_refl _), .inr ⟨m1, nilV, rfl, OwnC.less m5 (by omega)⟩⟩
      simp only [symM, opFn, Nat.reduceLT, Nat.reduceBEq, symM, d2, d3, evCall_fn ft85 rfl, d1, bin_neq, show ((0 : Int) == 0) = true from rfl, d5, d6, d7, m3]
      exact retB_cell1 ft37 rfl (by simp only [symM, Nat.reduceBEq]) m4.loads.2.2.2.2.2.2.2.2.2.2.2.2.1 get_same
end
end Go.Proofs.YtjdhdhmoedlfdaaGreat.Abs
