/- Sorting: slices.symMergeCmpFunc. -/
import Derived.Test.YtcpihpjphdlmfaaStabA
namespace Go.Proofs.Ytcpihpjphdlmfaa.Abs
open Go Go.Proofs Go.Sort
noncomputable section
variable {call : Abs.Callee}
set_option maxRecDepth 10000
noncomputable def smS0 : Code := part Try.f53 [0]
noncomputable def smS1 : Code := part Try.f53 [1, 0]
noncomputable def smA : Code := part Try.f53 [1, 1, 0]
noncomputable def smB : Code := part Try.f53 [1, 1, 1, 0]
noncomputable def smC : Code := part Try.f53 [1, 1, 1, 1, 0]
noncomputable def smD : Code := part Try.f53 [1, 1, 1, 1, 1, 0]
noncomputable def smE : Code := part Try.f53 [1, 1, 1, 1, 1, 1, 0]
noncomputable def smF : Code := part Try.f53 [1, 1, 1, 1, 1, 1, 1, 0]
noncomputable def smT0 : Code := part Try.f53 [1, 1, 1, 1, 1, 1, 1, 1, 0]
noncomputable def smT1 : Code := part Try.f53 [1, 1, 1, 1, 1, 1, 1, 1, 1, 0]
noncomputable def smT2 : Code := part Try.f53 [1, 1, 1, 1, 1, 1, 1, 1, 1, 1, 0]
noncomputable def smT3 : Code := part Try.f53 [1, 1, 1, 1, 1, 1, 1, 1, 1, 1, 1]
noncomputable def smT : Code := .seq smT0 (.seq smT1 (.seq smT2 smT3))
noncomputable def smBody : Code := .seq smS0 (.seq smS1 (.seq smA (.seq smB (.seq smC (.seq smD (.seq smE (.seq smF smT)))))))
theorem smBody_eq : Try.f53.body = some smBody := by kernel_rfl
structure SmS (tm : PM Value) (v : Value) (g a m b mid : Nat) : Prop where
  g0 : tm.get 0 = some v
  g1 : tm.get 1 = some (iv a)
  g2 : tm.get 2 = some (iv m)
  g3 : tm.get 3 = some (iv b)
  g4 : tm.get 4 = some (fnV g)
  g18 : tm.get 18 = some (iv mid)
def RoOK (call : Abs.Callee) (v : Value) (n0 g : Nat) : Prop := ∀ (a m b : Nat) (d : Array NN) (h : AH), a < m → m < b → b ≤ d.size → d.size ≤ 480 → AllK d → Own n0 h v (rA d) 23 →
    ∃ h', ∃ d' : Array NN, call 65 [v, iv a, iv m, iv b, fnV g] h = some (.tuple #[], h') ∧ Own n0 h' v (rA d') 23 ∧ AllK d' ∧ PermIn a b d d' ∧ (∀ k, d'[k]! = rotF (fA d) a m b k) ∧ Grow n0 h h'
/-- The contract of symMerge below a size. -/
def SymOK (call : Abs.Callee) (v : Value) (n0 g M : Nat) : Prop := ∀ (a m b : Nat) (d : Array NN) (h : AH), b - a < M → a < m → m < b → b ≤ d.size → d.size ≤ 480 → AllK d → Srt (fA d) a m → Srt (fA d) m b → Crs (fA d) a m b → Own n0 h v (rA d) 23 →
    ∃ h', ∃ d' : Array NN, call 53 [v, iv a, iv m, iv b, fnV g] h = some (.tuple #[], h') ∧ Own n0 h' v (rA d') 23 ∧ AllK d' ∧ PermIn a b d d' ∧ Srt (fA d') a b ∧ Grow n0 h h'
section
variable {v : Value} {n0 g a m b mid s e M : Nat} {d : Array NN} {tm : PM Value} {h : AH} {N : Nat}
theorem rotF_id1 (f : Nat → NN) (m e k : Nat) : rotF f m m e k = f k := by
  unfold rotF
  by_cases c : m ≤ k ∧ k < m + (e - m)
  · rw [if_pos c, show k + (m - m) = k by omega]
  · rw [if_neg c, if_neg (by omega)]
theorem rotF_id2 (f : Nat → NN) (s m k : Nat) : rotF f s m m k = f k := by
  unfold rotF
  rw [if_neg (by omega)]
  by_cases c : s + (m - m) ≤ k ∧ k < m
  · rw [if_pos c, show k - (m - m) = k by omega]
  · rw [if_neg c]
theorem t1L (hR : RoOK call v n0 g) (s0 : SmS tm v g a m b mid) (s20 : tm.get 20 = some (iv s)) (s24 : tm.get 24 = some (iv e)) (hsm : s ≤ m) (hme : m ≤ e) (he : e ≤ d.size) (hd : d.size ≤ 480) (hK : AllK d) (hv : Own n0 h v (rA d) 23) :
    ∃ tm' h', codeB T0 X0 call (N + 20) ESm (.code smT1) tm h [] = .fall tm' h' [] ∧ ∃ d' : Array NN, SmS tm' v g a m b mid ∧ tm'.get 20 = some (iv s) ∧ tm'.get 24 = some (iv e) ∧ Own n0 h' v (rA d') 23 ∧ AllK d' ∧ PermIn s e d d' ∧ (∀ k, d'[k]! = rotF (fA d) s m e k) ∧ Grow n0 h h' := by
  obtain ⟨g0, g1, g2, g3, g4, g18⟩ := s0
  by_cases c1 : s < m
  · by_cases c2 : m < e
    · obtain ⟨h1, d1, e1, e2, e3, e4, e5, e6⟩ := hR s m e d h c1 c2 he hd hK hv
      apply Exists.intro; apply Exists.intro; apply And.intro
      · simp only [smT1, part, Try.f53, sub, symM, opFn, Nat.reduceLT, Nat.reduceBEq, g0, g2, g4, s20, s24, bin_lss, decide_eq_true (show (s : Int) < (m : Nat) by omega), decide_eq_true (show (m : Int) < (e : Nat) by omega), evCall_fn ft65 rfl, e1]
        rfl
      · exact ⟨d1, ⟨by simp only [symM, Nat.reduceBEq, g0], by simp only [symM, Nat.reduceBEq, g1], by simp only [symM, Nat.reduceBEq, g2], by simp only [symM, Nat.reduceBEq, g3], by simp only [symM, Nat.reduceBEq, g4], by simp only [symM, Nat.reduceBEq, g18]⟩, by simp only [symM, Nat.reduceBEq, s20], by simp only [symM, Nat.reduceBEq, s24], e2, e3, e4, e5, e6⟩
    · have : e = m := by omega
      subst this
      apply Exists.intro; apply Exists.intro; apply And.intro
      · simp only [smT1, part, Try.f53, sub, symM, opFn, Nat.reduceLT, Nat.reduceBEq, g2, s20, s24, bin_lss, decide_eq_true (show (s : Int) < (e : Nat) by omega), decide_eq_false (show ¬ (e : Int) < (e : Nat) by omega)]
        rfl
      · exact ⟨d, ⟨by simp only [symM, Nat.reduceBEq, g0], by simp only [symM, Nat.reduceBEq, g1], by simp only [symM, Nat.reduceBEq, g2], by simp only [symM, Nat.reduceBEq, g3], by simp only [symM, Nat.reduceBEq, g4], by simp only [symM, Nat.reduceBEq, g18]⟩, by simp only [symM, Nat.reduceBEq, s20], by simp only [symM, Nat.reduceBEq, s24], hv, hK, permIn_refl d _ _, fun k => (rotF_id2 (fA d) s e k).symm, Grow.refl _ _⟩
  · have : s = m := by omega
    subst this
    apply Exists.intro; apply Exists.intro; apply And.intro
    · simp only [smT1, part, Try.f53, sub, symM, opFn, Nat.reduceLT, Nat.reduceBEq, g2, s20, bin_lss, decide_eq_false (show ¬ (s : Int) < (s : Nat) by omega)]
      rfl
    · exact ⟨d, ⟨by simp only [symM, Nat.reduceBEq, g0], by simp only [symM, Nat.reduceBEq, g1], by simp only [symM, Nat.reduceBEq, g2], by simp only [symM, Nat.reduceBEq, g3], by simp only [symM, Nat.reduceBEq, g4], by simp only [symM, Nat.reduceBEq, g18]⟩, by simp only [symM, Nat.reduceBEq, s20], by simp only [symM, Nat.reduceBEq, s24], hv, hK, permIn_refl d _ _, fun k => (rotF_id1 (fA d) s e k).symm, Grow.refl _ _⟩
theorem t2L (hR : SymOK call v n0 g M) (s0 : SmS tm v g a m b mid) (s20 : tm.get 20 = some (iv s)) (s24 : tm.get 24 = some (iv e)) (has : a ≤ s) (hsm : s ≤ mid) (hM : mid - a < M) (hb : mid ≤ d.size) (hd : d.size ≤ 480) (hK : AllK d) (h1 : Srt (fA d) a s) (h2 : Srt (fA d) s mid) (h3 : Crs (fA d) a s mid) (hv : Own n0 h v (rA d) 23) :
    ∃ tm' h', codeB T0 X0 call (N + 20) ESm (.code smT2) tm h [] = .fall tm' h' [] ∧ ∃ d' : Array NN, SmS tm' v g a m b mid ∧ tm'.get 24 = some (iv e) ∧ Own n0 h' v (rA d') 23 ∧ AllK d' ∧ PermIn a mid d d' ∧ Srt (fA d') a mid ∧ Grow n0 h h' := by
  obtain ⟨g0, g1, g2, g3, g4, g18⟩ := s0
  by_cases c1 : a < s
  · by_cases c2 : s < mid
    · obtain ⟨h1, d1, e1, e2, e3, e4, e5, e6⟩ := hR a s mid d h hM c1 c2 hb hd hK h1 h2 h3 hv
      apply Exists.intro; apply Exists.intro; apply And.intro
      · simp only [smT2, part, Try.f53, sub, symM, opFn, Nat.reduceLT, Nat.reduceBEq, g0, g1, g18, g4, s20, bin_lss, decide_eq_true (show (a : Int) < (s : Nat) by omega), decide_eq_true (show (s : Int) < (mid : Nat) by omega), evCall_fn ft53 rfl, e1]
        rfl
      · exact ⟨d1, ⟨by simp only [symM, Nat.reduceBEq, g0], by simp only [symM, Nat.reduceBEq, g1], by simp only [symM, Nat.reduceBEq, g2], by simp only [symM, Nat.reduceBEq, g3], by simp only [symM, Nat.reduceBEq, g4], by simp only [symM, Nat.reduceBEq, g18]⟩, by simp only [symM, Nat.reduceBEq, s24], e2, e3, e4, e5, e6⟩
    · have : s = mid := by omega
      subst this
      apply Exists.intro; apply Exists.intro; apply And.intro
      · simp only [smT2, part, Try.f53, sub, symM, opFn, Nat.reduceLT, Nat.reduceBEq, g1, g18, s20, bin_lss, decide_eq_true (show (a : Int) < (s : Nat) by omega), decide_eq_false (show ¬ (s : Int) < (s : Nat) by omega)]
        rfl
      · exact ⟨d, ⟨by simp only [symM, Nat.reduceBEq, g0], by simp only [symM, Nat.reduceBEq, g1], by simp only [symM, Nat.reduceBEq, g2], by simp only [symM, Nat.reduceBEq, g3], by simp only [symM, Nat.reduceBEq, g4], by simp only [symM, Nat.reduceBEq, g18]⟩, by simp only [symM, Nat.reduceBEq, s24], hv, hK, permIn_refl d _ _, h1, Grow.refl _ _⟩
  · have : s = a := by omega
    subst this
    apply Exists.intro; apply Exists.intro; apply And.intro
    · simp only [smT2, part, Try.f53, sub, symM, opFn, Nat.reduceLT, Nat.reduceBEq, g1, s20, bin_lss, decide_eq_false (show ¬ (s : Int) < (s : Nat) by omega)]
      rfl
    · exact ⟨d, ⟨by simp only [symM, Nat.reduceBEq, g0], by simp only [symM, Nat.reduceBEq, g1], by simp only [symM, Nat.reduceBEq, g2], by simp only [symM, Nat.reduceBEq, g3], by simp only [symM, Nat.reduceBEq, g4], by simp only [symM, Nat.reduceBEq, g18]⟩, by simp only [symM, Nat.reduceBEq, s24], hv, hK, permIn_refl d _ _, h2, Grow.refl _ _⟩
theorem t3L (hR : SymOK call v n0 g M) (s0 : SmS tm v g a m b mid) (s24 : tm.get 24 = some (iv e)) (has : mid ≤ e) (hsm : e ≤ b) (hM : b - mid < M) (hb : b ≤ d.size) (hd : d.size ≤ 480) (hK : AllK d) (h1 : Srt (fA d) mid e) (h2 : Srt (fA d) e b) (h3 : Crs (fA d) mid e b) (hv : Own n0 h v (rA d) 23) :
    ∃ tm' h', codeB T0 X0 call (N + 20) ESm (.code smT3) tm h [] = .fall tm' h' [] ∧ ∃ d' : Array NN, Own n0 h' v (rA d') 23 ∧ AllK d' ∧ PermIn mid b d d' ∧ Srt (fA d') mid b ∧ Grow n0 h h' := by
  obtain ⟨g0, g1, g2, g3, g4, g18⟩ := s0
  by_cases c1 : mid < e
  · by_cases c2 : e < b
    · obtain ⟨h1, d1, e1, e2, e3, e4, e5, e6⟩ := hR mid e b d h hM c1 c2 hb hd hK h1 h2 h3 hv
      apply Exists.intro; apply Exists.intro; apply And.intro
      · simp only [smT3, part, Try.f53, sub, symM, opFn, Nat.reduceLT, Nat.reduceBEq, g0, g3, g18, g4, s24, bin_lss, decide_eq_true (show (mid : Int) < (e : Nat) by omega), decide_eq_true (show (e : Int) < (b : Nat) by omega), evCall_fn ft53 rfl, e1]
        rfl
      · exact ⟨d1, e2, e3, e4, e5, e6⟩
    · have : e = b := by omega
      subst this
      apply Exists.intro; apply Exists.intro; apply And.intro
      · simp only [smT3, part, Try.f53, sub, symM, opFn, Nat.reduceLT, Nat.reduceBEq, g3, g18, s24, bin_lss, decide_eq_true (show (mid : Int) < (e : Nat) by omega), decide_eq_false (show ¬ (e : Int) < (e : Nat) by omega)]
        rfl
      · exact ⟨d, hv, hK, permIn_refl d _ _, h1, Grow.refl _ _⟩
  · have : e = mid := by omega
    subst this
    apply Exists.intro; apply Exists.intro; apply And.intro
    · simp only [smT3, part, Try.f53, sub, symM, opFn, Nat.reduceLT, Nat.reduceBEq, g18, s24, bin_lss, decide_eq_false (show ¬ (e : Int) < (e : Nat) by omega)]
      rfl
    · exact ⟨d, hv, hK, permIn_refl d _ _, h2, Grow.refl _ _⟩
theorem tailL (hRo : RoOK call v n0 g) (hR : SymOK call v n0 g M) (hc : SymCut (fA d) a m b mid s e) (s0 : SmS tm v g a m b mid) (s19 : tm.get 19 = some (iv ((mid + m : Nat) : Int))) (s20 : tm.get 20 = some (iv s)) (hM : b - a ≤ M) (ham : a < mid) (hb : b ≤ d.size) (hd : d.size ≤ 480) (hK : AllK d) (hl : Srt (fA d) a m) (hr : Srt (fA d) m b) (hx : Crs (fA d) a m b) (hv : Own n0 h v (rA d) 23) :
    ∃ tm' h', codeB T0 X0 call (N + 30) ESm (.code smT) tm h [] = .fall tm' h' [] ∧ ∃ d' : Array NN, Own n0 h' v (rA d') 23 ∧ AllK d' ∧ PermIn a b d d' ∧ Srt (fA d') a b ∧ Grow n0 h h' := by
  obtain ⟨q0, q1, ⟨q2, q3⟩, ⟨q4, q5⟩, q6, q7, _, _⟩ := id hc
  obtain ⟨g0, g1, g2, g3, g4, g18⟩ := id s0
  have hw : IntKind.i64.wrap (((mid + m : Nat) : Int) - s) = (e : Int) := by rw [wsub (show mid + m ≤ 4000000 by omega) (by omega)]; omega
  have e0 : ∃ tm' h', codeB T0 X0 call (N + 29) ESm (.code smT0) tm h [] = .fall tm' h' [] ∧ (h' = h ∧ SmS tm' v g a m b mid ∧ tm'.get 20 = some (iv s) ∧ tm'.get 24 = some (iv e)) := by
    apply Exists.intro; apply Exists.intro; apply And.intro
    · simp only [smT0, part, Try.f53, sub, symM, opFn, Nat.reduceLT, Nat.reduceBEq, s19, s20, bin_sub, hw]
      rfl
    · exact ⟨rfl, ⟨by simp only [symM, Nat.reduceBEq, g0], by simp only [symM, Nat.reduceBEq, g1], by simp only [symM, Nat.reduceBEq, g2], by simp only [symM, Nat.reduceBEq, g3], by simp only [symM, Nat.reduceBEq, g4], by simp only [symM, Nat.reduceBEq, g18]⟩, by simp only [symM, Nat.reduceBEq, s20], by simp only [symM]⟩
  obtain ⟨t0, k0, e0, eh, s1, s20', s24⟩ := e0
  rw [eh] at e0
  obtain ⟨t1, k1, e1, d1, s2, s20'', s24', v1, K1, P1, f1, G1⟩ := t1L (N := N + 8) hRo s1 s20' s24 q3 q4 (by omega) hd hK hv
  have z1 : d1.size = d.size := P1.1
  have hf1 : fA d1 = rotF (fA d) s m e := funext f1
  have lo := sym_lo hc hl hr hx
  have hi := sym_hi hc hl hr hx
  have xx := sym_x hc hl hr hx
  rw [← hf1] at lo hi xx
  obtain ⟨t2, k2, e2, d2, s3, s24'', v2, K2, P2, S2, G2⟩ := t2L (N := N + 7) hR s2 s20'' s24' q2 (by omega) (by omega) (by omega) (by omega) K1 lo.1 lo.2.1 lo.2.2 v1
  have z2 : d2.size = d1.size := P2.1
  have same2 : ∀ k, mid ≤ k → fA d2 k = fA d1 k := fun k hk => P2.2.1 k (.inr hk)
  obtain ⟨t3, k3, e3, d3, v3, K3, P3, S3, G3⟩ := t3L (N := N + 7) hR s3 s24'' (by omega) q5 (by omega) (by omega) (by omega) K2 (fun i j h1 h2 h3 => by rw [same2 i (by omega), same2 j (by omega)]; exact hi.1 i j h1 h2 h3) (fun i j h1 h2 h3 => by rw [same2 i (by omega), same2 j (by omega)]; exact hi.2.1 i j h1 h2 h3) (fun i j h1 h2 h3 h4 => by rw [same2 i (by omega), same2 j (by omega)]; exact hi.2.2 i j h1 h2 h3 h4) v2
  have same3 : ∀ k, k < mid → fA d3 k = fA d2 k := fun k hk => P3.2.1 k (.inl hk)
  refine ⟨t3, k3, ?_, d3, v3, K3, ?_, ?_, (G1.trans G2 (Nat.le_refl _)).trans G3 (Nat.le_refl _)⟩
  · unfold smT
    simp only [symM, e0, e1, e2, e3]
  · exact permIn_trans _ _ _ a b (permIn_trans _ _ _ a b (permIn_mono d d1 s e a b q2 q5 hb P1) (permIn_mono d1 d2 a mid a b (Nat.le_refl _) (by omega) (by omega) P2)) (permIn_mono d2 d3 mid b a b (by omega) (Nat.le_refl _) (by omega) P3)
  · intro i j h1 h2 h3
    by_cases c1 : j < mid
    · rw [same3 i (by omega), same3 j c1]; exact S2 i j h1 h2 c1
    · by_cases c2 : mid ≤ i
      · exact S3 i j c2 h2 h3
      · have A1 : ∀ j, mid ≤ j → j < b → wpre (fA d2 i) (fA d1 j) := fun j j1 j2 => permIn_all d1 d2 a mid (fun x => wpre x (fA d1 j)) (by omega) P2 (fun i i1 i2 => xx i j i1 i2 j1 j2) i h1 (by omega)
        have A2 : wpre (fA d2 i) (fA d3 j) := permIn_all d2 d3 mid b (fun x => wpre (fA d2 i) x) (by omega) P3 (fun j j1 j2 => by rw [show d2[j]! = fA d1 j from same2 j j1]; exact A1 j j1 j2) j (by omega) h3
        rw [same3 i (by omega)]
        exact A2
end
end
end Go.Proofs.Ytcpihpjphdlmfaa.Abs
namespace Go.Proofs.Ytcpihpjphdlmfaa.Abs
open Go Go.Proofs Go.Sort
noncomputable section
variable {call : Abs.Callee}
set_option maxRecDepth 10000
set_option maxHeartbeats 4000000 in
theorem symMerge_S {v : Value} {n0 g M : Nat} {c : NN → NN → Int} (hc : CmpOK call g c) (hl : ByLen c) (hRo : RoOK call v n0 g) (hR : SymOK call v n0 g M) (a m b : Nat) (d : Array NN) (h : AH) (hM : b - a ≤ M) (ham : a < m) (hmb : m < b) (hb : b ≤ d.size) (hd : d.size ≤ 480) (hK : AllK d)
    (h1 : Srt (fA d) a m) (h2 : Srt (fA d) m b) (h3 : Crs (fA d) a m b) (hv : Own n0 h v (rA d) 23) :
    ∃ h', ∃ d' : Array NN, frameB T0 X0 call 3000 53 [v, iv a, iv m, iv b, fnV g] h = some (.tuple #[], h') ∧ Own n0 h' v (rA d') 23 ∧ AllK d' ∧ PermIn a b d d' ∧ Srt (fA d') a b ∧ Grow n0 h h' := by
  rw [frameB_eq ft53 smBody_eq rfl]
  have hwma : IntKind.i64.wrap ((m : Int) - a) = ((m - a : Nat) : Int) := wsub (by omega) (by omega)
  have hwbm : IntKind.i64.wrap ((b : Int) - m) = ((b - m : Nat) : Int) := wsub (by omega) (by omega)
  have hE : (⟨53, Try.f53.ntmps, none⟩ : Env) = ESm := rfl
  rw [hE]
  unfold smBody
  by_cases c1 : m - a = 1
  · simp only [smS0, part, Try.f53, sub, symM, opFn, Nat.reduceLT, Nat.reduceBEq, symL, bin_sub, hwma, bin_eql, show (((m - a : Nat) : Int) == 1) = true from by rw [c1]; rfl]
    generalize hX : codeB T0 X0 call _ ESm (.loop _) _ _ _ = X
    obtain ⟨t1, k1, e1, eh1, p0, p1, p2, p3, p4, i, i1, i2, i3, i4, p10⟩ := use_exit hX (Sm0L hc v n0 a m b m b d h hK hd hv (by omega) hb (by omega) (b - m + 1) m b _ _ (Nat.lt_succ_self _) (by omega) (Nat.le_refl _) (by omega) (Nat.le_refl _) (.inl rfl) (.inl rfl) (by simp only [symM, Nat.reduceBEq]) (by simp only [symM, Nat.reduceBEq]) (by simp only [symM, Nat.reduceBEq]) (by simp only [symM, Nat.reduceBEq]) (by simp only [symM, Nat.reduceBEq]) (by simp only [symM, Nat.reduceBEq]) get_same)
    clear hX
    rw [eh1] at e1
    subst e1
    simp only [symM, opFn, Nat.reduceLT, symL, p1]
    generalize hX : codeB T0 X0 call _ ESm (.loop _) _ _ _ = X
    obtain ⟨t2, k2, e2, d2, v2, K2, P2, f2, G2⟩ := use_exit hX (Sm2L v n0 a i d h (by omega) (by omega) hd (i - 1 - a) a d _ h _ (by omega) (by omega) (Nat.le_refl _) hK (permIn_refl d _ _) (fun k => by unfold mvR; rw [if_neg (by omega)]; by_cases hk : k = a <;> simp [hk]) (by simp only [symM, Nat.reduceBEq, p0]) (by simp only [symM, Nat.reduceBEq, p10]) get_same hv (Grow.refl _ _))
    clear hX
    subst e2
    have hf2 : fA d2 = mvR (fA d) a (i - 1) := funext f2
    have hm1 : m = a + 1 := by omega
    subst hm1
    refine ⟨k2, d2, ?_, v2, K2, permIn_mono d d2 a i a b (Nat.le_refl _) i2 hb P2, ?_, G2⟩
    · simp only [symM, symL]
      exact retB_zero ft53 rfl
    · rw [hf2]
      refine mvR_srt h2 h3 (by omega) (by omega) ?_ ?_
      · rcases i3 with i3 | i3
        · exact .inl (by omega)
        · rw [hl] at i3; exact .inr (of_decide_eq_true i3)
      · rcases i4 with i4 | i4
        · exact .inl (by omega)
        · rw [hl] at i4
          have := of_decide_eq_false i4
          rw [show i - 1 + 1 = i by omega]
          exact .inr (show (d[i]!).2 ≤ (d[a]!).2 by omega)
  · by_cases c2 : b - m = 1
    · simp only [smS0, smS1, part, Try.f53, sub, symM, opFn, Nat.reduceLT, Nat.reduceBEq, symL, bin_sub, hwma, hwbm, bin_eql, show (((m - a : Nat) : Int) == 1) = false from by rw [beq_eq_false_iff_ne]; omega, show (((b - m : Nat) : Int) == 1) = true from by rw [c2]; rfl]
      generalize hX : codeB T0 X0 call _ ESm (.loop _) _ _ _ = X
      obtain ⟨t1, k1, e1, eh1, p0, p1, p2, p3, p4, i, i1, i2, i3, i4, p14⟩ := use_exit hX (Sm4L hc v n0 a m b a m d h hK hd hv (by omega) (by omega) (by omega) (m - a + 1) a m _ _ (Nat.lt_succ_self _) (by omega) (Nat.le_refl _) (by omega) (Nat.le_refl _) (.inl rfl) (.inl rfl) (by simp only [symM, Nat.reduceBEq]) (by simp only [symM, Nat.reduceBEq]) (by simp only [symM, Nat.reduceBEq]) (by simp only [symM, Nat.reduceBEq]) (by simp only [symM, Nat.reduceBEq]) (by simp only [symM, Nat.reduceBEq]) get_same)
      clear hX
      rw [eh1] at e1
      subst e1
      simp only [symM, opFn, Nat.reduceLT, symL, p2]
      generalize hX : codeB T0 X0 call _ ESm (.loop _) _ _ _ = X
      obtain ⟨t2, k2, e2, d2, v2, K2, P2, f2, G2⟩ := use_exit hX (Sm6L v n0 a m i d h i1 i2 (by omega) hd (m - i) m d _ h _ (by omega) (by omega) (Nat.le_refl _) hK (permIn_refl d _ _) (fun k => by unfold mvL; by_cases hk : k = m <;> simp [hk]; intros; omega) (by simp only [symM, Nat.reduceBEq, p0]) (by simp only [symM, Nat.reduceBEq, p14]) get_same hv (Grow.refl _ _))
      clear hX
      subst e2
      have hf2 : fA d2 = mvL (fA d) i m := funext f2
      have hm1 : b = m + 1 := by omega
      subst hm1
      refine ⟨k2, d2, ?_, v2, K2, P2, ?_, G2⟩
      · simp only [symM, symL]
        exact retB_zero ft53 rfl
      · rw [hf2]
        refine mvL_srt h1 h3 i1 i2 ?_ ?_
        · rcases i3 with i3 | i3
          · exact .inl i3
          · rw [hl] at i3
            have := of_decide_eq_false i3
            exact .inr (show (d[m]!).2 ≤ (d[i - 1]!).2 by omega)
        · rcases i4 with i4 | i4
          · exact .inl i4
          · rw [hl] at i4
            exact .inr (of_decide_eq_true i4)
    · have hwab : IntKind.i64.wrap ((a : Int) + b) = ((a + b : Nat) : Int) := wadd (by omega)
      have hwu : IntKind.u64.wrap ((a + b : Nat) : Int) = ((a + b : Nat) : Int) := wu64 (by omega)
      obtain ⟨mid, emid⟩ : ∃ mid, (a + b) / 2 = mid := ⟨_, rfl⟩
      have hwm : IntKind.i64.wrap (mid : Int) = (mid : Int) := wz (by omega)
      have hwn : IntKind.i64.wrap ((mid : Int) + m) = ((mid + m : Nat) : Int) := wadd (by omega)
      have hwp : IntKind.i64.wrap (((mid + m : Nat) : Int) - 1) = ((mid + m - 1 : Nat) : Int) := by rw [wz (by omega)]; omega
      have key : ∀ (lo hi s : Nat), lo ≤ s → s ≤ hi → (lo = a ∧ hi = m ∧ m ≤ mid ∨ lo = mid + m - b ∧ hi = mid ∧ mid < m) → (s = lo ∨ ltc c d[mid + m - 1 - (s - 1)]! d[s - 1]! = false) → (s = hi ∨ ltc c d[mid + m - 1 - s]! d[s]! = true) → SymCut (fA d) a m b mid s (mid + m - s) := by
        intro lo hi s q1 q2 q3 q4 q5
        refine ⟨ham, hmb, by omega, by omega, by omega, by omega, ?_, ?_⟩
        · rcases q4 with q4 | q4
          · omega
          · by_cases hs : s = a
            · exact .inl hs
            · rw [hl] at q4
              have := of_decide_eq_false q4
              rw [show mid + m - 1 - (s - 1) = mid + m - s by omega] at this
              exact .inr (.inr (show (d[mid + m - s]!).2 ≤ (d[s - 1]!).2 by omega))
        · rcases q5 with q5 | q5
          · omega
          · rw [hl] at q5
            have := of_decide_eq_true q5
            rw [show mid + m - 1 - s = mid + m - s - 1 by omega] at this
            exact .inr (.inr this)
      by_cases c3 : mid < m
      · have hwnb : IntKind.i64.wrap (((mid + m : Nat) : Int) - b) = ((mid + m - b : Nat) : Int) := wsub (by omega) (by omega)
        simp only [smS0, smS1, smA, smB, smC, smD, smE, smF, part, Try.f53, sub, symM, opFn, Nat.reduceLT, Nat.reduceBEq, symL, bin_sub, bin_add, hwma, hwbm, bin_eql, show (((m - a : Nat) : Int) == 1) = false from by rw [beq_eq_false_iff_ne]; omega, show (((b - m : Nat) : Int) == 1) = false from by rw [beq_eq_false_iff_ne]; omega, hwab, conv_i2i und_int und_uint, conv_i2i und_uint und_int, hwu, shr1, emid, hwm, hwn, bin_gtr, decide_eq_true (show (mid : Int) < (m : Nat) by omega), hwnb, hwp]
        generalize hX : codeB T0 X0 call _ ESm (.loop _) _ _ _ = X
        obtain ⟨t1, k1, e1, eh1, p0, p1, p2, p3, p4, p18, p19, s, i1, i2, i3, i4, p20⟩ := use_exit hX (Sm8L hc v n0 a m b (mid + m - b) mid (mid + m - 1) d h hK hd hv (iv mid) (iv ((mid + m : Nat) : Int)) (by omega) (by omega) (by omega) (by omega) (by omega) (mid - (mid + m - b) + 1) (mid + m - b) mid _ _ (Nat.lt_succ_self _) (by omega) (Nat.le_refl _) (by omega) (Nat.le_refl _) (.inl rfl) (.inl rfl) (by simp only [symM, Nat.reduceBEq]) (by simp only [symM, Nat.reduceBEq]) (by simp only [symM, Nat.reduceBEq]) (by simp only [symM, Nat.reduceBEq]) (by simp only [symM, Nat.reduceBEq]) (by simp only [symM, Nat.reduceBEq]) (by simp only [symM, Nat.reduceBEq]) (by simp only [symM]) (by simp only [symM, Nat.reduceBEq]) (by simp only [symM, Nat.reduceBEq]))
        clear hX
        rw [eh1] at e1
        subst e1
        obtain ⟨t2, k2, e2, d2, v2, K2, P2, S2, G2⟩ := tailL (N := 2962) hRo hR (key _ _ s i1 i2 (.inr ⟨rfl, rfl, c3⟩) i3 i4) ⟨p0, p1, p2, p3, p4, p18⟩ p19 p20 hM (by omega) hb hd hK h1 h2 h3 hv
        refine ⟨k2, d2, ?_, v2, K2, P2, S2, G2⟩
        simp only [symM, symL, e2]
        exact retB_zero ft53 rfl
      · simp only [smS0, smS1, smA, smB, smC, smD, smE, smF, part, Try.f53, sub, symM, opFn, Nat.reduceLT, Nat.reduceBEq, symL, bin_sub, bin_add, hwma, hwbm, bin_eql, show (((m - a : Nat) : Int) == 1) = false from by rw [beq_eq_false_iff_ne]; omega, show (((b - m : Nat) : Int) == 1) = false from by rw [beq_eq_false_iff_ne]; omega, hwab, conv_i2i und_int und_uint, conv_i2i und_uint und_int, hwu, shr1, emid, hwm, hwn, bin_gtr, decide_eq_false (show ¬ (mid : Int) < (m : Nat) by omega), hwp]
        generalize hX : codeB T0 X0 call _ ESm (.loop _) _ _ _ = X
        obtain ⟨t1, k1, e1, eh1, p0, p1, p2, p3, p4, p18, p19, s, i1, i2, i3, i4, p20⟩ := use_exit hX (Sm8L hc v n0 a m b a m (mid + m - 1) d h hK hd hv (iv mid) (iv ((mid + m : Nat) : Int)) (by omega) (by omega) (by omega) (by omega) (by omega) (m - a + 1) a m _ _ (Nat.lt_succ_self _) (by omega) (Nat.le_refl _) (by omega) (Nat.le_refl _) (.inl rfl) (.inl rfl) (by simp only [symM, Nat.reduceBEq]) (by simp only [symM, Nat.reduceBEq]) (by simp only [symM, Nat.reduceBEq]) (by simp only [symM, Nat.reduceBEq]) (by simp only [symM, Nat.reduceBEq]) (by simp only [symM, Nat.reduceBEq]) (by simp only [symM, Nat.reduceBEq]) (by simp only [symM]) (by simp only [symM, Nat.reduceBEq]) (by simp only [symM, Nat.reduceBEq]))
        clear hX
        rw [eh1] at e1
        subst e1
        obtain ⟨t2, k2, e2, d2, v2, K2, P2, S2, G2⟩ := tailL (N := 2962) hRo hR (key _ _ s i1 i2 (.inl ⟨rfl, rfl, by omega⟩) i3 i4) ⟨p0, p1, p2, p3, p4, p18⟩ p19 p20 hM (by omega) hb hd hK h1 h2 h3 hv
        refine ⟨k2, d2, ?_, v2, K2, P2, S2, G2⟩
        simp only [symM, symL, e2]
        exact retB_zero ft53 rfl
end
end Go.Proofs.Ytcpihpjphdlmfaa.Abs
namespace Go.Proofs.Ytcpihpjphdlmfaa.Abs
open Go Go.Proofs Go.Sort
noncomputable section
variable {call : Abs.Callee}
set_option maxRecDepth 10000
theorem ft44 : T0.ft.get 44 = some Try.f44 := by kernel_rfl
theorem ft33 : T0.ft.get 33 = some Try.f33 := by kernel_rfl
theorem ft35 : T0.ft.get 35 = some Try.f35 := by kernel_rfl
abbrev ESt : Env := ⟨44, 63, none⟩
noncomputable def bodySt0 : Code := part Try.f44 [1, 1, 0, 0, 0]
noncomputable def bodySt2 : Code := part Try.f44 [1, 1, 1, 1, 0, 0]
noncomputable def bodySt4 : Code := part Try.f44 [1, 1, 1, 1, 0, 0, 1, 0, 1, 0, 0, 0]
theorem dvd_lt {p lo a : Nat} (h1 : p ∣ lo) (h2 : p ∣ a) (h : lo < a) : lo + p ≤ a := by
  obtain ⟨q, rfl⟩ := h1
  obtain ⟨r, rfl⟩ := h2
  have hqr : q < r := Nat.lt_of_mul_lt_mul_left h
  have := Nat.mul_le_mul_left p (show q + 1 ≤ r from hqr)
  rw [Nat.mul_add, Nat.mul_one] at this
  exact this
theorem crsAll_step {d d' : Array NN} {a b n : Nat} (hx : CrsAll (fA d) n) (hP : PermIn a b d d') (hb : b ≤ n) (hn : b ≤ d.size) (hs : Srt (fA d') a b) : CrsAll (fA d') n := by
  intro i j hij hj
  by_cases c1 : a ≤ i
  · by_cases c2 : j < b
    · exact wpre_crs (hs i j c1 hij c2)
    · rw [show fA d' j = fA d j from hP.2.1 j (.inr (by omega))]
      by_cases c3 : i < b
      · exact permIn_all d d' a b (fun x => crs x (fA d j)) hn hP (fun k k1 k2 => hx k j (by omega) hj) i c1 c3
      · rw [show fA d' i = fA d i from hP.2.1 i (.inr (by omega))]
        exact hx i j hij hj
  · rw [show fA d' i = fA d i from hP.2.1 i (.inl (by omega))]
    by_cases c2 : a ≤ j ∧ j < b
    · exact permIn_all d d' a b (fun x => crs (fA d i) x) hn hP (fun k k1 k2 => hx i k (by omega) (by omega)) j c2.1 c2.2
    · rw [show fA d' j = fA d j from hP.2.1 j (by omega)]
      exact hx i j hij hj
/-- All blocks so long are sorted. -/
def Lev (bs n : Nat) (f : Nat → NN) : Prop := ∀ lo, bs ∣ lo → lo < n → Srt f lo (min (lo + bs) n)
section
variable {v : Value} {n0 g n : Nat} {c : NN → NN → Int}
theorem ins_step (hl : ByLen c) (hI : PermOK call 52 v n0 g 0 (insertionSort (ltc c))) {d : Array NN} {h : AH} {a b : Nat} (hab : a ≤ b) (hb : b ≤ n) (hn : d.size = n) (hd : d.size ≤ 480) (hK : AllK d) (hn0 : n0 ≤ h.next) (hx : CrsAll (fA d) n) (hv : Own n0 h v (rA d) 23) :
    ∃ h', ∃ d' : Array NN, call 52 [v, iv a, iv b, fnV g] h = some (.tuple #[], h') ∧ Own n0 h' v (rA d') 23 ∧ AllK d' ∧ PermIn a b d d' ∧ Srt (fA d') a b ∧ CrsAll (fA d') n ∧ Grow n0 h h' := by
  obtain ⟨h1, e1, e2, e3, e4, e5⟩ := hI a b d h hab (by omega) hd hK hn0 hv
  obtain ⟨p1, p2⟩ := insertion_stable hl d a b hab (by omega) (fun i j h1 h2 h3 => hx i j h2 (by omega))
  exact ⟨h1, _, e1, e2, e3, p1, p2, crsAll_step hx p1 hb (by omega) p2, e5⟩
theorem st0L (hl : ByLen c) (hI : PermOK call 52 v n0 g 0 (insertionSort (ltc c))) (d0 : Array NN) (hn : d0.size = n) (hd : d0.size ≤ 480) (h0 : AH) (hn0 : n0 ≤ h0.next) :
    ∀ (k a : Nat) (d : Array NN) (tm : PM Value) (h : AH) (N : Nat), n - a < k → k + 60 ≤ N → 20 ∣ a → a ≤ n → AllK d → PermIn 0 n d0 d → CrsAll (fA d) n → (∀ lo, 20 ∣ lo → lo + 20 ≤ a → Srt (fA d) lo (lo + 20)) → tm.get 0 = some v → tm.get 1 = some (iv n) → tm.get 2 = some (fnV g) → tm.get 6 = some (iv ((20 : Nat) : Int)) → tm.get 7 = some (iv a) → tm.get 8 = some (iv ((a + 20 : Nat) : Int)) → Own n0 h v (rA d) 23 → Grow n0 h0 h →
      ∃ tm' h', codeB T0 X0 call N ESt (.loop bodySt0) tm h [] = .jump (.exit 0) tm' h' [] ∧ ∃ (a' : Nat) (d' : Array NN), 20 ∣ a' ∧ a' ≤ n ∧ n < a' + 20 ∧ AllK d' ∧ PermIn 0 n d0 d' ∧ CrsAll (fA d') n ∧ (∀ lo, 20 ∣ lo → lo + 20 ≤ a' → Srt (fA d') lo (lo + 20)) ∧ Own n0 h' v (rA d') 23 ∧ Grow n0 h0 h' ∧ tm'.get 0 = some v ∧ tm'.get 1 = some (iv n) ∧ tm'.get 2 = some (fnV g) ∧ tm'.get 6 = some (iv ((20 : Nat) : Int)) ∧ tm'.get 7 = some (iv a') := by
  intro k
  induction k with
  | zero => intro a d tm h N hk; omega
  | succ k ih =>
    intro a d tm h N hk hN hda han hK hP hx hS g0 g1 g2 g6 g7 g8 hv hg
    obtain ⟨N, rfl⟩ : ∃ a, N = a + 30 := ⟨N - 30, by omega⟩
    have hs : d.size = d0.size := hP.1
    rw [show N + 30 = (N + 29) + 1 from rfl, codeB_loop]
    by_cases hc : a + 20 ≤ n
    · obtain ⟨h1, d1, e1, e2, e3, e4, e5, e6, e7⟩ := ins_step hl hI (a := a) (b := a + 20) (by omega) hc (by omega) (by omega) hK (Nat.le_trans hn0 hg.next) hx hv
      have hw : IntKind.i64.wrap (((a + 20 : Nat) : Int) + ((20 : Nat) : Int)) = ((a + 20 + 20 : Nat) : Int) := wadd (by omega)
      simp only [bodySt0, part, Try.f44, sub, symM, opFn, Nat.reduceLT, Nat.reduceBEq, g0, g1, g2, g6, g7, g8, bin_leq, decide_eq_true (show ((a + 20 : Nat) : Int) ≤ (n : Nat) by omega), evCall_fn ft52 rfl, e1, bin_add, hw]
      refine ih (a + 20) d1 _ h1 (N + 29) (by omega) (by omega) (Nat.dvd_add hda (Nat.dvd_refl _)) hc e3 (permIn_trans _ _ _ 0 n hP (permIn_mono d d1 a (a + 20) 0 n (by omega) hc (by omega) e4)) e6 ?_ ?_ ?_ ?_ ?_ ?_ get_same e2 (hg.trans e7 (Nat.le_refl _))
      · intro lo hlo hle
        by_cases c2 : lo + 20 ≤ a
        · intro i j i1 i2 i3
          rw [show fA d1 i = fA d i from e4.2.1 i (.inl (by omega)), show fA d1 j = fA d j from e4.2.1 j (.inl (by omega))]
          exact hS lo hlo c2 i j i1 i2 i3
        · have : lo = a := by
            by_cases c3 : lo < a
            · have := dvd_lt hlo hda c3; omega
            · omega
          subst this
          exact e5
      all_goals simp only [symM, Nat.reduceBEq, g0, g1, g2, g6]
    · apply Exists.intro; apply Exists.intro; apply And.intro
      · simp only [bodySt0, part, Try.f44, sub, symM, opFn, Nat.reduceLT, Nat.reduceBEq, g1, g8, bin_leq, decide_eq_false (show ¬ ((a + 20 : Nat) : Int) ≤ (n : Nat) by omega)]
        rfl
      · exact ⟨a, d, hda, han, by omega, hK, hP, hx, hS, hv, hg, by simp only [symM, Nat.reduceBEq, g0], by simp only [symM, Nat.reduceBEq, g1], by simp only [symM, Nat.reduceBEq, g2], by simp only [symM, Nat.reduceBEq, g6], by simp only [symM, Nat.reduceBEq, g7]⟩
theorem st4L (hM : SymOK call v n0 g 1000) (d0 : Array NN) (hn : d0.size = n) (hd : d0.size ≤ 480) (bs : Nat) (hbs : 20 ≤ bs) (hbs2 : bs ≤ 1000) (h0 : AH) :
    ∀ (k a : Nat) (d : Array NN) (tm : PM Value) (h : AH) (N : Nat), n - a < k → k + 60 ≤ N → 2 * bs ∣ a → a ≤ n → AllK d → PermIn 0 n d0 d → CrsAll (fA d) n → (∀ lo, 2 * bs ∣ lo → lo + 2 * bs ≤ a → Srt (fA d) lo (lo + 2 * bs)) → (∀ lo, bs ∣ lo → a ≤ lo → lo < n → Srt (fA d) lo (min (lo + bs) n)) → tm.get 0 = some v → tm.get 1 = some (iv n) → tm.get 2 = some (fnV g) → tm.get 6 = some (iv bs) → tm.get 7 = some (iv a) → tm.get 8 = some (iv ((a + 2 * bs : Nat) : Int)) → Own n0 h v (rA d) 23 → Grow n0 h0 h →
      ∃ tm' h', codeB T0 X0 call N ESt (.loop bodySt4) tm h [] = .jump (.exit 4) tm' h' [] ∧ ∃ (a' : Nat) (d' : Array NN), 2 * bs ∣ a' ∧ a' ≤ n ∧ n < a' + 2 * bs ∧ AllK d' ∧ PermIn 0 n d0 d' ∧ CrsAll (fA d') n ∧ (∀ lo, 2 * bs ∣ lo → lo + 2 * bs ≤ a' → Srt (fA d') lo (lo + 2 * bs)) ∧ (∀ lo, bs ∣ lo → a' ≤ lo → lo < n → Srt (fA d') lo (min (lo + bs) n)) ∧ Own n0 h' v (rA d') 23 ∧ Grow n0 h0 h' ∧ tm'.get 0 = some v ∧ tm'.get 1 = some (iv n) ∧ tm'.get 2 = some (fnV g) ∧ tm'.get 6 = some (iv bs) ∧ tm'.get 7 = some (iv a') := by
  intro k
  induction k with
  | zero => intro a d tm h N hk; omega
  | succ k ih =>
    intro a d tm h N hk hN hda han hK hP hx hA hB g0 g1 g2 g6 g7 g8 hv hg
    obtain ⟨N, rfl⟩ : ∃ a, N = a + 30 := ⟨N - 30, by omega⟩
    have hs : d.size = d0.size := hP.1
    have hdb : bs ∣ a := Nat.dvd_trans (Nat.dvd_mul_left bs 2) hda
    rw [show N + 30 = (N + 29) + 1 from rfl, codeB_loop]
    by_cases hc : a + 2 * bs ≤ n
    · have s1 : Srt (fA d) a (a + bs) := by have := hB a hdb (Nat.le_refl _) (by omega); rwa [show min (a + bs) n = a + bs by omega] at this
      have s2 : Srt (fA d) (a + bs) (a + 2 * bs) := by have := hB (a + bs) (Nat.dvd_add hdb (Nat.dvd_refl _)) (by omega) (by omega); rwa [show min (a + bs + bs) n = a + 2 * bs by omega] at this
      obtain ⟨h1, d1, e1, e2, e3, e4, e5, e7⟩ := hM a (a + bs) (a + 2 * bs) d h (by omega) (by omega) (by omega) (by omega) (by omega) hK s1 s2 (fun i j h1 h2 h3 h4 => hx i j (by omega) (by omega)) hv
      have e6 := crsAll_step hx e4 hc (by omega) e5
      have hw0 : IntKind.i64.wrap ((a : Int) + bs) = ((a + bs : Nat) : Int) := wadd (by omega)
      have hw1 : IntKind.i64.wrap (2 * (bs : Int)) = ((2 * bs : Nat) : Int) := by rw [wz (by omega)]; omega
      have hw : IntKind.i64.wrap (((a + 2 * bs : Nat) : Int) + ((2 * bs : Nat) : Int)) = ((a + 2 * bs + 2 * bs : Nat) : Int) := wadd (by omega)
      simp only [bodySt4, part, Try.f44, sub, symM, opFn, Nat.reduceLT, Nat.reduceBEq, g0, g1, g2, g6, g7, g8, bin_leq, decide_eq_true (show ((a + 2 * bs : Nat) : Int) ≤ (n : Nat) by omega), bin_add, bin_mul, hw0, evCall_fn ft53 rfl, e1, hw1, hw]
      refine ih (a + 2 * bs) d1 _ h1 (N + 29) (by omega) (by omega) (Nat.dvd_add hda (Nat.dvd_refl _)) hc e3 (permIn_trans _ _ _ 0 n hP (permIn_mono d d1 a (a + 2 * bs) 0 n (by omega) hc (by omega) e4)) e6 ?_ ?_ ?_ ?_ ?_ ?_ ?_ get_same e2 (hg.trans e7 (Nat.le_refl _))
      · intro lo hlo hle
        by_cases c2 : lo + 2 * bs ≤ a
        · intro i j i1 i2 i3
          rw [show fA d1 i = fA d i from e4.2.1 i (.inl (by omega)), show fA d1 j = fA d j from e4.2.1 j (.inl (by omega))]
          exact hA lo hlo c2 i j i1 i2 i3
        · have : lo = a := by
            by_cases c3 : lo < a
            · have := dvd_lt hlo hda c3; omega
            · omega
          subst this
          exact e5
      · intro lo hlo hle hln i j i1 i2 i3
        rw [show fA d1 i = fA d i from e4.2.1 i (.inr (by omega)), show fA d1 j = fA d j from e4.2.1 j (.inr (by omega))]
        exact hB lo hlo (by omega) hln i j i1 i2 i3
      all_goals simp only [symM, Nat.reduceBEq, g0, g1, g2, g6]
    · apply Exists.intro; apply Exists.intro; apply And.intro
      · simp only [bodySt4, part, Try.f44, sub, symM, opFn, Nat.reduceLT, Nat.reduceBEq, g1, g8, bin_leq, decide_eq_false (show ¬ ((a + 2 * bs : Nat) : Int) ≤ (n : Nat) by omega)]
        rfl
      · exact ⟨a, d, hda, han, by omega, hK, hP, hx, hA, hB, hv, hg, by simp only [symM, Nat.reduceBEq, g0], by simp only [symM, Nat.reduceBEq, g1], by simp only [symM, Nat.reduceBEq, g2], by simp only [symM, Nat.reduceBEq, g6], by simp only [symM, Nat.reduceBEq, g7]⟩
theorem lev_next {f : Nat → NN} {bs a : Nat} (hbs : 0 < bs) (hda : 2 * bs ∣ a) (h2 : n < a + 2 * bs) (han : a ≤ n) (hA : ∀ lo, 2 * bs ∣ lo → lo + 2 * bs ≤ a → Srt f lo (lo + 2 * bs)) (hS : Srt f a n) : Lev (2 * bs) n f := by
  intro lo hlo hln
  by_cases c2 : lo < a
  · have := dvd_lt hlo hda c2
    rw [show min (lo + 2 * bs) n = lo + 2 * bs by omega]
    exact hA lo hlo this
  · have : lo = a := by
      by_cases c3 : a < lo
      · have := dvd_lt hda hlo c3; omega
      · omega
    subst this
    rw [show min (lo + 2 * bs) n = n by omega]
    exact hS
theorem st2L (hM : SymOK call v n0 g 1000) (d0 : Array NN) (hn : d0.size = n) (hd : d0.size ≤ 480) (h0 : AH) :
    ∀ (k bs : Nat) (d : Array NN) (tm : PM Value) (h : AH) (N : Nat), n - bs < k → k + 600 ≤ N → 20 ≤ bs → bs ≤ 1000 → AllK d → PermIn 0 n d0 d → CrsAll (fA d) n → Lev bs n (fA d) → tm.get 0 = some v → tm.get 1 = some (iv n) → tm.get 2 = some (fnV g) → tm.get 6 = some (iv bs) → Own n0 h v (rA d) 23 → Grow n0 h0 h →
      ∃ tm' h', codeB T0 X0 call N ESt (.loop bodySt2) tm h [] = .jump (.exit 2) tm' h' [] ∧ ∃ (d' : Array NN), AllK d' ∧ PermIn 0 n d0 d' ∧ Srt (fA d') 0 n ∧ Own n0 h' v (rA d') 23 ∧ Grow n0 h0 h' := by
  intro k
  induction k with
  | zero => intro bs d tm h N hk; omega
  | succ k ih =>
    intro bs d tm h N hk hN hbs hbs2 hK hP hx hL g0 g1 g2 g6 hv hg
    obtain ⟨N, rfl⟩ : ∃ a, N = a + 30 := ⟨N - 30, by omega⟩
    rw [show N + 30 = (N + 29) + 1 from rfl, codeB_loop]
    by_cases hc : bs < n
    · have hw1 : IntKind.i64.wrap (2 * (bs : Int)) = ((2 * bs : Nat) : Int) := by rw [wz (by omega)]; omega
      have hw2 : IntKind.i64.wrap ((bs : Int) * 2) = ((2 * bs : Nat) : Int) := by rw [wz (by omega)]; omega
      simp only [bodySt2, part, Try.f44, sub, symM, opFn, Nat.reduceLT, Nat.reduceBEq, symL, g1, g6, bin_lss, decide_eq_true (show (bs : Int) < (n : Nat) by omega), bin_mul, hw1]
      generalize hX : codeB T0 X0 call _ ESt (.loop _) _ _ _ = X
      obtain ⟨t1, k1, e1, a, d1, q1, q2, q3, K1, P1, x1, A1, B1, v1, G1, p0, p1, p2, p6, p7⟩ := use_exit hX (st4L hM d0 hn hd bs hbs hbs2 h0 (n + 1) 0 d _ h _ (by omega) (by omega) (Nat.dvd_zero _) (Nat.zero_le _) hK hP hx (fun lo _ h => by omega) (fun lo hlo _ hln => hL lo hlo hln) (by simp only [symM, Nat.reduceBEq, g0]) (by simp only [symM, Nat.reduceBEq, g1]) (by simp only [symM, Nat.reduceBEq, g2]) (by simp only [symM, Nat.reduceBEq, g6]) (by simp only [symM, Nat.reduceBEq]; rfl) (by simp only [symM]; rw [Nat.zero_add]) hv hg)
      clear hX
      subst e1
      have hs1 : d1.size = d0.size := P1.1
      have hdb : bs ∣ a := Nat.dvd_trans (Nat.dvd_mul_left bs 2) q1
      have hw0 : IntKind.i64.wrap ((a : Int) + bs) = ((a + bs : Nat) : Int) := wadd (by omega)
      by_cases hm : a + bs < n
      · have s1 : Srt (fA d1) a (a + bs) := by have := B1 a hdb (Nat.le_refl _) (by omega); rwa [show min (a + bs) n = a + bs by omega] at this
        have s2 : Srt (fA d1) (a + bs) n := by have := B1 (a + bs) (Nat.dvd_add hdb (Nat.dvd_refl _)) (by omega) (by omega); rwa [show min (a + bs + bs) n = n by omega] at this
        obtain ⟨h2, d2, f1, f2, f3, f4, f5, f7⟩ := hM a (a + bs) n d1 k1 (by omega) (by omega) hm (by omega) (by omega) K1 s1 s2 (fun i j h1 h2 h3 h4 => x1 i j (by omega) (by omega)) v1
        have f6 := crsAll_step x1 f4 (Nat.le_refl _) (by omega) f5
        simp only [symM, opFn, Nat.reduceLT, Nat.reduceBEq, symL, p0, p1, p2, p6, p7, bin_add, hw0, bin_lss, decide_eq_true (show ((a + bs : Nat) : Int) < (n : Nat) by omega), evCall_fn ft53 rfl, f1, bin_mul, hw2]
        refine ih (2 * bs) d2 _ h2 (N + 29) (by omega) (by omega) (by omega) (by omega) f3 (permIn_trans _ _ _ 0 n P1 (permIn_mono d1 d2 a n 0 n (by omega) (Nat.le_refl _) (by omega) f4)) f6 (lev_next (by omega) q1 q3 q2 (fun lo hlo hle i j i1 i2 i3 => ?_) f5) ?_ ?_ ?_ get_same f2 (G1.trans f7 (Nat.le_refl _))
        · rw [show fA d2 i = fA d1 i from f4.2.1 i (.inl (by omega)), show fA d2 j = fA d1 j from f4.2.1 j (.inl (by omega))]
          exact A1 lo hlo hle i j i1 i2 i3
        all_goals simp only [symM, Nat.reduceBEq, p0, p1, p2]
      · simp only [symM, opFn, Nat.reduceLT, Nat.reduceBEq, symL, p1, p6, p7, bin_add, hw0, bin_lss, decide_eq_false (show ¬ ((a + bs : Nat) : Int) < (n : Nat) by omega), bin_mul, hw2]
        have s1 : Srt (fA d1) a n := by
          by_cases ha : a < n
          · have := B1 a hdb (Nat.le_refl _) ha; rwa [show min (a + bs) n = n by omega] at this
          · intro i j i1 i2 i3; omega
        refine ih (2 * bs) d1 _ k1 (N + 29) (by omega) (by omega) (by omega) (by omega) K1 P1 x1 (lev_next (by omega) q1 q3 q2 A1 s1) ?_ ?_ ?_ get_same v1 G1 <;> simp only [symM, Nat.reduceBEq, p0, p1, p2]
    · apply Exists.intro; apply Exists.intro; apply And.intro
      · simp only [bodySt2, part, Try.f44, sub, symM, opFn, Nat.reduceLT, Nat.reduceBEq, g1, g6, bin_lss, decide_eq_false (show ¬ (bs : Int) < (n : Nat) by omega)]
        rfl
      · refine ⟨d, hK, hP, ?_, hv, hg⟩
        by_cases h0n : 0 < n
        · have := hL 0 (Nat.dvd_zero _) h0n
          rwa [show min (0 + bs) n = n by omega] at this
        · intro i j i1 i2 i3; omega
theorem stable_S (hl : ByLen c) (hI : PermOK call 52 v n0 g 0 (insertionSort (ltc c))) (hM : SymOK call v n0 g 1000) (d : Array NN) (h : AH) (hd : d.size ≤ 480) (hK : AllK d) (hn0 : n0 ≤ h.next) (hx : CrsAll (fA d) d.size) (hv : Own n0 h v (rA d) 23) :
    ∃ h', ∃ d' : Array NN, frameB T0 X0 call 3000 44 [v, iv d.size, fnV g] h = some (.tuple #[], h') ∧ Own n0 h' v (rA d') 23 ∧ AllK d' ∧ PermIn 0 d.size d d' ∧ Srt (fA d') 0 d.size ∧ Grow n0 h h' := by
  rw [frameB_eq ft44 rfl rfl]
  simp only [Try.f44, symM, opFn, Nat.reduceLT, Nat.reduceBEq, symL]
  generalize hX : codeB T0 X0 call _ ESt (.loop _) _ _ _ = X
  obtain ⟨t1, k1, e1, a, d1, q1, q2, q3, K1, P1, x1, S1, v1, G1, p0, p1, p2, p6, p7⟩ := use_exit hX (st0L hl hI d rfl hd h hn0 (d.size + 1) 0 d _ h _ (by omega) (by omega) (Nat.dvd_zero _) (Nat.zero_le _) hK (permIn_refl d _ _) hx (fun lo _ h => by omega) (by simp only [symM, Nat.reduceBEq]) (by simp only [symM, Nat.reduceBEq]) (by simp only [symM, Nat.reduceBEq]) (by simp only [symM, Nat.reduceBEq]; rfl) (by simp only [symM, Nat.reduceBEq]; rfl) (by simp only [symM]; rfl) hv (Grow.refl _ _))
  clear hX
  subst e1
  have hs1 : d1.size = d.size := P1.1
  obtain ⟨h2, d2, f1, f2, f3, f4, f5, f6, f7⟩ := ins_step hl hI (a := a) (b := d.size) q2 (Nat.le_refl _) hs1 (by omega) K1 (Nat.le_trans hn0 G1.next) x1 v1
  have hL : Lev 20 d.size (fA d2) := by
    intro lo hlo hln
    by_cases c2 : lo < a
    · have := dvd_lt hlo q1 c2
      rw [show min (lo + 20) d.size = lo + 20 by omega]
      intro i j i1 i2 i3
      rw [show fA d2 i = fA d1 i from f4.2.1 i (.inl (by omega)), show fA d2 j = fA d1 j from f4.2.1 j (.inl (by omega))]
      exact S1 lo hlo this i j i1 i2 i3
    · have : lo = a := by
        by_cases c3 : a < lo
        · have := dvd_lt q1 hlo c3; omega
        · omega
      subst this
      rw [show min (lo + 20) d.size = d.size by omega]
      exact f5
  simp only [symM, opFn, Nat.reduceLT, Nat.reduceBEq, symL, p0, p1, p2, p7, evCall_fn ft52 rfl, f1]
  generalize hX : codeB T0 X0 call _ ESt (.loop _) _ _ _ = X
  obtain ⟨t3, k3, e3, d3, K3, P3, S3, v3, G3⟩ := use_exit hX (st2L hM d rfl hd h (d.size + 1) 20 d2 _ h2 _ (by omega) (by omega) (Nat.le_refl _) (by omega) f3 (permIn_trans _ _ _ 0 d.size P1 (permIn_mono d1 d2 a d.size 0 d.size (by omega) (Nat.le_refl _) (by omega) f4)) f6 hL (by simp only [symM, Nat.reduceBEq, p0]) (by simp only [symM, Nat.reduceBEq, p1]) (by simp only [symM, Nat.reduceBEq, p2]) (by simp only [symM, Nat.reduceBEq, p6]) f2 (G1.trans f7 (Nat.le_refl _)))
  clear hX
  subst e3
  refine ⟨k3, d3, ?_, v3, K3, P3, S3, G3⟩
  simp only [symM, symL]
  exact retB_zero ft44 rfl
end
end
end Go.Proofs.Ytcpihpjphdlmfaa.Abs
namespace Go.Proofs.Ytcpihpjphdlmfaa.Abs
open Go Go.Proofs Go.Sort
noncomputable section
variable {call : Abs.Callee}
set_option maxRecDepth 10000
def KL (L : List NN) : Prop := ∀ p ∈ L, KP p
theorem allK_of {L : List NN} (h : KL L) : AllK L.toArray := by
  intro i
  by_cases hi : i < L.length
  · have : L.toArray[i]! = L[i] := by simp [hi]
    rw [this]
    exact h _ (List.getElem_mem _)
  · have : L.toArray[i]! = default := by simp [hi]
    rw [this]
    exact ⟨by decide, by decide⟩
theorem fA_list {L : List NN} {i : Nat} (h : i < L.length) : fA L.toArray i = L[i] := by
  show L.toArray[i]! = L[i]
  simp [h]
theorem rA_list (L : List NN) : rA L.toArray = runsV L := rfl
theorem perm_list {d d' : Array NN} (h : PermIn 0 d.size d d') : d'.toList.Perm d.toList := by
  have := h.2.2
  rw [show d.extract 0 d.size = d from by simp, show d'.extract 0 d.size = d' from by rw [← h.1]; simp] at this
  exact this
theorem srt_list {d : Array NN} {n : Nat} {R : NN → NN → Prop} (hn : d.size = n) (h : ∀ i j, 0 ≤ i → i < j → j < n → R (fA d i) (fA d j)) : d.toList.Pairwise R := by
  rw [List.pairwise_iff_getElem]
  intro i j hi hj hij
  have e1 : d.toList[i] = fA d i := by
    show d.toList[i] = d[i]!
    simp at hi
    simp [hi]
  have e2 : d.toList[j] = fA d j := by
    show d.toList[j] = d[j]!
    simp at hj
    simp [hj]
  rw [e1, e2]
  exact h i j (Nat.zero_le _) hij (by simpa [hn] using hj)
theorem crsAll_list {L : List NN} (h : L.Pairwise crs) : CrsAll (fA L.toArray) L.length := by
  intro i j hij hj
  rw [fA_list (by omega), fA_list hj]
  exact List.pairwise_iff_getElem.1 h i j (by omega) hj hij
def StOK (call : Abs.Callee) (v : Value) (n0 g : Nat) : Prop := ∀ (d : Array NN) (h : AH), d.size ≤ 480 → AllK d → n0 ≤ h.next → CrsAll (fA d) d.size → Own n0 h v (rA d) 23 →
    ∃ h', ∃ d' : Array NN, call 44 [v, iv d.size, fnV g] h = some (.tuple #[], h') ∧ Own n0 h' v (rA d') 23 ∧ AllK d' ∧ PermIn 0 d.size d d' ∧ Srt (fA d') 0 d.size ∧ Grow n0 h h'
theorem SortStable_S {v : Value} {n0 g : Nat} (hS : StOK call v n0 g) (L : List NN) (h : AH) (hL : L.length ≤ 480) (hK : KL L) (hn0 : n0 ≤ h.next) (hx : L.Pairwise crs) (hv : Own n0 h v (runsV L) 23) :
    ∃ h', ∃ S : List NN, frameB T0 X0 call 3000 33 [v, fnV g] h = some (.tuple #[], h') ∧ Own n0 h' v (runsV S) 23 ∧ S.Perm L ∧ S.Pairwise wpre ∧ Grow n0 h h' := by
  rw [frameB_eq ft33 rfl rfl]
  obtain ⟨h1, d1, e1, e2, e3, e4, e5, e6⟩ := hS L.toArray h (by simpa using hL) (allK_of hK) hn0 (by simpa using crsAll_list hx) hv
  have hsz : d1.size = L.toArray.size := e4.1
  refine ⟨h1, d1.toList, ?_, e2, by simpa using perm_list e4, srt_list hsz e5, e6⟩
  have hlen : ((runsV L).length : Int) = (L.toArray.size : Nat) := by simp [runsV]
  simp only [Try.f33, symM, opFn, Nat.reduceLT, Nat.reduceBEq, hv.row.len und_c128s, hlen, evCall_fn ft44 rfl, e1]
  exact retB_zero ft33 rfl
theorem SortFunc_S {v : Value} {n0 g : Nat} {c : NN → NN → Int} (hP : PdqOK call g c v n0 1000) (hLen : ∀ (n : Nat) (h : AH), n < 512 → call 46 [uv n] h = some (iv (bitsLen n), h)) (hw : SWO (ltc c)) (L : List NN) (h : AH) (hL : L.length ≤ 480) (hK : KL L) (hn0 : n0 ≤ h.next) (hv : Own n0 h v (runsV L) 23) :
    ∃ h', ∃ S : List NN, frameB T0 X0 call 3000 35 [v, fnV g] h = some (.tuple #[], h') ∧ Own n0 h' v (runsV S) 23 ∧ S.Perm L ∧ S.Pairwise (fun x y => ltc c y x = false) ∧ Grow n0 h h' := by
  rw [frameB_eq ft35 rfl rfl]
  have hs : L.toArray.size = L.length := by simp
  obtain ⟨h1, e1, e2, e3, e4, e5⟩ := hP 0 L.toArray.size (bitsLen L.toArray.size) L.toArray h (by omega) (by omega) (by have := (len512 L.toArray.size (by omega)).1; omega) (Nat.le_refl _) (by omega) (allK_of hK) hn0 hv
  obtain ⟨p1, p2⟩ := pdq_sorts (ltc c) hw L.toArray 0 L.toArray.size (bitsLen L.toArray.size) true true (Nat.zero_le _) (Nat.le_refl _) (.inl rfl)
  refine ⟨h1, _, ?_, e2, by simpa using perm_list p1, srt_list e4 p2, e5⟩
  have hlen : ((runsV L).length : Int) = (L.toArray.size : Nat) := by simp [runsV]
  have e1' : call 45 [v, iv 0, iv L.toArray.size, iv (bitsLen L.toArray.size), fnV g] h = some (.tuple #[], h1) := e1
  simp only [Try.f35, symM, opFn, Nat.reduceLT, Nat.reduceBEq, hv.row.len und_c128s, hlen, conv_i2i und_int und_uint, wu64 (show L.toArray.size < 18446744073709551616 by omega), evCall_fn ft46 rfl, hLen L.toArray.size h (by omega), evCall_fn ft45 rfl, e1']
  exact retB_zero ft35 rfl
end
end Go.Proofs.Ytcpihpjphdlmfaa.Abs
