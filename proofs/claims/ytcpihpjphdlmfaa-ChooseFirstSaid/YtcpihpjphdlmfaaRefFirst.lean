/- The reference's gaps and first run, for every memory. -/
import Derived.Test.YtcpihpjphdlmfaaRefMap
namespace Go.Proofs.Ytcpihpjphdlmfaa.Abs
open Go Go.Proofs
noncomputable section
variable {call : Abs.Callee}
set_option maxRecDepth 10000
def flipB (b : Nat → Bool) (i : Nat) (j : Nat) : Bool := if j < i then !b j else b j
theorem boolsV_set (f : Nat → Bool) (k i : Nat) (x : Bool) : (boolsV f 0 k).set i (.bool x) = boolsV (fun j => if j = i then x else f j) 0 k := by
  apply List.ext_getElem?
  intro j
  rw [List.getElem?_set]
  by_cases hj : j < k
  · rw [boolsV_at _ hj]
    by_cases hij : i = j
    · subst hij; rw [if_pos rfl, if_pos (by rw [boolsV_len]; exact hj), boolsV_at _ hj, if_pos rfl]
    · rw [if_neg hij, boolsV_at _ hj, if_neg (fun q => hij q.symm)]
  · have h1 : (boolsV f 0 k)[j]? = none := List.getElem?_eq_none (by rw [boolsV_len]; omega)
    have h2 : (boolsV (fun j => if j = i then x else f j) 0 k)[j]? = none := List.getElem?_eq_none (by rw [boolsV_len]; omega)
    rw [h1, h2]
    by_cases hij : i = j
    · rw [if_pos hij, if_neg (by rw [boolsV_len]; omega)]
    · rw [if_neg hij]
theorem boolsV_congr (f g : Nat → Bool) (k : Nat) (h : ∀ j, j < k → f j = g j) : boolsV f 0 k = boolsV g 0 k := by
  unfold boolsV
  apply List.map_congr_left
  intro j hj
  rw [List.mem_range'_1] at hj
  rw [h j (by omega)]
noncomputable def bodyDn : Code := part Try.f20 [1, 1, 1, 1, 0, 1, 0, 0]
abbrev EDn : Env := ⟨20, 42, none⟩
theorem dnL (b : Nat → Bool) (x1 x2 : Value) (n0 : Nat) (h0 : AH) (hn0 : n0 ≤ h0.next) (v : Value) :
    ∀ (k i : Nat) (tm : PM Value) (h : AH) (N : Nat), i + k = 480 → k + 20 ≤ N → tm.get 1 = some x1 → tm.get 2 = some x2 → tm.get 8 = some v → tm.get 9 = some (iv i) → Own n0 h v (boolsV (flipB b i) 0 480) 4 → Grow n0 h0 h →
      ∃ tm' h', codeB T0 X0 call N EDn (.loop bodyDn) tm h [] = .jump (.exit 0) tm' h' [] ∧ (tm'.get 1 = some x1 ∧ tm'.get 2 = some x2 ∧ tm'.get 8 = some v ∧ Own n0 h' v (boolsV (fun i => !b i) 0 480) 4 ∧ Grow n0 h0 h') := by
  intro k
  induction k with
  | zero =>
    intro i tm h N hi hN g1 g2 g8 g9 hv hg
    obtain ⟨N, rfl⟩ : ∃ a, N = a + 20 := ⟨N - 20, by omega⟩
    have hlt : decide ((i : Int) < 480) = false := decide_eq_false (by omega)
    have hi2 : i = 480 := by omega
    apply Exists.intro; apply Exists.intro; apply And.intro
    · rw [codeB_loop]
      simp only [bodyDn, part, Try.f20, sub, symM, opFn, Nat.reduceLT, Nat.reduceBEq, g9, bin_lss, hlt]
      rfl
    · refine ⟨by simp only [symM, Nat.reduceBEq, g1], by simp only [symM, Nat.reduceBEq, g2], by simp only [symM, Nat.reduceBEq, g8], ?_, hg⟩
      rw [← boolsV_congr (flipB b 480) _ 480 (fun j hj => by unfold flipB; rw [if_pos hj])]
      subst hi2
      exact hv
  | succ k ih =>
    intro i tm h N hi hN g1 g2 g8 g9 hv hg
    obtain ⟨N, rfl⟩ : ∃ a, N = a + 20 := ⟨N - 20, by omega⟩
    have hlt : decide ((i : Int) < 480) = true := decide_eq_true (by omega)
    have hw : IntKind.i64.wrap ((i : Int) + 1) = ((i + 1 : Nat) : Int) := by rw [IntWalk.i64_in _ (by omega)]; simp
    have hat := boolsV_at (flipB b i) (k := 480) (i := i) (by omega)
    obtain ⟨p, e1, e2⟩ := hv.row.at und_bools sz_bool agg_bool hat
    obtain ⟨p2, h2, s1, s2, s3, s4, s5⟩ := hv.store und_bools sz_bool (x := .bool (!flipB b i i)) rfl hat
    rw [e1] at s1; cases s1
    rw [show N + 20 = (N + 19) + 1 from rfl, codeB_loop]
    simp only [bodyDn, part, Try.f20, sub, symM, opFn, Nat.reduceLT, Nat.reduceBEq, g8, g9, bin_lss, hlt, e1, e2, s2, bin_add, hw]
    have hl : (boolsV (flipB b i) 0 480).set i (.bool (!flipB b i i)) = boolsV (flipB b (i + 1)) 0 480 := by
      rw [boolsV_set]
      apply boolsV_congr
      intro j _
      unfold flipB
      by_cases hj : j = i
      · subst hj; rw [if_pos rfl, if_neg (by omega), if_pos (by omega)]
      · rw [if_neg hj]
        by_cases hj2 : j < i
        · rw [if_pos hj2, if_pos (by omega)]
        · rw [if_neg hj2, if_neg (by omega)]
    rw [hl] at s3
    refine ih (i + 1) _ h2 (N + 19) (by omega) (by omega) ?_ ?_ ?_ get_same s3 (hg.trans s4 (Nat.le_refl _)) <;> simp only [symM, Nat.reduceBEq, g1, g2, g8]
theorem rDown_S (bs : List Nat) (m : Value) (h : AH) (a b : Int) (hm : Row h.next h m (bytesV bs) 5)
    (hU : bs.length = 60 → ∃ v h', call 17 [m] h = some (v, h') ∧ Own h.next h' v (boolsV (bitB bs) 0 480) 4 ∧ Grow h.next h h')
    (hR : ∀ (f : Nat → Bool) (s : Value) (h : AH) (a b : Nat), a ≤ b → b ≤ 480 → Row h.next h s (boolsV f 0 480) 4 → ∃ v h', call 39 [s, iv a, iv b] h = some (v, h') ∧ Own h.next h' v (runsV (gapsG f (b - a) a a)) 23 ∧ Grow h.next h h') :
    ∃ v h', frameB T0 X0 call 3000 20 [m, iv a, iv b] h = some (.tuple #[v, iv (downE bs.length a b)], h') ∧ Own h.next h' v (runsV (downG bs a b)) 23 ∧ Grow h.next h h' := by
  have hlen := fun (ty : TypeId) (h' : AH) => hm.len (T := T0) (ty := ty) (h' := h') und_bytes
  have hl : (bytesV bs).length = bs.length := by simp [bytesV]
  rw [hl] at hlen
  rw [frameB_eq ft20 rfl rfl]
  by_cases h60 : bs.length = 60
  · have e60 : ((bs.length : Int) == 60) = true := by rw [h60]; rfl
    by_cases herr : a < 0 ∨ a > b ∨ b > 480
    · have hE : downE bs.length a b = 1 := by unfold downE; rw [if_neg (fun hh => hh h60), if_pos herr]
      have hG : downG bs a b = [] := by unfold downG; rw [hE]; rfl
      rw [hE, hG]
      refine ⟨.slice none 0 0, h, ?_, Own.nil _ _ _, Grow.refl _ _⟩
      by_cases h1 : a < 0
      · simp only [Try.f20, symM, opFn, Nat.reduceLT, Nat.reduceBEq, hlen, bin_neq, e60, bin_lss, decide_eq_true h1]
        exact retB_two ft20 rfl (by simp only [symM, Nat.reduceBEq]) get_same
      · by_cases h2 : b < a
        · simp only [Try.f20, symM, opFn, Nat.reduceLT, Nat.reduceBEq, hlen, bin_neq, e60, bin_lss, decide_eq_false h1, bin_gtr, decide_eq_true h2]
          exact retB_two ft20 rfl (by simp only [symM, Nat.reduceBEq]) get_same
        · have h3 : 480 < b := by omega
          simp only [Try.f20, symM, opFn, Nat.reduceLT, Nat.reduceBEq, hlen, bin_neq, e60, bin_lss, decide_eq_false h1, bin_gtr, decide_eq_false h2, decide_eq_true h3]
          exact retB_two ft20 rfl (by simp only [symM, Nat.reduceBEq]) get_same
    · have hE : downE bs.length a b = 0 := by unfold downE; rw [if_neg (fun hh => hh h60), if_neg herr]
      obtain ⟨a, rfl⟩ : ∃ n : Nat, a = n := ⟨a.toNat, by omega⟩
      obtain ⟨b, rfl⟩ : ∃ n : Nat, b = n := ⟨b.toNat, by omega⟩
      have hG : downG bs (a : Int) b = gapsG (fun i => !bitB bs i) (b - a) a a := by unfold downG; rw [hE, if_pos rfl]; rfl
      rw [hE, hG]
      obtain ⟨v1, h1, u1, u2, u3⟩ := hU h60
      have hv0 : Own h.next h1 v1 (boolsV (flipB (bitB bs) 0) 0 480) 4 := by
        rw [boolsV_congr (flipB (bitB bs) 0) (bitB bs) 480 (fun j _ => by unfold flipB; rw [if_neg (by omega)])]; exact u2
      have hL := fun tm N => dnL (call := call) (bitB bs) (iv a) (iv b) h.next h (Nat.le_refl _) v1 480 0 tm h1 N (by omega)
      simp only [Try.f20, symM, opFn, Nat.reduceLT, Nat.reduceBEq, hlen, bin_neq, e60, bin_lss, decide_eq_false (show ¬ (a : Int) < 0 by omega), bin_gtr, decide_eq_false (show ¬ (b : Int) < a by omega), decide_eq_false (show ¬ (480 : Int) < b by omega), evCall_fn ft17 rfl, u1]
      refine bind_loop (b := bodyDn) (P := fun x => ∃ v h', endF T0 20 x = some (.tuple #[v, iv 0], h') ∧ Own h.next h' v (runsV (gapsG (fun i => !bitB bs i) (b - a) a a)) 23 ∧ Grow h.next h h') (hL _ _ (by omega) (by simp only [symM, Nat.reduceBEq]) (by simp only [symM, Nat.reduceBEq]) (by simp only [symM, Nat.reduceBEq]) (by simp only [symM, Nat.reduceBEq]; rfl) hv0 u3) ?_
      intro tm2 h2 ⟨p1, p2, p8, p4, p5⟩
      obtain ⟨v3, h3, r1, r2, r3⟩ := hR (fun i => !bitB bs i) v1 h2 a b (by omega) (by omega) p4.row
      refine ⟨v3, h3, ?_, r2.less p5.next, p5.trans r3 p5.next⟩
      simp only [symM, opFn, Nat.reduceLT, Nat.reduceBEq, p1, p2, p8, evCall_fn ft39 rfl, r1]
      exact retB_two ft20 rfl (by simp only [symM, Nat.reduceBEq]) get_same
  · have e60 : ((bs.length : Int) == 60) = false := by simp; omega
    have hE : downE bs.length a b = 2 := by unfold downE; rw [if_pos h60]
    have hG : downG bs a b = [] := by unfold downG; rw [hE]; rfl
    rw [hE, hG]
    refine ⟨.slice none 0 0, h, ?_, Own.nil _ _ _, Grow.refl _ _⟩
    simp only [Try.f20, symM, opFn, Nat.reduceLT, Nat.reduceBEq, hlen, bin_neq, e60]
    exact retB_two ft20 rfl (by simp only [symM, Nat.reduceBEq]) get_same
theorem rGaps_S (bs : List Nat) (m : Value) (h : AH) (n a b : Int)
    (hD : ∃ v h', call 20 [m, iv a, iv b] h = some (.tuple #[v, iv (downE bs.length a b)], h') ∧ Own h.next h' v (runsV (downG bs a b)) 23 ∧ Grow h.next h h') :
    ∃ v h', frameB T0 X0 call 3000 25 [m, iv n, iv a, iv b] h = some (.tuple #[v, iv (gapE bs.length n a b)], h') ∧ Own h.next h' v (runsV (downG bs a b)) 23 ∧ Grow h.next h h' := by
  obtain ⟨v, h', e1, e2, e3⟩ := hD
  refine ⟨v, h', ?_, e2, e3⟩
  rw [frameB_eq ft25 rfl rfl]
  by_cases h0 : downE bs.length a b = 0
  · by_cases hn : n < 1 ∨ n > 480
    · have hE : gapE bs.length n a b = 1 := by unfold gapE; rw [if_pos h0, if_pos hn]
      rw [hE]
      by_cases h1 : n < 1
      · simp only [Try.f25, symM, opFn, Nat.reduceLT, Nat.reduceBEq, evCall_fn ft20 rfl, e1, h0, bin_eql, show ((0 : Int) == 0) = true from rfl, bin_lss, decide_eq_true h1]
        exact retB_two ft25 rfl (by simp only [symM, Nat.reduceBEq]) get_same
      · have h2 : 480 < n := by omega
        simp only [Try.f25, symM, opFn, Nat.reduceLT, Nat.reduceBEq, evCall_fn ft20 rfl, e1, h0, bin_eql, show ((0 : Int) == 0) = true from rfl, bin_lss, decide_eq_false h1, bin_gtr, decide_eq_true h2]
        exact retB_two ft25 rfl (by simp only [symM, Nat.reduceBEq]) get_same
    · have hE : gapE bs.length n a b = 0 := by unfold gapE; rw [if_pos h0, if_neg hn]
      rw [hE]
      simp only [Try.f25, symM, opFn, Nat.reduceLT, Nat.reduceBEq, evCall_fn ft20 rfl, e1, h0, bin_eql, show ((0 : Int) == 0) = true from rfl, bin_lss, bin_gtr, decide_eq_false (show ¬ n < 1 by omega), decide_eq_false (show ¬ 480 < n by omega)]
      exact retB_two ft25 rfl (by simp only [symM, Nat.reduceBEq]) get_same
  · have hE : gapE bs.length n a b = downE bs.length a b := by unfold gapE; rw [if_neg h0]
    have hb : (downE bs.length a b == 0) = false := by simpa using h0
    rw [hE]
    simp only [Try.f25, symM, opFn, Nat.reduceLT, Nat.reduceBEq, evCall_fn ft20 rfl, e1, bin_eql, hb]
    exact retB_two ft25 rfl (by simp only [symM, Nat.reduceBEq]) get_same

noncomputable def bodyRF : Code := part Try.f10 [1, 1, 1, 0, 1, 0, 0]
abbrev ERF : Env := ⟨10, 43, none⟩
theorem rfirstL (L : List (Nat × Nat)) (n : Nat) (hn : 1 ≤ n) (s : Value) (n0 : Nat) (h0 : AH) (hs0 : Own n0 h0 s (runsV L) 23) (hL : L.length ≤ 481) (hruns : AllRuns L)
    (hsz : ∀ (x y : Nat) (h : AH), x ≤ 1048576 → y ≤ 1048576 → ∃ h', call 26 [cx x y] h = some (iv y, h') ∧ Grow h.next h h')
    (hb : ∀ (x y n : Nat) (h : AH), x ≤ 1048576 → y ≤ 1048576 → n ≤ 1048576 → 1 ≤ n → ∃ h', call 27 [cx x y, iv n] h = some (cx x n, h') ∧ Grow h.next h h') :
    ∀ (l : List (Nat × Nat)) (i : Nat) (tm : PM Value) (h : AH) (N : Nat), L.drop i = l → i + l.length = L.length → l.length + 30 ≤ N → tm.get 1 = some (iv n) → tm.get 10 = some s → tm.get 12 = some (iv i) → Grow h0.next h0 h →
      ∃ tm' h', Grow h0.next h0 h' ∧ ((∃ p, l.find? (fun p => decide (n ≤ p.2)) = some p ∧ codeB T0 X0 call N ERF (.loop bodyRF) tm h [] = .jump .ret tm' h' [] ∧ tm'.get 8 = some (cx p.1 n) ∧ tm'.get 9 = some (iv 0)) ∨
        (l.find? (fun p => decide (n ≤ p.2)) = none ∧ codeB T0 X0 call N ERF (.loop bodyRF) tm h [] = .jump (.exit 0) tm' h' [])) := by
  intro l
  induction l with
  | nil =>
    intro i tm h N hd hi hN g1 g10 g12 hg
    obtain ⟨N, rfl⟩ : ∃ a, N = a + 30 := ⟨N - 30, by simp at hN; omega⟩
    have hs := (hs0.grow hg).row
    have hlt : decide ((i : Int) < ((runsV L).length : Nat)) = false := decide_eq_false (by simp [runsV] at hi ⊢; omega)
    apply Exists.intro; apply Exists.intro; refine ⟨hg, .inr ⟨rfl, ?_⟩⟩
    rw [codeB_loop]
    simp only [bodyRF, part, Try.f10, sub, symM, opFn, Nat.reduceLT, Nat.reduceBEq, g10, g12, hs.len und_c128s, bin_lss, hlt]
    rfl
  | cons q l ih =>
    intro i tm h N hd hi hN g1 g10 g12 hg
    obtain ⟨N, rfl⟩ : ∃ a, N = a + 30 := ⟨N - 30, by simp at hN; omega⟩
    have hs := (hs0.grow hg).row
    have hlt : decide ((i : Int) < ((runsV L).length : Nat)) = true := decide_eq_true (by simp [runsV] at hi ⊢; omega)
    have hx : L[i]? = some q := by have := congrArg (fun l => l[0]?) hd; simpa using this
    have hq : 1 ≤ q.2 ∧ q.1 + q.2 ≤ 480 := by simpa [runOK] using hruns q (List.mem_of_getElem? hx)
    have hw : IntKind.i64.wrap ((i : Int) + 1) = ((i + 1 : Nat) : Int) := by rw [IntWalk.i64_in _ (by simp at hi; omega)]; simp
    have hxv : (runsV L)[i]? = some (cx q.1 q.2) := by simp [runsV, hx]
    obtain ⟨p, e1, e2⟩ := hs.at und_c128s sz_c128 agg_c128 hxv
    obtain ⟨h1, z1, z2⟩ := hsz q.1 q.2 h (by omega) (by omega)
    have hg1 : Grow h0.next h0 h1 := hg.trans z2 hg.next
    have hs1 := (hs0.grow hg1).row
    by_cases hc : n ≤ q.2
    · obtain ⟨p', e1', e2'⟩ := hs1.at und_c128s sz_c128 agg_c128 hxv
      rw [e1] at e1'; cases e1'
      obtain ⟨h2, b1, b2⟩ := hb q.1 q.2 n h1 (by omega) (by omega) (by omega) hn
      apply Exists.intro; refine ⟨h2, hg1.trans b2 hg1.next, .inl ⟨q, by simp [hc], ?_⟩⟩
      apply And.intro
      · rw [codeB_loop]
        simp only [bodyRF, part, Try.f10, sub, symM, opFn, Nat.reduceLT, Nat.reduceBEq, g1, g10, g12, hs.len und_c128s, bin_lss, hlt, e1, e2, evCall_fn ft26 rfl, z1, bin_geq, decide_eq_true (show (n : Int) ≤ (q.2 : Nat) by omega), e2', evCall_fn ft27 rfl, b1]
        rfl
      · exact ⟨by simp only [symM, Nat.reduceBEq], by simp only [symM, Nat.reduceBEq]⟩
    · have hf : (q :: l).find? (fun p => decide (n ≤ p.2)) = l.find? (fun p => decide (n ≤ p.2)) := by simp [hc]
      rw [hf, show N + 30 = (N + 29) + 1 from rfl, codeB_loop]
      simp only [bodyRF, part, Try.f10, sub, symM, opFn, Nat.reduceLT, Nat.reduceBEq, g1, g10, g12, hs.len und_c128s, bin_lss, hlt, e1, e2, evCall_fn ft26 rfl, z1, bin_geq, decide_eq_false (show ¬ (n : Int) ≤ (q.2 : Nat) by omega), bin_add, hw]
      refine ih (i + 1) _ h1 (N + 29) (by rw [← List.drop_drop, hd]; rfl) (by simp at hi ⊢; omega) (by simp at hN ⊢; omega) ?_ ?_ get_same hg1 <;> simp only [symM, Nat.reduceBEq, g1, g10]
theorem downG_len (bs : List Nat) (a b : Int) : (downG bs a b).length ≤ 481 := by
  unfold downG
  split
  · rename_i h
    have := gapsG_len (fun i => !bitB bs i) (b.toNat - a.toNat) a.toNat a.toNat
    have h3 : b.toNat ≤ 480 := by
      unfold downE at h
      split at h
      · cases h
      · split at h
        · cases h
        · omega
    omega
  · simp
theorem rFirst_S (bs : List Nat) (m : Value) (h : AH) (n a b : Int)
    (hG : ∃ v h', call 25 [m, iv n, iv a, iv b] h = some (.tuple #[v, iv (gapE bs.length n a b)], h') ∧ Own h.next h' v (runsV (downG bs a b)) 23 ∧ Grow h.next h h')
    (hsz : ∀ (x y : Nat) (h : AH), x ≤ 1048576 → y ≤ 1048576 → ∃ h', call 26 [cx x y] h = some (iv y, h') ∧ Grow h.next h h')
    (hb : ∀ (x y n : Nat) (h : AH), x ≤ 1048576 → y ≤ 1048576 → n ≤ 1048576 → 1 ≤ n → ∃ h', call 27 [cx x y, iv n] h = some (cx x n, h') ∧ Grow h.next h h') :
    ∃ h', frameB T0 X0 call 3000 10 [m, iv n, iv a, iv b] h = some (firstR bs n a b, h') ∧ Grow h.next h h' := by
  obtain ⟨v, h1, e1, e2, e3⟩ := hG
  rw [frameB_eq ft10 rfl rfl]
  unfold firstR
  by_cases hE : gapE bs.length n a b = 0
  · have hn : 1 ≤ n ∧ n ≤ 480 := by
      unfold gapE at hE
      split at hE
      · split at hE
        · cases hE
        · omega
      · rename_i q; exact absurd hE q
    obtain ⟨n, rfl⟩ : ∃ k : Nat, n = k := ⟨n.toNat, by omega⟩
    rw [hE, if_pos rfl]
    have hGD : gapG bs (n : Int) a b = downG bs a b := by unfold gapG; rw [hE]; rfl
    have hln := downG_len bs a b
    have hL := fun tm N => rfirstL (call := call) (downG bs a b) n (by omega) v h.next h1 e2 hln (downG_runs bs a b) hsz hb (downG bs a b) 0 tm h1 N rfl (by simp)
    simp only [Try.f10, symM, opFn, Nat.reduceLT, Nat.reduceBEq, evCall_fn ft25 rfl, e1, hE, bin_neq, show ((0 : Int) == 0) = true from rfl]
    refine bind_loopJ (b := bodyRF) (Q := fun x => ∃ tm' h', Grow h1.next h1 h' ∧ ((∃ p, (downG bs a b).find? (fun p => decide (n ≤ p.2)) = some p ∧ x = .jump .ret tm' h' [] ∧ tm'.get 8 = some (cx p.1 n) ∧ tm'.get 9 = some (iv 0)) ∨
        ((downG bs a b).find? (fun p => decide (n ≤ p.2)) = none ∧ x = .jump (.exit 0) tm' h' []))) (P := fun x => ∃ h', endF T0 10 x = some (firstV (gapG bs (n : Int) a b) n, h') ∧ Grow h.next h h') ?_ ?_
    · exact hL _ _ (by omega) (by simp only [symM, Nat.reduceBEq]) (by simp only [symM, Nat.reduceBEq]) (by simp only [symM, Nat.reduceBEq]; rfl) (Grow.refl _ _)
    · intro x ⟨tm', h', g, hx⟩
      refine ⟨h', ?_, e3.trans g e3.next⟩
      unfold firstV
      rw [hGD]
      rcases hx with ⟨p, f1, rfl, t8, t9⟩ | ⟨f1, rfl⟩
      · rw [f1]
        simp only [symM, opFn, Nat.reduceLT, Nat.reduceBEq]
        exact retB_two ft10 rfl t8 t9
      · rw [f1]
        simp only [symM, opFn, Nat.reduceLT, Nat.reduceBEq]
        exact retB_two ft10 rfl (by simp only [symM, Nat.reduceBEq]) get_same
  · rw [if_neg hE]
    refine ⟨h1, ?_, e3⟩
    have hb0 : (gapE bs.length n a b == 0) = false := by simpa using hE
    simp only [Try.f10, symM, opFn, Nat.reduceLT, Nat.reduceBEq, evCall_fn ft25 rfl, e1, bin_neq, hb0]
    exact retB_two ft10 rfl (by simp only [symM, Nat.reduceBEq]) get_same
end
end Go.Proofs.Ytcpihpjphdlmfaa.Abs
