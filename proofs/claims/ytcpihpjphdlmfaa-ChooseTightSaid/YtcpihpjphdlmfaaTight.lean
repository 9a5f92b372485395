/- Choices: the tightest run: package choose, and the reference. -/
import Derived.Test.YtcpihpjphdlmfaaSlices
namespace Go.Proofs.Ytcpihpjphdlmfaa.Abs
open Go Go.Proofs
noncomputable section
theorem ft12 : T0.ft.get 12 = some Try.f12 := by kernel_rfl
theorem ft13 : T0.ft.get 13 = some Try.f13 := by kernel_rfl
variable {call : Abs.Callee}
set_option maxRecDepth 10000
def longs (l : List (Nat × Nat)) (n : Nat) : List (Nat × Nat) := l.filter fun p => decide (n ≤ p.2)
def tightV (l : List (Nat × Nat)) (n : Nat) : Value := match longs l n with
  | [] => .tuple #[.complex .f64 0 0, iv 6]
  | q :: r => .tuple #[cx (minR q r).1 n, iv 0]
def tightR (bs : List Nat) (n a b : Int) : Value := if gapE bs.length n a b = 0 then tightV (gapG bs n a b) n.toNat else .tuple #[.complex .f64 0 0, iv (gapE bs.length n a b)]
theorem minR_mem : ∀ (l : List (Nat × Nat)) (m : Nat × Nat), minR m l ∈ m :: l := by
  intro l
  induction l with
  | nil => intro m; exact List.mem_singleton.2 rfl
  | cons q l ih =>
    intro m
    rw [minR]
    have := ih (if q.2 < m.2 then q else m)
    split at this <;> rcases List.mem_cons.1 this with h | h
    · rw [if_pos (by assumption)]; rw [h]; simp
    · rw [if_pos (by assumption)]; simp [h]
    · rw [if_neg (by assumption)]; rw [h]; simp
    · rw [if_neg (by assumption)]; simp [h]
theorem longs_runs {l : List (Nat × Nat)} (n : Nat) (h : AllRuns l) : AllRuns (longs l n) := fun p hp => h p ((List.mem_filter.1 hp).1)
theorem longs_ge {l : List (Nat × Nat)} {n : Nat} {p : Nat × Nat} (h : p ∈ longs l n) : n ≤ p.2 := by
  have := (List.mem_filter.1 h).2
  simpa using this
theorem plan_Tight : planB (regOps Try.f12 [1, 1, 1, 1, 1, 0]) 33 = some ([.one 0, .one 2, .eff [] 1 [2], .eff [] 3 [], .one 4, .one 5], []) := by kernel_rfl
theorem Tight_S (bs : List Nat) (m : Value) (h : AH) (n a b : Int) (hm : Row h.next h m (bytesV bs) 5)
    (hG : ∀ h2, Row h2.next h2 m (bytesV bs) 5 → ∃ v h', call 21 [m, iv n, iv a, iv b] h2 = some (.tuple #[v, iv (gapE bs.length n a b)], h') ∧ Own h2.next h' v (runsV (gapG bs n a b)) 23 ∧ Grow h2.next h2 h')
    (hD : ∀ (v : Value) (l : List (Nat × Nat)) (n0 : Nat) (h : AH) (n : Nat) (q : Value), Own n0 h v (runsV l) 23 → l.length < 900 → AllRuns l → n0 ≤ h.next → (∀ h', Grow n0 h h' → Box h' q (iv n)) →
      ∃ v' h', call 28 [v, .func (.func 29) #[] #[q]] h = some (v', h') ∧ Row h'.next h' v' (runsV (longs l n)) 23 ∧ Grow n0 h h')
    (hM : ∀ (s : Value) (q : Nat × Nat) (l : List (Nat × Nat)) (n0 : Nat) (h : AH), Row n0 h s (runsV (q :: l)) 23 → l.length < 800 → AllRuns (q :: l) → call 30 [s, .func (.func 31) #[] #[]] h = some (cx (minR q l).1 (minR q l).2, h))
    (hb : ∀ (x y n : Nat) (h : AH), runOK x y = true → n ≤ y → 1 ≤ n → call 24 [cx x y, iv n] h = some (cx x n, h)) :
    ∃ h', frameB T0 X0 call 3000 12 [m, iv n, iv a, iv b] h = some (tightR bs n a b, h') ∧ Grow h.next h h' := by
  generalize hh1 : h.new (.cells (PM.ofList [iv n]) 1 3 0 0 .ex) = h1
  have g1 : Grow h.next h h1 := by rw [← hh1]; exact Grow.new _ _
  have hnx : h.next < h1.next := by rw [← hh1]; exact Nat.lt_succ_self _
  have hm1 : Row h1.next h1 m (bytesV bs) 5 := (hm.grow g1 (Nat.le_refl _)).more (Nat.le_of_lt hnx)
  obtain ⟨v, h2, e1, e2, e3⟩ := hG h1 hm1
  have hbox : ∀ h', Grow h1.next h1 h' → Box h' (.pointer (some ⟨h.next, 0, none⟩)) (iv n) := fun h' g => ⟨h.next, PM.ofList [iv n], 3, rfl, by rw [g.keep _ hnx, ← hh1]; exact get_new_same _ _, by rw [PM.get_ofList]; rfl⟩
  have g2 : Grow h.next h h2 := g1.trans e3 (Nat.le_of_lt hnx)
  have hbx := hbox h1 (Grow.refl _ _)
  rw [frameB_eq ft12 rfl rfl]
  unfold tightR
  by_cases hE : gapE bs.length n a b = 0
  · have hn : 1 ≤ n ∧ n ≤ 480 := by
      unfold gapE at hE
      split at hE
      · split at hE
        · cases hE
        · omega
      · rename_i q; exact absurd hE q
    obtain ⟨n, rfl⟩ : ∃ k : Nat, n = k := ⟨n.toNat, by omega⟩
    rw [hE, if_pos rfl]
    have hruns := gapG_runs bs (n : Int) a b
    have hln := gapG_len bs (n : Int) a b
    obtain ⟨v3, h3, d1, d2, d3⟩ := hD v (gapG bs (n : Int) a b) h1.next h2 n (.pointer (some ⟨h.next, 0, none⟩)) e2 (by omega) hruns e3.next (fun h' g => hbox h' (e3.trans g (Nat.le_refl _)))
    have hdel : evCall T0 X0 (.func (.func 28) #[] #[]) [v, .func (.func 29) #[] [.pointer (some ⟨h.next, 0, none⟩)].toArray] h2 = some (.enter 28 [v, .func (.func 29) #[] #[.pointer (some ⟨h.next, 0, none⟩)]], h2) := evCall_fn ft28 rfl
    refine ⟨h3, ?_, g2.trans (d3.less (Nat.le_of_lt hnx)) (Nat.le_refl _)⟩
    have ht : ((n : Int)).toNat = n := rfl
    have hbox3 := hbox h3 (e3.trans d3 (Nat.le_refl _))
    unfold tightV
    rw [ht]
    cases hl : longs (gapG bs (n : Int) a b) n with
    | nil =>
      rw [hl] at d2
      have hz : (((runsV []).length : Nat) : Int) == 0 := rfl
      simp only [Try.f12, symM, opFn, Nat.reduceLT, Nat.reduceBEq, box_one (v := iv (n : Int)) rfl, hh1, hbx.load, evCall_fn ft21 rfl, e1, hE, bin_neq, show ((0 : Int) == 0) = true from rfl, hdel, d1, d2.len und_c128s, bin_eql, show ((((runsV []).length : Nat) : Int) == 0) = true from rfl]
      exact retB_two ft12 rfl (by simp only [symM, Nat.reduceBEq]) get_same
    | cons q r =>
      rw [hl] at d2
      have hr2 : AllRuns (q :: r) := by rw [← hl]; exact longs_runs n hruns
      have hlen : r.length < 800 := by
        have h9 : (longs (gapG bs (n : Int) a b) n).length ≤ (gapG bs (n : Int) a b).length := List.length_filter_le _ _
        rw [hl] at h9
        simp at h9
        omega
      have hmem := minR_mem r q
      have hge : n ≤ (minR q r).2 := longs_ge (l := gapG bs (n : Int) a b) (by rw [hl]; exact hmem)
      have hmin := hM v3 q r _ h3 d2 hlen hr2
      have hbg := hb (minR q r).1 (minR q r).2 n h3 (hr2 _ hmem) hge (by omega)
      have hz : ((((runsV (q :: r)).length : Nat) : Int) == 0) = false := by simp [runsV]; omega
      have hp := plan_Tight
      simp only [regOps, part, Try.f12, sub] at hp
      simp only [Try.f12, symM, opFn, Nat.reduceLT, Nat.reduceBEq, box_one (v := iv (n : Int)) rfl, hh1, hbx.load, evCall_fn ft21 rfl, e1, hE, bin_neq, show ((0 : Int) == 0) = true from rfl, hdel, d1, d2.len und_c128s, bin_eql, hz, codeB_draw]
      rw [draw_plan hp rfl]
      simp only [drawAll, opFn, Nat.reduceLT, Nat.reduceBEq, effE_cons, ev_func, hbox3.load, evCall_fn ft30 rfl, hmin, evCall_fn ft24 rfl, hbg]
      exact retB_two ft12 rfl (by simp only [symM, Nat.reduceBEq]) get_same
  · rw [if_neg hE]
    refine ⟨h2, ?_, g2⟩
    have hb0 : (gapE bs.length n a b == 0) = false := by simpa using hE
    simp only [Try.f12, symM, opFn, Nat.reduceLT, Nat.reduceBEq, box_one (v := iv n) rfl, hh1, hbx.load, evCall_fn ft21 rfl, e1, bin_neq, hb0]
    exact retB_two ft12 rfl (by simp only [symM, Nat.reduceBEq]) get_same
end
end Go.Proofs.Ytcpihpjphdlmfaa.Abs
namespace Go.Proofs.Ytcpihpjphdlmfaa.Abs
open Go Go.Proofs
noncomputable section
variable {call : Abs.Callee}
set_option maxRecDepth 10000
def bestO (n : Nat) : Option (Nat × Nat) → List (Nat × Nat) → Option (Nat × Nat)
  | o, [] => o
  | none, q :: l => bestO n (if n ≤ q.2 then some q else none) l
  | some m, q :: l => bestO n (if n ≤ q.2 ∧ q.2 < m.2 then some q else some m) l
theorem bestO_some (n : Nat) : ∀ (l : List (Nat × Nat)) (m : Nat × Nat), bestO n (some m) l = some (minR m (longs l n)) := by
  intro l
  induction l with
  | nil => intro m; rfl
  | cons q l ih =>
    intro m
    rw [bestO]
    unfold longs
    by_cases h1 : n ≤ q.2
    · rw [List.filter_cons_of_pos (by simpa using h1), minR]
      by_cases h2 : q.2 < m.2
      · rw [if_pos ⟨h1, h2⟩, if_pos h2, ih]; rfl
      · rw [if_neg (fun h => h2 h.2), if_neg h2, ih]; rfl
    · rw [List.filter_cons_of_neg (by simpa using h1), if_neg (fun h => h1 h.1), ih]; rfl
theorem bestO_none (n : Nat) : ∀ (l : List (Nat × Nat)), bestO n none l = match longs l n with
    | [] => none
    | q :: r => some (minR q r) := by
  intro l
  induction l with
  | nil => rfl
  | cons q l ih =>
    rw [bestO]
    unfold longs
    by_cases h1 : n ≤ q.2
    · rw [List.filter_cons_of_pos (by simpa using h1), if_pos h1, bestO_some]; rfl
    · rw [List.filter_cons_of_neg (by simpa using h1), if_neg h1, ih]; rfl
theorem plan_rTight : planB (regOps Try.f13 [1, 1, 1, 1, 0, 1, 0, 0, 1, 0, 0, 0]) 64 = some ([.one 0, .one 1, .one 2, .one 3, .one 5, .eff [] 4 [5], .one 6, .one 7, .one 8, .one 9, .one 10, .one 11, .one 12, .one 13, .one 14, .one 16, .one 17, .one 18, .one 19, .eff [] 15 [16, 17, 18, 19], .eff [] 20 [], .one 21, .one 22, .one 23], []) := by kernel_rfl
def againU : Option Value → Bool
  | some u => eqV u undef
  | none => false
theorem againU_undef : againU (some undef) = true := rfl
theorem againW_false {T : Tab} {X : Exts} {d : Nat} {op : Op} {ty : TypeId} {tm : PM Value} {h : AH} : againW T X d op ty tm h (some false) = againU (tm.get d) := by
  unfold againW againU
  cases tm.get d <;> rfl
noncomputable def bodyRT : Code := part Try.f13 [1, 1, 1, 1, 0, 1, 0, 0]
abbrev ERT : Env := ⟨13, 64, none⟩
/-- Where the best one lies. -/
def bestAt (L : List (Nat × Nat)) (o : Option (Nat × Nat)) (b : Int) : Prop := match o with
  | none => b = -1
  | some m => ∃ k : Nat, b = k ∧ L[k]? = some m
set_option maxHeartbeats 4000000 in
theorem rtightL (L : List (Nat × Nat)) (n : Nat) (s : Value) (n0 : Nat) (h0 : AH) (hs0 : Own n0 h0 s (runsV L) 23) (hL : L.length ≤ 481) (hruns : AllRuns L)
    (hsz : ∀ (x y : Nat) (h : AH), x ≤ 1048576 → y ≤ 1048576 → ∃ h', call 26 [cx x y] h = some (iv y, h') ∧ Grow h.next h h') :
    ∀ (l : List (Nat × Nat)) (i : Nat) (o : Option (Nat × Nat)) (b : Int) (tm : PM Value) (h : AH) (N : Nat), L.drop i = l → i + l.length = L.length → l.length + 30 ≤ N → bestAt L o b → tm.get 1 = some (iv n) → tm.get 10 = some s → tm.get 12 = some (iv b) → tm.get 13 = some (iv i) → Grow h0.next h0 h →
      ∃ tm' h', codeB T0 X0 call N ERT (.loop bodyRT) tm h [] = .jump (.exit 0) tm' h' [] ∧ (Grow h0.next h0 h' ∧ tm'.get 1 = some (iv n) ∧ tm'.get 10 = some s ∧ ∃ b', bestAt L (bestO n o l) b' ∧ tm'.get 12 = some (iv b')) := by
  intro l
  induction l with
  | nil =>
    intro i o b tm h N hd hi hN hb g1 g10 g12 g13 hg
    obtain ⟨N, rfl⟩ : ∃ a, N = a + 30 := ⟨N - 30, by simp at hN; omega⟩
    have hs := (hs0.grow hg).row
    have hlt : decide ((i : Int) < ((runsV L).length : Nat)) = false := decide_eq_false (by simp [runsV] at hi ⊢; omega)
    apply Exists.intro; apply Exists.intro; apply And.intro
    · rw [codeB_loop]
      simp only [bodyRT, part, Try.f13, sub, symM, opFn, Nat.reduceLT, Nat.reduceBEq, g10, g13, hs.len und_c128s, bin_lss, hlt]
      rfl
    · refine ⟨hg, by simp only [symM, Nat.reduceBEq, g1], by simp only [symM, Nat.reduceBEq, g10], b, ?_, by simp only [symM, Nat.reduceBEq, g12]⟩
      cases o <;> exact hb
  | cons q l ih =>
    intro i o b tm h N hd hi hN hb g1 g10 g12 g13 hg
    obtain ⟨N, rfl⟩ : ∃ a, N = a + 30 := ⟨N - 30, by simp at hN; omega⟩
    have hs := (hs0.grow hg).row
    have hlt : decide ((i : Int) < ((runsV L).length : Nat)) = true := decide_eq_true (by simp [runsV] at hi ⊢; omega)
    have hx : L[i]? = some q := by have := congrArg (fun l => l[0]?) hd; simpa using this
    have hq : 1 ≤ q.2 ∧ q.1 + q.2 ≤ 480 := by simpa [runOK] using hruns q (List.mem_of_getElem? hx)
    have hw : IntKind.i64.wrap ((i : Int) + 1) = ((i + 1 : Nat) : Int) := by rw [IntWalk.i64_in _ (by simp at hi; omega)]; simp
    have hxv : (runsV L)[i]? = some (cx q.1 q.2) := by simp [runsV, hx]
    obtain ⟨p, e1, e2⟩ := hs.at und_c128s sz_c128 agg_c128 hxv
    obtain ⟨h1, z1, z2⟩ := hsz q.1 q.2 h (by omega) (by omega)
    have hg1 : Grow h0.next h0 h1 := hg.trans z2 hg.next
    have hs1 := (hs0.grow hg1).row
    have hp := plan_rTight
    simp only [regOps, part, Try.f13, sub] at hp
    rw [show N + 30 = (N + 29) + 1 from rfl, codeB_loop]
    by_cases hc : n ≤ q.2
    · cases o with
      | none =>
        cases hb
        rw [show bestO n none (q :: l) = bestO n (some q) l from by rw [bestO, if_pos hc]]
        simp only [bodyRT, part, Try.f13, sub, symM, opFn, Nat.reduceLT, Nat.reduceBEq, g10, g13, hs.len und_c128s, bin_lss, hlt, codeB_draw]
        rw [draw_plan hp rfl]
        simp only [drawAll, opFn, Nat.reduceLT, Nat.reduceBEq, g1, g10, g12, g13, e1, e2, evCall_fn ft26 rfl, z1, effE_cons, bin_geq, bin_lss, bin_add, hw, againW_false, againU_undef, decide_eq_true (show (n : Int) ≤ (q.2 : Nat) by omega), show decide ((-1 : Int) < 0) = true from rfl]
        refine ih (i + 1) (some q) i _ h1 (N + 29) (by rw [← List.drop_drop, hd]; rfl) (by simp at hi ⊢; omega) (by simp at hN ⊢; omega) ⟨i, rfl, hx⟩ ?_ ?_ ?_ get_same hg1 <;> simp only [symM, Nat.reduceBEq, g1, g10, g12]
      | some m =>
        obtain ⟨k, rfl, hk⟩ := hb
        have hm : 1 ≤ m.2 ∧ m.1 + m.2 ≤ 480 := by simpa [runOK] using hruns m (List.mem_of_getElem? hk)
        have hkv : (runsV L)[k]? = some (cx m.1 m.2) := by simp [runsV, hk]
        obtain ⟨p', e1', e2'⟩ := hs1.at und_c128s sz_c128 agg_c128 hxv
        rw [e1] at e1'; cases e1'
        obtain ⟨pk, k1, k2, k5⟩ := hs1.at3 und_c128s sz_c128 agg_c128 hkv
        obtain ⟨h2, y1, y2⟩ := hsz q.1 q.2 h1 (by omega) (by omega)
        have hg2 : Grow h0.next h0 h2 := hg1.trans y2 hg1.next
        have hs2 := (hs0.grow hg2).row
        obtain ⟨pk2, k3, k4⟩ := hs2.at und_c128s sz_c128 agg_c128 hkv
        rw [k1] at k3; cases k3
        obtain ⟨h3, x1, x2⟩ := hsz m.1 m.2 h2 (by omega) (by omega)
        have hg3 : Grow h0.next h0 h3 := hg2.trans x2 hg2.next
        have hk0 : decide ((k : Int) < 0) = false := decide_eq_false (by omega)
        by_cases hlm : q.2 < m.2
        · rw [show bestO n (some m) (q :: l) = bestO n (some q) l from by rw [bestO, if_pos ⟨hc, hlm⟩]]
          simp only [bodyRT, part, Try.f13, sub, symM, opFn, Nat.reduceLT, Nat.reduceBEq, g10, g13, hs.len und_c128s, bin_lss, hlt, codeB_draw]
          rw [draw_plan hp rfl]
          simp only [drawAll, opFn, Nat.reduceLT, Nat.reduceBEq, g1, g10, g12, g13, e1, e2, evCall_fn ft26 rfl, z1, effE_cons, bin_geq, bin_lss, bin_add, hw, againW_false, againU_undef, k1, k2, k4, k5, e2', y1, x1, hs0.eqv, decide_eq_true (show (n : Int) ≤ (q.2 : Nat) by omega), hk0, decide_eq_true (show (q.2 : Int) < (m.2 : Nat) by omega)]
          refine ih (i + 1) (some q) i _ h3 (N + 29) (by rw [← List.drop_drop, hd]; rfl) (by simp at hi ⊢; omega) (by simp at hN ⊢; omega) ⟨i, rfl, hx⟩ ?_ ?_ ?_ get_same hg3 <;> simp only [symM, Nat.reduceBEq, g1, g10, g12]
        · rw [show bestO n (some m) (q :: l) = bestO n (some m) l from by rw [bestO, if_neg (fun h => hlm h.2)]]
          simp only [bodyRT, part, Try.f13, sub, symM, opFn, Nat.reduceLT, Nat.reduceBEq, g10, g13, hs.len und_c128s, bin_lss, hlt, codeB_draw]
          rw [draw_plan hp rfl]
          simp only [drawAll, opFn, Nat.reduceLT, Nat.reduceBEq, g1, g10, g12, g13, e1, e2, evCall_fn ft26 rfl, z1, effE_cons, bin_geq, bin_lss, bin_add, hw, againW_false, againU_undef, k1, k2, k4, k5, e2', y1, x1, hs0.eqv, decide_eq_true (show (n : Int) ≤ (q.2 : Nat) by omega), hk0, decide_eq_false (show ¬ (q.2 : Int) < (m.2 : Nat) by omega)]
          refine ih (i + 1) (some m) k _ h3 (N + 29) (by rw [← List.drop_drop, hd]; rfl) (by simp at hi ⊢; omega) (by simp at hN ⊢; omega) ⟨k, rfl, hk⟩ ?_ ?_ ?_ get_same hg3 <;> simp only [symM, Nat.reduceBEq, g1, g10, g12]
    · have ho : bestO n o (q :: l) = bestO n o l := by
        cases o with
        | none => rw [bestO, if_neg hc]
        | some m => rw [bestO, if_neg (fun h => hc h.1)]
      rw [ho]
      simp only [bodyRT, part, Try.f13, sub, symM, opFn, Nat.reduceLT, Nat.reduceBEq, g10, g13, hs.len und_c128s, bin_lss, hlt, codeB_draw]
      rw [draw_plan hp rfl]
      simp only [drawAll, opFn, Nat.reduceLT, Nat.reduceBEq, g1, g10, g12, g13, e1, e2, evCall_fn ft26 rfl, z1, effE_cons, bin_geq, bin_lss, bin_add, hw, againW_false, againU_undef, decide_eq_false (show ¬ (n : Int) ≤ (q.2 : Nat) by omega)]
      refine ih (i + 1) o b _ h1 (N + 29) (by rw [← List.drop_drop, hd]; rfl) (by simp at hi ⊢; omega) (by simp at hN ⊢; omega) hb ?_ ?_ ?_ get_same hg1 <;> simp only [symM, Nat.reduceBEq, g1, g10, g12]
theorem rTight_S (bs : List Nat) (m : Value) (h : AH) (n a b : Int)
    (hG : ∃ v h', call 25 [m, iv n, iv a, iv b] h = some (.tuple #[v, iv (gapE bs.length n a b)], h') ∧ Own h.next h' v (runsV (downG bs a b)) 23 ∧ Grow h.next h h')
    (hsz : ∀ (x y : Nat) (h : AH), x ≤ 1048576 → y ≤ 1048576 → ∃ h', call 26 [cx x y] h = some (iv y, h') ∧ Grow h.next h h')
    (hb : ∀ (x y n : Nat) (h : AH), x ≤ 1048576 → y ≤ 1048576 → n ≤ 1048576 → 1 ≤ n → ∃ h', call 27 [cx x y, iv n] h = some (cx x n, h') ∧ Grow h.next h h') :
    ∃ h', frameB T0 X0 call 3000 13 [m, iv n, iv a, iv b] h = some (tightR bs n a b, h') ∧ Grow h.next h h' := by
  obtain ⟨v, h1, e1, e2, e3⟩ := hG
  rw [frameB_eq ft13 rfl rfl]
  unfold tightR
  by_cases hE : gapE bs.length n a b = 0
  · have hn : 1 ≤ n ∧ n ≤ 480 := by
      unfold gapE at hE
      split at hE
      · split at hE
        · cases hE
        · omega
      · rename_i q; exact absurd hE q
    obtain ⟨n, rfl⟩ : ∃ k : Nat, n = k := ⟨n.toNat, by omega⟩
    rw [hE, if_pos rfl]
    have hGD : gapG bs (n : Int) a b = downG bs a b := by unfold gapG; rw [hE]; rfl
    have hln := downG_len bs a b
    have hL := fun tm N => rtightL (call := call) (downG bs a b) n v h.next h1 e2 hln (downG_runs bs a b) hsz (downG bs a b) 0 none (-1) tm h1 N rfl (by simp)
    simp only [Try.f13, symM, opFn, Nat.reduceLT, Nat.reduceBEq, evCall_fn ft25 rfl, e1, hE, bin_neq, show ((0 : Int) == 0) = true from rfl]
    refine bind_loop (b := bodyRT) (P := fun x => ∃ h', endF T0 13 x = some (tightV (gapG bs (n : Int) a b) n, h') ∧ Grow h.next h h') (hL _ _ (by omega) rfl (by simp only [symM, Nat.reduceBEq]) (by simp only [symM, Nat.reduceBEq]) (by simp only [symM, Nat.reduceBEq]) (by simp only [symM, Nat.reduceBEq]; rfl) (Grow.refl _ _)) ?_
    intro tm2 h2 ⟨g, p1, p10, b', hb', p12⟩
    rw [bestO_none] at hb'
    unfold tightV
    rw [hGD]
    have hg2 : Grow h.next h h2 := e3.trans g e3.next
    cases hl : longs (downG bs a b) n with
    | nil =>
      rw [hl] at hb'
      cases hb'
      refine ⟨h2, ?_, hg2⟩
      simp only [symM, opFn, Nat.reduceLT, Nat.reduceBEq, p12, bin_lss, show decide ((-1 : Int) < 0) = true from rfl]
      exact retB_two ft13 rfl (by simp only [symM, Nat.reduceBEq]) get_same
    | cons q r =>
      rw [hl] at hb'
      obtain ⟨k, rfl, hk⟩ := hb'
      have hmem := minR_mem r q
      have hge : n ≤ (minR q r).2 := longs_ge (l := downG bs a b) (by rw [hl]; exact hmem)
      have hm : 1 ≤ (minR q r).2 ∧ (minR q r).1 + (minR q r).2 ≤ 480 := by simpa [runOK] using downG_runs bs a b _ (List.mem_of_getElem? hk)
      have hkv : (runsV (downG bs a b))[k]? = some (cx (minR q r).1 (minR q r).2) := by simp [runsV, hk]
      obtain ⟨p, k1, k2⟩ := ((e2.grow g).row).at und_c128s sz_c128 agg_c128 hkv
      obtain ⟨h3, b1, b2⟩ := hb (minR q r).1 (minR q r).2 n h2 (by omega) (by omega) (by omega) (by omega)
      refine ⟨h3, ?_, hg2.trans b2 hg2.next⟩
      simp only [symM, opFn, Nat.reduceLT, Nat.reduceBEq, p1, p10, p12, bin_lss, decide_eq_false (show ¬ (k : Int) < 0 by omega), k1, k2, evCall_fn ft27 rfl, b1]
      exact retB_two ft13 rfl (by simp only [symM, Nat.reduceBEq]) get_same
  · rw [if_neg hE]
    refine ⟨h1, ?_, e3⟩
    have hb0 : (gapE bs.length n a b == 0) = false := by simpa using hE
    simp only [Try.f13, symM, opFn, Nat.reduceLT, Nat.reduceBEq, evCall_fn ft25 rfl, e1, bin_neq, hb0]
    exact retB_two ft13 rfl (by simp only [symM, Nat.reduceBEq]) get_same
end
end Go.Proofs.Ytcpihpjphdlmfaa.Abs
