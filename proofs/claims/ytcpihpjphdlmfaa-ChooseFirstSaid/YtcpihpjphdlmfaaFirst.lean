/- Choices: the first run: package choose. -/
import Derived.Test.YtcpihpjphdlmfaaGaps
namespace Go.Proofs.Ytcpihpjphdlmfaa.Abs
open Go Go.Proofs
noncomputable section
variable {call : Abs.Callee}
set_option maxRecDepth 10000
/-- The first gap that is long enough: so many blocks of it. -/
def firstV (l : List (Nat × Nat)) (n : Nat) : Value := match l.find? (fun p => decide (n ≤ p.2)) with
  | some p => .tuple #[cx p.1 n, iv 0]
  | none => .tuple #[.complex .f64 0 0, iv 6]
def firstR (bs : List Nat) (n a b : Int) : Value := if gapE bs.length n a b = 0 then firstV (gapG bs n a b) n.toNat else .tuple #[.complex .f64 0 0, iv (gapE bs.length n a b)]
/-- All are runs. -/
def AllRuns (l : List (Nat × Nat)) : Prop := ∀ p ∈ l, runOK p.1 p.2 = true
theorem gapsG_runs (d : Nat → Bool) : ∀ (k n first : Nat), first ≤ n → n + k ≤ 480 → AllRuns (gapsG d k n first) := by
  intro k
  induction k with
  | zero =>
    intro n first hf hn
    rw [gapsG]
    cases hb : Nat.blt first n with
    | false => intro p hp; simp at hp
    | true =>
      have := blt_lt hb
      intro p hp
      simp at hp
      subst hp
      simp [runOK]; omega
  | succ k ih =>
    intro n first hf hn
    rw [gapsG]
    cases d n with
    | true => simp only [cond_true]; exact ih _ _ (by omega) (by omega)
    | false =>
      simp only [cond_false]
      intro p hp
      rw [List.mem_append] at hp
      rcases hp with hp | hp
      · cases hb : Nat.blt first n with
        | false => rw [hb] at hp; simp at hp
        | true =>
          have := blt_lt hb
          rw [hb] at hp
          simp at hp
          subst hp
          simp [runOK]; omega
      · exact ih _ _ (by omega) (by omega) p hp
theorem downG_runs (bs : List Nat) (a b : Int) : AllRuns (downG bs a b) := by
  unfold downG
  by_cases h : downE bs.length a b = 0
  · rw [if_pos h]
    unfold downE at h
    by_cases h1 : bs.length ≠ 60
    · rw [if_pos h1] at h; cases h
    · rw [if_neg h1] at h
      by_cases h2 : a < 0 ∨ a > b ∨ b > 480
      · rw [if_pos h2] at h; cases h
      · exact gapsG_runs _ _ _ _ (Nat.le_refl _) (by omega)
  · rw [if_neg h]; intro p hp; simp at hp
theorem gapG_runs (bs : List Nat) (n a b : Int) : AllRuns (gapG bs n a b) := by
  unfold gapG
  split
  · exact downG_runs _ _ _
  · intro p hp; simp at hp
theorem gapG_len (bs : List Nat) (n a b : Int) : (gapG bs n a b).length ≤ 481 := by
  unfold gapG
  split
  · unfold downG
    split
    · rename_i h
      have := gapsG_len (fun i => !bitB bs i) (b.toNat - a.toNat) a.toNat a.toNat
      have h3 : b.toNat ≤ 480 := by
        unfold downE at h
        split at h
        · cases h
        · split at h
          · cases h
          · omega
      omega
    · simp
  · simp
/-- What the callback asks. -/
def geP (n : Nat) : Value → Bool
  | .complex _ _ y => (match dz y with
    | some z => decide ((n : Int) ≤ z)
    | none => false)
  | _ => false
theorem geP_cx (n x y : Nat) (hy : y ≤ 1048576) : geP n (cx x y) = decide (n ≤ y) := by
  show (match dz (zd (y : Int)) with | some z => decide ((n : Int) ≤ z) | none => false) = _
  rw [dz_zd (zok_k (by omega))]
  exact decide_eq_decide.2 (by omega)
theorem idxF_find (n : Nat) : ∀ (l : List (Nat × Nat)) (i : Nat), AllRuns l → (l.find? (fun p => decide (n ≤ p.2)) = none ∧ idxF (geP n) (runsV l) i = -1) ∨
    ∃ j p, l.find? (fun p => decide (n ≤ p.2)) = some p ∧ l[j]? = some p ∧ n ≤ p.2 ∧ idxF (geP n) (runsV l) i = ((i + j : Nat) : Int) := by
  intro l
  induction l with
  | nil => intro i _; exact .inl ⟨rfl, rfl⟩
  | cons q l ih =>
    intro i hl
    have hq := hl q (List.mem_cons_self ..)
    have hq2 : 1 ≤ q.2 ∧ q.1 + q.2 ≤ 480 := by simpa [runOK] using hq
    have hg : geP n (cx q.1 q.2) = decide (n ≤ q.2) := geP_cx n q.1 q.2 (by omega)
    by_cases h : n ≤ q.2
    · right
      refine ⟨0, q, by simp [h], rfl, h, ?_⟩
      show idxF (geP n) (cx q.1 q.2 :: runsV l) i = _
      rw [idxF, hg, decide_eq_true h]
      rfl
    · have hi : idxF (geP n) (runsV (q :: l)) i = idxF (geP n) (runsV l) (i + 1) := by
        show idxF (geP n) (cx q.1 q.2 :: runsV l) i = _
        rw [idxF, hg, decide_eq_false h]; rfl
      rw [hi]
      have hf : (q :: l).find? (fun p => decide (n ≤ p.2)) = l.find? (fun p => decide (n ≤ p.2)) := by simp [h]
      rw [hf]
      rcases ih (i + 1) (fun p hp => hl p (List.mem_cons_of_mem _ hp)) with ⟨e1, e2⟩ | ⟨j, p, e1, e2, e3, e4⟩
      · exact .inl ⟨e1, e2⟩
      · exact .inr ⟨j + 1, p, e1, by simpa using e2, e3, by rw [e4]; congr 1; omega⟩
def regOps (f : Func) (p : List Nat) : Array Oper := match part f p with
  | .region _ ops _ => ops
  | _ => #[]
theorem plan_First : planB (regOps Try.f9 [1, 1, 1, 1, 1, 0]) 35 = some ([.one 0, .one 1, .one 2, .one 3, .one 4, .eff [] 5 [], .one 6, .one 7], []) := by kernel_rfl
theorem First_S (bs : List Nat) (m : Value) (h : AH) (n a b : Int) (hm : Row h.next h m (bytesV bs) 5)
    (hG : ∀ h2, Row h2.next h2 m (bytesV bs) 5 → ∃ v h', call 21 [m, iv n, iv a, iv b] h2 = some (.tuple #[v, iv (gapE bs.length n a b)], h') ∧ Own h2.next h' v (runsV (gapG bs n a b)) 23 ∧ Grow h2.next h2 h')
    (hI : ∀ (s : Value) (l : List (Nat × Nat)) (n0 : Nat) (h : AH) (n : Nat) (q : Value), Row n0 h s (runsV l) 23 → l.length < 900 → AllRuns l → Box h q (iv n) → call 22 [s, .func (.func 23) #[] #[q]] h = some (iv (idxF (geP n) (runsV l) 0), h))
    (hb : ∀ (x y n : Nat) (h : AH), runOK x y = true → n ≤ y → 1 ≤ n → call 24 [cx x y, iv n] h = some (cx x n, h)) :
    ∃ h', frameB T0 X0 call 3000 9 [m, iv n, iv a, iv b] h = some (firstR bs n a b, h') ∧ Grow h.next h h' := by
  generalize hh1 : h.new (.cells (PM.ofList [iv n]) 1 3 0 0 .ex) = h1
  have g1 : Grow h.next h h1 := by rw [← hh1]; exact Grow.new _ _
  have hnx : h.next < h1.next := by rw [← hh1]; exact Nat.lt_succ_self _
  have hm1 : Row h1.next h1 m (bytesV bs) 5 := by
    rcases hm.grow g1 (Nat.le_refl _) with q | ⟨b, o, cap, c, k, lo, hi, kd, el, q1, q2, q3⟩
    · exact .inl q
    · exact .inr ⟨b, o, cap, c, k, lo, hi, kd, el, q1, Nat.lt_trans q2 hnx, q3⟩
  obtain ⟨v, h2, e1, e2, e3⟩ := hG h1 hm1
  have hbox : Box h2 (.pointer (some ⟨h.next, 0, none⟩)) (iv n) := ⟨h.next, PM.ofList [iv n], 3, rfl, by rw [e3.keep _ hnx, ← hh1]; exact get_new_same _ _, by rw [PM.get_ofList]; rfl⟩
  have g2 : Grow h.next h h2 := g1.trans e3 (Nat.le_of_lt hnx)
  refine ⟨h2, ?_, g2⟩
  rw [frameB_eq ft9 rfl rfl]
  have hbx : Box h1 (.pointer (some ⟨h.next, 0, none⟩)) (iv n) := ⟨h.next, PM.ofList [iv n], 3, rfl, by rw [← hh1]; exact get_new_same _ _, by rw [PM.get_ofList]; rfl⟩
  unfold firstR
  by_cases hE : gapE bs.length n a b = 0
  · have hn : 1 ≤ n ∧ n ≤ 480 := by
      unfold gapE at hE
      split at hE
      · split at hE
        · cases hE
        · omega
      · rename_i q; exact absurd hE q
    obtain ⟨n, rfl⟩ : ∃ k : Nat, n = k := ⟨n.toNat, by omega⟩
    rw [hE, if_pos rfl]
    have hruns := gapG_runs bs (n : Int) a b
    have hidx := hI v _ h2.next h2 n (.pointer (some ⟨h.next, 0, none⟩)) e2.row (by have := gapG_len bs (n : Int) a b; omega) hruns hbox
    have hv : evCall T0 X0 (.func (.func 22) #[] #[]) [v, .func (.func 23) #[] [.pointer (some ⟨h.next, 0, none⟩)].toArray] h2 = some (.enter 22 [v, .func (.func 23) #[] #[.pointer (some ⟨h.next, 0, none⟩)]], h2) := evCall_fn ft22 rfl
    have ht : ((n : Int)).toNat = n := rfl
    unfold firstV
    rw [ht]
    rcases idxF_find n (gapG bs (n : Int) a b) 0 hruns with ⟨f1, f2⟩ | ⟨j, p, f1, f2, f3, f4⟩
    · rw [f1]
      rw [f2] at hidx
      simp only [Try.f9, symM, opFn, Nat.reduceLT, Nat.reduceBEq, box_one (v := iv (n : Int)) rfl, hh1, hbx.load, evCall_fn ft21 rfl, e1, hE, bin_neq, show ((0 : Int) == 0) = true from rfl, hv, hidx, bin_lss, show decide ((-1 : Int) < 0) = true from rfl]
      exact retB_two ft9 rfl (by simp only [symM, Nat.reduceBEq]) get_same
    · rw [f1]
      rw [f4, Nat.zero_add] at hidx
      have hjs : decide ((j : Int) < 0) = false := decide_eq_false (by omega)
      obtain ⟨q, i1, i2⟩ := e2.row.at und_c128s sz_c128 agg_c128 (i := j) (x := cx p.1 p.2) (by simp [runsV, f2])
      have hbg := hb p.1 p.2 n h2 (hruns p (List.mem_of_getElem? f2)) f3 (by omega)
      simp only [Try.f9, symM, opFn, Nat.reduceLT, Nat.reduceBEq, box_one (v := iv (n : Int)) rfl, hh1, hbx.load, evCall_fn ft21 rfl, e1, hE, bin_neq, show ((0 : Int) == 0) = true from rfl, hv, hidx, bin_lss, hjs, codeB_draw]
      have hp := plan_First
      simp only [regOps, part, Try.f9, sub] at hp
      rw [draw_plan hp rfl]
      simp only [drawAll, opFn, Nat.reduceLT, Nat.reduceBEq, i1, i2, hbox.load, evCall_fn ft24 rfl, hbg]
      exact retB_two ft9 rfl (by simp only [symM, Nat.reduceBEq]) get_same
  · rw [if_neg hE]
    have hb0 : (gapE bs.length n a b == 0) = false := by simpa using hE
    simp only [Try.f9, symM, opFn, Nat.reduceLT, Nat.reduceBEq, box_one (v := iv n) rfl, hh1, hbx.load, evCall_fn ft21 rfl, e1, bin_neq, hb0]
    exact retB_two ft9 rfl (by simp only [symM, Nat.reduceBEq]) get_same
end
end Go.Proofs.Ytcpihpjphdlmfaa.Abs
