/- Choices: what the functions of package choose answer, for every memory: the first run. -/
import Derived.Test.YtcpihpjphdlmfaaNum
namespace Go.Proofs.Ytcpihpjphdlmfaa.Abs
open Go Go.Proofs
noncomputable section
theorem ft21 : T0.ft.get 21 = some Try.f21 := by kernel_rfl
theorem ft24 : T0.ft.get 24 = some Try.f24 := by kernel_rfl
theorem ft9 : T0.ft.get 9 = some Try.f9 := by kernel_rfl
theorem ft23 : T0.ft.get 23 = some Try.f23 := by kernel_rfl
theorem ft22 : T0.ft.get 22 = some Try.f22 := by kernel_rfl
variable {call : Abs.Callee}
set_option maxRecDepth 10000
/-- The first so many blocks of a run. -/
theorem Cut_S (hP : ∀ (x y : Nat) h, x ≤ 1048576 → y ≤ 1048576 → call 50 [cx x y] h = some (partsV x y, h)) (hm : ∀ (x y : Int) h, zok x = true → zok y = true → call 51 [iv x, iv y] h = some (make1V x y, h))
    (x y n : Nat) (hr : runOK x y = true) (hn : n ≤ y) (h : AH) : frameB T0 X0 call 3000 41 [cx x y, iv n] h = some (.tuple #[make1V x n, make1V (x + n : Nat) (y - n : Nat), iv 0], h) := by
  have hxy : 1 ≤ y ∧ x + y ≤ 480 := by simpa [runOK] using hr
  have hp : partsV x y = .tuple #[iv x, iv y, iv 0] := by unfold partsV; rw [hr]; rfl
  have hw1 : IntKind.i64.wrap ((x : Int) + n) = ((x + n : Nat) : Int) := by rw [IntWalk.i64_in _ (by omega)]; omega
  have hw2 : IntKind.i64.wrap ((y : Int) - n) = ((y - n : Nat) : Int) := by rw [IntWalk.i64_in _ (by omega)]; omega
  rw [frameB_eq ft41 rfl rfl]
  simp only [Try.f41, symM, opFn, Nat.reduceLT, Nat.reduceBEq, evCall_fn ft50 rfl, evCall_fn ft51 rfl, hP x y _ (by omega) (by omega), hp, bin_neq, bin_lss, bin_gtr, bin_add, bin_sub, hw1, hw2, decide_eq_false (show ¬ (n : Int) < 0 by omega), decide_eq_false (show ¬ (y : Int) < n by omega),
    hm x n _ (zok_k (by omega)) (zok_k (by omega)), hm (x + n : Nat) (y - n : Nat) _ (zok_k (by omega)) (zok_k (by omega)), show ((0 : Int) == 0) = true from rfl]
  exact retB_three ft41 rfl (by simp only [symM, Nat.reduceBEq]) (by simp only [symM, Nat.reduceBEq]) get_same
theorem begin_S (hC : ∀ (x y n : Nat) h, runOK x y = true → n ≤ y → call 41 [cx x y, iv n] h = some (.tuple #[make1V x n, make1V (x + n : Nat) (y - n : Nat), iv 0], h))
    (x y n : Nat) (hr : runOK x y = true) (hn : n ≤ y) (h1 : 1 ≤ n) (h : AH) : frameB T0 X0 call 3000 24 [cx x y, iv n] h = some (cx x n, h) := by
  have hm : make1V x n = cx x n := if_neg (by omega)
  rw [frameB_eq ft24 rfl rfl]
  simp only [Try.f24, symM, opFn, Nat.reduceLT, Nat.reduceBEq, evCall_fn ft41 rfl, hC x y n _ hr hn, hm]
  exact retB_one ft24 rfl get_same

def gapE (len : Nat) (n a b : Int) : Int := if downE len a b = 0 then (if n < 1 ∨ n > 480 then 1 else 0) else downE len a b
def gapG (bs : List Nat) (n a b : Int) : List (Nat × Nat) := if gapE bs.length n a b = 0 then downG bs a b else []
theorem gaps_S (bs : List Nat) (m : Value) (h : AH) (n a b : Int)
    (hD : ∃ v h', call 40 [m, iv a, iv b] h = some (.tuple #[v, iv (downE bs.length a b)], h') ∧ Own h.next h' v (runsV (downG bs a b)) 23 ∧ Grow h.next h h') :
    ∃ v h', frameB T0 X0 call 3000 21 [m, iv n, iv a, iv b] h = some (.tuple #[v, iv (gapE bs.length n a b)], h') ∧ Own h.next h' v (runsV (gapG bs n a b)) 23 ∧ Grow h.next h h' := by
  obtain ⟨v, h', e1, e2, e3⟩ := hD
  rw [frameB_eq ft21 rfl rfl]
  by_cases h0 : downE bs.length a b = 0
  · by_cases hn : n < 1 ∨ n > 480
    · have hE : gapE bs.length n a b = 1 := by unfold gapE; rw [if_pos h0, if_pos hn]
      have hG : gapG bs n a b = [] := by unfold gapG; rw [hE]; rfl
      rw [hE, hG]
      refine ⟨.slice none 0 0, h', ?_, Own.nil _ _ _, e3⟩
      by_cases h1 : n < 1
      · simp only [Try.f21, symM, opFn, Nat.reduceLT, Nat.reduceBEq, evCall_fn ft40 rfl, e1, h0, bin_eql, show ((0 : Int) == 0) = true from rfl, bin_lss, decide_eq_true h1]
        exact retB_two ft21 rfl (by simp only [symM, Nat.reduceBEq]) get_same
      · have h2 : 480 < n := by omega
        simp only [Try.f21, symM, opFn, Nat.reduceLT, Nat.reduceBEq, evCall_fn ft40 rfl, e1, h0, bin_eql, show ((0 : Int) == 0) = true from rfl, bin_lss, decide_eq_false h1, bin_gtr, decide_eq_true h2]
        exact retB_two ft21 rfl (by simp only [symM, Nat.reduceBEq]) get_same
    · have hE : gapE bs.length n a b = 0 := by unfold gapE; rw [if_pos h0, if_neg hn]
      have hG : gapG bs n a b = downG bs a b := by unfold gapG; rw [hE]; rfl
      rw [hE, hG]
      refine ⟨v, h', ?_, e2, e3⟩
      simp only [Try.f21, symM, opFn, Nat.reduceLT, Nat.reduceBEq, evCall_fn ft40 rfl, e1, h0, bin_eql, show ((0 : Int) == 0) = true from rfl, bin_lss, bin_gtr, decide_eq_false (show ¬ n < 1 by omega), decide_eq_false (show ¬ 480 < n by omega)]
      exact retB_two ft21 rfl (by simp only [symM, Nat.reduceBEq]) get_same
  · have hE : gapE bs.length n a b = downE bs.length a b := by unfold gapE; rw [if_neg h0]
    have hG : gapG bs n a b = [] := by unfold gapG; rw [hE, if_neg h0]
    have hG2 : downG bs a b = [] := by unfold downG; rw [if_neg h0]
    have hb : (downE bs.length a b == 0) = false := by simpa using h0
    rw [hE, hG]
    rw [hG2] at e2
    refine ⟨v, h', ?_, e2, e3⟩
    simp only [Try.f21, symM, opFn, Nat.reduceLT, Nat.reduceBEq, evCall_fn ft40 rfl, e1, bin_eql, hb]
    exact retB_two ft21 rfl (by simp only [symM, Nat.reduceBEq]) get_same
theorem agg_int : aggT T0 3 = some false := by kernel_rfl
/-- A box that bears a number. -/
def Box (h : AH) (p v : Value) : Prop := ∃ b c el, p = .pointer (some ⟨b, 0, none⟩) ∧ h.get b = some (.cells c 1 el 0 0 .ex) ∧ c.get 0 = some v
theorem Box.load {h : AH} {p v : Value} (hb : Box h p v) : evLoad T0 3 p h = some v := by
  obtain ⟨b, c, el, rfl, h1, h2⟩ := hb
  exact load_one agg_int h1 (by omega) h2
theorem First1_S (x y n : Nat) (hx : x ≤ 1048576) (hy : y ≤ 1048576) (p : Value) (h : AH) (hb : Box h p (iv n)) : frameB T0 X0 call 3000 23 [cx x y, p] h = some (.bool (decide (n ≤ y)), h) := by
  rw [frameB_eq ft23 rfl rfl]
  simp only [Try.f23, symM, opFn, Nat.reduceLT, Nat.reduceBEq, conv_f2i und_f64 und_int (zok_k (x := (y : Int)) (by omega)) (i64_range hy), hb.load, bin_geq]
  rw [show decide (n ≤ y) = decide ((n : Int) ≤ y) from decide_eq_decide.2 (by omega)]
  exact retB_one ft23 rfl get_same

/-- Where it holds first; -1: nowhere. -/
def idxF (p : Value → Bool) : List Value → Nat → Int
  | [], _ => -1
  | x :: l, i => bif p x then (i : Int) else idxF p l (i + 1)
noncomputable def bodyI : Code := part Try.f22 [1, 0, 1, 0, 0]
abbrev EIdx : Env := ⟨22, 19, none⟩
theorem loopI (s : Value) (L : List Value) (n0 : Nat) (h : AH) (g : Nat) (cap : List Value) (fd : Func) (c : Code) (hg : T0.ft.get g = some fd) (hgb : fd.body = some c) (p : Value → Bool) (hs : Row n0 h s L 23) (hL : L.length < 1000000)
    (hp : ∀ x ∈ L, call g (x :: cap) h = some (.bool (p x), h)) :
    ∀ (l : List Value) (i : Nat) (tm : PM Value) (N : Nat), L.drop i = l → i + l.length = L.length → l.length + 20 ≤ N → tm.get 0 = some s → tm.get 1 = some (.func (.func g) #[] cap.toArray) → tm.get 7 = some (iv L.length) → tm.get 8 = some (iv i) →
      ∃ tm', (codeB T0 X0 call N EIdx (.loop bodyI) tm h [] = .jump .ret tm' h [] ∧ tm'.get 4 = some (iv (idxF p l i))) ∨ (codeB T0 X0 call N EIdx (.loop bodyI) tm h [] = .jump (.exit 0) tm' h [] ∧ idxF p l i = -1) := by
  intro l
  induction l with
  | nil =>
    intro i tm N hd hi hN h0 h1 h7 h8
    obtain ⟨N, rfl⟩ : ∃ a, N = a + 20 := ⟨N - 20, by simp at hN; omega⟩
    have hlt : decide ((i : Int) < (L.length : Nat)) = false := decide_eq_false (by simp at hi; omega)
    apply Exists.intro
    right
    refine ⟨?_, rfl⟩
    rw [codeB_loop]
    simp only [bodyI, part, Try.f22, sub, symM, opFn, Nat.reduceLT, Nat.reduceBEq, h7, h8, bin_lss, hlt]
    rfl
  | cons x l ih =>
    intro i tm N hd hi hN h0 h1 h7 h8
    obtain ⟨N, rfl⟩ : ∃ a, N = a + 20 := ⟨N - 20, by simp at hN; omega⟩
    have hlt : decide ((i : Int) < (L.length : Nat)) = true := decide_eq_true (by simp at hi; omega)
    have hx : L[i]? = some x := by have := congrArg (fun l => l[0]?) hd; simpa using this
    obtain ⟨q, e1, e2⟩ := hs.at und_c128s sz_c128 agg_c128 hx
    have hcall := hp x (List.mem_of_getElem? hx)
    have hw : IntKind.i64.wrap ((i : Int) + 1) = ((i + 1 : Nat) : Int) := by rw [IntWalk.i64_in _ (by simp at hi; omega)]; simp
    cases hb : p x with
    | true =>
      apply Exists.intro
      left
      apply And.intro
      · rw [codeB_loop]
        simp only [bodyI, part, Try.f22, sub, symM, opFn, Nat.reduceLT, Nat.reduceBEq, h0, h1, h7, h8, bin_lss, hlt, e1, e2, evCall_clo hg hgb, List.cons_append, List.nil_append, hcall, hb]
        rfl
      · simp only [symM, Nat.reduceBEq, idxF, hb, cond_true]
    | false =>
      rw [show N + 20 = (N + 19) + 1 from rfl, codeB_loop]
      simp only [bodyI, part, Try.f22, sub, symM, opFn, Nat.reduceLT, Nat.reduceBEq, h0, h1, h7, h8, bin_lss, hlt, e1, e2, evCall_clo hg hgb, List.cons_append, List.nil_append, hcall, hb, bin_add, hw]
      rw [show idxF p (x :: l) i = idxF p l (i + 1) from by rw [idxF, hb]; rfl]
      exact ih (i + 1) _ (N + 19) (by rw [← List.drop_drop, hd]; rfl) (by simp at hi ⊢; omega) (by simp at hN ⊢; omega) (by simp only [symM, Nat.reduceBEq, h0]) (by simp only [symM, Nat.reduceBEq, h1]) (by simp only [symM, Nat.reduceBEq, h7]) get_same
theorem Index_S (s : Value) (L : List Value) (n0 : Nat) (h : AH) (g : Nat) (cap : List Value) (fd : Func) (c : Code) (hg : T0.ft.get g = some fd) (hgb : fd.body = some c) (p : Value → Bool) (hs : Row n0 h s L 23) (hL : L.length < 900)
    (hp : ∀ x ∈ L, call g (x :: cap) h = some (.bool (p x), h)) : frameB T0 X0 call 3000 22 [s, .func (.func g) #[] cap.toArray] h = some (iv (idxF p L 0), h) := by
  rw [frameB_eq ft22 rfl rfl]
  have hL2 := fun tm N => loopI s L n0 h g cap fd c hg hgb p hs (by omega) hp L 0 tm N rfl (by simp)
  simp only [Try.f22, symM, opFn, Nat.reduceLT, Nat.reduceBEq, hs.len und_c128s]
  refine bind_loopJ (b := bodyI) (Q := fun x => ∃ tm', (x = .jump .ret tm' h [] ∧ tm'.get 4 = some (iv (idxF p L 0))) ∨ (x = .jump (.exit 0) tm' h [] ∧ idxF p L 0 = -1)) (P := fun x => endF T0 22 x = some (iv (idxF p L 0), h)) ?_ ?_
  · exact hL2 _ _ (by omega) (by simp only [symM, Nat.reduceBEq]) (by simp only [symM, Nat.reduceBEq]) (by simp only [symM, Nat.reduceBEq]) (by simp only [symM, Nat.reduceBEq]; rfl)
  · intro x ⟨tm', hx⟩
    rcases hx with ⟨rfl, h4⟩ | ⟨rfl, h4⟩
    · simp only [symM, opFn, Nat.reduceLT, Nat.reduceBEq]
      exact retB_one ft22 rfl h4
    · rw [h4]
      simp only [symM, opFn, Nat.reduceLT, Nat.reduceBEq]
      exact retB_one ft22 rfl get_same
end
end Go.Proofs.Ytcpihpjphdlmfaa.Abs
namespace Go.Proofs.Ytcpihpjphdlmfaa.Abs
open Go Go.Proofs
noncomputable section
variable {call : Abs.Callee}
set_option maxRecDepth 10000
/-- The first gap that is long enough: so many blocks of it. -/
def firstV (l : List (Nat × Nat)) (n : Nat) : Value := match l.find? (fun p => decide (n ≤ p.2)) with
  | some p => .tuple #[cx p.1 n, iv 0]
  | none => .tuple #[.complex .f64 0 0, iv 6]
def firstR (bs : List Nat) (n a b : Int) : Value := if gapE bs.length n a b = 0 then firstV (gapG bs n a b) n.toNat else .tuple #[.complex .f64 0 0, iv (gapE bs.length n a b)]
/-- All are runs. -/
def AllRuns (l : List (Nat × Nat)) : Prop := ∀ p ∈ l, runOK p.1 p.2 = true
theorem gapsG_runs (d : Nat → Bool) : ∀ (k n first : Nat), first ≤ n → n + k ≤ 480 → AllRuns (gapsG d k n first) := by
  intro k
  induction k with
  | zero =>
    intro n first hf hn
    rw [gapsG]
    cases hb : Nat.blt first n with
    | false => intro p hp; simp at hp
    | true =>
      have := blt_lt hb
      intro p hp
      simp at hp
      subst hp
      simp [runOK]; omega
  | succ k ih =>
    intro n first hf hn
    rw [gapsG]
    cases d n with
    | true => simp only [cond_true]; exact ih _ _ (by omega) (by omega)
    | false =>
      simp only [cond_false]
      intro p hp
      rw [List.mem_append] at hp
      rcases hp with hp | hp
      · cases hb : Nat.blt first n with
        | false => rw [hb] at hp; simp at hp
        | true =>
          have := blt_lt hb
          rw [hb] at hp
          simp at hp
          subst hp
          simp [runOK]; omega
      · exact ih _ _ (by omega) (by omega) p hp
theorem downG_runs (bs : List Nat) (a b : Int) : AllRuns (downG bs a b) := by
  unfold downG
  by_cases h : downE bs.length a b = 0
  · rw [if_pos h]
    unfold downE at h
    by_cases h1 : bs.length ≠ 60
    · rw [if_pos h1] at h; cases h
    · rw [if_neg h1] at h
      by_cases h2 : a < 0 ∨ a > b ∨ b > 480
      · rw [if_pos h2] at h; cases h
      · exact gapsG_runs _ _ _ _ (Nat.le_refl _) (by omega)
  · rw [if_neg h]; intro p hp; simp at hp
theorem gapG_runs (bs : List Nat) (n a b : Int) : AllRuns (gapG bs n a b) := by
  unfold gapG
  split
  · exact downG_runs _ _ _
  · intro p hp; simp at hp
theorem gapG_len (bs : List Nat) (n a b : Int) : (gapG bs n a b).length ≤ 481 := by
  unfold gapG
  split
  · unfold downG
    split
    · rename_i h
      have := gapsG_len (fun i => !bitB bs i) (b.toNat - a.toNat) a.toNat a.toNat
      have h3 : b.toNat ≤ 480 := by
        unfold downE at h
        split at h
        · cases h
        · split at h
          · cases h
          · omega
      omega
    · simp
  · simp
/-- What the callback asks. -/
def geP (n : Nat) : Value → Bool
  | .complex _ _ y => (match dz y with
    | some z => decide ((n : Int) ≤ z)
    | none => false)
  | _ => false
theorem geP_cx (n x y : Nat) (hy : y ≤ 1048576) : geP n (cx x y) = decide (n ≤ y) := by
  show (match dz (zd (y : Int)) with | some z => decide ((n : Int) ≤ z) | none => false) = _
  rw [dz_zd (zok_k (by omega))]
  exact decide_eq_decide.2 (by omega)
theorem idxF_find (n : Nat) : ∀ (l : List (Nat × Nat)) (i : Nat), AllRuns l → (l.find? (fun p => decide (n ≤ p.2)) = none ∧ idxF (geP n) (runsV l) i = -1) ∨
    ∃ j p, l.find? (fun p => decide (n ≤ p.2)) = some p ∧ l[j]? = some p ∧ n ≤ p.2 ∧ idxF (geP n) (runsV l) i = ((i + j : Nat) : Int) := by
  intro l
  induction l with
  | nil => intro i _; exact .inl ⟨rfl, rfl⟩
  | cons q l ih =>
    intro i hl
    have hq := hl q (List.mem_cons_self ..)
    have hq2 : 1 ≤ q.2 ∧ q.1 + q.2 ≤ 480 := by simpa [runOK] using hq
    have hg : geP n (cx q.1 q.2) = decide (n ≤ q.2) := geP_cx n q.1 q.2 (by omega)
    by_cases h : n ≤ q.2
    · right
      refine ⟨0, q, by simp [h], rfl, h, ?_⟩
      show idxF (geP n) (cx q.1 q.2 :: runsV l) i = _
      rw [idxF, hg, decide_eq_true h]
      rfl
    · have hi : idxF (geP n) (runsV (q :: l)) i = idxF (geP n) (runsV l) (i + 1) := by
        show idxF (geP n) (cx q.1 q.2 :: runsV l) i = _
        rw [idxF, hg, decide_eq_false h]; rfl
      rw [hi]
      have hf : (q :: l).find? (fun p => decide (n ≤ p.2)) = l.find? (fun p => decide (n ≤ p.2)) := by simp [h]
      rw [hf]
      rcases ih (i + 1) (fun p hp => hl p (List.mem_cons_of_mem _ hp)) with ⟨e1, e2⟩ | ⟨j, p, e1, e2, e3, e4⟩
      · exact .inl ⟨e1, e2⟩
      · exact .inr ⟨j + 1, p, e1, by simpa using e2, e3, by rw [e4]; congr 1; omega⟩
def regOps (f : Func) (p : List Nat) : Array Oper := match part f p with
  | .region _ ops _ => ops
  | _ => #[]
theorem plan_First : planB (regOps Try.f9 [1, 1, 1, 1, 1, 0]) 35 = some ([.one 0, .one 1, .one 2, .one 3, .one 4, .eff [] 5 [], .one 6, .one 7], []) := by kernel_rfl
theorem First_S (bs : List Nat) (m : Value) (h : AH) (n a b : Int) (hm : Row h.next h m (bytesV bs) 5)
    (hG : ∀ h2, Row h2.next h2 m (bytesV bs) 5 → ∃ v h', call 21 [m, iv n, iv a, iv b] h2 = some (.tuple #[v, iv (gapE bs.length n a b)], h') ∧ Own h2.next h' v (runsV (gapG bs n a b)) 23 ∧ Grow h2.next h2 h')
    (hI : ∀ (s : Value) (l : List (Nat × Nat)) (n0 : Nat) (h : AH) (n : Nat) (q : Value), Row n0 h s (runsV l) 23 → l.length < 900 → AllRuns l → Box h q (iv n) → call 22 [s, .func (.func 23) #[] #[q]] h = some (iv (idxF (geP n) (runsV l) 0), h))
    (hb : ∀ (x y n : Nat) (h : AH), runOK x y = true → n ≤ y → 1 ≤ n → call 24 [cx x y, iv n] h = some (cx x n, h)) :
    ∃ h', frameB T0 X0 call 3000 9 [m, iv n, iv a, iv b] h = some (firstR bs n a b, h') ∧ Grow h.next h h' := by
  generalize hh1 : h.new (.cells (PM.ofList [iv n]) 1 3 0 0 .ex) = h1
  have g1 : Grow h.next h h1 := by rw [← hh1]; exact Grow.new _ _
  have hnx : h.next < h1.next := by rw [← hh1]; exact Nat.lt_succ_self _
  have hm1 : Row h1.next h1 m (bytesV bs) 5 := by
    rcases hm.grow g1 (Nat.le_refl _) with q | ⟨b, o, cap, c, k, lo, hi, kd, el, q1, q2, q3⟩
    · exact .inl q
    · exact .inr ⟨b, o, cap, c, k, lo, hi, kd, el, q1, Nat.lt_trans q2 hnx, q3⟩
  obtain ⟨v, h2, e1, e2, e3⟩ := hG h1 hm1
  have hbox : Box h2 (.pointer (some ⟨h.next, 0, none⟩)) (iv n) := ⟨h.next, PM.ofList [iv n], 3, rfl, by rw [e3.keep _ hnx, ← hh1]; exact get_new_same _ _, by rw [PM.get_ofList]; rfl⟩
  have g2 : Grow h.next h h2 := g1.trans e3 (Nat.le_of_lt hnx)
  refine ⟨h2, ?_, g2⟩
  rw [frameB_eq ft9 rfl rfl]
  have hbx : Box h1 (.pointer (some ⟨h.next, 0, none⟩)) (iv n) := ⟨h.next, PM.ofList [iv n], 3, rfl, by rw [← hh1]; exact get_new_same _ _, by rw [PM.get_ofList]; rfl⟩
  unfold firstR
  by_cases hE : gapE bs.length n a b = 0
  · have hn : 1 ≤ n ∧ n ≤ 480 := by
      unfold gapE at hE
      split at hE
      · split at hE
        · cases hE
        · omega
      · rename_i q; exact absurd hE q
    obtain ⟨n, rfl⟩ : ∃ k : Nat, n = k := ⟨n.toNat, by omega⟩
    rw [hE, if_pos rfl]
    have hruns := gapG_runs bs (n : Int) a b
    have hidx := hI v _ h2.next h2 n (.pointer (some ⟨h.next, 0, none⟩)) e2.row (by have := gapG_len bs (n : Int) a b; omega) hruns hbox
    have hv : evCall T0 X0 (.func (.func 22) #[] #[]) [v, .func (.func 23) #[] [.pointer (some ⟨h.next, 0, none⟩)].toArray] h2 = some (.enter 22 [v, .func (.func 23) #[] #[.pointer (some ⟨h.next, 0, none⟩)]], h2) := evCall_fn ft22 rfl
    have ht : ((n : Int)).toNat = n := rfl
    unfold firstV
    rw [ht]
    rcases idxF_find n (gapG bs (n : Int) a b) 0 hruns with ⟨f1, f2⟩ | ⟨j, p, f1, f2, f3, f4⟩
    · rw [f1]
      rw [f2] at hidx
      simp only [Try.f9, symM, opFn, Nat.reduceLT, Nat.reduceBEq, box_one (v := iv (n : Int)) rfl, hh1, hbx.load, evCall_fn ft21 rfl, e1, hE, bin_neq, show ((0 : Int) == 0) = true from rfl, hv, hidx, bin_lss, show decide ((-1 : Int) < 0) = true from rfl]
      exact retB_two ft9 rfl (by simp only [symM, Nat.reduceBEq]) get_same
    · rw [f1]
      rw [f4, Nat.zero_add] at hidx
      have hjs : decide ((j : Int) < 0) = false := decide_eq_false (by omega)
      obtain ⟨q, i1, i2⟩ := e2.row.at und_c128s sz_c128 agg_c128 (i := j) (x := cx p.1 p.2) (by simp [runsV, f2])
      have hbg := hb p.1 p.2 n h2 (hruns p (List.mem_of_getElem? f2)) f3 (by omega)
      simp only [Try.f9, symM, opFn, Nat.reduceLT, Nat.reduceBEq, box_one (v := iv (n : Int)) rfl, hh1, hbx.load, evCall_fn ft21 rfl, e1, hE, bin_neq, show ((0 : Int) == 0) = true from rfl, hv, hidx, bin_lss, hjs, codeB_draw]
      have hp := plan_First
      simp only [regOps, part, Try.f9, sub] at hp
      rw [draw_plan hp rfl]
      simp only [drawAll, opFn, Nat.reduceLT, Nat.reduceBEq, i1, i2, hbox.load, evCall_fn ft24 rfl, hbg]
      exact retB_two ft9 rfl (by simp only [symM, Nat.reduceBEq]) get_same
  · rw [if_neg hE]
    have hb0 : (gapE bs.length n a b == 0) = false := by simpa using hE
    simp only [Try.f9, symM, opFn, Nat.reduceLT, Nat.reduceBEq, box_one (v := iv n) rfl, hh1, hbx.load, evCall_fn ft21 rfl, e1, bin_neq, hb0]
    exact retB_two ft9 rfl (by simp only [symM, Nat.reduceBEq]) get_same
end
end Go.Proofs.Ytcpihpjphdlmfaa.Abs
