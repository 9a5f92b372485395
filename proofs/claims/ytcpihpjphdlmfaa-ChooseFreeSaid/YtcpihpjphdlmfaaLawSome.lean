/- ChooseSome: what the law answers, for every memory. -/
import Derived.Test.YtcpihpjphdlmfaaSome
namespace Go.Proofs.Ytcpihpjphdlmfaa.Abs
open Go Go.Proofs Go.Sort
noncomputable section
set_option maxRecDepth 10000
theorem ft5 : T0.ft.get 5 = some Try.f5 := by kernel_rfl
section
variable {g : Nat} {c : NN → NN → Int} {v : Value} {n0 : Nat}
abbrev CmpsOK (g : Nat) (c : NN → NN → Int) : Prop := ∀ d, 4 ≤ d → CmpOK (C d) g c
theorem s_ins (hc : CmpsOK g c) (d : Nat) (hd : 5 ≤ d) : PermOK (C d) 52 v n0 g 0 (insertionSort (ltc c)) := by
  obtain ⟨e, rfl, he⟩ := at1 hd
  intro a b dd h hab hb hs hK _ hv
  rw [C_f rfl]; exact insertionSort_S (hc e he) v n0 a b dd h hab hb hs hK hv
theorem s_sd (hc : CmpsOK g c) (d : Nat) (hd : 5 ≤ d) : SdOK (C d) g c v n0 := by
  obtain ⟨e, rfl, he⟩ := at1 hd
  intro lo hi first dd h hl hb hs hK hv
  rw [C_f rfl]; exact siftDown_S (hc e he) v n0 lo hi first dd h hl hb hs hK hv
theorem s_heap (hc : CmpsOK g c) (d : Nat) (hd : 6 ≤ d) : PermOK (C d) 54 v n0 g 1 (heapSort (ltc c)) := by
  obtain ⟨e, rfl, he⟩ := at1 hd
  intro a b dd h hab hb hs hK _ hv
  rw [C_f rfl]; exact heapSort_S (s_sd hc e he) a b dd h hab hb hs hK hv
theorem s_Len64 (d : Nat) (hd : 1 ≤ d) (n : Nat) (h : AH) (hn : n < 512) : C d 62 [uv n] h = some (iv (bitsLen n), h) := by
  obtain ⟨e, rfl, he⟩ := at1 hd
  rw [C_f rfl]; exact Len64_S n hn h
theorem s_Len (d : Nat) (hd : 2 ≤ d) (n : Nat) (h : AH) (hn : n < 512) : C d 46 [uv n] h = some (iv (bitsLen n), h) := by
  obtain ⟨e, rfl, he⟩ := at1 hd
  rw [C_f rfl]; exact Len_S (s_Len64 e he) n hn h
theorem s_npow (d : Nat) (hd : 3 ≤ d) (n : Nat) (h : AH) (hn : n < 512) : C d 67 [iv n] h = some (uv ((1 <<< bitsLen n : Nat) : Int), h) := by
  obtain ⟨e, rfl, he⟩ := at1 hd
  rw [C_f rfl]; exact Next2_S (s_Len e he) n hn h
theorem s_next (d : Nat) (hd : 1 ≤ d) (b : Nat) (r : UInt64) (h : AH) (hb : BoxT h b 84 (uv (r.toNat : Int))) : ∃ h', C d 68 [ptr b] h = some (uv ((xorNext r).toNat : Int), h') ∧ BoxT h' b 84 (uv ((xorNext r).toNat : Int)) ∧ h'.next = h.next ∧ ∀ k, k ≠ b → h'.get k = h.get k := by
  obtain ⟨e, rfl, he⟩ := at1 hd
  rw [C_f rfl]; exact Next_S b r h hb
theorem s_brk (d : Nat) (hd : 4 ≤ d) : PermOK (C d) 55 v n0 g 0 breakPatterns := by
  obtain ⟨e, rfl, he⟩ := at1 hd
  intro a b dd h hab hb hs hK hn hv
  rw [C_f rfl]; exact breakPatterns_S v n0 a b g dd h hn hab hb hs hK hv (s_next e (by omega)) (s_npow e he)
theorem s_rev (d : Nat) (hd : 1 ≤ d) : PermOK (C d) 57 v n0 g 1 reverseRange := by
  obtain ⟨e, rfl, he⟩ := at1 hd
  intro a b dd h hab hb hs hK hn hv
  rw [C_f rfl]; exact reverseRange_S v n0 a b g dd h hab hb hs hK hv
theorem s_o2 (hc : CmpsOK g c) (d : Nat) (hd : 5 ≤ d) (dd : Array NN) (hK : AllK dd) (bx : Nat) : O2OK (C d) g c v n0 dd bx := by
  obtain ⟨e, rfl, he⟩ := at1 hd
  intro a b s h ha hb hs hx hv
  rw [C_f rfl]; exact order2_S (hc e he) v n0 dd bx hK a b s h ha hb hs hx hv
theorem s_med (hc : CmpsOK g c) (d : Nat) (hd : 6 ≤ d) (dd : Array NN) (hK : AllK dd) (bx : Nat) (hoff : Off v bx) : MedOK (C d) g c v n0 dd bx := by
  obtain ⟨e, rfl, he⟩ := at1 hd
  intro i j k s h hi hj hk hs hx hv
  rw [C_f rfl]; exact median_S (s_o2 hc e he dd hK bx) hoff i j k s h hi hj hk hs hx hv
theorem s_mad (hc : CmpsOK g c) (d : Nat) (hd : 7 ≤ d) (dd : Array NN) (hsz : dd.size ≤ 480) (hK : AllK dd) (bx : Nat) (hoff : Off v bx) : MadOK (C d) g c v n0 dd bx := by
  obtain ⟨e, rfl, he⟩ := at1 hd
  intro i s h h1 h2 hs hx hv
  rw [C_f rfl]; exact medianAdjacent_S (s_med hc e he dd hK bx hoff) i s h h1 h2 hsz hs hx hv
theorem s_pq (hc : CmpsOK g c) (d : Nat) (hd : 9 ≤ d) : PqCalls (C d) g c v n0 := by
  obtain ⟨e, rfl, he⟩ := at1 hd
  refine ⟨hc _ (by omega), s_ins hc _ (by omega), s_heap hc _ (by omega), s_brk _ (by omega), s_rev _ (by omega), ?_, ?_, ?_, ?_⟩
  · intro a b dd h hab hb h8 hs hK hv
    rw [C_f rfl]; exact choosePivot_S (fun bx hoff => s_med hc e (by omega) dd hK bx hoff) (fun bx hoff => s_mad hc e (by omega) dd hs hK bx hoff) a b h hab hb h8 hs hv
  · intro a b dd h hab hb hs hK hn hv
    rw [C_f rfl]; exact partialInsertionSort_S (hc e (by omega)) v n0 a b dd h hab hb hs hK hv
  · intro a b pv dd h hab h1 h2 hb hs hK hv
    rw [C_f rfl]; exact partitionEqual_S (hc e (by omega)) v n0 a b pv dd h hab h1 h2 hb hs hK hv
  · intro a b pv dd h hab h1 h2 hb hs hK hv
    rw [C_f rfl]; exact partition_S (hc e (by omega)) v n0 a b pv dd h hab h1 h2 hb hs hK hv
theorem s_pdq (hc : CmpsOK g c) : ∀ (M d : Nat), M + 20 ≤ d → PdqOK (C d) g c v n0 M := by
  intro M
  induction M with
  | zero => intro d _ a b lim dd h hlt; omega
  | succ M ih =>
    intro d hd
    obtain ⟨e, rfl, he⟩ := at1 (k := M + 20) (show M + 20 + 1 ≤ d by omega)
    intro a b lim dd h hlt hab hlim hb hs hK hn hv
    rw [C_f rfl]; exact pdqsort_S (s_pq hc e (by omega)) (ih e he) a b lim dd h (by omega) hab hlim hb hs hK hn hv
theorem s_sr (d : Nat) (hd : 1 ≤ d) : SrOK (C d) v n0 g := by
  obtain ⟨e, rfl, he⟩ := at1 hd
  intro a b n dd h hab hb hs hK hv
  rw [C_f rfl]; exact swapRange_S v n0 g a b n dd h hab hb hs hK hv
theorem s_ro (d : Nat) (hd : 2 ≤ d) : RoOK (C d) v n0 g := by
  obtain ⟨e, rfl, he⟩ := at1 hd
  intro a m b dd h ham hmb hb hs hK hv
  rw [C_f rfl]; exact rotate_S (s_sr e he) a m b dd h ham hmb hb hs hK hv
theorem s_sym (hc : CmpsOK g c) (hl : ByLen c) : ∀ (M d : Nat), M + 20 ≤ d → SymOK (C d) v n0 g M := by
  intro M
  induction M with
  | zero => intro d _ a m b dd h hlt; omega
  | succ M ih =>
    intro d hd
    obtain ⟨e, rfl, he⟩ := at1 (k := M + 20) (show M + 20 + 1 ≤ d by omega)
    intro a m b dd h hlt ham hmb hb hs hK h1 h2 h3 hv
    rw [C_f rfl]; exact symMerge_S (hc e (by omega)) hl (s_ro e (by omega)) (ih e he) a m b dd h (by omega) ham hmb hb hs hK h1 h2 h3 hv
theorem s_st (hc : CmpsOK g c) (hl : ByLen c) (d : Nat) (hd : 1021 ≤ d) : StOK (C d) v n0 g := by
  obtain ⟨e, rfl, he⟩ := at1 hd
  intro dd h hs hK hn hx hv
  rw [C_f rfl]; exact stable_S hl (s_ins hc e (by omega)) (s_sym hc hl 1000 e (by omega)) dd h hs hK hn hx hv
end
def cLen (p q : NN) : Int := cmpZ q.2 p.2
def cBeg (p q : NN) : Int := cmpZ p.1 q.1
theorem cLen_by : ByLen cLen := by
  intro x y
  unfold ltc cLen cmpZ
  refine decide_eq_decide.2 ?_
  split
  · omega
  · split <;> omega
theorem cBeg_lt (x y : NN) : ltc cBeg x y = decide (x.1 < y.1) := by
  unfold ltc cBeg cmpZ
  refine decide_eq_decide.2 ?_
  split
  · omega
  · split <;> omega
theorem cBeg_swo : SWO (ltc cBeg) := by
  constructor
  · intro x; rw [cBeg_lt, decide_eq_false_iff_not]; omega
  · intro x y z h1 h2
    rw [cBeg_lt, decide_eq_true_eq] at *
    omega
  · intro x y z h1 h2
    rw [cBeg_lt, decide_eq_false_iff_not] at *
    omega
theorem s_c1 : CmpsOK 34 cLen := by
  intro d hd
  obtain ⟨e, rfl, he⟩ := at1 (k := 3) (show 3 + 1 ≤ d by omega)
  refine ⟨fun args h => evCall_fn ft34 rfl, fun p q h hp hq => ?_⟩
  rw [C_f rfl]
  exact Some1_S (fun x y h hx hy => s_Compare e (by omega) x y h hx hy) p.1 p.2 q.1 q.2 (zok_k (by have := hp.2; omega)) (zok_k (by have := hq.2; omega)) h
theorem s_c2 : CmpsOK 36 cBeg := by
  intro d hd
  obtain ⟨e, rfl, he⟩ := at1 (k := 3) (show 3 + 1 ≤ d by omega)
  refine ⟨fun args h => evCall_fn ft36 rfl, fun p q h hp hq => ?_⟩
  rw [C_f rfl]
  exact Some2_S (fun x y h hx hy => s_Compare e (by omega) x y h hx hy) p.1 p.2 q.1 q.2 (zok_k (by have := hp.1; omega)) (zok_k (by have := hq.1; omega)) h
theorem s_SortStable (d : Nat) (hd : 1022 ≤ d) (v : Value) (n0 : Nat) (L : List NN) (h : AH) (hL : L.length ≤ 480) (hK : KL L) (hn0 : n0 ≤ h.next) (hx : L.Pairwise crs) (hv : Own n0 h v (runsV L) 23) :
    ∃ h', ∃ S : List NN, C d 33 [v, fnV 34] h = some (.tuple #[], h') ∧ Own n0 h' v (runsV S) 23 ∧ S.Perm L ∧ S.Pairwise wpre ∧ Grow n0 h h' := by
  obtain ⟨e, rfl, he⟩ := at1 hd
  rw [C_f rfl]; exact SortStable_S (s_st s_c1 cLen_by e he) L h hL hK hn0 hx hv
theorem s_SortFunc (d : Nat) (hd : 1021 ≤ d) (v : Value) (n0 : Nat) (L : List NN) (h : AH) (hL : L.length ≤ 480) (hK : KL L) (hn0 : n0 ≤ h.next) (hv : Own n0 h v (runsV L) 23) :
    ∃ h', ∃ S : List NN, C d 35 [v, fnV 36] h = some (.tuple #[], h') ∧ Own n0 h' v (runsV S) 23 ∧ S.Perm L ∧ S.Pairwise (fun x y => x.1 ≤ y.1) ∧ Grow n0 h h' := by
  obtain ⟨e, rfl, he⟩ := at1 hd
  rw [C_f rfl]
  obtain ⟨h1, S, e1, e2, e3, e4, e5⟩ := SortFunc_S (s_pdq s_c2 1000 e (by omega)) (s_Len e (by omega)) cBeg_swo L h hL hK hn0 hv
  refine ⟨h1, S, e1, e2, e3, e4.imp (fun {x y} hxy => ?_), e5⟩
  rw [cBeg_lt] at hxy
  have := of_decide_eq_false hxy
  omega
theorem s_Some (d : Nat) (hd : 1023 ≤ d) (bs : List Nat) (hbs : ∀ x ∈ bs, x < 256) (m : Value) (h : AH) (n a b : Int) (hm : Row h.next h m (bytesV bs) 5) :
    ∃ v h' T e, C d 14 [m, iv n, iv a, iv b] h = some (.tuple #[v, iv e], h') ∧ someP bs n a b T e ∧ AllRuns T ∧ T.length ≤ 480 ∧ Own h.next h' v (runsV T) 23 ∧ Grow h.next h h' := by
  obtain ⟨e, rfl, he⟩ := at1 hd
  rw [C_f rfl]
  exact Some_S bs m h n a b (s_gaps e (by omega) bs hbs m h n a b hm) (s_SortStable e he) (s_SortFunc e (by omega)) (s_begin e (by omega))
theorem s_rSome (d : Nat) (hd : 5 ≤ d) (bs : List Nat) (hbs : ∀ x ∈ bs, x < 256) (m : Value) (h : AH) (n a b : Int) (hm : Row h.next h m (bytesV bs) 5) :
    ∃ v h' T e, C d 15 [m, iv n, iv a, iv b] h = some (.tuple #[v, iv e], h') ∧ someP bs n a b T e ∧ AllRuns T ∧ T.length ≤ 480 ∧ Own h.next h' v (runsV T) 23 ∧ Grow h.next h h' := by
  obtain ⟨e, rfl, he⟩ := at1 hd
  rw [C_f rfl]; exact rSome_S bs m h n a b (s_rGaps e he bs hbs m h n a b hm) (s_rsize e he) (s_rbegin e he)
theorem s_Same (d : Nat) (hd : 1 ≤ d) (A : List NN) (hA : AllRuns A) (hl : A.length ≤ 480) (x y : Value) (n0 : Nat) (h : AH) (hx : Row n0 h x (runsV A) 23) (hy : Row n0 h y (runsV A) 23) :
    C d 16 [x, y] h = some (.bool true, h) := by
  obtain ⟨e, rfl, he⟩ := at1 hd
  rw [C_f rfl]; exact Same_S A hA hl x y n0 h hx hy
theorem lawSome_S (bs : List Nat) (hbs : ∀ x ∈ bs, x < 256) (m : Value) (h : AH) (n a b : Int) (hm : Row h.next h m (bytesV bs) 5) : ∃ h', C 1100 5 [m, iv n, iv a, iv b] h = some (.bool true, h') := by
  rw [C_f rfl, frameB_eq ft5 rfl rfl]
  obtain ⟨v1, h1, T1, er1, e1, q1, r1, l1, o1, g1⟩ := s_Some 1099 (by omega) bs hbs m h n a b hm
  obtain ⟨v2, h2, T2, er2, e2, q2, r2, l2, o2, g2⟩ := s_rSome 1099 (by omega) bs hbs m h1 n a b ((hm.grow g1 (Nat.le_refl _)).more g1.next)
  obtain ⟨rfl, rfl⟩ := someP_same q1 q2
  have o1' := o1.grow g2
  have hs := s_Same 1099 (by omega) T1 r1 l1 v1 v2 h2.next h2 o1'.row o2.row
  refine ⟨h2, ?_⟩
  simp only [Try.f5, symM, opFn, Nat.reduceLT, Nat.reduceBEq, evCall_fn ft14 rfl, e1, evCall_fn ft15 rfl, e2, evCall_fn ft11 rfl, C_aw 1099 (by omega), bin_eql, beq_self_eq_true, evCall_fn ft16 rfl, hs]
  exact retB_one ft5 rfl get_same
end
end Go.Proofs.Ytcpihpjphdlmfaa.Abs
namespace Go.Proofs.Ytcpihpjphdlmfaa.Abs
open Go Go.Proofs Go.Sort
noncomputable section
set_option maxRecDepth 10000
theorem ft7 : T0.ft.get 7 = some Try.f7 := by kernel_rfl
/-- How many blocks runs have. -/
def total (L : List NN) : Nat := (L.map (fun p => p.2)).sum
theorem rem_total : ∀ (l : List NN) (n : Nat), AllRuns l → rem n l = n - total l := by
  intro l
  induction l with
  | nil => intro n _; simp [rem, total]
  | cons q l ih =>
    intro n h
    have hq := runQ (h q (List.mem_cons_self ..))
    have ht : total (q :: l) = q.2 + total l := by simp [total]
    rw [rem, ht]
    split
    · omega
    · rw [ih _ (fun p hp => h p (List.mem_cons_of_mem _ hp))]
      omega
theorem total_perm {L S : List NN} (h : S.Perm L) : total S = total L := (h.map _).sum_nat
/-- The error of First and Tight. -/
def fitE (bs : List Nat) (n a b : Int) : Int := if gapE bs.length n a b = 0 then (if longs (gapG bs n a b) n.toNat = [] then 6 else 0) else gapE bs.length n a b
/-- The error of Some. -/
def sumE (bs : List Nat) (n a b : Int) : Int := if gapE bs.length n a b = 0 then (if n.toNat ≤ total (gapG bs n a b) then 0 else 6) else gapE bs.length n a b
theorem someP_err {bs : List Nat} {n a b : Int} {T : List NN} {e : Int} (h : someP bs n a b T e) : e = sumE bs n a b := by
  unfold someP at h
  unfold sumE
  split at h
  · rename_i hE
    rw [if_pos hE]
    obtain ⟨S, p, w, c⟩ := h
    have hr := gapG_runs bs n a b
    have hrem := rem_total S n.toNat (fun q hq => hr q (p.mem_iff.1 hq))
    rw [total_perm p] at hrem
    rcases c with ⟨c1, c2, _⟩ | ⟨c1, c2, _⟩
    · rw [c2, if_pos (by omega)]
    · rw [c2, if_neg (by omega)]
  · rename_i hE
    rw [if_neg hE]
    exact h.2
theorem find_longs (L : List NN) (n : Nat) : (L.find? (fun p => decide (n ≤ p.2)) = none ∧ longs L n = []) ∨ ∃ p r, L.find? (fun p => decide (n ≤ p.2)) = some p ∧ longs L n = p :: r := by
  induction L with
  | nil => exact .inl ⟨rfl, rfl⟩
  | cons q l ih =>
    by_cases h : n ≤ q.2
    · exact .inr ⟨q, longs l n, by simp [h], by unfold longs; rw [List.filter_cons_of_pos (by simpa using h)]⟩
    · have e1 : (q :: l).find? (fun p => decide (n ≤ p.2)) = l.find? (fun p => decide (n ≤ p.2)) := by simp [h]
      have e2 : longs (q :: l) n = longs l n := by unfold longs; rw [List.filter_cons_of_neg (by simpa using h)]
      rw [e1, e2]
      exact ih
theorem zero_cx (e : Int) : (.tuple #[.complex .f64 0 0, iv e] : Value) = .tuple #[cx ((0 : Nat) : Int) ((0 : Nat) : Int), iv e] := by rw [show ((0 : Nat) : Int) = 0 from rfl, show cx 0 0 = .complex .f64 0 0 from by unfold cx; rw [zd_zero]]
/-- What First answers, and its error. -/
theorem firstR_fit (bs : List Nat) (n a b : Int) : (∃ p r, gapE bs.length n a b = 0 ∧ fitE bs n a b = 0 ∧ longs (gapG bs n a b) n.toNat = p :: r ∧ firstR bs n a b = .tuple #[cx p.1 n.toNat, iv 0]) ∨
    (fitE bs n a b ≠ 0 ∧ firstR bs n a b = .tuple #[cx ((0 : Nat) : Int) ((0 : Nat) : Int), iv (fitE bs n a b)]) := by
  unfold firstR fitE
  by_cases hE : gapE bs.length n a b = 0
  · simp only [if_pos hE]
    unfold firstV
    rcases find_longs (gapG bs n a b) n.toNat with ⟨f1, f2⟩ | ⟨p, r, f1, f2⟩
    · rw [f1, if_pos f2]
      exact .inr ⟨by decide, zero_cx 6⟩
    · rw [f1, f2, if_neg (by simp)]
      exact .inl ⟨p, r, hE, rfl, rfl, rfl⟩
  · simp only [if_neg hE]
    exact .inr ⟨hE, zero_cx _⟩
/-- What Tight answers, and its error. -/
theorem tightR_fit (bs : List Nat) (n a b : Int) : (∃ p r, gapE bs.length n a b = 0 ∧ fitE bs n a b = 0 ∧ longs (gapG bs n a b) n.toNat = p :: r ∧ tightR bs n a b = .tuple #[cx (minR p r).1 n.toNat, iv 0]) ∨
    (fitE bs n a b ≠ 0 ∧ tightR bs n a b = .tuple #[cx ((0 : Nat) : Int) ((0 : Nat) : Int), iv (fitE bs n a b)]) := by
  unfold tightR fitE
  by_cases hE : gapE bs.length n a b = 0
  · simp only [if_pos hE]
    unfold tightV
    cases hl : longs (gapG bs n a b) n.toNat with
    | nil => rw [if_pos rfl]; exact .inr ⟨by decide, zero_cx 6⟩
    | cons p r => rw [if_neg (by simp)]; exact .inl ⟨p, r, hE, rfl, rfl, rfl⟩
  · simp only [if_neg hE]
    exact .inr ⟨hE, zero_cx _⟩
theorem firstR_e (bs : List Nat) (n a b : Int) : ∃ x y : Int, firstR bs n a b = .tuple #[cx x y, iv (fitE bs n a b)] := by
  rcases firstR_fit bs n a b with ⟨p, r, _, h1, _, h2⟩ | ⟨_, h2⟩
  · exact ⟨_, _, by rw [h1]; exact h2⟩
  · exact ⟨_, _, h2⟩
theorem tightR_e (bs : List Nat) (n a b : Int) : ∃ x y : Int, tightR bs n a b = .tuple #[cx x y, iv (fitE bs n a b)] := by
  rcases tightR_fit bs n a b with ⟨p, r, _, h1, _, h2⟩ | ⟨_, h2⟩
  · exact ⟨_, _, by rw [h1]; exact h2⟩
  · exact ⟨_, _, h2⟩
theorem gapE_less {len : Nat} {n k a b : Int} (h : gapE len n a b = 0) (h1 : 1 ≤ k) (h2 : k ≤ n) : gapE len k a b = 0 := by
  unfold gapE at h ⊢
  split at h
  · rename_i hd
    rw [if_pos hd]
    split at h
    · cases h
    · rw [if_neg (by omega)]
  · rename_i hd
    exact absurd h hd
theorem gapG_same {bs : List Nat} {n k a b : Int} (h : gapE bs.length n a b = 0) (h2 : gapE bs.length k a b = 0) : gapG bs k a b = gapG bs n a b := by
  unfold gapG
  rw [if_pos h, if_pos h2]
theorem sumE_less {bs : List Nat} {n k a b : Int} (h : sumE bs n a b = 0) (h1 : 1 ≤ k) (h2 : k ≤ n) : sumE bs k a b = 0 := by
  unfold sumE at h ⊢
  split at h
  · rename_i hE
    have hk := gapE_less hE h1 h2
    rw [if_pos hk, gapG_same hE hk]
    split at h
    · rw [if_pos (by omega)]
    · cases h
  · rename_i hE; exact absurd h hE
theorem fitE_less {bs : List Nat} {n k a b : Int} (h : fitE bs n a b = 0) (h1 : 1 ≤ k) (h2 : k ≤ n) : fitE bs k a b = 0 := by
  unfold fitE at h ⊢
  split at h
  · rename_i hE
    have hk := gapE_less hE h1 h2
    rw [if_pos hk, gapG_same hE hk]
    split at h
    · cases h
    · rename_i hl
      rw [if_neg ?_]
      intro hn
      apply hl
      rw [longs, List.filter_eq_nil_iff] at hn ⊢
      intro p hp hc
      apply hn p hp
      simp at hc ⊢
      omega
  · rename_i hE; exact absurd h hE
theorem lawLess_S (bs : List Nat) (hbs : ∀ x ∈ bs, x < 256) (m : Value) (h : AH) (n k a b : Int) (hm : Row h.next h m (bytesV bs) 5) : ∃ h', C 1100 7 [m, iv n, iv k, iv a, iv b] h = some (.bool true, h') := by
  rw [C_f rfl, frameB_eq ft7 rfl rfl]
  obtain ⟨v1, h1, T1, er1, e1, q1, r1, l1, o1, g1⟩ := s_Some 1099 (by omega) bs hbs m h n a b hm
  have m1 : Row h1.next h1 m (bytesV bs) 5 := (hm.grow g1 (Nat.le_refl _)).more g1.next
  obtain ⟨h2, e2, g2⟩ := s_First 1099 (by omega) bs hbs m h1 n a b m1
  have m2 : Row h2.next h2 m (bytesV bs) 5 := (m1.grow g2 (Nat.le_refl _)).more g2.next
  obtain ⟨x2, y2, f2⟩ := firstR_e bs n a b
  rw [f2] at e2
  have hs1 := someP_err q1
  subst hs1
  by_cases hk : k < 1
  · refine ⟨h2, ?_⟩
    simp only [Try.f7, symM, opFn, Nat.reduceLT, Nat.reduceBEq, evCall_fn ft14 rfl, e1, evCall_fn ft9 rfl, e2, evCall_fn ft11 rfl, C_aw 1099 (by omega), bin_lss, decide_eq_true hk]
    exact retB_one ft7 rfl get_same
  · by_cases hkn : n < k
    · refine ⟨h2, ?_⟩
      simp only [Try.f7, symM, opFn, Nat.reduceLT, Nat.reduceBEq, evCall_fn ft14 rfl, e1, evCall_fn ft9 rfl, e2, evCall_fn ft11 rfl, C_aw 1099 (by omega), bin_lss, decide_eq_false hk, bin_gtr, decide_eq_true hkn]
      exact retB_one ft7 rfl get_same
    · obtain ⟨v3, h3, T3, er3, e3, q3, r3, l3, o3, g3⟩ := s_Some 1099 (by omega) bs hbs m h2 k a b m2
      have m3 : Row h3.next h3 m (bytesV bs) 5 := (m2.grow g3 (Nat.le_refl _)).more g3.next
      obtain ⟨h4, e4, g4⟩ := s_Tight 1099 (by omega) bs hbs m h3 k a b m3
      obtain ⟨x4, y4, f4⟩ := tightR_e bs k a b
      rw [f4] at e4
      have hs3 := someP_err q3
      subst hs3
      refine ⟨h4, ?_⟩
      have c1 : ∀ x y : Int, (x = 0 → y = 0) → (x == 0) = false ∨ (x == 0) = true ∧ (y == 0) = true := fun x y hxy => by
        by_cases hx : x = 0
        · exact .inr ⟨by simp [hx], by simp [hxy hx]⟩
        · exact .inl (by simp [hx])
      have A := c1 (sumE bs n a b) (sumE bs k a b) (fun hh => sumE_less hh (by omega) (by omega))
      have B := c1 (fitE bs n a b) (fitE bs k a b) (fun hh => fitE_less hh (by omega) (by omega))
      rcases A with A | ⟨A, A'⟩ <;> rcases B with B | ⟨B, B'⟩
      · simp only [Try.f7, symM, opFn, Nat.reduceLT, Nat.reduceBEq, evCall_fn ft14 rfl, e1, evCall_fn ft9 rfl, e2, evCall_fn ft11 rfl, C_aw 1099 (by omega), bin_lss, decide_eq_false hk, bin_gtr, decide_eq_false hkn, e3, evCall_fn ft12 rfl, e4, bin_neq, A, B]
        exact retB_one ft7 rfl get_same
      · simp only [Try.f7, symM, opFn, Nat.reduceLT, Nat.reduceBEq, evCall_fn ft14 rfl, e1, evCall_fn ft9 rfl, e2, evCall_fn ft11 rfl, C_aw 1099 (by omega), bin_lss, decide_eq_false hk, bin_gtr, decide_eq_false hkn, e3, evCall_fn ft12 rfl, e4, bin_neq, bin_eql, A, B, B']
        exact retB_one ft7 rfl get_same
      · simp only [Try.f7, symM, opFn, Nat.reduceLT, Nat.reduceBEq, evCall_fn ft14 rfl, e1, evCall_fn ft9 rfl, e2, evCall_fn ft11 rfl, C_aw 1099 (by omega), bin_lss, decide_eq_false hk, bin_gtr, decide_eq_false hkn, e3, evCall_fn ft12 rfl, e4, bin_neq, bin_eql, A, A', B]
        exact retB_one ft7 rfl get_same
      · simp only [Try.f7, symM, opFn, Nat.reduceLT, Nat.reduceBEq, evCall_fn ft14 rfl, e1, evCall_fn ft9 rfl, e2, evCall_fn ft11 rfl, C_aw 1099 (by omega), bin_lss, decide_eq_false hk, bin_gtr, decide_eq_false hkn, e3, evCall_fn ft12 rfl, e4, bin_neq, bin_eql, A, A', B, B']
        exact retB_one ft7 rfl get_same
end
end Go.Proofs.Ytcpihpjphdlmfaa.Abs
namespace Go.Proofs.Ytcpihpjphdlmfaa.Abs
open Go Go.Proofs Go.Sort
noncomputable section
set_option maxRecDepth 10000
theorem ft8 : T0.ft.get 8 = some Try.f8 := by kernel_rfl
theorem asc_total : ∀ (L : List NN) (lo hi : Nat), Asc L → (∀ p ∈ L, lo ≤ p.1 ∧ p.1 + p.2 ≤ hi) → lo ≤ hi → total L ≤ hi - lo := by
  intro L
  induction L with
  | nil => intro lo hi _ _ _; simp [total]
  | cons q l ih =>
    intro lo hi h hb hlh
    obtain ⟨h1, h2⟩ := List.pairwise_cons.1 h
    have hq := hb q (List.mem_cons_self ..)
    have := ih (q.1 + q.2) hi h2 (fun p hp => ⟨h1 p hp, (hb p (List.mem_cons_of_mem _ hp)).2⟩) hq.2
    have ht : total (q :: l) = q.2 + total l := by simp [total]
    omega
theorem runs_total {L : List NN} (h : Asc L) (hr : AllRuns L) : total L ≤ 480 := by
  have := asc_total L 0 480 h (fun p hp => ⟨Nat.zero_le _, (runQ (hr p hp)).2⟩) (Nat.zero_le _)
  omega
theorem pick_all : ∀ (S : List NN) (n : Nat), AllRuns S → n = total S → pick n S = S := by
  intro S
  induction S with
  | nil => intro n _ _; rfl
  | cons q l ih =>
    intro n h hn
    have hq := runQ (h q (List.mem_cons_self ..))
    have ht : total (q :: l) = q.2 + total l := by simp [total]
    have hm : min n q.2 = q.2 := by omega
    rw [pick, hm, if_neg (by omega), ih _ (fun p hp => h p (List.mem_cons_of_mem _ hp)) (by omega)]
/-- All blocks are all gaps. -/
theorem someR_all {L T : List NN} {e : Int} (hasc : Asc L) (hr : AllRuns L) (h : SomeR L (total L) T e) : T = L := by
  obtain ⟨S, p, w, c⟩ := h
  have hSr : AllRuns S := fun q hq => hr q (p.mem_iff.1 hq)
  have hrem := rem_total S (total L) hSr
  rw [total_perm p] at hrem
  rcases c with ⟨c1, c2, c3, c4⟩ | ⟨c1, c2, c3⟩
  · rw [pick_all S _ hSr (total_perm p).symm] at c3
    have hTL := c3.trans p
    refine List.Perm.eq_of_pairwise (le := fun x y : NN => x.1 ≤ y.1) (fun a b ha hb h1 h2 => ne_inj L (asc_ne hasc hr) a (hTL.mem_iff.1 ha) b hb (by omega)) c4 (hasc.imp (fun {x y} hxy => by omega)) hTL
  · omega
noncomputable def bodyAl : Code := part Try.f8 [1, 1, 1, 0, 1, 0, 0]
abbrev EAl : Env := ⟨8, 79, none⟩
theorem alL (L : List NN) (hr : AllRuns L) (hl : L.length ≤ 480) (s m x1 x2 x8 : Value) (n0 : Nat) (h : AH) (hs : Row n0 h s (runsV L) 23) :
    ∀ (l : List NN) (i acc : Nat) (tm : PM Value) (N : Nat), L.drop i = l → i + l.length = L.length → l.length + 60 ≤ N → acc ≤ 480 * i → tm.get 0 = some m → tm.get 1 = some x1 → tm.get 2 = some x2 → tm.get 7 = some s → tm.get 8 = some x8 → tm.get 9 = some (iv acc) → tm.get 10 = some (iv i) →
      ∃ tm' h', codeB T0 X0 (C 1099) N EAl (.loop bodyAl) tm h [] = .jump (.exit 0) tm' h' [] ∧ (h' = h ∧ tm'.get 0 = some m ∧ tm'.get 1 = some x1 ∧ tm'.get 2 = some x2 ∧ tm'.get 7 = some s ∧ tm'.get 8 = some x8 ∧ tm'.get 9 = some (iv ((acc + total l : Nat) : Int))) := by
  intro l
  induction l with
  | nil =>
    intro i acc tm N hd hi hN ha g0 g1 g2 g7 g8 g9 g10
    obtain ⟨N, rfl⟩ : ∃ a, N = a + 30 := ⟨N - 30, by simp at hN; omega⟩
    have hlt : decide ((i : Int) < ((runsV L).length : Nat)) = false := decide_eq_false (by simp [runsV] at hi ⊢; omega)
    apply Exists.intro; apply Exists.intro; apply And.intro
    · rw [codeB_loop]
      simp only [bodyAl, part, Try.f8, sub, symM, opFn, Nat.reduceLT, Nat.reduceBEq, g7, g10, hs.len und_c128s, bin_lss, hlt]
      rfl
    · exact ⟨rfl, by simp only [symM, Nat.reduceBEq, g0], by simp only [symM, Nat.reduceBEq, g1], by simp only [symM, Nat.reduceBEq, g2], by simp only [symM, Nat.reduceBEq, g7], by simp only [symM, Nat.reduceBEq, g8], by simp only [symM, Nat.reduceBEq, g9]; rfl⟩
  | cons q l ih =>
    intro i acc tm N hd hi hN ha g0 g1 g2 g7 g8 g9 g10
    obtain ⟨N, rfl⟩ : ∃ a, N = a + 30 := ⟨N - 30, by simp at hN; omega⟩
    have hil : i < L.length := by simp at hi; omega
    have hlt : decide ((i : Int) < ((runsV L).length : Nat)) = true := decide_eq_true (by simp [runsV]; omega)
    have hx : L[i]? = some q := by have := congrArg (fun l => l[0]?) hd; simpa using this
    have hq := runQ (hr q (List.mem_of_getElem? hx))
    have hxv : (runsV L)[i]? = some (cx q.1 q.2) := by simp [runsV, hx]
    obtain ⟨p, a1, a2⟩ := hs.at und_c128s sz_c128 agg_c128 hxv
    have hcv := conv_f2i (T := T0) (h := h) und_f64 und_int (zok_k (x := (q.2 : Int)) (by omega)) (i64_range (show q.2 ≤ 1048576 by omega))
    have hw : IntKind.i64.wrap ((acc : Int) + (q.2 : Int)) = ((acc + q.2 : Nat) : Int) := wadd (by omega)
    have ht : total (q :: l) = q.2 + total l := by simp [total]
    rw [show N + 30 = (N + 29) + 1 from rfl, codeB_loop, ht, ← Nat.add_assoc]
    simp only [bodyAl, part, Try.f8, sub, symM, opFn, Nat.reduceLT, Nat.reduceBEq, g7, g9, g10, hs.len und_c128s, bin_lss, hlt, a1, a2, hcv, bin_add, hw, wadd1 (show i ≤ 400000 by omega)]
    refine ih (i + 1) (acc + q.2) _ (N + 29) (by rw [← List.drop_drop, hd]; rfl) (by simp at hi ⊢; omega) (by simp at hN ⊢; omega) (by omega) ?_ ?_ ?_ ?_ ?_ ?_ get_same <;> simp only [symM, Nat.reduceBEq, g0, g1, g2, g7, g8]
theorem lawAll_S (bs : List Nat) (hbs : ∀ x ∈ bs, x < 256) (m : Value) (h : AH) (a b : Int) (hm : Row h.next h m (bytesV bs) 5) : ∃ h', C 1100 8 [m, iv a, iv b] h = some (.bool true, h') := by
  rw [C_f rfl, frameB_eq ft8 rfl rfl]
  obtain ⟨v1, h1, e1, o1, g1⟩ := s_rDown 1099 (by omega) bs hbs m h a b hm
  have m1 : Row h1.next h1 m (bytesV bs) 5 := (hm.grow g1 (Nat.le_refl _)).more g1.next
  obtain ⟨hasc, hlen⟩ := downG_asc bs a b
  have hruns := downG_runs bs a b
  have htot := runs_total hasc hruns
  have h0 : downE bs.length a b ≠ 0 → total (downG bs a b) = 0 := fun hne => by unfold downG; rw [if_neg hne]; rfl
  simp only [Try.f8, symM, opFn, Nat.reduceLT, Nat.reduceBEq, symL, evCall_fn ft20 rfl, e1]
  generalize hX : codeB T0 X0 (C 1099) _ EAl (.loop _) _ _ _ = X
  obtain ⟨t2, h2, e2, eh, p0, p1, p2, p7, p8, p9⟩ := use_exit hX (alL (downG bs a b) hruns hlen v1 m (iv a) (iv b) (iv (downE bs.length a b)) h1.next h1 o1.row (downG bs a b) 0 0 _ _ rfl (by simp) (by omega) (by omega) (by simp only [symM, Nat.reduceBEq]) (by simp only [symM, Nat.reduceBEq]) (by simp only [symM, Nat.reduceBEq]) (by simp only [symM, Nat.reduceBEq]) (by simp only [symM, Nat.reduceBEq]) (by simp only [symM, Nat.reduceBEq]; rfl) (by simp only [symM]; rfl))
  clear hX
  rw [eh] at e2
  subst e2
  rw [Nat.zero_add] at p9
  by_cases hD : downE bs.length a b = 0
  · have hGn : ∀ n : Int, 1 ≤ n → n ≤ 480 → gapE bs.length n a b = 0 := fun n h1 h2 => by unfold gapE; rw [if_pos hD, if_neg (by omega)]
    have hGG : ∀ n : Int, 1 ≤ n → n ≤ 480 → gapG bs n a b = downG bs a b := fun n h1 h2 => by unfold gapG; rw [if_pos (hGn n h1 h2)]
    rw [hD] at p8
    by_cases ht0 : total (downG bs a b) = 0
    · rw [ht0] at p9
      refine ⟨h1, ?_⟩
      simp only [symM, opFn, Nat.reduceLT, Nat.reduceBEq, symL, evCall_fn ft11 rfl, C_aw 1099 (by omega), p8, p9, bin_neq, bin_eql, show ((0 : Int) == 0) = true from rfl, show (((0 : Nat) : Int) == 0) = true from rfl]
      exact retB_one ft8 rfl get_same
    · have n0 : (((total (downG bs a b) : Nat) : Int) == 0) = false := by rw [beq_eq_false_iff_ne]; omega
      by_cases ht4 : total (downG bs a b) = 480
      · have n4 : (((total (downG bs a b) : Nat) : Int) == 480) = true := by rw [ht4]; rfl
        refine ⟨h1, ?_⟩
        simp only [symM, opFn, Nat.reduceLT, Nat.reduceBEq, symL, evCall_fn ft11 rfl, C_aw 1099 (by omega), p8, p9, bin_neq, bin_eql, show ((0 : Int) == 0) = true from rfl, n0, n4]
        exact retB_one ft8 rfl get_same
      · have n4 : (((total (downG bs a b) : Nat) : Int) == 480) = false := by rw [beq_eq_false_iff_ne]; omega
        obtain ⟨v3, h3, T3, er3, e3, q3, r3, l3, o3, g3⟩ := s_Some 1099 (by omega) bs hbs m h1 (total (downG bs a b) : Nat) a b m1
        have m3 : Row h3.next h3 m (bytesV bs) 5 := (m1.grow g3 (Nat.le_refl _)).more g3.next
        obtain ⟨v4, h4, T4, er4, e4, q4, r4, l4, o4, g4⟩ := s_Some 1099 (by omega) bs hbs m h3 ((total (downG bs a b) + 1 : Nat) : Int) a b m3
        have hw : IntKind.i64.wrap (((total (downG bs a b) : Nat) : Int) + 1) = ((total (downG bs a b) + 1 : Nat) : Int) := wadd1 (by omega)
        have z3 : er3 = 0 := by
          rw [someP_err q3]; unfold sumE
          rw [if_pos (hGn _ (by omega) (by omega)), hGG _ (by omega) (by omega), if_pos (by simp)]
        have z4 : er4 = 6 := by
          rw [someP_err q4]; unfold sumE
          rw [if_pos (hGn _ (by omega) (by omega)), hGG _ (by omega) (by omega), if_neg (by simp)]
        have hT : T3 = downG bs a b := by
          unfold someP at q3
          rw [if_pos (hGn _ (by omega) (by omega)), hGG _ (by omega) (by omega), show ((total (downG bs a b) : Nat) : Int).toNat = total (downG bs a b) from rfl] at q3
          exact someR_all hasc hruns q3
        subst z3; subst z4
        rw [hT] at o3
        have hs := s_Same 1099 (by omega) (downG bs a b) hruns hlen v3 v1 h4.next h4 (o3.grow g4).row ((o1.grow g3).grow g4).row
        refine ⟨h4, ?_⟩
        simp only [symM, opFn, Nat.reduceLT, Nat.reduceBEq, symL, evCall_fn ft11 rfl, C_aw 1099 (by omega), p0, p1, p2, p7, p8, p9, bin_neq, bin_eql, show ((0 : Int) == 0) = true from rfl, show ((6 : Int) == 6) = true from rfl, n0, n4, evCall_fn ft14 rfl, e3, bin_add, hw, e4, evCall_fn ft16 rfl, hs]
        exact retB_one ft8 rfl get_same
  · have hD2 : (downE bs.length a b == 0) = false := by simpa using hD
    refine ⟨h1, ?_⟩
    simp only [symM, opFn, Nat.reduceLT, Nat.reduceBEq, symL, evCall_fn ft11 rfl, C_aw 1099 (by omega), p8, bin_neq, hD2]
    exact retB_one ft8 rfl get_same
end
end Go.Proofs.Ytcpihpjphdlmfaa.Abs
namespace Go.Proofs.Ytcpihpjphdlmfaa.Abs
open Go Go.Proofs Go.Sort
noncomputable section
variable {call : Abs.Callee}
set_option maxRecDepth 10000
theorem ft6 : T0.ft.get 6 = some Try.f6 := by kernel_rfl
theorem ft19 : T0.ft.get 19 = some Try.f19 := by kernel_rfl
abbrev EFe : Env := ⟨19, 49, none⟩
noncomputable def bodyFe : Code := part Try.f19 [1, 1, 1, 0, 1, 0, 0]
theorem feL (U : Nat → Bool) (x e : Nat) (he : e ≤ 480) (a b : Int) (u m : Value) (n0 : Nat) (h : AH) (hu : Row n0 h u (boolsV U 0 480) 4) (y : Nat) (hxy : x + y = e) (ha : a ≤ x) (hb : (e : Int) ≤ b) (hU : ∀ i, x ≤ i → i < e → U i = false) :
    ∀ (k j : Nat) (tm : PM Value) (N : Nat), j + k = e → x ≤ j → k + 60 ≤ N → tm.get 2 = some (iv a) → tm.get 3 = some (iv b) → tm.get 9 = some u → tm.get 10 = some (iv x) → tm.get 11 = some (iv y) → tm.get 12 = some (.bool true) → tm.get 13 = some (iv j) →
      ∃ tm' h', codeB T0 X0 call N EFe (.loop bodyFe) tm h [] = .jump (.exit 0) tm' h' [] ∧ (h' = h ∧ tm'.get 12 = some (.bool true)) := by
  intro k
  have hw : IntKind.i64.wrap ((x : Int) + y) = (e : Int) := by rw [wadd (show x + y ≤ 4000000 by omega), hxy]
  induction k with
  | zero =>
    intro j tm N hj hxj hN g2 g3 g9 g10 g11 g12 g13
    obtain ⟨N, rfl⟩ : ∃ a, N = a + 30 := ⟨N - 30, by omega⟩
    apply Exists.intro; apply Exists.intro; apply And.intro
    · rw [codeB_loop]
      simp only [bodyFe, part, Try.f19, sub, symM, opFn, Nat.reduceLT, Nat.reduceBEq, g10, g11, g13, bin_add, hw, bin_lss, decide_eq_false (show ¬ (j : Int) < (e : Nat) by omega)]
      rfl
    · exact ⟨rfl, by simp only [symM, Nat.reduceBEq, g12]⟩
  | succ k ih =>
    intro j tm N hj hxj hN g2 g3 g9 g10 g11 g12 g13
    obtain ⟨N, rfl⟩ : ∃ a, N = a + 30 := ⟨N - 30, by omega⟩
    obtain ⟨p, a1, a2⟩ := hu.at und_bools sz_bool agg_bool (boolsV_at U (show j < 480 by omega))
    rw [hU j hxj (by omega)] at a2
    rw [show N + 30 = (N + 29) + 1 from rfl, codeB_loop]
    simp only [bodyFe, part, Try.f19, sub, symM, opFn, Nat.reduceLT, Nat.reduceBEq, g2, g3, g9, g10, g11, g12, g13, bin_add, hw, bin_lss, decide_eq_true (show (j : Int) < (e : Nat) by omega), bin_geq, decide_eq_true (show a ≤ (j : Int) by omega), decide_eq_true (show (j : Int) < b by omega), a1, a2, wadd1 (show j ≤ 400000 by omega)]
    refine ih (j + 1) _ (N + 29) (by omega) (by omega) (by omega) ?_ ?_ ?_ ?_ ?_ ?_ get_same <;> simp only [symM, Nat.reduceBEq, g2, g3, g9, g10, g11]
theorem free_S (bs : List Nat) (m : Value) (h : AH) (x y : Nat) (a b : Int) (hr : runOK x y = true) (ha : a ≤ x) (hb : ((x + y : Nat) : Int) ≤ b) (hU : ∀ i, x ≤ i → i < x + y → bitB bs i = false)
    (hUp : ∃ v h', call 17 [m] h = some (v, h') ∧ Own h.next h' v (boolsV (bitB bs) 0 480) 4 ∧ Grow h.next h h')
    (hP : ∀ (x y : Nat) (h : AH), x ≤ 1048576 → y ≤ 1048576 → ∃ h', call 18 [cx x y] h = some (.tuple #[iv x, iv y, .bool (runOK x y)], h') ∧ Grow h.next h h') :
    ∃ h', frameB T0 X0 call 3000 19 [m, cx x y, iv a, iv b] h = some (.bool true, h') ∧ Grow h.next h h' := by
  rw [frameB_eq ft19 rfl rfl]
  obtain ⟨v, h1, e1, o1, g1⟩ := hUp
  have hq : 1 ≤ y ∧ x + y ≤ 480 := by simpa [runOK] using hr
  obtain ⟨h2, e2, g2⟩ := hP x y h1 (by omega) (by omega)
  rw [hr] at e2
  simp only [Try.f19, symM, opFn, Nat.reduceLT, Nat.reduceBEq, symL, evCall_fn ft17 rfl, e1, evCall_fn ft18 rfl, e2]
  generalize hX : codeB T0 X0 call _ EFe (.loop _) _ _ _ = X
  obtain ⟨t3, h3, e3, eh, p12⟩ := use_exit hX (feL (bitB bs) x (x + y) hq.2 a b v m h2.next h2 (o1.grow g2).row y rfl ha hb hU y x _ _ rfl (Nat.le_refl _) (by omega) (by simp only [symM, Nat.reduceBEq]) (by simp only [symM, Nat.reduceBEq]) (by simp only [symM, Nat.reduceBEq]) (by simp only [symM, Nat.reduceBEq]) (by simp only [symM, Nat.reduceBEq]) (by simp only [symM, Nat.reduceBEq]) get_same)
  clear hX
  rw [eh] at e3
  subst e3
  refine ⟨h2, ?_, g1.trans g2 g1.next⟩
  simp only [symM, opFn, Nat.reduceLT, symL, p12]
  exact retB_one ft19 rfl get_same
/- The law's own loops. -/
def markU (U : Nat → Bool) (j e i : Nat) : Bool := if j ≤ i ∧ i < e then true else U i
structure FrS (tm : PM Value) (x0 x1 x9 x11 x12 x13 u : Value) (a b : Int) : Prop where
  g0 : tm.get 0 = some x0
  g1 : tm.get 1 = some x1
  g2 : tm.get 2 = some (iv a)
  g3 : tm.get 3 = some (iv b)
  g9 : tm.get 9 = some x9
  g11 : tm.get 11 = some x11
  g12 : tm.get 12 = some x12
  g13 : tm.get 13 = some x13
  g15 : tm.get 15 = some u
abbrev EFr : Env := ⟨6, 185, none⟩
noncomputable def bodyFr2 : Code := part Try.f6 [1, 1, 1, 1, 1, 1, 1, 1, 0, 1, 0, 0, 1, 0, 0, 1, 1, 0, 1, 0, 0]
noncomputable def bodyFr0 : Code := part Try.f6 [1, 1, 1, 1, 1, 1, 1, 1, 0, 1, 0, 0]
set_option maxHeartbeats 1000000 in
theorem fr2L (x0 x1 x9 x11 x12 x13 x16 x17 u : Value) (a b : Int) (x y e n0 : Nat) (hxy : x + y = e) (he : e ≤ 480) (h0 : AH) :
    ∀ (k j : Nat) (U : Nat → Bool) (tm : PM Value) (h : AH) (N : Nat), j + k = e → x ≤ j → k + 60 ≤ N → (∀ i, j ≤ i → i < e → U i = false) → FrS tm x0 x1 x9 x11 x12 x13 u a b → tm.get 16 = some x16 → tm.get 17 = some x17 → tm.get 18 = some (iv x) → tm.get 19 = some (iv y) → tm.get 21 = some (iv j) → Own n0 h u (boolsV U 0 480) 4 → Grow n0 h0 h →
      ∃ tm' h', codeB T0 X0 call N EFr (.loop bodyFr2) tm h [] = .jump (.exit 2) tm' h' [] ∧ (FrS tm' x0 x1 x9 x11 x12 x13 u a b ∧ tm'.get 16 = some x16 ∧ tm'.get 17 = some x17 ∧ tm'.get 18 = some (iv x) ∧ tm'.get 19 = some (iv y) ∧ ∃ U', (∀ i, e ≤ i → U' i = U i) ∧ Own n0 h' u (boolsV U' 0 480) 4 ∧ Grow n0 h0 h') := by
  intro k
  have hw : IntKind.i64.wrap ((x : Int) + y) = (e : Int) := by rw [wadd (show x + y ≤ 4000000 by omega), hxy]
  induction k with
  | zero =>
    intro j U tm h N hj hxj hN hU s g16 g17 g18 g19 g21 hu hg
    obtain ⟨N, rfl⟩ : ∃ a, N = a + 30 := ⟨N - 30, by omega⟩
    obtain ⟨g0, g1, g2, g3, g9, g11, g12, g13, g15⟩ := s
    apply Exists.intro; apply Exists.intro; apply And.intro
    · rw [codeB_loop]
      simp only [bodyFr2, part, Try.f6, sub, symM, opFn, Nat.reduceLT, Nat.reduceBEq, g18, g19, g21, bin_add, hw, bin_lss, decide_eq_false (show ¬ (j : Int) < (e : Nat) by omega)]
      rfl
    · exact ⟨⟨by simp only [symM, Nat.reduceBEq, g0], by simp only [symM, Nat.reduceBEq, g1], by simp only [symM, Nat.reduceBEq, g2], by simp only [symM, Nat.reduceBEq, g3], by simp only [symM, Nat.reduceBEq, g9], by simp only [symM, Nat.reduceBEq, g11], by simp only [symM, Nat.reduceBEq, g12], by simp only [symM, Nat.reduceBEq, g13], by simp only [symM, Nat.reduceBEq, g15]⟩, by simp only [symM, Nat.reduceBEq, g16], by simp only [symM, Nat.reduceBEq, g17], by simp only [symM, Nat.reduceBEq, g18], by simp only [symM, Nat.reduceBEq, g19], U, fun _ _ => rfl, hu, hg⟩
  | succ k ih =>
    intro j U tm h N hj hxj hN hU s g16 g17 g18 g19 g21 hu hg
    obtain ⟨N, rfl⟩ : ∃ a, N = a + 30 := ⟨N - 30, by omega⟩
    obtain ⟨g0, g1, g2, g3, g9, g11, g12, g13, g15⟩ := id s
    have hat := boolsV_at U (k := 480) (i := j) (by omega)
    obtain ⟨p, a1, a2⟩ := hu.row.at und_bools sz_bool agg_bool hat
    rw [hU j (Nat.le_refl _) (by omega)] at a2
    obtain ⟨p2, h2, s1, s2, s3, s4, s5⟩ := hu.store und_bools sz_bool (x := .bool true) rfl hat
    rw [a1] at s1; cases s1
    rw [boolsV_use] at s3
    rw [show N + 30 = (N + 29) + 1 from rfl, codeB_loop]
    simp only [bodyFr2, part, Try.f6, sub, symM, opFn, Nat.reduceLT, Nat.reduceBEq, g15, g18, g19, g21, bin_add, hw, bin_lss, decide_eq_true (show (j : Int) < (e : Nat) by omega), a1, a2, s2, wadd1 (show j ≤ 400000 by omega)]
    generalize hX : codeB T0 X0 call _ EFr (.loop _) _ _ _ = X
    obtain ⟨t5, h5, z1, z2, z3, z4, z5, z6, U', z7, z8, z9⟩ := use_exit hX (ih (j + 1) (useU U j) _ h2 (N + 29) (by omega) (by omega) (by omega) (fun i i1 i2 => by unfold useU; rw [if_neg (by omega)]; exact hU i (by omega) i2) ⟨by simp only [symM, Nat.reduceBEq, g0], by simp only [symM, Nat.reduceBEq, g1], by simp only [symM, Nat.reduceBEq, g2], by simp only [symM, Nat.reduceBEq, g3], by simp only [symM, Nat.reduceBEq, g9], by simp only [symM, Nat.reduceBEq, g11], by simp only [symM, Nat.reduceBEq, g12], by simp only [symM, Nat.reduceBEq, g13], by simp only [symM, Nat.reduceBEq, g15]⟩ (by simp only [symM, Nat.reduceBEq, g16]) (by simp only [symM, Nat.reduceBEq, g17]) (by simp only [symM, Nat.reduceBEq, g18]) (by simp only [symM, Nat.reduceBEq, g19]) get_same s3 (hg.trans s4 (Nat.le_refl _)))
    clear hX
    subst z1
    exact ⟨t5, h5, rfl, z2, z3, z4, z5, z6, U', fun i hi => by rw [z7 i hi]; unfold useU; rw [if_neg (by omega)], z8, z9⟩
set_option maxHeartbeats 2000000 in
theorem fr0L (bs : List Nat) (T : List NN) (hTl : T.length ≤ 480) (hTr : AllRuns T) (hasc : Asc T) (x0 x1 x11 x12 x13 u l0 : Value) (a b : Int) (h0 : AH) (hl : Row h0.next h0 l0 (runsV T) 23) (hin : ∀ p ∈ T, a ≤ p.1 ∧ ((p.1 + p.2 : Nat) : Int) ≤ b ∧ ∀ i, p.1 ≤ i → i < p.1 + p.2 → bitB bs i = false)
    (hP : ∀ (x y : Nat) (h : AH), x ≤ 1048576 → y ≤ 1048576 → ∃ h', call 18 [cx x y] h = some (.tuple #[iv x, iv y, .bool (runOK x y)], h') ∧ Grow h.next h h') :
    ∀ (l : List NN) (i cur cnt : Nat) (U : Nat → Bool) (tm : PM Value) (h : AH) (N : Nat), T.drop i = l → i + l.length = T.length → l.length + 700 ≤ N → (∀ p ∈ l, cur ≤ p.1) → (∀ j, cur ≤ j → U j = bitB bs j) → cnt ≤ 480 * i → FrS tm x0 x1 l0 x11 x12 x13 u a b → tm.get 16 = some (iv cnt) → tm.get 17 = some (iv i) → Own h0.next h u (boolsV U 0 480) 4 → Grow h0.next h0 h →
      ∃ tm' h', codeB T0 X0 call N EFr (.loop bodyFr0) tm h [] = .jump (.exit 0) tm' h' [] ∧ (FrS tm' x0 x1 l0 x11 x12 x13 u a b ∧ tm'.get 16 = some (iv ((cnt + total l : Nat) : Int)) ∧ Grow h0.next h0 h') := by
  intro l
  induction l with
  | nil =>
    intro i cur cnt U tm h N hd hi hN hc hU hcn s g16 g17 hu hg
    obtain ⟨N, rfl⟩ : ∃ a, N = a + 30 := ⟨N - 30, by simp at hN; omega⟩
    obtain ⟨g0, g1, g2, g3, g9, g11, g12, g13, g15⟩ := s
    have hr := hl.grow hg (Nat.le_refl _)
    have hlt : decide ((i : Int) < ((runsV T).length : Nat)) = false := decide_eq_false (by simp [runsV] at hi ⊢; omega)
    apply Exists.intro; apply Exists.intro; apply And.intro
    · rw [codeB_loop]
      simp only [bodyFr0, part, Try.f6, sub, symM, opFn, Nat.reduceLT, Nat.reduceBEq, g9, g17, hr.len und_c128s, bin_lss, hlt]
      rfl
    · exact ⟨⟨by simp only [symM, Nat.reduceBEq, g0], by simp only [symM, Nat.reduceBEq, g1], by simp only [symM, Nat.reduceBEq, g2], by simp only [symM, Nat.reduceBEq, g3], by simp only [symM, Nat.reduceBEq, g9], by simp only [symM, Nat.reduceBEq, g11], by simp only [symM, Nat.reduceBEq, g12], by simp only [symM, Nat.reduceBEq, g13], by simp only [symM, Nat.reduceBEq, g15]⟩, by simp only [symM, Nat.reduceBEq, g16]; rfl, hg⟩
  | cons q l ih =>
    intro i cur cnt U tm h N hd hi hN hc hU hcn s g16 g17 hu hg
    obtain ⟨N, rfl⟩ : ∃ a, N = a + 30 := ⟨N - 30, by simp at hN; omega⟩
    obtain ⟨g0, g1, g2, g3, g9, g11, g12, g13, g15⟩ := id s
    have hr := hl.grow hg (Nat.le_refl _)
    have hil : i < T.length := by simp at hi; omega
    have hlt : decide ((i : Int) < ((runsV T).length : Nat)) = true := decide_eq_true (by simp [runsV]; omega)
    have hx : T[i]? = some q := by have := congrArg (fun l => l[0]?) hd; simpa using this
    have hqm := List.mem_of_getElem? hx
    have hqr := hTr q hqm
    have hq := runQ hqr
    obtain ⟨q1, q2, q3⟩ := hin q hqm
    have hxv : (runsV T)[i]? = some (cx q.1 q.2) := by simp [runsV, hx]
    obtain ⟨p, a1, a2⟩ := hr.at und_c128s sz_c128 agg_c128 hxv
    obtain ⟨h1, e1, g1'⟩ := hP q.1 q.2 h (by omega) (by omega)
    rw [hqr] at e1
    have hu1 := hu.grow g1'
    have hg1 : Grow h0.next h0 h1 := hg.trans g1' hg.next
    have hw : IntKind.i64.wrap ((q.1 : Int) + (q.2 : Int)) = ((q.1 + q.2 : Nat) : Int) := wadd (by omega)
    have hcur := hc q (List.mem_cons_self ..)
    have hdl : T.drop (i + 1) = l := by rw [← List.drop_drop, hd]; rfl
    have hlast : ∀ p ∈ l, q.1 + q.2 ≤ p.1 := by
      have hsub : (q :: l).Pairwise (fun x y => x.1 + x.2 ≤ y.1) := by rw [← hd]; exact hasc.sublist (List.drop_sublist _ _)
      exact (List.pairwise_cons.1 hsub).1
    rw [show N + 30 = (N + 29) + 1 from rfl, codeB_loop]
    simp only [bodyFr0, part, Try.f6, sub, symM, opFn, Nat.reduceLT, Nat.reduceBEq, symL, g2, g3, g9, g17, hr.len und_c128s, bin_lss, hlt, a1, a2, evCall_fn ft18 rfl, e1, decide_eq_false (show ¬ (q.1 : Int) < a by omega), bin_add, hw, bin_gtr, decide_eq_false (show ¬ b < ((q.1 + q.2 : Nat) : Int) by omega)]
    generalize hX : codeB T0 X0 call _ EFr (.loop _) _ _ _ = X
    obtain ⟨t2, h2, e2, s2, p16, p17, p18, p19, U', pU, pv, pg⟩ := use_exit hX (fr2L x0 x1 l0 x11 x12 x13 (iv cnt) (iv i) u a b q.1 q.2 (q.1 + q.2) h0.next rfl hq.2 h0 q.2 q.1 U _ h1 _ rfl (Nat.le_refl _) (by omega) (fun j j1 j2 => by rw [hU j (by omega)]; exact q3 j j1 j2) ⟨by simp only [symM, Nat.reduceBEq, g0], by simp only [symM, Nat.reduceBEq, g1], by simp only [symM, Nat.reduceBEq, g2], by simp only [symM, Nat.reduceBEq, g3], by simp only [symM, Nat.reduceBEq, g9], by simp only [symM, Nat.reduceBEq, g11], by simp only [symM, Nat.reduceBEq, g12], by simp only [symM, Nat.reduceBEq, g13], by simp only [symM, Nat.reduceBEq, g15]⟩ (by simp only [symM, Nat.reduceBEq, g16]) (by simp only [symM, Nat.reduceBEq, g17]) (by simp only [symM, Nat.reduceBEq]) (by simp only [symM, Nat.reduceBEq]) get_same hu1 hg1)
    clear hX
    subst e2
    obtain ⟨k0, k1, k2, k3, k9, k11, k12, k13, k15⟩ := s2
    have hws : IntKind.i64.wrap ((cnt : Int) + (q.2 : Int)) = ((cnt + q.2 : Nat) : Int) := wadd (by omega)
    have ht : total (q :: l) = q.2 + total l := by simp [total]
    simp only [symM, opFn, Nat.reduceLT, Nat.reduceBEq, symL, p16, p17, p19, bin_add, hws, wadd1 (show i ≤ 400000 by omega)]
    rw [ht, ← Nat.add_assoc]
    generalize hX : codeB T0 X0 call _ EFr (.loop _) _ _ _ = X
    have fin := use_exit hX (ih (i + 1) (q.1 + q.2) (cnt + q.2) U' _ h2 (N + 29) hdl (by simp at hi ⊢; omega) (by simp at hN ⊢; omega) hlast (fun j hj => by rw [pU j hj]; exact hU j (by omega)) (by omega) ⟨by simp only [symM, Nat.reduceBEq, k0], by simp only [symM, Nat.reduceBEq, k1], by simp only [symM, Nat.reduceBEq, k2], by simp only [symM, Nat.reduceBEq, k3], by simp only [symM, Nat.reduceBEq, k9], by simp only [symM, Nat.reduceBEq, k11], by simp only [symM, Nat.reduceBEq, k12], by simp only [symM, Nat.reduceBEq, k13], by simp only [symM, Nat.reduceBEq, k15]⟩ (by simp only [symM, Nat.reduceBEq]) get_same pv pg)
    exact fin
end
end Go.Proofs.Ytcpihpjphdlmfaa.Abs
namespace Go.Proofs.Ytcpihpjphdlmfaa.Abs
open Go Go.Proofs Go.Sort
noncomputable section
set_option maxRecDepth 10000
theorem gapsG_blocks (d : Nat → Bool) : ∀ (k n first : Nat), (∀ i, first ≤ i → i < n → d i = true) → ∀ p ∈ gapsG d k n first, ∀ i, p.1 ≤ i → i < p.1 + p.2 → d i = true := by
  intro k
  induction k with
  | zero =>
    intro n first h p hp i i1 i2
    rw [gapsG] at hp
    cases hb : Nat.blt first n with
    | false => rw [hb] at hp; simp at hp
    | true =>
      have := blt_lt hb
      rw [hb] at hp
      simp at hp
      subst hp
      exact h i i1 (by simp only at i2; omega)
  | succ k ih =>
    intro n first h p hp
    rw [gapsG] at hp
    cases hd : d n with
    | true =>
      rw [hd, cond_true] at hp
      refine ih (n + 1) first (fun i i1 i2 => ?_) p hp
      by_cases hi : i = n
      · rw [hi]; exact hd
      · exact h i i1 (by omega)
    | false =>
      rw [hd, cond_false] at hp
      rcases List.mem_append.1 hp with hp | hp
      · cases hb : Nat.blt first n with
        | false => rw [hb] at hp; simp at hp
        | true =>
          have := blt_lt hb
          rw [hb] at hp
          simp at hp
          subst hp
          intro i i1 i2
          exact h i i1 (by simp only at i2; omega)
      · exact ih (n + 1) (n + 1) (fun i i1 i2 => by omega) p hp
theorem downG_in {bs : List Nat} {a b : Int} (hD : downE bs.length a b = 0) : bs.length = 60 ∧ ∀ p ∈ downG bs a b, a ≤ p.1 ∧ ((p.1 + p.2 : Nat) : Int) ≤ b ∧ ∀ i, p.1 ≤ i → i < p.1 + p.2 → bitB bs i = false := by
  have h60 : bs.length = 60 ∧ 0 ≤ a ∧ a ≤ b ∧ b ≤ 480 := by
    unfold downE at hD
    split at hD
    · cases hD
    · split at hD
      · cases hD
      · omega
  refine ⟨h60.1, fun p hp => ?_⟩
  unfold downG at hp
  rw [if_pos hD] at hp
  have h1 := (gapsG_asc (fun i => !bitB bs i) (b.toNat - a.toNat) a.toNat a.toNat (Nat.le_refl _)).2.1 p hp
  have h2 := gapsG_blocks (fun i => !bitB bs i) (b.toNat - a.toNat) a.toNat a.toNat (fun i i1 i2 => by omega) p hp
  refine ⟨by omega, by omega, fun i i1 i2 => ?_⟩
  have := h2 i i1 i2
  simpa using this
theorem pick_mem2 : ∀ (l : List NN) (n : Nat) (p : NN), p ∈ pick n l → ∃ r ∈ l, p.1 = r.1 ∧ p.2 ≤ r.2 := by
  intro l
  induction l with
  | nil => intro n p h; simp [pick] at h
  | cons q l ih =>
    intro n p h
    rw [pick] at h
    split at h
    · simp at h
    · rcases List.mem_cons.1 h with rfl | h
      · exact ⟨q, List.mem_cons_self .., rfl, by simp only; omega⟩
      · obtain ⟨r, r1, r2⟩ := ih _ p h
        exact ⟨r, List.mem_cons_of_mem _ r1, r2⟩
theorem pick_total : ∀ (l : List NN) (n : Nat), total (pick n l) + rem n l = n := by
  intro l
  induction l with
  | nil => intro n; simp [pick, rem, total]
  | cons q l ih =>
    intro n
    rw [pick, rem]
    split
    · simp [total]
    · have := ih (n - min n q.2)
      have ht : total ((q.1, min n q.2) :: pick (n - min n q.2) l) = min n q.2 + total (pick (n - min n q.2) l) := by simp [total]
      omega
theorem asc_gap : ∀ {L : List NN}, Asc L → AllRuns L → ∀ p ∈ L, ∀ q ∈ L, p.1 < q.1 → p.1 + p.2 ≤ q.1 := by
  intro L
  induction L with
  | nil => intro _ _ p hp; simp at hp
  | cons r l ih =>
    intro h hr p hp q hq hpq
    obtain ⟨h1, h2⟩ := List.pairwise_cons.1 h
    rcases List.mem_cons.1 hp with e1 | m1 <;> rcases List.mem_cons.1 hq with e2 | m2
    · rw [e1, e2] at hpq; omega
    · rw [e1]; exact h1 q m2
    · have := h1 p m1
      have := runQ (hr r (List.mem_cons_self ..))
      rw [e2] at hpq
      omega
    · exact ih h2 (fun p hp => hr p (List.mem_cons_of_mem _ hp)) p m1 q m2 hpq
/-- What Some answers where it answers. -/
theorem someR_ok {L T : List NN} {n : Nat} (hasc : Asc L) (hr : AllRuns L) (h : SomeR L n T 0) : Asc T ∧ total T = n ∧ (∀ p ∈ T, ∃ r ∈ L, p.1 = r.1 ∧ p.2 ≤ r.2) ∧ (1 ≤ n → (∃ p ∈ L, n ≤ p.2) → T.length = 1) := by
  obtain ⟨S, p, w, c⟩ := h
  have hSr : AllRuns S := fun q hq => hr q (p.mem_iff.1 hq)
  rcases c with ⟨c1, _, c3, c4⟩ | ⟨_, c2, _⟩
  · have hmem : ∀ x ∈ T, ∃ r ∈ L, x.1 = r.1 ∧ x.2 ≤ r.2 := fun x hx => by
      obtain ⟨r, r1, r2⟩ := pick_mem2 S n x (c3.mem_iff.1 hx)
      exact ⟨r, p.mem_iff.1 r1, r2⟩
    have hne : T.Pairwise (fun x y => x.1 ≠ y.1) := (c3.pairwise_iff (fun h => Ne.symm h)).2 (pick_ne S n ((p.pairwise_iff (fun h => Ne.symm h)).2 (asc_ne hasc hr)))
    refine ⟨?_, ?_, hmem, ?_⟩
    · unfold Asc
      rw [List.pairwise_iff_getElem]
      intro i j hi hj hij
      have k1 := List.pairwise_iff_getElem.1 c4 i j hi hj hij
      have k2 := List.pairwise_iff_getElem.1 hne i j hi hj hij
      obtain ⟨r, r1, r2, r3⟩ := hmem _ (List.getElem_mem hi)
      obtain ⟨q, q1, q2, q3⟩ := hmem _ (List.getElem_mem hj)
      have := asc_gap hasc hr r r1 q q1 (by omega)
      omega
    · rw [total_perm c3]
      have := pick_total S n
      omega
    · intro hn ⟨x, x1, x2⟩
      rw [c3.length_eq]
      cases S with
      | nil => exact absurd (p.mem_iff.2 x1) (by simp)
      | cons q l =>
        have hq : n ≤ q.2 := by
          rcases List.mem_cons.1 (p.mem_iff.2 x1) with e | m
          · rw [← e]; exact x2
          · have := (List.pairwise_cons.1 w).1 x m
            unfold wpre at this
            omega
        have hm : min n q.2 = n := by omega
        rw [pick, hm, if_neg (by omega), Nat.sub_self, (pick_zero l).1]
        rfl
  · cases c2
theorem someP_nil {bs : List Nat} {n a b : Int} {T : List NN} {e : Int} (h : someP bs n a b T e) (he : e ≠ 0) : T = [] := by
  unfold someP at h
  split at h
  · obtain ⟨S, p, w, c⟩ := h
    rcases c with ⟨_, c2, _⟩ | ⟨_, _, c3⟩
    · exact absurd c2 he
    · exact c3
  · exact h.1
theorem mem_total {L : List NN} {p : NN} (h : p ∈ L) : p.2 ≤ total L := by
  induction L with
  | nil => simp at h
  | cons q l ih =>
    have ht : total (q :: l) = q.2 + total l := by simp [total]
    rcases List.mem_cons.1 h with e | m
    · rw [ht, e]; omega
    · have := ih m; omega
theorem fit_sum {bs : List Nat} {n a b : Int} (h : sumE bs n a b ≠ 0) : fitE bs n a b = sumE bs n a b := by
  unfold sumE fitE at *
  by_cases hE : gapE bs.length n a b = 0
  · simp only [if_pos hE] at h ⊢
    by_cases hs : n.toNat ≤ total (gapG bs n a b)
    · rw [if_pos hs] at h; exact absurd rfl h
    · rw [if_neg hs, if_pos]
      rw [longs, List.filter_eq_nil_iff]
      intro p hp hc
      have := mem_total hp
      simp at hc
      omega
  · simp only [if_neg hE]
theorem s_free (d : Nat) (hd : 4 ≤ d) (bs : List Nat) (hbs : ∀ x ∈ bs, x < 256) (h60 : bs.length = 60) (m : Value) (h : AH) (x y : Nat) (a b : Int) (hm : Row h.next h m (bytesV bs) 5) (hr : runOK x y = true) (ha : a ≤ x) (hb : ((x + y : Nat) : Int) ≤ b) (hU : ∀ i, x ≤ i → i < x + y → bitB bs i = false) :
    ∃ h', C d 19 [m, cx x y, iv a, iv b] h = some (.bool true, h') ∧ Grow h.next h h' := by
  obtain ⟨e, rfl, he⟩ := at1 (k := 3) (show 3 + 1 ≤ d by omega)
  rw [C_f rfl]; exact free_S bs m h x y a b hr ha hb hU (s_rUp e (by omega) bs hbs h60 m h hm) (s_rParts e (by omega))
theorem minR_ge : ∀ (l : List NN) (p : NN), (∀ q ∈ l, p.1 ≤ q.1) → p.1 ≤ (minR p l).1 := by
  intro l p h
  rcases List.mem_cons.1 (minR_mem l p) with e | m
  · rw [e]; exact Nat.le_refl _
  · exact h _ m
set_option maxHeartbeats 4000000 in
theorem lawFree_S (bs : List Nat) (hbs : ∀ x ∈ bs, x < 256) (m : Value) (h : AH) (n a b : Int) (hm : Row h.next h m (bytesV bs) 5) : ∃ h', C 1100 6 [m, iv n, iv a, iv b] h = some (.bool true, h') := by
  rw [C_f rfl, frameB_eq ft6 rfl rfl]
  obtain ⟨v1, h1, T, e, e1, q1, r1, l1, o1, g1⟩ := s_Some 1099 (by omega) bs hbs m h n a b hm
  have m1 : Row h1.next h1 m (bytesV bs) 5 := (hm.grow g1 (Nat.le_refl _)).more g1.next
  obtain ⟨h2, e2, g2⟩ := s_First 1099 (by omega) bs hbs m h1 n a b m1
  have m2 : Row h2.next h2 m (bytesV bs) 5 := (m1.grow g2 (Nat.le_refl _)).more g2.next
  obtain ⟨h3, e3, g3⟩ := s_Tight 1099 (by omega) bs hbs m h2 n a b m2
  have m3 : Row h3.next h3 m (bytesV bs) 5 := (m2.grow g3 (Nat.le_refl _)).more g3.next
  have hs := someP_err q1
  have o3 := (o1.grow g2).grow g3
  by_cases he : e = 0
  · subst he
    have hE : gapE bs.length n a b = 0 := by
      by_cases hE : gapE bs.length n a b = 0
      · exact hE
      · unfold sumE at hs; rw [if_neg hE] at hs; exact hs.symm
    have hn : 1 ≤ n ∧ n ≤ 480 ∧ downE bs.length a b = 0 := by
      unfold gapE at hE
      split at hE
      · split at hE
        · cases hE
        · omega
      · rename_i q; exact absurd hE q
    obtain ⟨hn1, hn2, hD⟩ := hn
    obtain ⟨n, rfl⟩ : ∃ k : Nat, n = k := ⟨n.toNat, by omega⟩
    have hG : gapG bs (n : Int) a b = downG bs a b := by unfold gapG; rw [hE]; rfl
    obtain ⟨h60, hin⟩ := downG_in hD
    obtain ⟨hasc, hlen⟩ := downG_asc bs a b
    have hruns := downG_runs bs a b
    unfold someP at q1
    rw [if_pos hE, hG, show ((n : Int)).toNat = n from rfl] at q1
    obtain ⟨tasc, ttot, tmem, tone⟩ := someR_ok hasc hruns q1
    have tin : ∀ p ∈ T, a ≤ p.1 ∧ ((p.1 + p.2 : Nat) : Int) ≤ b ∧ ∀ i, p.1 ≤ i → i < p.1 + p.2 → bitB bs i = false := by
      intro p hp
      obtain ⟨r, r1, r2, r3⟩ := tmem p hp
      obtain ⟨i1, i2, i3⟩ := hin r r1
      exact ⟨by omega, by omega, fun i j1 j2 => i3 i (by omega) (by omega)⟩
    obtain ⟨vu, h4, e4, o4, g4⟩ := s_rUp 1099 (by omega) bs hbs h60 m h3 m3
    have hf0 := firstR_fit bs (n : Int) a b
    have ht0 := tightR_fit bs (n : Int) a b
    rw [hG, show ((n : Int)).toNat = n from rfl] at hf0 ht0
    have hzn : Abs.zok (n : Int) = true := zok_k (by omega)
    rcases hf0 with ⟨p, r, _, k1, k2, k3⟩ | ⟨k1, k3⟩
    · rcases ht0 with ⟨p', r', _, _, k2', k3'⟩ | ⟨k1', _⟩
      · rw [k2] at k2'
        cases k2'
        rw [k3] at e2
        rw [k3'] at e3
        have hpl : p ∈ downG bs a b ∧ n ≤ p.2 := by
          have hp : p ∈ longs (downG bs a b) n := by rw [k2]; exact List.mem_cons_self ..
          exact ⟨(List.mem_filter.1 hp).1, longs_ge hp⟩
        have htl : minR p r ∈ downG bs a b ∧ n ≤ (minR p r).2 := by
          have hp : minR p r ∈ longs (downG bs a b) n := by rw [k2]; exact minR_mem r p
          exact ⟨(List.mem_filter.1 hp).1, longs_ge hp⟩
        have hmin : p.1 ≤ (minR p r).1 := by
          apply minR_ge
          have hsub : (p :: r).Pairwise (fun x y => x.1 + x.2 ≤ y.1) := by
            rw [← k2]; exact hasc.sublist List.filter_sublist
          intro q hq
          have := (List.pairwise_cons.1 hsub).1 q hq
          omega
        generalize minR p r = t at *
        have hp := runQ (hruns p hpl.1)
        have ht := runQ (hruns t htl.1)
        have hone := tone (by omega) ⟨p, hpl.1, hpl.2⟩
        have hok : ∀ x : Nat, x + n ≤ 480 → runOK x n = true := fun x hx => by unfold runOK; simp; omega
        obtain ⟨p1, p2, p3⟩ := hin p hpl.1
        obtain ⟨t1, t2, t3⟩ := hin t htl.1
        simp only [Try.f6, symM, opFn, Nat.reduceLT, Nat.reduceBEq, symL, evCall_fn ft14 rfl, e1, evCall_fn ft9 rfl, e2, evCall_fn ft12 rfl, e3, evCall_fn ft11 rfl, C_aw 1099 (by omega), bin_neq, show ((0 : Int) == 0) = true from rfl, evCall_fn ft17 rfl, e4]
        generalize hX : codeB T0 X0 (C 1099) _ EFr (.loop _) _ _ _ = X
        obtain ⟨tm5, h5, e5, s5, p16, g5⟩ := use_exit hX (fr0L bs T l1 r1 tasc m (iv n) (cx p.1 n) (iv 0) (cx t.1 n) vu v1 a b h3 o3.row tin (s_rParts 1099 (by omega)) T 0 0 0 (bitB bs) _ h4 _ rfl (by simp) (by omega) (fun _ _ => Nat.zero_le _) (fun _ _ => rfl) (by omega) ⟨by simp only [symM, Nat.reduceBEq], by simp only [symM, Nat.reduceBEq], by simp only [symM, Nat.reduceBEq], by simp only [symM, Nat.reduceBEq], by simp only [symM, Nat.reduceBEq], by simp only [symM, Nat.reduceBEq], by simp only [symM, Nat.reduceBEq], by simp only [symM, Nat.reduceBEq], by simp only [symM, Nat.reduceBEq]⟩ (by simp only [symM, Nat.reduceBEq]; rfl) (by simp only [symM]; rfl) o4 g4)
        clear hX
        subst e5
        obtain ⟨k0, k1, k2, k3, k9, k11, k12, k13, k15⟩ := s5
        rw [Nat.zero_add, ttot] at p16
        have m5 : Row h5.next h5 m (bytesV bs) 5 := (m3.grow g5 (Nat.le_refl _)).more g5.next
        obtain ⟨h6, e6, g6⟩ := s_free 1099 (by omega) bs hbs h60 m h5 p.1 n a b m5 (hok _ (by omega)) p1 (by omega) (fun i i1 i2 => p3 i i1 (by omega))
        have m6 : Row h6.next h6 m (bytesV bs) 5 := (m5.grow g6 (Nat.le_refl _)).more g6.next
        obtain ⟨h7, e7, g7⟩ := s_free 1099 (by omega) bs hbs h60 m h6 t.1 n a b m6 (hok _ (by omega)) t1 (by omega) (fun i i1 i2 => t3 i i1 (by omega))
        have hlT : (((runsV T).length : Nat) : Int) = 1 := by simp [runsV, hone]
        have o7 := ((o3.row.grow g5 (Nat.le_refl _)).more g5.next |>.grow g6 (Nat.le_refl _)).more g6.next |>.grow g7 (Nat.le_refl _)
        have hcn : ∀ h, evConvert T0 3 38 (iv (n : Int)) h = some (fl n, h) := fun h => conv_i2f und_int und_f64 hzn
        have hfe := fun p' q' h' => f_eql (T := T0) (t := 38) (p := p') (q := q') (h := h') (x := (n : Int)) (y := (n : Int)) hzn hzn
        have hfn := fun p' q' h' => f_neq (T := T0) (t := 38) (p := p') (q := q') (h := h') (x := (n : Int)) (y := (n : Int)) hzn hzn
        have hfl := fun p' q' h' => f_leq (T := T0) (t := 38) (p := p') (q := q') (h := h') (x := (p.1 : Int)) (y := (t.1 : Int)) (zok_k (by omega)) (zok_k (by omega))
        rw [decide_eq_true rfl] at hfe hfn
        rw [decide_eq_true (show (p.1 : Int) ≤ (t.1 : Int) by omega)] at hfl
        refine ⟨h7, ?_⟩
        simp only [symM, opFn, Nat.reduceLT, Nat.reduceBEq, symL, k0, k1, k2, k3, k9, k11, k12, k13, p16, bin_eql, bin_neq, show ((0 : Int) == 0) = true from rfl, evCall_fn ft19 rfl, e6, e7, hcn, hfn, hfe, hfl, o7.len und_c128s, hlT, show ((1 : Int) == 1) = true from rfl, show ((n : Int) == (n : Int)) = true from by simp]
        exact retB_one ft6 rfl get_same
      · exact absurd k1 k1'
    · rcases ht0 with ⟨_, _, _, k1', _⟩ | ⟨_, k3'⟩
      · exact absurd k1' k1
      · rw [k3] at e2
        rw [k3'] at e3
        have hfz : (fitE bs (n : Int) a b == 0) = false := by simpa using k1
        simp only [Try.f6, symM, opFn, Nat.reduceLT, Nat.reduceBEq, symL, evCall_fn ft14 rfl, e1, evCall_fn ft9 rfl, e2, evCall_fn ft12 rfl, e3, evCall_fn ft11 rfl, C_aw 1099 (by omega), bin_neq, show (fitE bs (n : Int) a b == fitE bs (n : Int) a b) = true from by simp, show ((0 : Int) == 0) = true from rfl, evCall_fn ft17 rfl, e4]
        generalize hX : codeB T0 X0 (C 1099) _ EFr (.loop _) _ _ _ = X
        obtain ⟨tm5, h5, e5, s5, p16, g5⟩ := use_exit hX (fr0L bs T l1 r1 tasc m (iv n) (cx ((0 : Nat) : Int) ((0 : Nat) : Int)) (iv (fitE bs (n : Int) a b)) (cx ((0 : Nat) : Int) ((0 : Nat) : Int)) vu v1 a b h3 o3.row tin (s_rParts 1099 (by omega)) T 0 0 0 (bitB bs) _ h4 _ rfl (by simp) (by omega) (fun _ _ => Nat.zero_le _) (fun _ _ => rfl) (by omega) ⟨by simp only [symM, Nat.reduceBEq], by simp only [symM, Nat.reduceBEq], by simp only [symM, Nat.reduceBEq], by simp only [symM, Nat.reduceBEq], by simp only [symM, Nat.reduceBEq], by simp only [symM, Nat.reduceBEq], by simp only [symM, Nat.reduceBEq], by simp only [symM, Nat.reduceBEq], by simp only [symM, Nat.reduceBEq]⟩ (by simp only [symM, Nat.reduceBEq]; rfl) (by simp only [symM]; rfl) o4 g4)
        clear hX
        subst e5
        obtain ⟨k0, k1, k2, k3, k9, k11, k12, k13, k15⟩ := s5
        rw [Nat.zero_add, ttot] at p16
        refine ⟨h5, ?_⟩
        simp only [symM, opFn, Nat.reduceLT, Nat.reduceBEq, symL, k1, k12, p16, bin_eql, bin_neq, hfz, show ((n : Int) == (n : Int)) = true from by simp]
        exact retB_one ft6 rfl get_same
  · have hT := someP_nil q1 he
    subst hT
    have hse : sumE bs n a b ≠ 0 := by rw [← hs]; exact he
    have hfit := fit_sum hse
    rw [← hs] at hfit
    have hf : firstR bs n a b = .tuple #[cx ((0 : Nat) : Int) ((0 : Nat) : Int), iv e] := by
      rcases firstR_fit bs n a b with ⟨_, _, _, k1, _⟩ | ⟨_, k3⟩
      · rw [hfit] at k1; exact absurd k1 he
      · rw [hfit] at k3; exact k3
    have ht : tightR bs n a b = .tuple #[cx ((0 : Nat) : Int) ((0 : Nat) : Int), iv e] := by
      rcases tightR_fit bs n a b with ⟨_, _, _, k1, _⟩ | ⟨_, k3⟩
      · rw [hfit] at k1; exact absurd k1 he
      · rw [hfit] at k3; exact k3
    rw [hf] at e2
    rw [ht] at e3
    have he0 : (e == 0) = false := by simpa using he
    have hz : ∀ p q h, evBin T0 .eql 23 p q (cx ((0 : Nat) : Int) ((0 : Nat) : Int)) (.complex .f64 0 0) h = some (.bool true) := by
      intro p q h
      have := c_eql (T := T0) (t := 23) (p := p) (q := q) (h := h) (x := 0) (y := 0) (u := 0) (v := 0) (by decide) (by decide) (by decide) (by decide)
      rw [zd_zero] at this
      show evBin T0 .eql 23 p q (.complex .f64 (zd 0) (zd 0)) (.complex .f64 0 0) h = _
      rw [zd_zero]
      exact this
    refine ⟨h3, ?_⟩
    simp only [Try.f6, symM, opFn, Nat.reduceLT, Nat.reduceBEq, evCall_fn ft14 rfl, e1, evCall_fn ft9 rfl, e2, evCall_fn ft12 rfl, e3, evCall_fn ft11 rfl, C_aw 1099 (by omega), bin_neq, bin_eql, show (e == e) = true from by simp, he0, o3.row.len und_c128s, show ((((runsV []).length : Nat) : Int) == 0) = true from rfl, hz]
    exact retB_one ft6 rfl get_same
end
end Go.Proofs.Ytcpihpjphdlmfaa.Abs
