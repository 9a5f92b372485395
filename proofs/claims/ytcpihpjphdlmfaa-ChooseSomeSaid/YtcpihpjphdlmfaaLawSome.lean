/- ChooseSome: what the law answers, for every memory. -/
import Derived.Test.YtcpihpjphdlmfaaSome
namespace Go.Proofs.Ytcpihpjphdlmfaa.Abs
open Go Go.Proofs Go.Sort
noncomputable section
set_option maxRecDepth 10000
theorem ft5 : T0.ft.get 5 = some Try.f5 := by kernel_rfl
section
variable {g : Nat} {c : NN → NN → Int} {v : Value} {n0 : Nat}
abbrev CmpsOK (g : Nat) (c : NN → NN → Int) : Prop := ∀ d, 4 ≤ d → CmpOK (C d) g c
theorem s_ins (hc : CmpsOK g c) (d : Nat) (hd : 5 ≤ d) : PermOK (C d) 52 v n0 g 0 (insertionSort (ltc c)) := by
  obtain ⟨e, rfl, he⟩ := at1 hd
  intro a b dd h hab hb hs hK _ hv
  rw [C_f rfl]; exact insertionSort_S (hc e he) v n0 a b dd h hab hb hs hK hv
theorem s_sd (hc : CmpsOK g c) (d : Nat) (hd : 5 ≤ d) : SdOK (C d) g c v n0 := by
  obtain ⟨e, rfl, he⟩ := at1 hd
  intro lo hi first dd h hl hb hs hK hv
  rw [C_f rfl]; exact siftDown_S (hc e he) v n0 lo hi first dd h hl hb hs hK hv
theorem s_heap (hc : CmpsOK g c) (d : Nat) (hd : 6 ≤ d) : PermOK (C d) 54 v n0 g 1 (heapSort (ltc c)) := by
  obtain ⟨e, rfl, he⟩ := at1 hd
  intro a b dd h hab hb hs hK _ hv
  rw [C_f rfl]; exact heapSort_S (s_sd hc e he) a b dd h hab hb hs hK hv
theorem s_Len64 (d : Nat) (hd : 1 ≤ d) (n : Nat) (h : AH) (hn : n < 512) : C d 62 [uv n] h = some (iv (bitsLen n), h) := by
  obtain ⟨e, rfl, he⟩ := at1 hd
  rw [C_f rfl]; exact Len64_S n hn h
theorem s_Len (d : Nat) (hd : 2 ≤ d) (n : Nat) (h : AH) (hn : n < 512) : C d 46 [uv n] h = some (iv (bitsLen n), h) := by
  obtain ⟨e, rfl, he⟩ := at1 hd
  rw [C_f rfl]; exact Len_S (s_Len64 e he) n hn h
theorem s_npow (d : Nat) (hd : 3 ≤ d) (n : Nat) (h : AH) (hn : n < 512) : C d 67 [iv n] h = some (uv ((1 <<< bitsLen n : Nat) : Int), h) := by
  obtain ⟨e, rfl, he⟩ := at1 hd
  rw [C_f rfl]; exact Next2_S (s_Len e he) n hn h
theorem s_next (d : Nat) (hd : 1 ≤ d) (b : Nat) (r : UInt64) (h : AH) (hb : BoxT h b 84 (uv (r.toNat : Int))) : ∃ h', C d 68 [ptr b] h = some (uv ((xorNext r).toNat : Int), h') ∧ BoxT h' b 84 (uv ((xorNext r).toNat : Int)) ∧ h'.next = h.next ∧ ∀ k, k ≠ b → h'.get k = h.get k := by
  obtain ⟨e, rfl, he⟩ := at1 hd
  rw [C_f rfl]; exact Next_S b r h hb
theorem s_brk (d : Nat) (hd : 4 ≤ d) : PermOK (C d) 55 v n0 g 0 breakPatterns := by
  obtain ⟨e, rfl, he⟩ := at1 hd
  intro a b dd h hab hb hs hK hn hv
  rw [C_f rfl]; exact breakPatterns_S v n0 a b g dd h hn hab hb hs hK hv (s_next e (by omega)) (s_npow e he)
theorem s_rev (d : Nat) (hd : 1 ≤ d) : PermOK (C d) 57 v n0 g 1 reverseRange := by
  obtain ⟨e, rfl, he⟩ := at1 hd
  intro a b dd h hab hb hs hK hn hv
  rw [C_f rfl]; exact reverseRange_S v n0 a b g dd h hab hb hs hK hv
theorem s_o2 (hc : CmpsOK g c) (d : Nat) (hd : 5 ≤ d) (dd : Array NN) (hK : AllK dd) (bx : Nat) : O2OK (C d) g c v n0 dd bx := by
  obtain ⟨e, rfl, he⟩ := at1 hd
  intro a b s h ha hb hs hx hv
  rw [C_f rfl]; exact order2_S (hc e he) v n0 dd bx hK a b s h ha hb hs hx hv
theorem s_med (hc : CmpsOK g c) (d : Nat) (hd : 6 ≤ d) (dd : Array NN) (hK : AllK dd) (bx : Nat) (hoff : Off v bx) : MedOK (C d) g c v n0 dd bx := by
  obtain ⟨e, rfl, he⟩ := at1 hd
  intro i j k s h hi hj hk hs hx hv
  rw [C_f rfl]; exact median_S (s_o2 hc e he dd hK bx) hoff i j k s h hi hj hk hs hx hv
theorem s_mad (hc : CmpsOK g c) (d : Nat) (hd : 7 ≤ d) (dd : Array NN) (hsz : dd.size ≤ 480) (hK : AllK dd) (bx : Nat) (hoff : Off v bx) : MadOK (C d) g c v n0 dd bx := by
  obtain ⟨e, rfl, he⟩ := at1 hd
  intro i s h h1 h2 hs hx hv
  rw [C_f rfl]; exact medianAdjacent_S (s_med hc e he dd hK bx hoff) i s h h1 h2 hsz hs hx hv
theorem s_pq (hc : CmpsOK g c) (d : Nat) (hd : 9 ≤ d) : PqCalls (C d) g c v n0 := by
  obtain ⟨e, rfl, he⟩ := at1 hd
  refine ⟨hc _ (by omega), s_ins hc _ (by omega), s_heap hc _ (by omega), s_brk _ (by omega), s_rev _ (by omega), ?_, ?_, ?_, ?_⟩
  · intro a b dd h hab hb h8 hs hK hv
    rw [C_f rfl]; exact choosePivot_S (fun bx hoff => s_med hc e (by omega) dd hK bx hoff) (fun bx hoff => s_mad hc e (by omega) dd hs hK bx hoff) a b h hab hb h8 hs hv
  · intro a b dd h hab hb hs hK hn hv
    rw [C_f rfl]; exact partialInsertionSort_S (hc e (by omega)) v n0 a b dd h hab hb hs hK hv
  · intro a b pv dd h hab h1 h2 hb hs hK hv
    rw [C_f rfl]; exact partitionEqual_S (hc e (by omega)) v n0 a b pv dd h hab h1 h2 hb hs hK hv
  · intro a b pv dd h hab h1 h2 hb hs hK hv
    rw [C_f rfl]; exact partition_S (hc e (by omega)) v n0 a b pv dd h hab h1 h2 hb hs hK hv
theorem s_pdq (hc : CmpsOK g c) : ∀ (M d : Nat), M + 20 ≤ d → PdqOK (C d) g c v n0 M := by
  intro M
  induction M with
  | zero => intro d _ a b lim dd h hlt; omega
  | succ M ih =>
    intro d hd
    obtain ⟨e, rfl, he⟩ := at1 (k := M + 20) (show M + 20 + 1 ≤ d by omega)
    intro a b lim dd h hlt hab hlim hb hs hK hn hv
    rw [C_f rfl]; exact pdqsort_S (s_pq hc e (by omega)) (ih e he) a b lim dd h (by omega) hab hlim hb hs hK hn hv
theorem s_sr (d : Nat) (hd : 1 ≤ d) : SrOK (C d) v n0 g := by
  obtain ⟨e, rfl, he⟩ := at1 hd
  intro a b n dd h hab hb hs hK hv
  rw [C_f rfl]; exact swapRange_S v n0 g a b n dd h hab hb hs hK hv
theorem s_ro (d : Nat) (hd : 2 ≤ d) : RoOK (C d) v n0 g := by
  obtain ⟨e, rfl, he⟩ := at1 hd
  intro a m b dd h ham hmb hb hs hK hv
  rw [C_f rfl]; exact rotate_S (s_sr e he) a m b dd h ham hmb hb hs hK hv
theorem s_sym (hc : CmpsOK g c) (hl : ByLen c) : ∀ (M d : Nat), M + 20 ≤ d → SymOK (C d) v n0 g M := by
  intro M
  induction M with
  | zero => intro d _ a m b dd h hlt; omega
  | succ M ih =>
    intro d hd
    obtain ⟨e, rfl, he⟩ := at1 (k := M + 20) (show M + 20 + 1 ≤ d by omega)
    intro a m b dd h hlt ham hmb hb hs hK h1 h2 h3 hv
    rw [C_f rfl]; exact symMerge_S (hc e (by omega)) hl (s_ro e (by omega)) (ih e he) a m b dd h (by omega) ham hmb hb hs hK h1 h2 h3 hv
theorem s_st (hc : CmpsOK g c) (hl : ByLen c) (d : Nat) (hd : 1021 ≤ d) : StOK (C d) v n0 g := by
  obtain ⟨e, rfl, he⟩ := at1 hd
  intro dd h hs hK hn hx hv
  rw [C_f rfl]; exact stable_S hl (s_ins hc e (by omega)) (s_sym hc hl 1000 e (by omega)) dd h hs hK hn hx hv
end
def cLen (p q : NN) : Int := cmpZ q.2 p.2
def cBeg (p q : NN) : Int := cmpZ p.1 q.1
theorem cLen_by : ByLen cLen := by
  intro x y
  unfold ltc cLen cmpZ
  refine decide_eq_decide.2 ?_
  split
  · omega
  · split <;> omega
theorem cBeg_lt (x y : NN) : ltc cBeg x y = decide (x.1 < y.1) := by
  unfold ltc cBeg cmpZ
  refine decide_eq_decide.2 ?_
  split
  · omega
  · split <;> omega
theorem cBeg_swo : SWO (ltc cBeg) := by
  constructor
  · intro x; rw [cBeg_lt, decide_eq_false_iff_not]; omega
  · intro x y z h1 h2
    rw [cBeg_lt, decide_eq_true_eq] at *
    omega
  · intro x y z h1 h2
    rw [cBeg_lt, decide_eq_false_iff_not] at *
    omega
theorem s_c1 : CmpsOK 34 cLen := by
  intro d hd
  obtain ⟨e, rfl, he⟩ := at1 (k := 3) (show 3 + 1 ≤ d by omega)
  refine ⟨fun args h => evCall_fn ft34 rfl, fun p q h hp hq => ?_⟩
  rw [C_f rfl]
  exact Some1_S (fun x y h hx hy => s_Compare e (by omega) x y h hx hy) p.1 p.2 q.1 q.2 (zok_k (by have := hp.2; omega)) (zok_k (by have := hq.2; omega)) h
theorem s_c2 : CmpsOK 36 cBeg := by
  intro d hd
  obtain ⟨e, rfl, he⟩ := at1 (k := 3) (show 3 + 1 ≤ d by omega)
  refine ⟨fun args h => evCall_fn ft36 rfl, fun p q h hp hq => ?_⟩
  rw [C_f rfl]
  exact Some2_S (fun x y h hx hy => s_Compare e (by omega) x y h hx hy) p.1 p.2 q.1 q.2 (zok_k (by have := hp.1; omega)) (zok_k (by have := hq.1; omega)) h
theorem s_SortStable (d : Nat) (hd : 1022 ≤ d) (v : Value) (n0 : Nat) (L : List NN) (h : AH) (hL : L.length ≤ 480) (hK : KL L) (hn0 : n0 ≤ h.next) (hx : L.Pairwise crs) (hv : Own n0 h v (runsV L) 23) :
    ∃ h', ∃ S : List NN, C d 33 [v, fnV 34] h = some (.tuple #[], h') ∧ Own n0 h' v (runsV S) 23 ∧ S.Perm L ∧ S.Pairwise wpre ∧ Grow n0 h h' := by
  obtain ⟨e, rfl, he⟩ := at1 hd
  rw [C_f rfl]; exact SortStable_S (s_st s_c1 cLen_by e he) L h hL hK hn0 hx hv
theorem s_SortFunc (d : Nat) (hd : 1021 ≤ d) (v : Value) (n0 : Nat) (L : List NN) (h : AH) (hL : L.length ≤ 480) (hK : KL L) (hn0 : n0 ≤ h.next) (hv : Own n0 h v (runsV L) 23) :
    ∃ h', ∃ S : List NN, C d 35 [v, fnV 36] h = some (.tuple #[], h') ∧ Own n0 h' v (runsV S) 23 ∧ S.Perm L ∧ S.Pairwise (fun x y => x.1 ≤ y.1) ∧ Grow n0 h h' := by
  obtain ⟨e, rfl, he⟩ := at1 hd
  rw [C_f rfl]
  obtain ⟨h1, S, e1, e2, e3, e4, e5⟩ := SortFunc_S (s_pdq s_c2 1000 e (by omega)) (s_Len e (by omega)) cBeg_swo L h hL hK hn0 hv
  refine ⟨h1, S, e1, e2, e3, e4.imp (fun {x y} hxy => ?_), e5⟩
  rw [cBeg_lt] at hxy
  have := of_decide_eq_false hxy
  omega
theorem s_Some (d : Nat) (hd : 1023 ≤ d) (bs : List Nat) (hbs : ∀ x ∈ bs, x < 256) (m : Value) (h : AH) (n a b : Int) (hm : Row h.next h m (bytesV bs) 5) :
    ∃ v h' T e, C d 14 [m, iv n, iv a, iv b] h = some (.tuple #[v, iv e], h') ∧ someP bs n a b T e ∧ AllRuns T ∧ T.length ≤ 480 ∧ Own h.next h' v (runsV T) 23 ∧ Grow h.next h h' := by
  obtain ⟨e, rfl, he⟩ := at1 hd
  rw [C_f rfl]
  exact Some_S bs m h n a b (s_gaps e (by omega) bs hbs m h n a b hm) (s_SortStable e he) (s_SortFunc e (by omega)) (s_begin e (by omega))
theorem s_rSome (d : Nat) (hd : 5 ≤ d) (bs : List Nat) (hbs : ∀ x ∈ bs, x < 256) (m : Value) (h : AH) (n a b : Int) (hm : Row h.next h m (bytesV bs) 5) :
    ∃ v h' T e, C d 15 [m, iv n, iv a, iv b] h = some (.tuple #[v, iv e], h') ∧ someP bs n a b T e ∧ AllRuns T ∧ T.length ≤ 480 ∧ Own h.next h' v (runsV T) 23 ∧ Grow h.next h h' := by
  obtain ⟨e, rfl, he⟩ := at1 hd
  rw [C_f rfl]; exact rSome_S bs m h n a b (s_rGaps e he bs hbs m h n a b hm) (s_rsize e he) (s_rbegin e he)
theorem s_Same (d : Nat) (hd : 1 ≤ d) (A : List NN) (hA : AllRuns A) (hl : A.length ≤ 480) (x y : Value) (n0 : Nat) (h : AH) (hx : Row n0 h x (runsV A) 23) (hy : Row n0 h y (runsV A) 23) :
    C d 16 [x, y] h = some (.bool true, h) := by
  obtain ⟨e, rfl, he⟩ := at1 hd
  rw [C_f rfl]; exact Same_S A hA hl x y n0 h hx hy
theorem lawSome_S (bs : List Nat) (hbs : ∀ x ∈ bs, x < 256) (m : Value) (h : AH) (n a b : Int) (hm : Row h.next h m (bytesV bs) 5) : ∃ h', C 1100 5 [m, iv n, iv a, iv b] h = some (.bool true, h') := by
  rw [C_f rfl, frameB_eq ft5 rfl rfl]
  obtain ⟨v1, h1, T1, er1, e1, q1, r1, l1, o1, g1⟩ := s_Some 1099 (by omega) bs hbs m h n a b hm
  obtain ⟨v2, h2, T2, er2, e2, q2, r2, l2, o2, g2⟩ := s_rSome 1099 (by omega) bs hbs m h1 n a b ((hm.grow g1 (Nat.le_refl _)).more g1.next)
  obtain ⟨rfl, rfl⟩ := someP_same q1 q2
  have o1' := o1.grow g2
  have hs := s_Same 1099 (by omega) T1 r1 l1 v1 v2 h2.next h2 o1'.row o2.row
  refine ⟨h2, ?_⟩
  simp only [Try.f5, symM, opFn, Nat.reduceLT, Nat.reduceBEq, evCall_fn ft14 rfl, e1, evCall_fn ft15 rfl, e2, evCall_fn ft11 rfl, C_aw 1099 (by omega), bin_eql, beq_self_eq_true, evCall_fn ft16 rfl, hs]
  exact retB_one ft5 rfl get_same
end
end Go.Proofs.Ytcpihpjphdlmfaa.Abs
