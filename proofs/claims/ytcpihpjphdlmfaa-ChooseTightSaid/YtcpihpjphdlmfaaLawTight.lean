/- ChooseTight: what the law answers, for every memory. -/
import Derived.Test.YtcpihpjphdlmfaaTight
namespace Go.Proofs.Ytcpihpjphdlmfaa.Abs
open Go Go.Proofs
noncomputable section
theorem ft4 : T0.ft.get 4 = some Try.f4 := by kernel_rfl
set_option maxRecDepth 10000
theorem runQ {p : Nat × Nat} (h : runOK p.1 p.2 = true) : 1 ≤ p.2 ∧ p.1 + p.2 ≤ 480 := by simpa [runOK] using h
theorem s_Tight1 (d : Nat) (hd : 1 ≤ d) (x y n : Nat) (p : Value) (h : AH) (hx : x ≤ 1048576) (hy : y ≤ 1048576) (hb : Box h p (iv n)) : C d 29 [cx x y, p] h = some (.bool (decide (y < n)), h) := by
  obtain ⟨e, rfl, he⟩ := at1 hd
  rw [C_f rfl]; exact Tight1_S x y n hx hy p h hb
theorem s_isNaN (d : Nat) (hd : 1 ≤ d) (x : Int) (h : AH) (hx : Abs.zok x = true) : C d 43 [fl x] h = some (.bool false, h) := by
  obtain ⟨e, rfl, he⟩ := at1 hd
  rw [C_f rfl]; exact isNaN_S x hx h
theorem s_Compare (d : Nat) (hd : 2 ≤ d) (x y : Int) (h : AH) (hx : Abs.zok x = true) (hy : Abs.zok y = true) : C d 32 [fl x, fl y] h = some (iv (cmpZ x y), h) := by
  obtain ⟨e, rfl, he⟩ := at1 hd
  rw [C_f rfl]; exact Compare_S (fun x h hx => s_isNaN e he x h hx) x y hx hy h
theorem s_Tight2 (d : Nat) (hd : 3 ≤ d) (x y u v : Int) (h : AH) (hy : Abs.zok y = true) (hv : Abs.zok v = true) : C d 31 [cx x y, cx u v] h = some (iv (cmpZ y v), h) := by
  obtain ⟨e, rfl, he⟩ := at1 hd
  rw [C_f rfl]; exact Tight2_S (fun x y h hx hy => s_Compare e he x y h hx hy) x y u v hy hv h
theorem longs_filter (n : Nat) : ∀ (l : List (Nat × Nat)), AllRuns l → (runsV l).filter (fun x => !(!geP n x)) = runsV (longs l n) := by
  intro l
  induction l with
  | nil => intro _; rfl
  | cons q l ih =>
    intro h
    have hq := runQ (h q (List.mem_cons_self ..))
    have hg := geP_cx n q.1 q.2 (by omega)
    have ih2 := ih (fun p hp => h p (List.mem_cons_of_mem _ hp))
    show (cx q.1 q.2 :: runsV l).filter _ = _
    unfold longs
    by_cases h1 : n ≤ q.2
    · rw [List.filter_cons_of_pos (by rw [hg]; simpa using h1), List.filter_cons_of_pos (by simpa using h1), ih2]; rfl
    · rw [List.filter_cons_of_neg (by rw [hg]; simpa using h1), List.filter_cons_of_neg (by simpa using h1), ih2]; rfl
theorem s_Delete (d : Nat) (hd : 3 ≤ d) (v : Value) (l : List (Nat × Nat)) (n0 : Nat) (h : AH) (n : Nat) (q : Value) (hv : Own n0 h v (runsV l) 23) (hl : l.length < 900) (hr : AllRuns l) (hn0 : n0 ≤ h.next) (hb : ∀ h', Grow n0 h h' → Box h' q (iv n)) :
    ∃ v' h', C d 28 [v, .func (.func 29) #[] #[q]] h = some (v', h') ∧ Row h'.next h' v' (runsV (longs l n)) 23 ∧ Grow n0 h h' := by
  obtain ⟨e, rfl, he⟩ := at1 hd
  obtain ⟨e2, rfl, he2⟩ := at1 he
  have hone : ∀ x ∈ runsV l, oneCell x = true ∧ ∃ p : Nat × Nat, x = cx p.1 p.2 ∧ runOK p.1 p.2 = true := by
    intro x hx
    simp only [runsV, List.mem_map] at hx
    obtain ⟨p, hp, rfl⟩ := hx
    exact ⟨rfl, p, rfl, hr p hp⟩
  have hcb : ∀ d, 1 ≤ d → ∀ x h', (∃ p : Nat × Nat, x = cx p.1 p.2 ∧ runOK p.1 p.2 = true) → Grow n0 h h' → C d 29 (x :: [q]) h' = some (.bool (!geP n x), h') := by
    intro d hd x h' ⟨p, e1, e2⟩ g
    subst e1
    have hp := runQ e2
    rw [s_Tight1 d hd p.1 p.2 n q h' (by omega) (by omega) (hb h' g), geP_cx n p.1 p.2 (by omega)]
    rw [show decide (p.2 < n) = !decide (n ≤ p.2) from by by_cases h1 : n ≤ p.2 <;> simp [h1] <;> omega]
  rw [C_f rfl, ← longs_filter n l hr]
  refine Delete_S (fun x => ∃ p : Nat × Nat, x = cx p.1 p.2 ∧ runOK p.1 p.2 = true) (fun x => !geP n x) v (runsV l) n0 h 29 [q] _ _ ft29 rfl (by simpa [runsV] using hl) hone hv (hcb _ (by omega)) ?_ hn0
  rw [C_f rfl]
  exact Index_S v (runsV l) h.next h 29 [q] _ _ ft29 rfl (fun x => !geP n x) hv.row (by simpa [runsV] using hl) (fun x hx => hcb _ he2 x h (hone x hx).2 (Grow.refl _ _))
theorem s_Min (d : Nat) (hd : 4 ≤ d) (s : Value) (q : Nat × Nat) (l : List (Nat × Nat)) (n0 : Nat) (h : AH) (hs : Row n0 h s (runsV (q :: l)) 23) (hl : l.length < 800) (hr : AllRuns (q :: l)) :
    C d 30 [s, .func (.func 31) #[] #[]] h = some (cx (minR q l).1 (minR q l).2, h) := by
  obtain ⟨e, rfl, he⟩ := at1 hd
  rw [C_f rfl]; exact Min_S s q l n0 h hs hl hr (fun x y u v h hy hv => s_Tight2 e he x y u v h hy hv)
theorem s_Tight (d : Nat) (hd : 8 ≤ d) (bs : List Nat) (hbs : ∀ x ∈ bs, x < 256) (m : Value) (h : AH) (n a b : Int) (hm : Row h.next h m (bytesV bs) 5) :
    ∃ h', C d 12 [m, iv n, iv a, iv b] h = some (tightR bs n a b, h') ∧ Grow h.next h h' := by
  obtain ⟨e, rfl, he⟩ := at1 hd
  rw [C_f rfl]
  exact Tight_S bs m h n a b hm (fun h2 hm2 => s_gaps e (by omega) bs hbs m h2 n a b hm2) (s_Delete e (by omega)) (s_Min e (by omega)) (s_begin e he)
theorem s_rTight (d : Nat) (hd : 5 ≤ d) (bs : List Nat) (hbs : ∀ x ∈ bs, x < 256) (m : Value) (h : AH) (n a b : Int) (hm : Row h.next h m (bytesV bs) 5) :
    ∃ h', C d 13 [m, iv n, iv a, iv b] h = some (tightR bs n a b, h') ∧ Grow h.next h h' := by
  obtain ⟨e, rfl, he⟩ := at1 hd
  rw [C_f rfl]; exact rTight_S bs m h n a b (s_rGaps e he bs hbs m h n a b hm) (s_rsize e he) (s_rbegin e he)
/-- What Tight answers is a number of whole parts, and an error. -/
theorem tightR_form (bs : List Nat) (n a b : Int) : ∃ (x y : Nat) (e : Int), x ≤ 1048576 ∧ y ≤ 1048576 ∧ tightR bs n a b = .tuple #[cx x y, iv e] := by
  have h0 : ∀ e : Int, (.tuple #[.complex .f64 0 0, iv e] : Value) = .tuple #[cx ((0 : Nat) : Int) ((0 : Nat) : Int), iv e] := fun e => by rw [show ((0 : Nat) : Int) = 0 from rfl, show cx 0 0 = .complex .f64 0 0 from by unfold cx; rw [zd_zero]]
  unfold tightR
  by_cases hE : gapE bs.length n a b = 0
  · rw [if_pos hE]
    unfold tightV
    cases hl : longs (gapG bs n a b) n.toNat with
    | nil => exact ⟨0, 0, 6, by omega, by omega, h0 6⟩
    | cons q r =>
      have hmem : minR q r ∈ longs (gapG bs n a b) n.toNat := by rw [hl]; exact minR_mem r q
      have hr := runQ (longs_runs n.toNat (gapG_runs bs n a b) _ hmem)
      have hn := longs_ge hmem
      exact ⟨(minR q r).1, n.toNat, 0, by omega, by omega, rfl⟩
  · rw [if_neg hE]; exact ⟨0, 0, _, by omega, by omega, h0 _⟩
theorem lawTight_S (bs : List Nat) (hbs : ∀ x ∈ bs, x < 256) (m : Value) (h : AH) (n a b : Int) (hm : Row h.next h m (bytesV bs) 5) : ∃ h', C 20 4 [m, iv n, iv a, iv b] h = some (.bool true, h') := by
  rw [C_f rfl, frameB_eq ft4 rfl rfl]
  obtain ⟨h1, e1, g1⟩ := s_Tight 19 (by omega) bs hbs m h n a b hm
  obtain ⟨h2, e2, g2⟩ := s_rTight 19 (by omega) bs hbs m h1 n a b ((hm.grow g1 (Nat.le_refl _)).more g1.next)
  obtain ⟨x, y, e, hx, hy, hF⟩ := tightR_form bs n a b
  rw [hF] at e1 e2
  refine ⟨h2, ?_⟩
  simp only [Try.f4, symM, opFn, Nat.reduceLT, Nat.reduceBEq, evCall_fn ft12 rfl, e1, evCall_fn ft13 rfl, e2, evCall_fn ft11 rfl, C_aw 19 (by omega), c_eql (zok_k (x := (x : Int)) (by omega)) (zok_k (x := (y : Int)) (by omega)) (zok_k (x := (x : Int)) (by omega)) (zok_k (x := (y : Int)) (by omega)), decide_true, Bool.and_self, bin_eql, beq_self_eq_true]
  exact retB_one ft4 rfl get_same
end
end Go.Proofs.Ytcpihpjphdlmfaa.Abs
