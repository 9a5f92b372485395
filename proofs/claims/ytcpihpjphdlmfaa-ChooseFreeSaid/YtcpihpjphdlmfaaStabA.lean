/- The stable sort, in plain Lean: long runs first, of those that are as long the first ones first. -/
import Derived.Test.YtcpihpjphdlmfaaSortD
namespace Go.Proofs.Ytcpihpjphdlmfaa.Abs
open Go Go.Proofs Go.Sort
noncomputable section
abbrev NN := Nat × Nat
/-- Not behind: longer, or as long and not farther. -/
def wpre (x y : NN) : Prop := y.2 < x.2 ∨ (x.2 = y.2 ∧ x.1 ≤ y.1)
/-- If as long, then not farther. -/
def crs (x y : NN) : Prop := x.2 = y.2 → x.1 ≤ y.1
def Srt (f : Nat → NN) (lo hi : Nat) : Prop := ∀ i j, lo ≤ i → i < j → j < hi → wpre (f i) (f j)
def Crs (f : Nat → NN) (a m b : Nat) : Prop := ∀ i j, a ≤ i → i < m → m ≤ j → j < b → crs (f i) (f j)
def CrsAll (f : Nat → NN) (n : Nat) : Prop := ∀ i j, i < j → j < n → crs (f i) (f j)
theorem wpre_trans {x y z : NN} (h1 : wpre x y) (h2 : wpre y z) : wpre x z := by unfold wpre at *; omega
theorem wpre_crs {x y : NN} (h : wpre x y) : crs x y := by unfold wpre crs at *; omega
def ltB (x y : NN) : Bool := decide (y.2 < x.2 ∨ (x.2 = y.2 ∧ x.1 < y.1))
theorem ltB_not {x y : NN} : ltB y x = false ↔ wpre x y := by
  unfold ltB wpre
  rw [decide_eq_false_iff_not]
  omega
theorem ltB_swo : SWO ltB := by
  constructor
  · intro x; unfold ltB; rw [decide_eq_false_iff_not]; omega
  · intro x y z h1 h2
    unfold ltB at *
    rw [decide_eq_true_eq] at *
    omega
  · intro x y z h1 h2
    unfold ltB at *
    rw [decide_eq_false_iff_not] at *
    omega
/-- A comparison by length alone. -/
def ByLen (c : NN → NN → Int) : Prop := ∀ x y, ltc c x y = decide (y.2 < x.2)
theorem byLen_eq {c : NN → NN → Int} (hc : ByLen c) {x y : NN} (h : crs y x) : ltc c x y = ltB x y := by
  rw [hc]
  unfold ltB
  unfold crs at h
  exact decide_eq_decide.2 (by omega)
theorem insInner_perm (lt : NN → NN → Bool) (a b : Nat) : ∀ (j : Nat) (d : Array NN), a ≤ j → j < b → b ≤ d.size → PermIn a b d (insInner lt a j d) := by
  intro j
  induction j with
  | zero => intro d _ _ _; exact permIn_refl d a b
  | succ j ih =>
    intro d h1 h2 h3
    rw [insInner]
    split
    · rename_i h
      have ha : j + 1 > a := by simp at h; omega
      exact permIn_trans _ _ _ a b (swp_permIn d a b (j + 1) j h1 h2 (by omega) (by omega) h3) (ih _ (by omega) (by omega) (by rw [size_swp]; exact h3))
    · exact permIn_refl d a b
theorem insInner_eq (lt lt' : NN → NN → Bool) (a : Nat) : ∀ (j : Nat) (d : Array NN), j < d.size → (∀ y, a ≤ y → y < j → lt d[j]! d[y]! = lt' d[j]! d[y]!) → insInner lt a j d = insInner lt' a j d := by
  intro j
  induction j with
  | zero => intro d _ _; rfl
  | succ j ih =>
    intro d hd h
    rw [insInner, insInner]
    by_cases ha : j + 1 > a
    · rw [h j (by omega) (by omega)]
      split
      · refine ih _ (by rw [size_swp]; omega) (fun y h1 h2 => ?_)
        rw [swp_right d (j + 1) j (by omega), swp_other d (j + 1) j y (by omega) (by omega)]
        exact h y h1 (by omega)
      · rfl
    · simp [ha]
theorem insOuter_eq (lt lt' : NN → NN → Bool) (a b : Nat) : ∀ (k i : Nat) (d : Array NN), b - i = k → a ≤ i → b ≤ d.size → (∀ x y, i ≤ x → x < b → a ≤ y → y < x → lt d[x]! d[y]! = lt' d[x]! d[y]!) → insOuter lt a b i d = insOuter lt' a b i d := by
  intro k
  induction k with
  | zero => intro i d hk _ _ _; unfold insOuter; rw [if_neg (by omega), if_neg (by omega)]
  | succ k ih =>
    intro i d hk hai hb h
    unfold insOuter
    rw [if_pos (by omega), if_pos (by omega)]
    rw [insInner_eq lt lt' a i d (by omega) (fun y h1 h2 => h i y (Nat.le_refl _) (by omega) h1 h2)]
    have hp := insInner_perm lt' a (i + 1) i d hai (Nat.lt_succ_self _) (by omega)
    refine ih (i + 1) _ (by omega) (by omega) (by rw [hp.1]; exact hb) (fun x y h1 h2 h3 h4 => ?_)
    rw [hp.2.1 x (.inr h1)]
    by_cases hy : y < i + 1
    · exact permIn_all d _ a (i + 1) (fun e => lt d[x]! e = lt' d[x]! e) (by omega) hp (fun z z1 z2 => h x z (by omega) h2 z1 (by omega)) y h3 hy
    · rw [hp.2.1 y (.inr (by omega))]
      exact h x y (by omega) h2 h3 h4
/-- Insertion is stable. -/
theorem insertion_stable {c : NN → NN → Int} (hc : ByLen c) (d : Array NN) (a b : Nat) (hab : a ≤ b) (hb : b ≤ d.size) (hx : ∀ i j, a ≤ i → i < j → j < b → crs d[i]! d[j]!) :
    PermIn a b d (insertionSort (ltc c) d a b) ∧ Srt (fun k => (insertionSort (ltc c) d a b)[k]!) a b := by
  have e : insertionSort (ltc c) d a b = insertionSort ltB d a b := by
    unfold insertionSort
    exact insOuter_eq (ltc c) ltB a b _ (a + 1) d rfl (by omega) hb (fun x y h1 h2 h3 h4 => byLen_eq hc (hx y x h3 h4 h2))
  rw [e]
  have h := insertionSort_holds (lt := ltB) ltB_swo d a b hab hb
  exact ⟨h.1, fun i j h1 h2 h3 => ltB_not.1 (h.2 i j h1 h2 h3)⟩
/-- Where things stand when one was moved to the right, or to the left. -/
def mvR (f : Nat → NN) (a t : Nat) (k : Nat) : NN := if a ≤ k ∧ k < t then f (k + 1) else if k = t then f a else f k
def mvL (f : Nat → NN) (i m : Nat) (k : Nat) : NN := if k = i then f m else if i < k ∧ k ≤ m then f (k - 1) else f k
/-- A part behind another one, and the other way round. -/
def rotF (f : Nat → NN) (a m b : Nat) (k : Nat) : NN := if a ≤ k ∧ k < a + (b - m) then f (k + (m - a)) else if a + (b - m) ≤ k ∧ k < b then f (k - (b - m)) else f k
theorem mvR_srt {f : Nat → NN} {a b t : Nat} (hs : Srt f (a + 1) b) (hx : Crs f a (a + 1) b) (ht : a ≤ t) (htb : t < b) (h1 : t = a ∨ (f a).2 < (f t).2) (h2 : t + 1 = b ∨ (f (t + 1)).2 ≤ (f a).2) : Srt (mvR f a t) a b := by
  intro i j hi hij hj
  unfold mvR
  by_cases c1 : i < t
  · rw [if_pos ⟨hi, c1⟩]
    by_cases c2 : j < t
    · rw [if_pos ⟨by omega, c2⟩]; exact hs _ _ (by omega) (by omega) (by omega)
    · rw [if_neg (by omega)]
      by_cases c3 : j = t
      · rw [if_pos c3]
        rcases h1 with h1 | h1
        · omega
        · by_cases c4 : i + 1 = t
          · rw [c4]; exact .inl h1
          · exact wpre_trans (hs (i + 1) t (by omega) (by omega) (by omega)) (.inl h1)
      · rw [if_neg c3]; exact hs _ _ (by omega) (by omega) (by omega)
  · rw [if_neg (show ¬ (a ≤ i ∧ i < t) by omega), if_neg (show ¬ (a ≤ j ∧ j < t) by omega)]
    by_cases c3 : i = t
    · rw [if_pos c3, if_neg (show ¬ j = t by omega)]
      rcases h2 with h2 | h2
      · omega
      · have hw : wpre (f a) (f (t + 1)) := by
          have := hx a (t + 1) (Nat.le_refl _) (by omega) (by omega) (by omega)
          unfold crs at this; unfold wpre; omega
        by_cases c4 : j = t + 1
        · rw [c4]; exact hw
        · exact wpre_trans hw (hs (t + 1) j (by omega) (by omega) (by omega))
    · rw [if_neg c3, if_neg (show ¬ j = t by omega)]; exact hs _ _ (by omega) (by omega) (by omega)
theorem mvL_srt {f : Nat → NN} {a m i0 : Nat} (hs : Srt f a m) (hx : Crs f a m (m + 1)) (ha : a ≤ i0) (him : i0 ≤ m) (h1 : i0 = a ∨ (f m).2 ≤ (f (i0 - 1)).2) (h2 : i0 = m ∨ (f i0).2 < (f m).2) : Srt (mvL f i0 m) a (m + 1) := by
  intro i j hi hij hj
  unfold mvL
  by_cases c1 : i < i0
  · rw [if_neg (by omega), if_neg (by omega)]
    have hw : wpre (f i) (f m) := by
      have hx1 := hx (i0 - 1) m (by omega) (by omega) (Nat.le_refl _) (by omega)
      have hw1 : wpre (f (i0 - 1)) (f m) := by
        rcases h1 with h1 | h1
        · omega
        · unfold crs at hx1; unfold wpre; omega
      by_cases c4 : i = i0 - 1
      · rw [c4]; exact hw1
      · exact wpre_trans (hs i (i0 - 1) hi (by omega) (by omega)) hw1
    by_cases c2 : j = i0
    · rw [if_pos c2]; exact hw
    · rw [if_neg c2]
      by_cases c3 : i0 < j
      · rw [if_pos ⟨c3, by omega⟩]; exact hs _ _ hi (by omega) (by omega)
      · rw [if_neg (by omega)]; exact hs _ _ hi (by omega) (by omega)
  · by_cases c2 : i = i0
    · rw [if_pos c2, if_neg (by omega), if_pos ⟨by omega, by omega⟩]
      rcases h2 with h2 | h2
      · omega
      · by_cases c4 : j - 1 = i0
        · rw [c4]; exact .inl h2
        · exact wpre_trans (.inl h2) (hs i0 (j - 1) ha (by omega) (by omega))
    · rw [if_neg c2, if_pos ⟨by omega, by omega⟩, if_neg (by omega), if_pos ⟨by omega, by omega⟩]
      exact hs _ _ (by omega) (by omega) (by omega)
section
variable {f : Nat → NN} {a m b mid s e : Nat}
/-- What the search for the middle finds. -/
structure SymCut (f : Nat → NN) (a m b mid s e : Nat) : Prop where
  ha : a < m
  hb : m < b
  h1 : a ≤ s ∧ s ≤ m
  h2 : m ≤ e ∧ e ≤ b
  h3 : s + (e - m) = mid
  h4 : mid < b
  k1 : s = a ∨ e = b ∨ (f e).2 ≤ (f (s - 1)).2
  k2 : s = m ∨ e = m ∨ (f s).2 < (f (e - 1)).2
theorem rot_lo (hc : SymCut f a m b mid s e) (k : Nat) (h1 : a ≤ k) (h2 : k < mid) : (k < s ∧ rotF f s m e k = f k) ∨ (s ≤ k ∧ rotF f s m e k = f (k + (m - s)) ∧ m ≤ k + (m - s) ∧ k + (m - s) < e) := by
  obtain ⟨ha, hb, ⟨q1, q2⟩, ⟨q3, q4⟩, q5, q6, _, _⟩ := hc
  unfold rotF
  by_cases c : k < s
  · exact .inl ⟨c, by rw [if_neg (by omega), if_neg (by omega)]⟩
  · exact .inr ⟨by omega, by rw [if_pos ⟨by omega, by omega⟩], by omega, by omega⟩
theorem rot_hi (hc : SymCut f a m b mid s e) (k : Nat) (h1 : mid ≤ k) (h2 : k < b) : (k < e ∧ rotF f s m e k = f (k - (e - m)) ∧ s ≤ k - (e - m) ∧ k - (e - m) < m) ∨ (e ≤ k ∧ rotF f s m e k = f k) := by
  obtain ⟨ha, hb, ⟨q1, q2⟩, ⟨q3, q4⟩, q5, q6, _, _⟩ := hc
  unfold rotF
  by_cases c : k < e
  · exact .inl ⟨c, by rw [if_neg (by omega), if_pos ⟨by omega, by omega⟩], by omega, by omega⟩
  · exact .inr ⟨by omega, by rw [if_neg (by omega), if_neg (by omega)]⟩
theorem sym_lo (hc : SymCut f a m b mid s e) (hl : Srt f a m) (hr : Srt f m b) (hx : Crs f a m b) : Srt (rotF f s m e) a s ∧ Srt (rotF f s m e) s mid ∧ Crs (rotF f s m e) a s mid := by
  obtain ⟨ha, hb, ⟨q1, q2⟩, ⟨q3, q4⟩, q5, q6, _, _⟩ := id hc
  refine ⟨fun i j h1 h2 h3 => ?_, fun i j h1 h2 h3 => ?_, fun i j h1 h2 h3 h4 => ?_⟩
  · rcases rot_lo hc i (by omega) (by omega) with ⟨_, e1⟩ | ⟨_, _, _, _⟩
    · rcases rot_lo hc j (by omega) (by omega) with ⟨_, e2⟩ | ⟨_, _, _, _⟩
      · rw [e1, e2]; exact hl _ _ h1 h2 (by omega)
      · omega
    · omega
  · rcases rot_lo hc i (by omega) (by omega) with ⟨_, e1⟩ | ⟨_, e1, _, _⟩
    · omega
    · rcases rot_lo hc j (by omega) (by omega) with ⟨_, e2⟩ | ⟨_, e2, _, _⟩
      · omega
      · rw [e1, e2]; exact hr _ _ (by omega) (by omega) (by omega)
  · rcases rot_lo hc i (by omega) (by omega) with ⟨_, e1⟩ | ⟨_, e1, _, _⟩
    · rcases rot_lo hc j (by omega) (by omega) with ⟨_, e2⟩ | ⟨_, e2, _, _⟩
      · omega
      · rw [e1, e2]; exact hx _ _ h1 (by omega) (by omega) (by omega)
    · omega
theorem sym_hi (hc : SymCut f a m b mid s e) (hl : Srt f a m) (hr : Srt f m b) (hx : Crs f a m b) : Srt (rotF f s m e) mid e ∧ Srt (rotF f s m e) e b ∧ Crs (rotF f s m e) mid e b := by
  obtain ⟨ha, hb, ⟨q1, q2⟩, ⟨q3, q4⟩, q5, q6, _, _⟩ := id hc
  refine ⟨fun i j h1 h2 h3 => ?_, fun i j h1 h2 h3 => ?_, fun i j h1 h2 h3 h4 => ?_⟩
  · rcases rot_hi hc i (by omega) (by omega) with ⟨_, e1, _, _⟩ | ⟨_, _⟩
    · rcases rot_hi hc j (by omega) (by omega) with ⟨_, e2, _, _⟩ | ⟨_, _⟩
      · rw [e1, e2]; exact hl _ _ (by omega) (by omega) (by omega)
      · omega
    · omega
  · rcases rot_hi hc i (by omega) (by omega) with ⟨_, e1, _, _⟩ | ⟨_, e1⟩
    · omega
    · rcases rot_hi hc j (by omega) (by omega) with ⟨_, e2, _, _⟩ | ⟨_, e2⟩
      · omega
      · rw [e1, e2]; exact hr _ _ (by omega) (by omega) (by omega)
  · rcases rot_hi hc i (by omega) (by omega) with ⟨_, e1, _, _⟩ | ⟨_, e1⟩
    · rcases rot_hi hc j (by omega) (by omega) with ⟨_, e2, _, _⟩ | ⟨_, e2⟩
      · omega
      · rw [e1, e2]; exact hx _ _ (by omega) (by omega) (by omega) (by omega)
    · omega
theorem sym_x (hc : SymCut f a m b mid s e) (hl : Srt f a m) (hr : Srt f m b) (hx : Crs f a m b) : ∀ i j, a ≤ i → i < mid → mid ≤ j → j < b → wpre (rotF f s m e i) (rotF f s m e j) := by
  obtain ⟨ha, hb, ⟨q1, q2⟩, ⟨q3, q4⟩, q5, q6, k1, k2⟩ := id hc
  intro i j h1 h2 h3 h4
  rcases rot_lo hc i h1 h2 with ⟨i1, e1⟩ | ⟨i1, e1, i2, i3⟩
  · rcases rot_hi hc j h3 h4 with ⟨j1, e2, j2, j3⟩ | ⟨j1, e2⟩
    · rw [e1, e2]; exact hl _ _ h1 (by omega) (by omega)
    · rw [e1, e2]
      have hw : wpre (f (s - 1)) (f e) := by
        have hx1 := hx (s - 1) e (by omega) (by omega) (by omega) (by omega)
        rcases k1 with k1 | k1 | k1
        · omega
        · omega
        · unfold crs at hx1; unfold wpre; omega
      have hw2 : wpre (f i) (f e) := by
        by_cases c4 : i = s - 1
        · rw [c4]; exact hw
        · exact wpre_trans (hl i (s - 1) h1 (by omega) (by omega)) hw
      by_cases c5 : j = e
      · rw [c5]; exact hw2
      · exact wpre_trans hw2 (hr e j (by omega) (by omega) h4)
  · rcases rot_hi hc j h3 h4 with ⟨j1, e2, j2, j3⟩ | ⟨j1, e2⟩
    · rw [e1, e2]
      have hw : wpre (f (e - 1)) (f s) := by
        rcases k2 with k2 | k2 | k2
        · omega
        · omega
        · exact .inl k2
      have hw2 : wpre (f (i + (m - s))) (f s) := by
        by_cases c4 : i + (m - s) = e - 1
        · rw [c4]; exact hw
        · exact wpre_trans (hr _ (e - 1) i2 (by omega) (by omega)) hw
      by_cases c5 : j - (e - m) = s
      · rw [c5]; exact hw2
      · exact wpre_trans hw2 (hl s _ (by omega) (by omega) (by omega))
    · rw [e1, e2]; exact hr _ _ (by omega) (by omega) (by omega)
end
end
end Go.Proofs.Ytcpihpjphdlmfaa.Abs
namespace Go.Proofs.Ytcpihpjphdlmfaa.Abs
open Go Go.Proofs Go.Sort
noncomputable section
variable {call : Abs.Callee}
set_option maxRecDepth 10000
theorem ft72 : T0.ft.get 72 = some Try.f72 := by kernel_rfl
theorem ft65 : T0.ft.get 65 = some Try.f65 := by kernel_rfl
theorem swp_at {d : Array NN} {i j : Nat} (hi : i < d.size) (hj : j < d.size) (k : Nat) : (swp d i j)[k]! = if k = j then d[i]! else if k = i then d[j]! else d[k]! := by
  by_cases h1 : k = j
  · rw [if_pos h1, h1]; exact swp_right d i j hj
  · rw [if_neg h1]
    by_cases h2 : k = i
    · rw [if_pos h2, h2]; exact swp_left d i j hi (by omega)
    · rw [if_neg h2]; exact swp_other d i j k h2 h1
/-- Two parts as long as one another change their places. -/
def srF (f : Nat → NN) (a b n : Nat) (k : Nat) : NN := if a ≤ k ∧ k < a + n then f (b + (k - a)) else if b ≤ k ∧ k < b + n then f (a + (k - b)) else f k
abbrev fA (d : Array NN) : Nat → NN := fun k => d[k]!
theorem srF_step {d d0 : Array NN} {a b i : Nat} (hab : a + i < b) (hb : b + i < d.size) (h : ∀ k, d[k]! = srF (fA d0) a b i k) (k : Nat) : (swp d (a + i) (b + i))[k]! = srF (fA d0) a b (i + 1) k := by
  rw [swp_at (by omega) hb, h, h, h]
  unfold srF
  by_cases c1 : k = b + i
  · rw [if_pos c1, if_neg (show ¬ (a ≤ a + i ∧ a + i < a + i) by omega), if_neg (show ¬ (b ≤ a + i ∧ a + i < b + i) by omega), if_neg (show ¬ (a ≤ k ∧ k < a + (i + 1)) by omega), if_pos (show b ≤ k ∧ k < b + (i + 1) by omega)]
    exact congrArg (fA d0) (by omega)
  · rw [if_neg c1]
    by_cases c2 : k = a + i
    · rw [if_pos c2, if_neg (show ¬ (a ≤ b + i ∧ b + i < a + i) by omega), if_neg (show ¬ (b ≤ b + i ∧ b + i < b + i) by omega), if_pos (show a ≤ k ∧ k < a + (i + 1) by omega)]
      exact congrArg (fA d0) (by omega)
    · rw [if_neg c2]
      by_cases c3 : a ≤ k ∧ k < a + i
      · rw [if_pos c3, if_pos (by omega)]
      · rw [if_neg c3, if_neg (show ¬ (a ≤ k ∧ k < a + (i + 1)) by omega)]
        by_cases c4 : b ≤ k ∧ k < b + i
        · rw [if_pos c4, if_pos (by omega)]
        · rw [if_neg c4, if_neg (show ¬ (b ≤ k ∧ k < b + (i + 1)) by omega)]
theorem rot_gt {f : Nat → NN} {m i j : Nat} (hj : 1 ≤ j) (hij : j < i) (him : i ≤ m) (k : Nat) : rotF (srF f (m - i) m j) (m - (i - j)) m (m + j) k = rotF f (m - i) m (m + j) k := by
  unfold rotF srF
  by_cases c1 : m - i ≤ k ∧ k < m - i + (m + j - m)
  · rw [if_neg (show ¬ (m - (i - j) ≤ k ∧ k < m - (i - j) + (m + j - m)) by omega), if_neg (show ¬ (m - (i - j) + (m + j - m) ≤ k ∧ k < m + j) by omega), if_pos (show m - i ≤ k ∧ k < m - i + j by omega), if_pos c1]
    exact congrArg f (by omega)
  · rw [if_neg c1]
    by_cases c2 : m - i + (m + j - m) ≤ k ∧ k < m + j
    · rw [if_pos c2]
      by_cases c3 : m - (i - j) ≤ k ∧ k < m - (i - j) + (m + j - m)
      · rw [if_pos c3, if_neg (show ¬ (m - i ≤ k + (m - (m - (i - j))) ∧ k + (m - (m - (i - j))) < m - i + j) by omega), if_pos (show m ≤ k + (m - (m - (i - j))) ∧ k + (m - (m - (i - j))) < m + j by omega)]
        exact congrArg f (by omega)
      · rw [if_neg c3]
        by_cases c4 : m - (i - j) + (m + j - m) ≤ k ∧ k < m + j
        · rw [if_pos c4, if_neg (show ¬ (m - i ≤ k - (m + j - m) ∧ k - (m + j - m) < m - i + j) by omega), if_neg (show ¬ (m ≤ k - (m + j - m) ∧ k - (m + j - m) < m + j) by omega)]
        · omega
    · rw [if_neg c2, if_neg (show ¬ (m - (i - j) ≤ k ∧ k < m - (i - j) + (m + j - m)) by omega), if_neg (show ¬ (m - (i - j) + (m + j - m) ≤ k ∧ k < m + j) by omega), if_neg (show ¬ (m - i ≤ k ∧ k < m - i + j) by omega), if_neg (show ¬ (m ≤ k ∧ k < m + j) by omega)]
theorem rot_lt {f : Nat → NN} {m i j : Nat} (hi : 1 ≤ i) (hij : i < j) (him : i ≤ m) (k : Nat) : rotF (srF f (m - i) (m + j - i) i) (m - i) m (m + (j - i)) k = rotF f (m - i) m (m + j) k := by
  unfold rotF srF
  by_cases c1 : m - i ≤ k ∧ k < m - i + (m + j - m)
  · rw [if_pos c1]
    by_cases c2 : m - i ≤ k ∧ k < m - i + (m + (j - i) - m)
    · rw [if_pos c2, if_neg (show ¬ (m - i ≤ k + (m - (m - i)) ∧ k + (m - (m - i)) < m - i + i) by omega), if_neg (show ¬ (m + j - i ≤ k + (m - (m - i)) ∧ k + (m - (m - i)) < m + j - i + i) by omega)]
    · rw [if_neg c2, if_pos (show m - i + (m + (j - i) - m) ≤ k ∧ k < m + (j - i) by omega), if_pos (show m - i ≤ k - (m + (j - i) - m) ∧ k - (m + (j - i) - m) < m - i + i by omega)]
      exact congrArg f (by omega)
  · rw [if_neg c1, if_neg (show ¬ (m - i ≤ k ∧ k < m - i + (m + (j - i) - m)) by omega)]
    by_cases c2 : m - i + (m + j - m) ≤ k ∧ k < m + j
    · rw [if_pos c2, if_neg (show ¬ (m - i + (m + (j - i) - m) ≤ k ∧ k < m + (j - i)) by omega), if_neg (show ¬ (m - i ≤ k ∧ k < m - i + i) by omega), if_pos (show m + j - i ≤ k ∧ k < m + j - i + i by omega)]
      exact congrArg f (by omega)
    · rw [if_neg c2, if_neg (show ¬ (m - i + (m + (j - i) - m) ≤ k ∧ k < m + (j - i)) by omega), if_neg (show ¬ (m - i ≤ k ∧ k < m - i + i) by omega), if_neg (show ¬ (m + j - i ≤ k ∧ k < m + j - i + i) by omega)]
theorem rot_eq {f : Nat → NN} {m i : Nat} (hi : 1 ≤ i) (him : i ≤ m) (k : Nat) : srF f (m - i) m i k = rotF f (m - i) m (m + i) k := by
  unfold rotF srF
  by_cases c1 : m - i ≤ k ∧ k < m - i + i
  · rw [if_pos c1, if_pos (by omega)]; exact congrArg f (by omega)
  · rw [if_neg c1, if_neg (show ¬ (m - i ≤ k ∧ k < m - i + (m + i - m)) by omega)]
    by_cases c2 : m ≤ k ∧ k < m + i
    · rw [if_pos c2, if_pos (by omega)]; exact congrArg f (by omega)
    · rw [if_neg c2, if_neg (by omega)]
noncomputable def bodySr : Code := part Try.f72 [1, 0, 0]
abbrev ESr : Env := ⟨72, 38, none⟩
theorem plan_Sr : planB (regOps Try.f72 [1, 0, 0, 1, 0, 0]) 38 = some ([.one 0, .one 1, .one 2, .one 3, .one 4, .one 5, .one 6, .one 7, .one 8, .one 9, .one 10, .one 11, .one 12, .one 13, .one 14, .one 15, .one 16, .one 17, .one 18, .one 19, .one 20, .eff [] 21 [4, 5, 6, 7], .one 22, .eff [] 23 []], []) := by kernel_rfl
set_option maxHeartbeats 1000000 in
theorem srL (v : Value) (n0 a b n : Nat) (d0 : Array NN) (h0 : AH) (hab : a + n ≤ b) (hbn : b + n ≤ d0.size) (hd : d0.size ≤ 480) :
    ∀ (k i : Nat) (d : Array NN) (tm : PM Value) (h : AH) (N : Nat), i + k = n → k + 60 ≤ N → d.size = d0.size → AllK d → PermIn a (b + n) d0 d → (∀ k, d[k]! = srF (fA d0) a b i k) → tm.get 0 = some v → tm.get 1 = some (iv a) → tm.get 2 = some (iv b) → tm.get 3 = some (iv n) → tm.get 10 = some (iv i) → Own n0 h v (rA d) 23 → Grow n0 h0 h →
      ∃ tm' h', codeB T0 X0 call N ESr (.loop bodySr) tm h [] = .jump (.exit 0) tm' h' [] ∧ (∃ d' : Array NN, Own n0 h' v (rA d') 23 ∧ AllK d' ∧ PermIn a (b + n) d0 d' ∧ (∀ k, d'[k]! = srF (fA d0) a b n k) ∧ Grow n0 h0 h') := by
  intro k
  have hp := plan_Sr
  simp only [regOps, part, Try.f72, sub] at hp
  induction k with
  | zero =>
    intro i d tm h N hi hN hs hK hP hf g0 g1 g2 g3 g10 hv hg
    obtain ⟨N, rfl⟩ : ∃ a, N = a + 30 := ⟨N - 30, by omega⟩
    apply Exists.intro; apply Exists.intro; apply And.intro
    · rw [codeB_loop]
      simp only [bodySr, part, Try.f72, sub, symM, opFn, Nat.reduceLT, Nat.reduceBEq, g3, g10, bin_lss, decide_eq_false (show ¬ (i : Int) < (n : Nat) by omega)]
      rfl
    · have : i = n := by omega
      subst this
      exact ⟨d, hv, hK, hP, hf, hg⟩
  | succ k ih =>
    intro i d tm h N hi hN hs hK hP hf g0 g1 g2 g3 g10 hv hg
    obtain ⟨N, rfl⟩ : ∃ a, N = a + 30 := ⟨N - 30, by omega⟩
    obtain ⟨p, q, h2, h3, a1, a2, a3, a4, a5, a6, a7, a8⟩ := hv.swap (i := a + i) (j := b + i) (by omega) (by omega)
    have hwa : IntKind.i64.wrap ((a : Int) + i) = ((a + i : Nat) : Int) := wadd (by omega)
    have hwb : IntKind.i64.wrap ((b : Int) + i) = ((b + i : Nat) : Int) := wadd (by omega)
    rw [show N + 30 = (N + 29) + 1 from rfl, codeB_loop]
    simp only [bodySr, part, Try.f72, sub, symM, opFn, Nat.reduceLT, Nat.reduceBEq, g3, g10, bin_lss, decide_eq_true (show (i : Int) < (n : Nat) by omega), codeB_draw]
    rw [draw_plan hp rfl]
    simp only [drawAll, opFn, Nat.reduceLT, Nat.reduceBEq, g0, g1, g2, g10, effE_cons, bin_add, hwa, hwb, a1, a2, a3, a4, a5, a6, hv.eqv, wadd1 (show i ≤ 400000 by omega)]
    refine ih (i + 1) (swp d (a + i) (b + i)) _ h3 (N + 29) (by omega) (by omega) (by rw [size_swp]; exact hs) (swp_K hK _ _) (permIn_trans _ _ _ a (b + n) hP (swp_permIn d a (b + n) _ _ (by omega) (by omega) (by omega) (by omega) (by omega))) (srF_step (by omega) (by omega) hf) ?_ ?_ ?_ ?_ get_same a7 (hg.trans a8 (Nat.le_refl _)) <;> simp only [symM, Nat.reduceBEq, g0, g1, g2, g3]
theorem swapRange_S (v : Value) (n0 g a b n : Nat) (d : Array NN) (h : AH) (hab : a + n ≤ b) (hbn : b + n ≤ d.size) (hd : d.size ≤ 480) (hK : AllK d) (hv : Own n0 h v (rA d) 23) :
    ∃ h', ∃ d' : Array NN, frameB T0 X0 call 3000 72 [v, iv a, iv b, iv n, fnV g] h = some (.tuple #[], h') ∧ Own n0 h' v (rA d') 23 ∧ AllK d' ∧ PermIn a (b + n) d d' ∧ (∀ k, d'[k]! = srF (fA d) a b n k) ∧ Grow n0 h h' := by
  rw [frameB_eq ft72 rfl rfl]
  simp only [Try.f72, symM, opFn, Nat.reduceLT, symL]
  generalize hX : codeB T0 X0 call _ ESr (.loop _) _ _ _ = X
  have hf0 : ∀ k, d[k]! = srF (fA d) a b 0 k := by
    intro k
    unfold srF
    rw [if_neg (by omega), if_neg (by omega)]
  obtain ⟨t1, h1, e1, d', e2, e3, e4, e5, e6⟩ := use_exit hX (srL v n0 a b n d h hab hbn hd n 0 d _ h _ (by omega) (by omega) rfl hK (permIn_refl d _ _) hf0 (by simp only [symM, Nat.reduceBEq]) (by simp only [symM, Nat.reduceBEq]) (by simp only [symM, Nat.reduceBEq]) (by simp only [symM, Nat.reduceBEq]) (by simp only [symM]; rfl) hv (Grow.refl _ _))
  clear hX
  subst e1
  refine ⟨h1, d', ?_, e2, e3, e4, e5, e6⟩
  simp only [symM, symL]
  exact retB_zero ft72 rfl
def SrOK (call : Abs.Callee) (v : Value) (n0 g : Nat) : Prop := ∀ (a b n : Nat) (d : Array NN) (h : AH), a + n ≤ b → b + n ≤ d.size → d.size ≤ 480 → AllK d → Own n0 h v (rA d) 23 →
    ∃ h', ∃ d' : Array NN, call 72 [v, iv a, iv b, iv n, fnV g] h = some (.tuple #[], h') ∧ Own n0 h' v (rA d') 23 ∧ AllK d' ∧ PermIn a (b + n) d d' ∧ (∀ k, d'[k]! = srF (fA d) a b n k) ∧ Grow n0 h h'
noncomputable def bodyRo : Code := part Try.f65 [1, 1, 0, 0, 0]
abbrev ERo : Env := ⟨65, 58, none⟩
set_option maxHeartbeats 1000000 in
theorem roL {v : Value} {n0 g : Nat} (hS : SrOK call v n0 g) (a m b : Nat) (d0 : Array NN) (h0 : AH) (ham : a < m) (hmb : m < b) (hb : b ≤ d0.size) (hd : d0.size ≤ 480) :
    ∀ (k i j : Nat) (d : Array NN) (tm : PM Value) (h : AH) (N : Nat), i + j < k → k + 60 ≤ N → 1 ≤ i → 1 ≤ j → a + i ≤ m → m + j ≤ b → AllK d → PermIn a b d0 d → (∀ k, rotF (fA d) (m - i) m (m + j) k = rotF (fA d0) a m b k) → tm.get 0 = some v → tm.get 2 = some (iv m) → tm.get 4 = some (fnV g) → tm.get 10 = some (iv i) → tm.get 11 = some (iv j) → Own n0 h v (rA d) 23 → Grow n0 h0 h →
      ∃ tm' h', codeB T0 X0 call N ERo (.loop bodyRo) tm h [] = .jump (.exit 0) tm' h' [] ∧ (∃ (d' : Array NN) (i' : Nat), 1 ≤ i' ∧ a + i' ≤ m ∧ m + i' ≤ b ∧ Own n0 h' v (rA d') 23 ∧ AllK d' ∧ PermIn a b d0 d' ∧ (∀ k, rotF (fA d') (m - i') m (m + i') k = rotF (fA d0) a m b k) ∧ Grow n0 h0 h' ∧ tm'.get 0 = some v ∧ tm'.get 2 = some (iv m) ∧ tm'.get 4 = some (fnV g) ∧ tm'.get 10 = some (iv i')) := by
  intro k
  induction k with
  | zero => intro i j d tm h N hk; omega
  | succ k ih =>
    intro i j d tm h N hk hN hi hj him hjb hK hP hf g0 g2 g4 g10 g11 hv hg
    obtain ⟨N, rfl⟩ : ∃ a, N = a + 30 := ⟨N - 30, by omega⟩
    have hs : d.size = d0.size := hP.1
    rw [show N + 30 = (N + 29) + 1 from rfl, codeB_loop]
    by_cases hij : i = j
    · subst hij
      apply Exists.intro; apply Exists.intro; apply And.intro
      · simp only [bodyRo, part, Try.f65, sub, symM, opFn, Nat.reduceLT, Nat.reduceBEq, g10, g11, bin_neq, show ((i : Int) == (i : Int)) = true from by simp]
        rfl
      · exact ⟨d, i, hi, him, hjb, hv, hK, hP, hf, hg, by simp only [symM, Nat.reduceBEq, g0], by simp only [symM, Nat.reduceBEq, g2], by simp only [symM, Nat.reduceBEq, g4], by simp only [symM, Nat.reduceBEq, g10]⟩
    · have hne : ((i : Int) == (j : Int)) = false := by rw [beq_eq_false_iff_ne]; omega
      have hwi : IntKind.i64.wrap ((m : Int) - i) = ((m - i : Nat) : Int) := wsub (by omega) (by omega)
      by_cases hgt : j < i
      · have hwij : IntKind.i64.wrap ((i : Int) - j) = ((i - j : Nat) : Int) := wsub (by omega) (by omega)
        obtain ⟨h1, d1, e1, e2, e3, e4, e5, e6⟩ := hS (m - i) m j d h (by omega) (by omega) (by omega) hK hv
        simp only [bodyRo, part, Try.f65, sub, symM, opFn, Nat.reduceLT, Nat.reduceBEq, g0, g2, g4, g10, g11, bin_neq, hne, bin_gtr, decide_eq_true (show (j : Int) < (i : Nat) by omega), bin_sub, hwi, evCall_fn ft72 rfl, e1, hwij]
        have hfe : fA d1 = srF (fA d) (m - i) m j := funext e5
        refine ih (i - j) j d1 _ h1 (N + 29) (by omega) (by omega) (by omega) hj (by omega) hjb e3 (permIn_trans _ _ _ a b hP (permIn_mono d d1 _ _ a b (by omega) (by omega) (by omega) e4)) (fun k => by rw [hfe, rot_gt hj hgt (by omega), hf]) ?_ ?_ ?_ get_same ?_ e2 (hg.trans e6 (Nat.le_refl _)) <;> simp only [symM, Nat.reduceBEq, g0, g2, g4, g11]
      · have hwij : IntKind.i64.wrap ((j : Int) - i) = ((j - i : Nat) : Int) := wsub (by omega) (by omega)
        have hwmj : IntKind.i64.wrap ((m : Int) + j) = ((m + j : Nat) : Int) := wadd (by omega)
        have hwmji : IntKind.i64.wrap (((m + j : Nat) : Int) - i) = ((m + j - i : Nat) : Int) := wsub (by omega) (by omega)
        obtain ⟨h1, d1, e1, e2, e3, e4, e5, e6⟩ := hS (m - i) (m + j - i) i d h (by omega) (by omega) (by omega) hK hv
        simp only [bodyRo, part, Try.f65, sub, symM, opFn, Nat.reduceLT, Nat.reduceBEq, g0, g2, g4, g10, g11, bin_neq, hne, bin_gtr, decide_eq_false (show ¬ (j : Int) < (i : Nat) by omega), bin_sub, bin_add, hwi, hwmj, hwmji, evCall_fn ft72 rfl, e1, hwij]
        have hfe : fA d1 = srF (fA d) (m - i) (m + j - i) i := funext e5
        refine ih i (j - i) d1 _ h1 (N + 29) (by omega) (by omega) hi (by omega) him (by omega) e3 (permIn_trans _ _ _ a b hP (permIn_mono d d1 _ _ a b (by omega) (by omega) (by omega) e4)) (fun k => by rw [hfe, rot_lt hi (by omega) (by omega), hf]) ?_ ?_ ?_ ?_ get_same e2 (hg.trans e6 (Nat.le_refl _)) <;> simp only [symM, Nat.reduceBEq, g0, g2, g4, g10]
theorem rotate_S {v : Value} {n0 g : Nat} (hS : SrOK call v n0 g) (a m b : Nat) (d : Array NN) (h : AH) (ham : a < m) (hmb : m < b) (hb : b ≤ d.size) (hd : d.size ≤ 480) (hK : AllK d) (hv : Own n0 h v (rA d) 23) :
    ∃ h', ∃ d' : Array NN, frameB T0 X0 call 3000 65 [v, iv a, iv m, iv b, fnV g] h = some (.tuple #[], h') ∧ Own n0 h' v (rA d') 23 ∧ AllK d' ∧ PermIn a b d d' ∧ (∀ k, d'[k]! = rotF (fA d) a m b k) ∧ Grow n0 h h' := by
  rw [frameB_eq ft65 rfl rfl]
  have hw1 : IntKind.i64.wrap ((m : Int) - a) = ((m - a : Nat) : Int) := wsub (by omega) (by omega)
  have hw2 : IntKind.i64.wrap ((b : Int) - m) = ((b - m : Nat) : Int) := wsub (by omega) (by omega)
  simp only [Try.f65, symM, opFn, Nat.reduceLT, Nat.reduceBEq, symL, bin_sub, hw1, hw2]
  generalize hX : codeB T0 X0 call _ ERo (.loop _) _ _ _ = X
  obtain ⟨t1, h1, e1, d1, i, i1, i2, i3, e2, e3, e4, e5, e6, q0, q2, q4, q10⟩ := use_exit hX (roL hS a m b d h ham hmb hb hd (m - a + (b - m) + 1) (m - a) (b - m) d _ h _ (by omega) (by omega) (by omega) (by omega) (by omega) (by omega) hK (permIn_refl d _ _) (fun k => by rw [show m - (m - a) = a by omega, show m + (b - m) = b by omega]) (by simp only [symM, Nat.reduceBEq]) (by simp only [symM, Nat.reduceBEq]) (by simp only [symM, Nat.reduceBEq]) (by simp only [symM, Nat.reduceBEq]) (by simp only [symM]) hv (Grow.refl _ _))
  clear hX
  subst e1
  have hs : d1.size = d.size := e4.1
  have hwi : IntKind.i64.wrap ((m : Int) - i) = ((m - i : Nat) : Int) := wsub (by omega) (by omega)
  obtain ⟨h2, d2, f1, f2, f3, f4, f5, f6⟩ := hS (m - i) m i d1 h1 (by omega) (by omega) (by omega) e3 e2
  refine ⟨h2, d2, ?_, f2, f3, permIn_trans _ _ _ a b e4 (permIn_mono d1 d2 _ _ a b (by omega) (by omega) (by omega) f4), fun k => by rw [f5, rot_eq i1 (by omega), e5], e6.trans f6 (Nat.le_refl _)⟩
  simp only [symM, opFn, Nat.reduceLT, Nat.reduceBEq, symL, q0, q2, q4, q10, bin_sub, hwi, evCall_fn ft72 rfl, f1]
  exact retB_zero ft65 rfl
end
end Go.Proofs.Ytcpihpjphdlmfaa.Abs
namespace Go.Proofs.Ytcpihpjphdlmfaa.Abs
open Go Go.Proofs Go.Sort
noncomputable section
variable {call : Abs.Callee}
set_option maxRecDepth 10000
theorem ft53 : T0.ft.get 53 = some Try.f53 := by kernel_rfl
abbrev ESm : Env := ⟨53, 220, none⟩
theorem shr1 {T : Tab} {t : TypeId} {a b : Operand} {m : Nat} {h : AH} : evBin T .shr t a b (uv (m : Int)) (uv 1) h = some (uv ((m / 2 : Nat) : Int)) := by
  have e := bin_shr (T := T) (t := t) (a := a) (b := b) (h := h) (k := .u64) (k' := .u64) (m := m) (n := 1) (by decide)
  rw [Nat.shiftRight_eq_div_pow] at e
  exact e
noncomputable def bodySm0 : Code := part Try.f53 [0, 1, 0, 1, 1, 0, 0, 0]
theorem plan_Sm5 : planB (regOps Try.f53 [0, 1, 0, 1, 1, 0, 0, 0, 1, 0, 1, 0]) 220 = some ([.one 0, .one 1, .one 2, .one 3, .one 4, .one 5, .one 6, .one 7, .one 8, .eff [] 9 [], .one 10], []) := by kernel_rfl
set_option maxHeartbeats 1000000 in
theorem Sm0L {g : Nat} {c : NN → NN → Int} (hc : CmpOK call g c) (v : Value) (n0 a m b lo hi : Nat) (d : Array NN) (h : AH) (hK : AllK d) (hd : d.size ≤ 480) (hv : Own n0 h v (rA d) 23) (ha : a < d.size) (hhd : hi ≤ d.size) (hhi : hi ≤ 480) :
    ∀ (k i j : Nat) (tm : PM Value) (N : Nat), j - i < k → k + 60 ≤ N → lo ≤ i → i ≤ j → j ≤ hi → (i = lo ∨ ltc c d[(i - 1)]! d[a]! = true) → (j = hi ∨ ltc c d[(j)]! d[a]! = false) → tm.get 0 = some v → tm.get 1 = some (iv a) → tm.get 2 = some (iv m) → tm.get 3 = some (iv b) → tm.get 4 = some (fnV g) → tm.get 10 = some (iv i) → tm.get 11 = some (iv j) →
      ∃ tm' h', codeB T0 X0 call N ESm (.loop bodySm0) tm h [] = .jump (.exit 0) tm' h' [] ∧ (h' = h ∧ tm'.get 0 = some v ∧ tm'.get 1 = some (iv a) ∧ tm'.get 2 = some (iv m) ∧ tm'.get 3 = some (iv b) ∧ tm'.get 4 = some (fnV g) ∧ ∃ i', lo ≤ i' ∧ i' ≤ hi ∧ (i' = lo ∨ ltc c d[(i' - 1)]! d[a]! = true) ∧ (i' = hi ∨ ltc c d[(i')]! d[a]! = false) ∧ tm'.get 10 = some (iv i')) := by
  intro k
  have hp := plan_Sm5
  simp only [regOps, part, Try.f53, sub] at hp
  induction k with
  | zero => intro i j tm N hk; omega
  | succ k ih =>
    intro i j tm N hk hN hi1 hij hj1 hI hJ g0 g1 g2 g3 g4 gi gj
    obtain ⟨N, rfl⟩ : ∃ a, N = a + 30 := ⟨N - 30, by omega⟩
    rw [show N + 30 = (N + 29) + 1 from rfl, codeB_loop]
    by_cases hlt : i < j
    · have hws : IntKind.i64.wrap ((i : Int) + j) = ((i + j : Nat) : Int) := wadd (by omega)
      have hwu : IntKind.u64.wrap (((i + j : Nat)) : Int) = ((i + j : Nat) : Int) := wu64 (by omega)
      obtain ⟨hh, ehh⟩ : ∃ hh, (i + j) / 2 = hh := ⟨_, rfl⟩
      have hh1 : i ≤ hh := by omega
      have hh2 : hh < j := by omega
      have hwh : IntKind.i64.wrap (hh : Int) = (hh : Int) := wz (by omega)
      obtain ⟨p, a1, a2⟩ := hv.fetch (i := hh) (by omega)
      obtain ⟨q, b1, b2⟩ := hv.fetch (i := a) (by omega)
      have hrun := hc.run d[hh]! d[a]! h (hK _) (hK _)
      cases hb : ltc c d[hh]! d[a]! with
      | true =>
        have hb2 : decide (c d[hh]! d[a]! < 0) = true := hb
        simp only [bodySm0, part, Try.f53, sub, symM, opFn, Nat.reduceLT, Nat.reduceBEq, gi, gj, bin_lss, decide_eq_true (show (i : Int) < (j : Nat) by omega), bin_add, hws, conv_i2i und_int und_uint, conv_i2i und_uint und_int, hwu, shr1, ehh, hwh, codeB_draw]
        rw [draw_plan hp rfl]
        simp only [drawAll, opFn, Nat.reduceLT, Nat.reduceBEq, g0, g1, g4, a1, a2, b1, b2, hc.en, hrun, bin_lss, hb2, bin_add, wadd1 (show hh ≤ 400000 by omega)]
        refine ih (hh + 1) j _ (N + 29) (by omega) (by omega) (by omega) (by omega) hj1 (.inr hb) hJ ?_ ?_ ?_ ?_ ?_ get_same ?_ <;> simp only [symM, Nat.reduceBEq, g0, g1, g2, g3, g4, gj]
      | false =>
        have hb2 : decide (c d[hh]! d[a]! < 0) = false := hb
        simp only [bodySm0, part, Try.f53, sub, symM, opFn, Nat.reduceLT, Nat.reduceBEq, gi, gj, bin_lss, decide_eq_true (show (i : Int) < (j : Nat) by omega), bin_add, hws, conv_i2i und_int und_uint, conv_i2i und_uint und_int, hwu, shr1, ehh, hwh, codeB_draw]
        rw [draw_plan hp rfl]
        simp only [drawAll, opFn, Nat.reduceLT, Nat.reduceBEq, g0, g1, g4, a1, a2, b1, b2, hc.en, hrun, bin_lss, hb2]
        refine ih i hh _ (N + 29) (by omega) (by omega) (by omega) (by omega) (by omega) hI (.inr hb) ?_ ?_ ?_ ?_ ?_ ?_ get_same <;> simp only [symM, Nat.reduceBEq, g0, g1, g2, g3, g4, gi]
    · have hij2 : i = j := by omega
      subst hij2
      apply Exists.intro; apply Exists.intro; apply And.intro
      · simp only [bodySm0, part, Try.f53, sub, symM, opFn, Nat.reduceLT, Nat.reduceBEq, gi, gj, bin_lss, decide_eq_false (show ¬ (i : Int) < (i : Nat) by omega)]
        rfl
      · exact ⟨rfl, by simp only [symM, Nat.reduceBEq, g0], by simp only [symM, Nat.reduceBEq, g1], by simp only [symM, Nat.reduceBEq, g2], by simp only [symM, Nat.reduceBEq, g3], by simp only [symM, Nat.reduceBEq, g4], i, hi1, hj1, hI, hJ, by simp only [symM, Nat.reduceBEq, gi]⟩
noncomputable def bodySm4 : Code := part Try.f53 [1, 0, 1, 0, 1, 1, 0, 0, 0]
theorem plan_Sm17 : planB (regOps Try.f53 [1, 0, 1, 0, 1, 1, 0, 0, 0, 1, 0, 1, 0]) 220 = some ([.one 0, .one 1, .one 2, .one 3, .one 4, .one 5, .one 6, .one 7, .one 8, .eff [] 9 [], .one 10, .one 11], []) := by kernel_rfl
set_option maxHeartbeats 1000000 in
theorem Sm4L {g : Nat} {c : NN → NN → Int} (hc : CmpOK call g c) (v : Value) (n0 a m b lo hi : Nat) (d : Array NN) (h : AH) (hK : AllK d) (hd : d.size ≤ 480) (hv : Own n0 h v (rA d) 23) (hm : m < d.size) (hhd : hi ≤ d.size) (hhi : hi ≤ 480) :
    ∀ (k i j : Nat) (tm : PM Value) (N : Nat), j - i < k → k + 60 ≤ N → lo ≤ i → i ≤ j → j ≤ hi → (i = lo ∨ ltc c d[m]! d[(i - 1)]! = false) → (j = hi ∨ ltc c d[m]! d[(j)]! = true) → tm.get 0 = some v → tm.get 1 = some (iv a) → tm.get 2 = some (iv m) → tm.get 3 = some (iv b) → tm.get 4 = some (fnV g) → tm.get 14 = some (iv i) → tm.get 15 = some (iv j) →
      ∃ tm' h', codeB T0 X0 call N ESm (.loop bodySm4) tm h [] = .jump (.exit 4) tm' h' [] ∧ (h' = h ∧ tm'.get 0 = some v ∧ tm'.get 1 = some (iv a) ∧ tm'.get 2 = some (iv m) ∧ tm'.get 3 = some (iv b) ∧ tm'.get 4 = some (fnV g) ∧ ∃ i', lo ≤ i' ∧ i' ≤ hi ∧ (i' = lo ∨ ltc c d[m]! d[(i' - 1)]! = false) ∧ (i' = hi ∨ ltc c d[m]! d[(i')]! = true) ∧ tm'.get 14 = some (iv i')) := by
  intro k
  have hp := plan_Sm17
  simp only [regOps, part, Try.f53, sub] at hp
  induction k with
  | zero => intro i j tm N hk; omega
  | succ k ih =>
    intro i j tm N hk hN hi1 hij hj1 hI hJ g0 g1 g2 g3 g4 gi gj
    obtain ⟨N, rfl⟩ : ∃ a, N = a + 30 := ⟨N - 30, by omega⟩
    rw [show N + 30 = (N + 29) + 1 from rfl, codeB_loop]
    by_cases hlt : i < j
    · have hws : IntKind.i64.wrap ((i : Int) + j) = ((i + j : Nat) : Int) := wadd (by omega)
      have hwu : IntKind.u64.wrap (((i + j : Nat)) : Int) = ((i + j : Nat) : Int) := wu64 (by omega)
      obtain ⟨hh, ehh⟩ : ∃ hh, (i + j) / 2 = hh := ⟨_, rfl⟩
      have hh1 : i ≤ hh := by omega
      have hh2 : hh < j := by omega
      have hwh : IntKind.i64.wrap (hh : Int) = (hh : Int) := wz (by omega)
      obtain ⟨p, a1, a2⟩ := hv.fetch (i := m) (by omega)
      obtain ⟨q, b1, b2⟩ := hv.fetch (i := hh) (by omega)
      have hrun := hc.run d[m]! d[hh]! h (hK _) (hK _)
      cases hb : ltc c d[m]! d[hh]! with
      | false =>
        have hb2 : decide (c d[m]! d[hh]! < 0) = false := hb
        simp only [bodySm4, part, Try.f53, sub, symM, opFn, Nat.reduceLT, Nat.reduceBEq, gi, gj, bin_lss, decide_eq_true (show (i : Int) < (j : Nat) by omega), bin_add, hws, conv_i2i und_int und_uint, conv_i2i und_uint und_int, hwu, shr1, ehh, hwh, codeB_draw]
        rw [draw_plan hp rfl]
        simp only [drawAll, opFn, Nat.reduceLT, Nat.reduceBEq, g0, g2, g4, a1, a2, b1, b2, hc.en, hrun, bin_lss, hb2, bin_add, wadd1 (show hh ≤ 400000 by omega)]
        refine ih (hh + 1) j _ (N + 29) (by omega) (by omega) (by omega) (by omega) hj1 (.inr hb) hJ ?_ ?_ ?_ ?_ ?_ get_same ?_ <;> simp only [symM, Nat.reduceBEq, g0, g1, g2, g3, g4, gj]
      | true =>
        have hb2 : decide (c d[m]! d[hh]! < 0) = true := hb
        simp only [bodySm4, part, Try.f53, sub, symM, opFn, Nat.reduceLT, Nat.reduceBEq, gi, gj, bin_lss, decide_eq_true (show (i : Int) < (j : Nat) by omega), bin_add, hws, conv_i2i und_int und_uint, conv_i2i und_uint und_int, hwu, shr1, ehh, hwh, codeB_draw]
        rw [draw_plan hp rfl]
        simp only [drawAll, opFn, Nat.reduceLT, Nat.reduceBEq, g0, g2, g4, a1, a2, b1, b2, hc.en, hrun, bin_lss, hb2]
        refine ih i hh _ (N + 29) (by omega) (by omega) (by omega) (by omega) (by omega) hI (.inr hb) ?_ ?_ ?_ ?_ ?_ ?_ get_same <;> simp only [symM, Nat.reduceBEq, g0, g1, g2, g3, g4, gi]
    · have hij2 : i = j := by omega
      subst hij2
      apply Exists.intro; apply Exists.intro; apply And.intro
      · simp only [bodySm4, part, Try.f53, sub, symM, opFn, Nat.reduceLT, Nat.reduceBEq, gi, gj, bin_lss, decide_eq_false (show ¬ (i : Int) < (i : Nat) by omega)]
        rfl
      · exact ⟨rfl, by simp only [symM, Nat.reduceBEq, g0], by simp only [symM, Nat.reduceBEq, g1], by simp only [symM, Nat.reduceBEq, g2], by simp only [symM, Nat.reduceBEq, g3], by simp only [symM, Nat.reduceBEq, g4], i, hi1, hj1, hI, hJ, by simp only [symM, Nat.reduceBEq, gi]⟩
noncomputable def bodySm8 : Code := part Try.f53 [1, 1, 1, 1, 1, 1, 1, 0, 0, 0]
theorem plan_Sm35 : planB (regOps Try.f53 [1, 1, 1, 1, 1, 1, 1, 0, 0, 0, 1, 0, 1, 0]) 220 = some ([.one 0, .one 1, .one 2, .one 3, .one 4, .one 5, .one 6, .one 7, .one 8, .one 9, .one 10, .eff [] 11 [], .one 12, .one 13], []) := by kernel_rfl
set_option maxHeartbeats 1000000 in
theorem Sm8L {g : Nat} {c : NN → NN → Int} (hc : CmpOK call g c) (v : Value) (n0 a m b lo hi pp : Nat) (d : Array NN) (h : AH) (hK : AllK d) (hd : d.size ≤ 480) (hv : Own n0 h v (rA d) 23) (x18 x19 : Value) (hhd : hi ≤ d.size) (hpp : hi ≤ pp + 1) (hpl : pp < d.size + lo) (hp4 : pp ≤ 100000) (hhi : hi ≤ 480) :
    ∀ (k i j : Nat) (tm : PM Value) (N : Nat), j - i < k → k + 60 ≤ N → lo ≤ i → i ≤ j → j ≤ hi → (i = lo ∨ ltc c d[pp - (i - 1)]! d[(i - 1)]! = false) → (j = hi ∨ ltc c d[pp - (j)]! d[(j)]! = true) → tm.get 0 = some v → tm.get 1 = some (iv a) → tm.get 2 = some (iv m) → tm.get 3 = some (iv b) → tm.get 4 = some (fnV g) → tm.get 18 = some x18 → tm.get 19 = some x19 → tm.get 22 = some (iv pp) → tm.get 20 = some (iv i) → tm.get 21 = some (iv j) →
      ∃ tm' h', codeB T0 X0 call N ESm (.loop bodySm8) tm h [] = .jump (.exit 8) tm' h' [] ∧ (h' = h ∧ tm'.get 0 = some v ∧ tm'.get 1 = some (iv a) ∧ tm'.get 2 = some (iv m) ∧ tm'.get 3 = some (iv b) ∧ tm'.get 4 = some (fnV g) ∧ tm'.get 18 = some x18 ∧ tm'.get 19 = some x19 ∧ ∃ i', lo ≤ i' ∧ i' ≤ hi ∧ (i' = lo ∨ ltc c d[pp - (i' - 1)]! d[(i' - 1)]! = false) ∧ (i' = hi ∨ ltc c d[pp - (i')]! d[(i')]! = true) ∧ tm'.get 20 = some (iv i')) := by
  intro k
  have hp := plan_Sm35
  simp only [regOps, part, Try.f53, sub] at hp
  induction k with
  | zero => intro i j tm N hk; omega
  | succ k ih =>
    intro i j tm N hk hN hi1 hij hj1 hI hJ g0 g1 g2 g3 g4 g18 g19 g22 gi gj
    obtain ⟨N, rfl⟩ : ∃ a, N = a + 30 := ⟨N - 30, by omega⟩
    rw [show N + 30 = (N + 29) + 1 from rfl, codeB_loop]
    by_cases hlt : i < j
    · have hws : IntKind.i64.wrap ((i : Int) + j) = ((i + j : Nat) : Int) := wadd (by omega)
      have hwu : IntKind.u64.wrap (((i + j : Nat)) : Int) = ((i + j : Nat) : Int) := wu64 (by omega)
      obtain ⟨hh, ehh⟩ : ∃ hh, (i + j) / 2 = hh := ⟨_, rfl⟩
      have hh1 : i ≤ hh := by omega
      have hh2 : hh < j := by omega
      have hwh : IntKind.i64.wrap (hh : Int) = (hh : Int) := wz (by omega)
      have hwp : IntKind.i64.wrap ((pp : Int) - hh) = ((pp - hh : Nat) : Int) := wsub (by omega) (by omega)
      obtain ⟨p, a1, a2⟩ := hv.fetch (i := pp - hh) (by omega)
      obtain ⟨q, b1, b2⟩ := hv.fetch (i := hh) (by omega)
      have hrun := hc.run d[pp - hh]! d[hh]! h (hK _) (hK _)
      cases hb : ltc c d[pp - hh]! d[hh]! with
      | false =>
        have hb2 : decide (c d[pp - hh]! d[hh]! < 0) = false := hb
        simp only [bodySm8, part, Try.f53, sub, symM, opFn, Nat.reduceLT, Nat.reduceBEq, gi, gj, bin_lss, decide_eq_true (show (i : Int) < (j : Nat) by omega), bin_add, hws, conv_i2i und_int und_uint, conv_i2i und_uint und_int, hwu, shr1, ehh, hwh, codeB_draw]
        rw [draw_plan hp rfl]
        simp only [drawAll, opFn, Nat.reduceLT, Nat.reduceBEq, g0, g4, g22, bin_sub, hwp, a1, a2, b1, b2, hc.en, hrun, bin_lss, hb2, bin_add, wadd1 (show hh ≤ 400000 by omega)]
        refine ih (hh + 1) j _ (N + 29) (by omega) (by omega) (by omega) (by omega) hj1 (.inr hb) hJ ?_ ?_ ?_ ?_ ?_ ?_ ?_ ?_ get_same ?_ <;> simp only [symM, Nat.reduceBEq, g0, g1, g2, g3, g4, g18, g19, g22, gj]
      | true =>
        have hb2 : decide (c d[pp - hh]! d[hh]! < 0) = true := hb
        simp only [bodySm8, part, Try.f53, sub, symM, opFn, Nat.reduceLT, Nat.reduceBEq, gi, gj, bin_lss, decide_eq_true (show (i : Int) < (j : Nat) by omega), bin_add, hws, conv_i2i und_int und_uint, conv_i2i und_uint und_int, hwu, shr1, ehh, hwh, codeB_draw]
        rw [draw_plan hp rfl]
        simp only [drawAll, opFn, Nat.reduceLT, Nat.reduceBEq, g0, g4, g22, bin_sub, hwp, a1, a2, b1, b2, hc.en, hrun, bin_lss, hb2]
        refine ih i hh _ (N + 29) (by omega) (by omega) (by omega) (by omega) (by omega) hI (.inr hb) ?_ ?_ ?_ ?_ ?_ ?_ ?_ ?_ ?_ get_same <;> simp only [symM, Nat.reduceBEq, g0, g1, g2, g3, g4, g18, g19, g22, gi]
    · have hij2 : i = j := by omega
      subst hij2
      apply Exists.intro; apply Exists.intro; apply And.intro
      · simp only [bodySm8, part, Try.f53, sub, symM, opFn, Nat.reduceLT, Nat.reduceBEq, gi, gj, bin_lss, decide_eq_false (show ¬ (i : Int) < (i : Nat) by omega)]
        rfl
      · exact ⟨rfl, by simp only [symM, Nat.reduceBEq, g0], by simp only [symM, Nat.reduceBEq, g1], by simp only [symM, Nat.reduceBEq, g2], by simp only [symM, Nat.reduceBEq, g3], by simp only [symM, Nat.reduceBEq, g4], by simp only [symM, Nat.reduceBEq, g18], by simp only [symM, Nat.reduceBEq, g19], i, hi1, hj1, hI, hJ, by simp only [symM, Nat.reduceBEq, gi]⟩
theorem mvR_step {d d0 : Array NN} {a t : Nat} (hat : a ≤ t) (ht : t + 1 < d.size) (h : ∀ k, d[k]! = mvR (fA d0) a t k) (k : Nat) : (swp d t (t + 1))[k]! = mvR (fA d0) a (t + 1) k := by
  rw [swp_at (by omega) ht, h, h, h]
  unfold mvR
  by_cases c1 : k = t + 1
  · rw [if_pos c1, if_neg (show ¬ (a ≤ t ∧ t < t) by omega), if_pos rfl, if_neg (show ¬ (a ≤ k ∧ k < t + 1) by omega), if_pos c1]
  · rw [if_neg c1]
    by_cases c2 : k = t
    · rw [if_pos c2, if_neg (show ¬ (a ≤ t + 1 ∧ t + 1 < t) by omega), if_neg (show ¬ t + 1 = t by omega), if_pos (show a ≤ k ∧ k < t + 1 by omega), c2]
    · rw [if_neg c2, if_neg c2, if_neg c1]
      by_cases c3 : a ≤ k ∧ k < t
      · rw [if_pos c3, if_pos (by omega)]
      · rw [if_neg c3, if_neg (show ¬ (a ≤ k ∧ k < t + 1) by omega)]
theorem mvL_step {d d0 : Array NN} {m t : Nat} (htm : t + 1 ≤ m) (hm : m < d.size) (h : ∀ k, d[k]! = mvL (fA d0) (t + 1) m k) (k : Nat) : (swp d (t + 1) t)[k]! = mvL (fA d0) t m k := by
  rw [swp_at (by omega) (by omega), h, h, h]
  unfold mvL
  by_cases c1 : k = t
  · rw [if_pos c1, if_pos rfl, if_pos c1]
  · rw [if_neg c1, if_neg c1]
    by_cases c2 : k = t + 1
    · rw [if_pos c2, if_neg (show ¬ t = t + 1 by omega), if_neg (show ¬ (t + 1 < t ∧ t ≤ m) by omega), if_pos (show t < k ∧ k ≤ m by omega), c2]
      rfl
    · rw [if_neg c2, if_neg c2]
      by_cases c3 : t + 1 < k ∧ k ≤ m
      · rw [if_pos c3, if_pos (by omega)]
      · rw [if_neg c3, if_neg (show ¬ (t < k ∧ k ≤ m) by omega)]
noncomputable def bodySm2 : Code := part Try.f53 [0, 1, 0, 1, 1, 1, 0, 1, 0, 0]
noncomputable def bodySm6 : Code := part Try.f53 [1, 0, 1, 0, 1, 1, 1, 0, 1, 0, 0]
theorem plan_Sm11 : planB (regOps Try.f53 [0, 1, 0, 1, 1, 1, 0, 1, 0, 0, 1, 0, 0]) 220 = some ([.one 0, .one 1, .one 2, .one 3, .one 4, .one 5, .one 6, .one 7, .one 8, .one 9, .one 10, .one 11, .one 12, .one 13, .one 14, .eff [] 15 [2, 3, 4], .one 16, .eff [] 17 []], []) := by kernel_rfl
theorem plan_Sm23 : planB (regOps Try.f53 [1, 0, 1, 0, 1, 1, 1, 0, 1, 0, 0, 1, 0, 0]) 220 = some ([.one 0, .one 1, .one 2, .one 3, .one 4, .one 5, .one 6, .one 7, .one 8, .one 9, .one 10, .one 11, .one 12, .one 13, .one 14, .eff [] 15 [2, 3, 4], .one 16, .eff [] 17 []], []) := by kernel_rfl
set_option maxHeartbeats 1000000 in
theorem Sm2L (v : Value) (n0 a i : Nat) (d0 : Array NN) (h0 : AH) (hai : a < i) (hi : i ≤ d0.size) (hd : d0.size ≤ 480) :
    ∀ (k t : Nat) (d : Array NN) (tm : PM Value) (h : AH) (N : Nat), t + k + 1 = i → k + 60 ≤ N → a ≤ t → AllK d → PermIn a i d0 d → (∀ k, d[k]! = mvR (fA d0) a t k) → tm.get 0 = some v → tm.get 10 = some (iv i) → tm.get 13 = some (iv t) → Own n0 h v (rA d) 23 → Grow n0 h0 h →
      ∃ tm' h', codeB T0 X0 call N ESm (.loop bodySm2) tm h [] = .jump (.exit 2) tm' h' [] ∧ (∃ d' : Array NN, Own n0 h' v (rA d') 23 ∧ AllK d' ∧ PermIn a i d0 d' ∧ (∀ k, d'[k]! = mvR (fA d0) a (i - 1) k) ∧ Grow n0 h0 h') := by
  intro k
  have hp := plan_Sm11
  simp only [regOps, part, Try.f53, sub] at hp
  induction k with
  | zero =>
    intro t d tm h N ht hN hat hK hP hf g0 g10 g13 hv hg
    obtain ⟨N, rfl⟩ : ∃ a, N = a + 30 := ⟨N - 30, by omega⟩
    apply Exists.intro; apply Exists.intro; apply And.intro
    · rw [codeB_loop]
      simp only [bodySm2, part, Try.f53, sub, symM, opFn, Nat.reduceLT, Nat.reduceBEq, g10, g13, bin_sub, wm1 (show i ≤ 400000 by omega) (show 1 ≤ i by omega), bin_lss, decide_eq_false (show ¬ (t : Int) < ((i - 1 : Nat) : Int) by omega)]
      rfl
    · exact ⟨d, hv, hK, hP, fun k => by rw [hf, show t = i - 1 by omega], hg⟩
  | succ k ih =>
    intro t d tm h N ht hN hat hK hP hf g0 g10 g13 hv hg
    obtain ⟨N, rfl⟩ : ∃ a, N = a + 30 := ⟨N - 30, by omega⟩
    have hs : d.size = d0.size := hP.1
    obtain ⟨p, q, h2, h3, a1, a2, a3, a4, a5, a6, a7, a8⟩ := hv.swap (i := t) (j := t + 1) (by omega) (by omega)
    rw [show N + 30 = (N + 29) + 1 from rfl, codeB_loop]
    simp only [bodySm2, part, Try.f53, sub, symM, opFn, Nat.reduceLT, Nat.reduceBEq, g10, g13, bin_sub, wm1 (show i ≤ 400000 by omega) (show 1 ≤ i by omega), bin_lss, decide_eq_true (show (t : Int) < ((i - 1 : Nat) : Int) by omega), codeB_draw]
    rw [draw_plan hp rfl]
    simp only [drawAll, opFn, Nat.reduceLT, Nat.reduceBEq, g0, g13, effE_cons, bin_add, wadd1 (show t ≤ 400000 by omega), a1, a2, a3, a4, a5, a6, hv.eqv]
    refine ih (t + 1) (swp d t (t + 1)) _ h3 (N + 29) (by omega) (by omega) (by omega) (swp_K hK _ _) (permIn_trans _ _ _ a i hP (swp_permIn d a i _ _ (by omega) (by omega) (by omega) (by omega) (by omega))) (mvR_step hat (by omega) hf) ?_ ?_ get_same a7 (hg.trans a8 (Nat.le_refl _)) <;> simp only [symM, Nat.reduceBEq, g0, g10]
set_option maxHeartbeats 1000000 in
theorem Sm6L (v : Value) (n0 a m i : Nat) (d0 : Array NN) (h0 : AH) (hai : a ≤ i) (him : i ≤ m) (hm : m < d0.size) (hd : d0.size ≤ 480) :
    ∀ (k t : Nat) (d : Array NN) (tm : PM Value) (h : AH) (N : Nat), i + k = t → k + 60 ≤ N → t ≤ m → AllK d → PermIn a (m + 1) d0 d → (∀ k, d[k]! = mvL (fA d0) t m k) → tm.get 0 = some v → tm.get 14 = some (iv i) → tm.get 17 = some (iv t) → Own n0 h v (rA d) 23 → Grow n0 h0 h →
      ∃ tm' h', codeB T0 X0 call N ESm (.loop bodySm6) tm h [] = .jump (.exit 6) tm' h' [] ∧ (∃ d' : Array NN, Own n0 h' v (rA d') 23 ∧ AllK d' ∧ PermIn a (m + 1) d0 d' ∧ (∀ k, d'[k]! = mvL (fA d0) i m k) ∧ Grow n0 h0 h') := by
  intro k
  have hp := plan_Sm23
  simp only [regOps, part, Try.f53, sub] at hp
  induction k with
  | zero =>
    intro t d tm h N ht hN htm hK hP hf g0 g14 g17 hv hg
    obtain ⟨N, rfl⟩ : ∃ a, N = a + 30 := ⟨N - 30, by omega⟩
    apply Exists.intro; apply Exists.intro; apply And.intro
    · rw [codeB_loop]
      simp only [bodySm6, part, Try.f53, sub, symM, opFn, Nat.reduceLT, Nat.reduceBEq, g14, g17, bin_gtr, decide_eq_false (show ¬ (i : Int) < (t : Nat) by omega)]
      rfl
    · exact ⟨d, hv, hK, hP, fun k => by rw [hf, show t = i by omega], hg⟩
  | succ k ih =>
    intro t d tm h N ht hN htm hK hP hf g0 g14 g17 hv hg
    obtain ⟨N, rfl⟩ : ∃ a, N = a + 30 := ⟨N - 30, by omega⟩
    obtain ⟨t, rfl⟩ : ∃ u, t = u + 1 := ⟨t - 1, by omega⟩
    have hs : d.size = d0.size := hP.1
    obtain ⟨p, q, h2, h3, a1, a2, a3, a4, a5, a6, a7, a8⟩ := hv.swap (i := t + 1) (j := t) (by omega) (by omega)
    rw [show N + 30 = (N + 29) + 1 from rfl, codeB_loop]
    simp only [bodySm6, part, Try.f53, sub, symM, opFn, Nat.reduceLT, Nat.reduceBEq, g14, g17, bin_gtr, decide_eq_true (show (i : Int) < ((t + 1 : Nat) : Int) by omega), codeB_draw]
    rw [draw_plan hp rfl]
    simp only [drawAll, opFn, Nat.reduceLT, Nat.reduceBEq, g0, g17, effE_cons, bin_sub, wsub1 (show t ≤ 400000 by omega), a1, a2, a3, a4, a5, a6, hv.eqv]
    refine ih t (swp d (t + 1) t) _ h3 (N + 29) (by omega) (by omega) (by omega) (swp_K hK _ _) (permIn_trans _ _ _ a (m + 1) hP (swp_permIn d a (m + 1) _ _ (by omega) (by omega) (by omega) (by omega) (by omega))) (mvL_step htm (by omega) hf) ?_ ?_ get_same a7 (hg.trans a8 (Nat.le_refl _)) <;> simp only [symM, Nat.reduceBEq, g0, g14]
end
end Go.Proofs.Ytcpihpjphdlmfaa.Abs
