/- Sorting: slices.pdqsortCmpFunc: its equations, and its code in parts. -/
import Derived.Test.YtcpihpjphdlmfaaSortC
import Derived.Sort.AssemblyPlain
namespace Go.Proofs.Ytcpihpjphdlmfaa.Abs
open Go Go.Proofs Go.Sort
noncomputable section
variable {call : Abs.Callee}
set_option maxRecDepth 10000
section
variable (lt : Nat × Nat → Nat × Nat → Bool)
def pqD1 (d : Array (Nat × Nat)) (a b : Nat) (wb : Bool) : Array (Nat × Nat) := if !wb then breakPatterns d a b else d
def pqLim (wb : Bool) (lim : Nat) : Nat := if !wb then lim - 1 else lim
def pqD2 (d : Array (Nat × Nat)) (a b : Nat) : Array (Nat × Nat) := if (choosePivot lt d a b).2 = .decreasing then reverseRange d a b else d
def pqPiv (d : Array (Nat × Nat)) (a b : Nat) : Nat := if (choosePivot lt d a b).2 = .decreasing then (b - 1) - ((choosePivot lt d a b).1 - a) else (choosePivot lt d a b).1
def pqHint (d : Array (Nat × Nat)) (a b : Nat) : Hint := if (choosePivot lt d a b).2 = .decreasing then Hint.increasing else (choosePivot lt d a b).2
def pqPi (d d2 : Array (Nat × Nat)) (a b : Nat) (wb wp : Bool) : Array (Nat × Nat) × Bool := if wb && wp && decide (pqHint lt d a b = .increasing) then partialInsertionSort lt d2 a b else (d2, false)
/-- What stands before the partition. -/
def pqD3 (d : Array (Nat × Nat)) (a b : Nat) (wb wp : Bool) : Array (Nat × Nat) × Bool := pqPi lt (pqD1 d a b wb) (pqD2 lt (pqD1 d a b wb) a b) a b wb wp
theorem pdq_small {d : Array (Nat × Nat)} {a b lim : Nat} {wb wp : Bool} (h : b - a ≤ 12) : pdq lt d a b lim wb wp = insertionSort lt d a b := by
  rw [pdq, if_pos h]
theorem pdq_heap {d : Array (Nat × Nat)} {a b : Nat} {wb wp : Bool} (h : ¬ b - a ≤ 12) : pdq lt d a b 0 wb wp = heapSort lt d a b := by
  rw [pdq, if_neg h, if_pos rfl]
theorem pdq_sorted {d : Array (Nat × Nat)} {a b lim : Nat} {wb wp : Bool} (h : ¬ b - a ≤ 12) (h1 : lim ≠ 0) (h2 : (pqD3 lt d a b wb wp).2 = true) : pdq lt d a b lim wb wp = (pqD3 lt d a b wb wp).1 := by
  unfold pqD3 pqPi pqHint pqD2 pqD1 at h2 ⊢
  rw [pdq, if_neg h, if_neg h1]
  simp only at h2 ⊢
  rw [if_pos h2]
theorem pdq_equal {d : Array (Nat × Nat)} {a b lim : Nat} {wb wp : Bool} (h : ¬ b - a ≤ 12) (h1 : lim ≠ 0) (h2 : (pqD3 lt d a b wb wp).2 = false)
    (h3 : (decide (a > 0) && !lt (pqD3 lt d a b wb wp).1[a - 1]! (pqD3 lt d a b wb wp).1[pqPiv lt (pqD1 d a b wb) a b]!) = true) {mid : Nat} {d4 : Array (Nat × Nat)}
    (h4 : partitionEqual lt (pqD3 lt d a b wb wp).1 a b (pqPiv lt (pqD1 d a b wb) a b) = (mid, d4)) (h5 : a < mid ∧ mid ≤ b) : pdq lt d a b lim wb wp = pdq lt d4 mid b (pqLim wb lim) wb wp := by
  unfold pqD3 pqPi pqHint pqD2 pqD1 at h2 h3 h4
  unfold pqPiv at h3 h4
  unfold pqLim
  rw [pdq, if_neg h, if_neg h1]
  simp only at h2 h3 h4 ⊢
  rw [if_neg (by rw [h2]; exact Bool.false_ne_true), if_pos h3, h4]
  simp only
  rw [dif_pos h5]
theorem pdq_left {d : Array (Nat × Nat)} {a b lim : Nat} {wb wp : Bool} (h : ¬ b - a ≤ 12) (h1 : lim ≠ 0) (h2 : (pqD3 lt d a b wb wp).2 = false)
    (h3 : (decide (a > 0) && !lt (pqD3 lt d a b wb wp).1[a - 1]! (pqD3 lt d a b wb wp).1[pqPiv lt (pqD1 d a b wb) a b]!) = false) {mid : Nat} {ap : Bool} {d4 : Array (Nat × Nat)}
    (h4 : partition lt (pqD3 lt d a b wb wp).1 a b (pqPiv lt (pqD1 d a b wb) a b) = (mid, ap, d4)) (h5 : a ≤ mid ∧ mid < b) (h6 : mid - a < b - mid) :
    pdq lt d a b lim wb wp = pdq lt (pdq lt d4 a mid (pqLim wb lim) true true) (mid + 1) b (pqLim wb lim) (decide (mid - a ≥ (b - a) / 8)) ap := by
  unfold pqD3 pqPi pqHint pqD2 pqD1 at h2 h3 h4
  unfold pqPiv at h3 h4
  unfold pqLim
  rw [pdq, if_neg h, if_neg h1]
  simp only at h2 h3 h4 ⊢
  rw [if_neg (by rw [h2]; exact Bool.false_ne_true), if_neg (by rw [h3]; exact Bool.false_ne_true), h4]
  simp only
  rw [dif_pos h5, if_pos h6]
theorem pdq_right {d : Array (Nat × Nat)} {a b lim : Nat} {wb wp : Bool} (h : ¬ b - a ≤ 12) (h1 : lim ≠ 0) (h2 : (pqD3 lt d a b wb wp).2 = false)
    (h3 : (decide (a > 0) && !lt (pqD3 lt d a b wb wp).1[a - 1]! (pqD3 lt d a b wb wp).1[pqPiv lt (pqD1 d a b wb) a b]!) = false) {mid : Nat} {ap : Bool} {d4 : Array (Nat × Nat)}
    (h4 : partition lt (pqD3 lt d a b wb wp).1 a b (pqPiv lt (pqD1 d a b wb) a b) = (mid, ap, d4)) (h5 : a ≤ mid ∧ mid < b) (h6 : ¬ mid - a < b - mid) :
    pdq lt d a b lim wb wp = pdq lt (pdq lt d4 (mid + 1) b (pqLim wb lim) true true) a mid (pqLim wb lim) (decide (b - mid ≥ (b - a) / 8)) ap := by
  unfold pqD3 pqPi pqHint pqD2 pqD1 at h2 h3 h4
  unfold pqPiv at h3 h4
  unfold pqLim
  rw [pdq, if_neg h, if_neg h1]
  simp only at h2 h3 h4 ⊢
  rw [if_neg (by rw [h2]; exact Bool.false_ne_true), if_neg (by rw [h3]; exact Bool.false_ne_true), h4]
  simp only
  rw [dif_pos h5, if_neg h6]
theorem partEqLoop_in (a : Nat) : ∀ (k i j : Nat) (d : Array (Nat × Nat)), j + 1 - i < k → 1 ≤ i → i ≤ (partEqLoop lt a i j d).1 ∧ (partEqLoop lt a i j d).1 ≤ max i (j + 1) := by
  intro k
  induction k with
  | zero => intro i j d h; omega
  | succ k ih =>
    intro i j d hk hi
    have hu := scanUp_in (fun x => !lt d[a]! x) d j (j + 1 - i) i (Nat.le_refl _)
    rw [partEqLoop]
    generalize scanUp (fun x => !lt d[a]! x) d j i = i2 at *
    have hdn := scanDown_in (fun x => lt d[a]! x) d i2 j
    generalize scanDown (fun x => lt d[a]! x) d i2 j = j2 at *
    split
    · exact hu
    · split
      · have := ih (i2 + 1) (j2 - 1) (swp d i2 j2) (by omega) (by omega)
        omega
      · exact hu
theorem partLoop_in (a : Nat) : ∀ (k i j : Nat) (d : Array (Nat × Nat)), j + 1 - i < k → 1 ≤ i → min j (i - 1) ≤ (partLoop lt a i j d).1 ∧ (partLoop lt a i j d).1 ≤ j := by
  intro k
  induction k with
  | zero => intro i j d h; omega
  | succ k ih =>
    intro i j d hk hi
    have hu := scanUp_in (fun x => lt x d[a]!) d j (j + 1 - i) i (Nat.le_refl _)
    rw [partLoop]
    generalize scanUp (fun x => lt x d[a]!) d j i = i2 at *
    have hdn := scanDown_in (fun x => !lt x d[a]!) d i2 j
    generalize scanDown (fun x => !lt x d[a]!) d i2 j = j2 at *
    split
    · simp only; omega
    · split
      · have := ih (i2 + 1) (j2 - 1) (swp d i2 j2) (by omega) (by omega)
        omega
      · simp only; omega
theorem partitionEqual_in {d : Array (Nat × Nat)} {a b p : Nat} (hab : a < b) : a < (partitionEqual lt d a b p).1 ∧ (partitionEqual lt d a b p).1 ≤ b := by
  unfold partitionEqual
  have := partEqLoop_in lt a (b - 1 + 1 - (a + 1) + 1) (a + 1) (b - 1) (swp d a p) (Nat.lt_succ_self _) (by omega)
  omega
theorem partition_in {d : Array (Nat × Nat)} {a b p : Nat} (hab : a + 1 < b) : a ≤ (partition lt d a b p).1 ∧ (partition lt d a b p).1 < b := by
  unfold partition
  simp only
  generalize swp d a p = d1
  have hu := scanUp_in (fun x => lt x d1[a]!) d1 (b - 1) (b - 1 + 1 - (a + 1)) (a + 1) (Nat.le_refl _)
  generalize scanUp (fun x => lt x d1[a]!) d1 (b - 1) (a + 1) = i2 at *
  have hdn := scanDown_in (fun x => !lt x d1[a]!) d1 i2 (b - 1)
  generalize scanDown (fun x => !lt x d1[a]!) d1 i2 (b - 1) = j2 at *
  split
  · simp only; omega
  · have := partLoop_in lt a (j2 - 1 + 1 - (i2 + 1) + 1) (i2 + 1) (j2 - 1) (swp d1 i2 j2) (Nat.lt_succ_self _) (by omega)
    simp only
    omega
end
theorem ft45 : T0.ft.get 45 = some Try.f45 := by kernel_rfl
abbrev EPq : Env := ⟨45, 148, none⟩
noncomputable def pqc0 : Code := part Try.f45 [1, 1, 0, 0, 0, 0]
noncomputable def pqc1 : Code := part Try.f45 [1, 1, 0, 0, 0, 1, 0]
noncomputable def pqc2 : Code := part Try.f45 [1, 1, 0, 0, 0, 1, 1, 0]
noncomputable def pqc3 : Code := part Try.f45 [1, 1, 0, 0, 0, 1, 1, 1, 0]
noncomputable def pqc4 : Code := part Try.f45 [1, 1, 0, 0, 0, 1, 1, 1, 1, 0]
noncomputable def pqc5 : Code := part Try.f45 [1, 1, 0, 0, 0, 1, 1, 1, 1, 1, 0]
noncomputable def pqc6 : Code := part Try.f45 [1, 1, 0, 0, 0, 1, 1, 1, 1, 1, 1, 0]
noncomputable def pqc7 : Code := part Try.f45 [1, 1, 0, 0, 0, 1, 1, 1, 1, 1, 1, 1, 0]
noncomputable def pqc8 : Code := part Try.f45 [1, 1, 0, 0, 0, 1, 1, 1, 1, 1, 1, 1, 1]
noncomputable def bodyPq : Code := .block 1 (.seq pqc0 (.seq pqc1 (.seq pqc2 (.seq pqc3 (.seq pqc4 (.seq pqc5 (.seq pqc6 (.seq pqc7 pqc8))))))))
theorem bodyPq_eq : part Try.f45 [1, 1, 0, 0] = bodyPq := by kernel_rfl
/-- Where the values of a round lie. -/
structure PqS (tm : PM Value) (v : Value) (g a b lim : Nat) (wb wp : Bool) : Prop where
  g0 : tm.get 0 = some v
  g1 : tm.get 1 = some (iv a)
  g2 : tm.get 2 = some (iv b)
  g3 : tm.get 3 = some (iv lim)
  g4 : tm.get 4 = some (fnV g)
  g10 : tm.get 10 = some (.bool wb)
  g11 : tm.get 11 = some (.bool wp)
/-- A function that changes data[a:b] as F says. -/
def PermOK (call : Abs.Callee) (f : Nat) (v : Value) (n0 g lo : Nat) (F : Array (Nat × Nat) → Nat → Nat → Array (Nat × Nat)) : Prop := ∀ (a b : Nat) (d : Array (Nat × Nat)) (h : AH), a + lo ≤ b → b ≤ d.size → d.size ≤ 480 → AllK d → n0 ≤ h.next → Own n0 h v (rA d) 23 →
    ∃ h', call f [v, iv a, iv b, fnV g] h = some (.tuple #[], h') ∧ Own n0 h' v (rA (F d a b)) 23 ∧ AllK (F d a b) ∧ (F d a b).size = d.size ∧ Grow n0 h h'
section
variable {v : Value} {n0 g a b lim : Nat} {wb wp : Bool} {d : Array (Nat × Nat)} {tm : PM Value} {h : AH} {N : Nat}
theorem c0L (s : PqS tm v g a b lim wb wp) (hab : a ≤ b) (hb : b ≤ 480) : ∃ tm' h', codeB T0 X0 call (N + 20) EPq (.code pqc0) tm h [] = .fall tm' h' [] ∧ (h' = h ∧ PqS tm' v g a b lim wb wp ∧ tm'.get 12 = some (iv ((b - a : Nat) : Int))) := by
  obtain ⟨g0, g1, g2, g3, g4, g10, g11⟩ := s
  apply Exists.intro; apply Exists.intro; apply And.intro
  · simp only [pqc0, part, Try.f45, sub, symM, opFn, Nat.reduceLT, Nat.reduceBEq, g1, g2, bin_sub, wsub (show b ≤ 4000000 by omega) hab]
    rfl
  · exact ⟨rfl, ⟨by simp only [symM, Nat.reduceBEq, g0], by simp only [symM, Nat.reduceBEq, g1], by simp only [symM, Nat.reduceBEq, g2], by simp only [symM, Nat.reduceBEq, g3], by simp only [symM, Nat.reduceBEq, g4], by simp only [symM, Nat.reduceBEq, g10], by simp only [symM, Nat.reduceBEq, g11]⟩, get_same⟩
theorem c1L_yes {l : Nat} {F : Array (Nat × Nat) → Nat → Nat → Array (Nat × Nat)} (hI : PermOK call 52 v n0 g 0 F) (s : PqS tm v g a b lim wb wp) (s12 : tm.get 12 = some (iv l)) (hl : l ≤ 12) (hab : a ≤ b) (hb : b ≤ d.size) (hd : d.size ≤ 480) (hK : AllK d) (hn : n0 ≤ h.next) (hv : Own n0 h v (rA d) 23) :
    ∃ tm' h', codeB T0 X0 call (N + 20) EPq (.code pqc1) tm h [] = .jump .ret tm' h' [] ∧ (Own n0 h' v (rA (F d a b)) 23 ∧ AllK (F d a b) ∧ (F d a b).size = d.size ∧ Grow n0 h h') := by
  obtain ⟨g0, g1, g2, g3, g4, g10, g11⟩ := s
  obtain ⟨h1, e1, e2⟩ := hI a b d h hab hb hd hK hn hv
  apply Exists.intro; apply Exists.intro; apply And.intro
  · simp only [pqc1, part, Try.f45, sub, symM, opFn, Nat.reduceLT, Nat.reduceBEq, g0, g1, g2, g4, s12, bin_leq, decide_eq_true (show (l : Int) ≤ 12 by omega), evCall_fn ft52 rfl, e1]
    rfl
  · exact e2
theorem c1L_no {l : Nat} (s : PqS tm v g a b lim wb wp) (s12 : tm.get 12 = some (iv l)) (hl : ¬ l ≤ 12) :
    ∃ tm' h', codeB T0 X0 call (N + 20) EPq (.code pqc1) tm h [] = .fall tm' h' [] ∧ (h' = h ∧ PqS tm' v g a b lim wb wp ∧ tm'.get 12 = some (iv l)) := by
  obtain ⟨g0, g1, g2, g3, g4, g10, g11⟩ := s
  apply Exists.intro; apply Exists.intro; apply And.intro
  · simp only [pqc1, part, Try.f45, sub, symM, opFn, Nat.reduceLT, s12, bin_leq, decide_eq_false (show ¬ (l : Int) ≤ 12 by omega)]
    rfl
  · exact ⟨rfl, ⟨by simp only [symM, Nat.reduceBEq, g0], by simp only [symM, Nat.reduceBEq, g1], by simp only [symM, Nat.reduceBEq, g2], by simp only [symM, Nat.reduceBEq, g3], by simp only [symM, Nat.reduceBEq, g4], by simp only [symM, Nat.reduceBEq, g10], by simp only [symM, Nat.reduceBEq, g11]⟩, by simp only [symM, Nat.reduceBEq, s12]⟩
theorem c2L_yes {F : Array (Nat × Nat) → Nat → Nat → Array (Nat × Nat)} (hI : PermOK call 54 v n0 g 1 F) (s : PqS tm v g a b 0 wb wp) (hab : a < b) (hb : b ≤ d.size) (hd : d.size ≤ 480) (hK : AllK d) (hn : n0 ≤ h.next) (hv : Own n0 h v (rA d) 23) :
    ∃ tm' h', codeB T0 X0 call (N + 20) EPq (.code pqc2) tm h [] = .jump .ret tm' h' [] ∧ (Own n0 h' v (rA (F d a b)) 23 ∧ AllK (F d a b) ∧ (F d a b).size = d.size ∧ Grow n0 h h') := by
  obtain ⟨g0, g1, g2, g3, g4, g10, g11⟩ := s
  obtain ⟨h1, e1, e2⟩ := hI a b d h hab hb hd hK hn hv
  apply Exists.intro; apply Exists.intro; apply And.intro
  · simp only [pqc2, part, Try.f45, sub, symM, opFn, Nat.reduceLT, Nat.reduceBEq, g0, g1, g2, g3, g4, bin_eql, show (((0 : Nat) : Int) == 0) = true from rfl, evCall_fn ft54 rfl, e1]
    rfl
  · exact e2
theorem c2L_no {l : Nat} (s : PqS tm v g a b lim wb wp) (s12 : tm.get 12 = some (iv l)) (hl : lim ≠ 0) :
    ∃ tm' h', codeB T0 X0 call (N + 20) EPq (.code pqc2) tm h [] = .fall tm' h' [] ∧ (h' = h ∧ PqS tm' v g a b lim wb wp ∧ tm'.get 12 = some (iv l)) := by
  obtain ⟨g0, g1, g2, g3, g4, g10, g11⟩ := s
  apply Exists.intro; apply Exists.intro; apply And.intro
  · simp only [pqc2, part, Try.f45, sub, symM, opFn, Nat.reduceLT, g3, bin_eql, show (((lim : Nat) : Int) == 0) = false from by simpa using hl]
    rfl
  · exact ⟨rfl, ⟨by simp only [symM, Nat.reduceBEq, g0], by simp only [symM, Nat.reduceBEq, g1], by simp only [symM, Nat.reduceBEq, g2], by simp only [symM, Nat.reduceBEq, g3], by simp only [symM, Nat.reduceBEq, g4], by simp only [symM, Nat.reduceBEq, g10], by simp only [symM, Nat.reduceBEq, g11]⟩, by simp only [symM, Nat.reduceBEq, s12]⟩
theorem c3L {l : Nat} (hI : PermOK call 55 v n0 g 0 breakPatterns) (s : PqS tm v g a b lim wb wp) (s12 : tm.get 12 = some (iv l)) (hl : lim ≠ 0) (hl4 : lim ≤ 4000) (hab : a ≤ b) (hb : b ≤ d.size) (hd : d.size ≤ 480) (hK : AllK d) (hn : n0 ≤ h.next) (hv : Own n0 h v (rA d) 23) :
    ∃ tm' h', codeB T0 X0 call (N + 20) EPq (.code pqc3) tm h [] = .fall tm' h' [] ∧ (PqS tm' v g a b (pqLim wb lim) wb wp ∧ tm'.get 12 = some (iv l) ∧ (Own n0 h' v (rA (pqD1 d a b wb)) 23 ∧ AllK (pqD1 d a b wb) ∧ (pqD1 d a b wb).size = d.size ∧ Grow n0 h h')) := by
  obtain ⟨g0, g1, g2, g3, g4, g10, g11⟩ := s
  unfold pqD1 pqLim
  cases wb with
  | true =>
    rw [if_neg (show ¬ (!true) = true by decide), if_neg (show ¬ (!true) = true by decide)]
    apply Exists.intro; apply Exists.intro; apply And.intro
    · simp only [pqc3, part, Try.f45, sub, symM, opFn, Nat.reduceLT, g10]
      rfl
    · exact ⟨⟨by simp only [symM, Nat.reduceBEq, g0], by simp only [symM, Nat.reduceBEq, g1], by simp only [symM, Nat.reduceBEq, g2], by simp only [symM, Nat.reduceBEq, g3], by simp only [symM, Nat.reduceBEq, g4], by simp only [symM, Nat.reduceBEq, g10], by simp only [symM, Nat.reduceBEq, g11]⟩, by simp only [symM, Nat.reduceBEq, s12], hv, hK, rfl, Grow.refl _ _⟩
  | false =>
    rw [if_pos (show (!false) = true from rfl), if_pos (show (!false) = true from rfl)]
    obtain ⟨h1, e1, e2⟩ := hI a b d h hab hb hd hK hn hv
    apply Exists.intro; apply Exists.intro; apply And.intro
    · simp only [pqc3, part, Try.f45, sub, symM, opFn, Nat.reduceLT, Nat.reduceBEq, g0, g1, g2, g3, g4, g10, evCall_fn ft55 rfl, e1, bin_sub, wm1 (show lim ≤ 400000 by omega) (show 1 ≤ lim by omega)]
      rfl
    · exact ⟨⟨by simp only [symM, Nat.reduceBEq, g0], by simp only [symM, Nat.reduceBEq, g1], by simp only [symM, Nat.reduceBEq, g2], by simp only [symM], by simp only [symM, Nat.reduceBEq, g4], by simp only [symM, Nat.reduceBEq, g10], by simp only [symM, Nat.reduceBEq, g11]⟩, by simp only [symM, Nat.reduceBEq, s12], e2⟩
theorem c4L {l : Nat} {lt : Nat × Nat → Nat × Nat → Bool} (hI : ∃ h', call 56 [v, iv a, iv b, fnV g] h = some (.tuple #[iv (choosePivot lt d a b).1, iv (hintZ (choosePivot lt d a b).2)], h') ∧ Own n0 h' v (rA d) 23 ∧ Grow h.next h h') (s : PqS tm v g a b lim wb wp) (s12 : tm.get 12 = some (iv l)) :
    ∃ tm' h', codeB T0 X0 call (N + 20) EPq (.code pqc4) tm h [] = .fall tm' h' [] ∧ (PqS tm' v g a b lim wb wp ∧ tm'.get 12 = some (iv l) ∧ tm'.get 13 = some (iv (choosePivot lt d a b).1) ∧ tm'.get 14 = some (iv (hintZ (choosePivot lt d a b).2)) ∧ Own n0 h' v (rA d) 23 ∧ Grow h.next h h') := by
  obtain ⟨g0, g1, g2, g3, g4, g10, g11⟩ := s
  obtain ⟨h1, e1, e2, e3⟩ := hI
  apply Exists.intro; apply Exists.intro; apply And.intro
  · simp only [pqc4, part, Try.f45, sub, symM, opFn, Nat.reduceLT, Nat.reduceBEq, g0, g1, g2, g4, evCall_fn ft56 rfl, e1]
    rfl
  · exact ⟨⟨by simp only [symM, Nat.reduceBEq, g0], by simp only [symM, Nat.reduceBEq, g1], by simp only [symM, Nat.reduceBEq, g2], by simp only [symM, Nat.reduceBEq, g3], by simp only [symM, Nat.reduceBEq, g4], by simp only [symM, Nat.reduceBEq, g10], by simp only [symM, Nat.reduceBEq, g11]⟩, by simp only [symM, Nat.reduceBEq, s12], by simp only [symM, Nat.reduceBEq], by simp only [symM], e2, e3⟩
theorem c5L {l : Nat} (lt : Nat × Nat → Nat × Nat → Bool) (hI : PermOK call 57 v n0 g 1 reverseRange) (s : PqS tm v g a b lim wb wp) (s12 : tm.get 12 = some (iv l)) (s13 : tm.get 13 = some (iv (choosePivot lt d a b).1)) (s14 : tm.get 14 = some (iv (hintZ (choosePivot lt d a b).2))) (hab : a < b) (hb : b ≤ d.size) (hd : d.size ≤ 480) (hK : AllK d) (hn : n0 ≤ h.next) (hv : Own n0 h v (rA d) 23) :
    ∃ tm' h', codeB T0 X0 call (N + 20) EPq (.code pqc5) tm h [] = .fall tm' h' [] ∧ (PqS tm' v g a b lim wb wp ∧ tm'.get 12 = some (iv l) ∧ tm'.get 13 = some (iv (pqPiv lt d a b)) ∧ tm'.get 14 = some (iv (hintZ (pqHint lt d a b))) ∧ (Own n0 h' v (rA (pqD2 lt d a b)) 23 ∧ AllK (pqD2 lt d a b) ∧ (pqD2 lt d a b).size = d.size ∧ Grow n0 h h')) := by
  obtain ⟨g0, g1, g2, g3, g4, g10, g11⟩ := s
  unfold pqPiv pqHint pqD2
  have hp := choosePivot_holds lt d a b hab
  generalize choosePivot lt d a b = r at *
  obtain ⟨r1, r2⟩ := r
  simp only at hp s13 s14 ⊢
  by_cases hr : r2 = .decreasing
  · subst hr
    rw [if_pos rfl, if_pos rfl, if_pos rfl]
    obtain ⟨h1, e1, e2⟩ := hI a b d h hab hb hd hK hn hv
    have hw1 : IntKind.i64.wrap ((r1 : Int) - a) = ((r1 - a : Nat) : Int) := wsub (by omega) (by omega)
    have hw2 : IntKind.i64.wrap (((b - 1 : Nat) : Int) - ((r1 - a : Nat) : Int)) = ((b - 1 - (r1 - a) : Nat) : Int) := wsub (by omega) (by omega)
    apply Exists.intro; apply Exists.intro; apply And.intro
    · simp only [pqc5, part, Try.f45, sub, symM, opFn, Nat.reduceLT, Nat.reduceBEq, g0, g1, g2, g4, s13, s14, hintZ, bin_eql, show ((2 : Int) == 2) = true from rfl, evCall_fn ft57 rfl, e1, bin_sub, wm1 (show b ≤ 400000 by omega) (show 1 ≤ b by omega), hw1, hw2]
      rfl
    · exact ⟨⟨by simp only [symM, Nat.reduceBEq, g0], by simp only [symM, Nat.reduceBEq, g1], by simp only [symM, Nat.reduceBEq, g2], by simp only [symM, Nat.reduceBEq, g3], by simp only [symM, Nat.reduceBEq, g4], by simp only [symM, Nat.reduceBEq, g10], by simp only [symM, Nat.reduceBEq, g11]⟩, by simp only [symM, Nat.reduceBEq, s12], by simp only [symM, Nat.reduceBEq], by simp only [symM]; rfl, e2⟩
  · rw [if_neg hr, if_neg hr, if_neg hr]
    have hz : (hintZ r2 == 2) = false := by cases r2 <;> first | rfl | exact absurd rfl hr
    apply Exists.intro; apply Exists.intro; apply And.intro
    · simp only [pqc5, part, Try.f45, sub, symM, opFn, Nat.reduceLT, s14, bin_eql, hz]
      rfl
    · exact ⟨⟨by simp only [symM, Nat.reduceBEq, g0], by simp only [symM, Nat.reduceBEq, g1], by simp only [symM, Nat.reduceBEq, g2], by simp only [symM, Nat.reduceBEq, g3], by simp only [symM, Nat.reduceBEq, g4], by simp only [symM, Nat.reduceBEq, g10], by simp only [symM, Nat.reduceBEq, g11]⟩, by simp only [symM, Nat.reduceBEq, s12], by simp only [symM, Nat.reduceBEq, s13], by simp only [symM, Nat.reduceBEq, s14], hv, hK, rfl, Grow.refl _ _⟩
theorem c6L {l pv : Nat} {lt : Nat × Nat → Nat × Nat → Bool} (d0 : Array (Nat × Nat)) (hI : ∀ (d : Array (Nat × Nat)) (h : AH), b ≤ d.size → d.size ≤ 480 → AllK d → n0 ≤ h.next → Own n0 h v (rA d) 23 → ∃ h', call 58 [v, iv a, iv b, fnV g] h = some (.bool (partialInsertionSort lt d a b).2, h') ∧ Own n0 h' v (rA (partialInsertionSort lt d a b).1) 23 ∧ AllK (partialInsertionSort lt d a b).1 ∧ (partialInsertionSort lt d a b).1.size = d.size ∧ Grow n0 h h') (s : PqS tm v g a b lim wb wp) (s12 : tm.get 12 = some (iv l)) (s13 : tm.get 13 = some (iv pv)) (s14 : tm.get 14 = some (iv (hintZ (pqHint lt d0 a b)))) (hb : b ≤ d.size) (hd : d.size ≤ 480) (hK : AllK d) (hn : n0 ≤ h.next) (hv : Own n0 h v (rA d) 23) :
    ∃ tm' h', (((pqPi lt d0 d a b wb wp).2 = true ∧ codeB T0 X0 call (N + 20) EPq (.code pqc6) tm h [] = .jump .ret tm' h' []) ∨ ((pqPi lt d0 d a b wb wp).2 = false ∧ codeB T0 X0 call (N + 20) EPq (.code pqc6) tm h [] = .fall tm' h' [] ∧ PqS tm' v g a b lim wb wp ∧ tm'.get 12 = some (iv l) ∧ tm'.get 13 = some (iv pv))) ∧ (Own n0 h' v (rA ((pqPi lt d0 d a b wb wp).1)) 23 ∧ AllK ((pqPi lt d0 d a b wb wp).1) ∧ ((pqPi lt d0 d a b wb wp).1).size = d.size ∧ Grow n0 h h') := by
  obtain ⟨g0, g1, g2, g3, g4, g10, g11⟩ := s
  have hz : (hintZ (pqHint lt d0 a b) == 1) = decide (pqHint lt d0 a b = .increasing) := by cases pqHint lt d0 a b <;> rfl
  unfold pqPi
  by_cases hc : (wb && wp && decide (pqHint lt d0 a b = .increasing)) = true
  · rw [if_pos hc]
    obtain ⟨h1, e1, e2⟩ := hI d h hb hd hK hn hv
    simp only [Bool.and_eq_true] at hc
    obtain ⟨⟨hc1, hc2⟩, hc3⟩ := hc
    subst hc1; subst hc2
    generalize (partialInsertionSort lt d a b) = r at *
    obtain ⟨r1, r2⟩ := r
    cases r2 with
    | true =>
      apply Exists.intro; apply Exists.intro; apply And.intro
      · refine .inl ⟨rfl, ?_⟩
        simp only [pqc6, part, Try.f45, sub, symM, opFn, Nat.reduceLT, Nat.reduceBEq, g0, g1, g2, g4, g10, g11, s14, bin_eql, hz, hc3, evCall_fn ft58 rfl, e1]
        rfl
      · exact e2
    | false =>
      apply Exists.intro; apply Exists.intro; apply And.intro
      · refine .inr ⟨rfl, ?_, ?_⟩
        · simp only [pqc6, part, Try.f45, sub, symM, opFn, Nat.reduceLT, Nat.reduceBEq, g0, g1, g2, g4, g10, g11, s14, bin_eql, hz, hc3, evCall_fn ft58 rfl, e1]
          rfl
        · exact ⟨⟨by simp only [symM, Nat.reduceBEq, g0], by simp only [symM, Nat.reduceBEq, g1], by simp only [symM, Nat.reduceBEq, g2], by simp only [symM, Nat.reduceBEq, g3], by simp only [symM, Nat.reduceBEq, g4], by simp only [symM, Nat.reduceBEq, g10], by simp only [symM, Nat.reduceBEq, g11]⟩, by simp only [symM, Nat.reduceBEq, s12], by simp only [symM, Nat.reduceBEq, s13]⟩
      · exact e2
  · rw [if_neg hc]
    cases wb with
    | false =>
      apply Exists.intro; apply Exists.intro; apply And.intro
      · refine .inr ⟨rfl, ?_, ?_⟩
        · simp only [pqc6, part, Try.f45, sub, symM, opFn, Nat.reduceLT, Nat.reduceBEq, g10]
          rfl
        · exact ⟨⟨by simp only [symM, Nat.reduceBEq, g0], by simp only [symM, Nat.reduceBEq, g1], by simp only [symM, Nat.reduceBEq, g2], by simp only [symM, Nat.reduceBEq, g3], by simp only [symM, Nat.reduceBEq, g4], by simp only [symM, Nat.reduceBEq, g10], by simp only [symM, Nat.reduceBEq, g11]⟩, by simp only [symM, Nat.reduceBEq, s12], by simp only [symM, Nat.reduceBEq, s13]⟩
      · exact ⟨hv, hK, rfl, Grow.refl _ _⟩
    | true =>
      cases wp with
      | false =>
        apply Exists.intro; apply Exists.intro; apply And.intro
        · refine .inr ⟨rfl, ?_, ?_⟩
          · simp only [pqc6, part, Try.f45, sub, symM, opFn, Nat.reduceLT, Nat.reduceBEq, g10, g11]
            rfl
          · exact ⟨⟨by simp only [symM, Nat.reduceBEq, g0], by simp only [symM, Nat.reduceBEq, g1], by simp only [symM, Nat.reduceBEq, g2], by simp only [symM, Nat.reduceBEq, g3], by simp only [symM, Nat.reduceBEq, g4], by simp only [symM, Nat.reduceBEq, g10], by simp only [symM, Nat.reduceBEq, g11]⟩, by simp only [symM, Nat.reduceBEq, s12], by simp only [symM, Nat.reduceBEq, s13]⟩
        · exact ⟨hv, hK, rfl, Grow.refl _ _⟩
      | true =>
        have hc3 : decide (pqHint lt d0 a b = .increasing) = false := by simpa using hc
        apply Exists.intro; apply Exists.intro; apply And.intro
        · refine .inr ⟨rfl, ?_, ?_⟩
          · simp only [pqc6, part, Try.f45, sub, symM, opFn, Nat.reduceLT, Nat.reduceBEq, g10, g11, s14, bin_eql, hz, hc3]
            rfl
          · exact ⟨⟨by simp only [symM, Nat.reduceBEq, g0], by simp only [symM, Nat.reduceBEq, g1], by simp only [symM, Nat.reduceBEq, g2], by simp only [symM, Nat.reduceBEq, g3], by simp only [symM, Nat.reduceBEq, g4], by simp only [symM, Nat.reduceBEq, g10], by simp only [symM, Nat.reduceBEq, g11]⟩, by simp only [symM, Nat.reduceBEq, s12], by simp only [symM, Nat.reduceBEq, s13]⟩
        · exact ⟨hv, hK, rfl, Grow.refl _ _⟩
theorem plan_Pq17 : planB (regOps Try.f45 [1, 1, 0, 0, 0, 1, 1, 1, 1, 1, 1, 1, 0, 0]) 148 = some ([.one 0, .one 1, .one 2, .one 3, .one 4, .one 5, .one 6, .one 7, .one 8, .one 9, .one 10, .one 11, .one 12, .eff [] 13 [], .one 14, .one 15, .one 16], []) := by kernel_rfl
theorem c7L_yes {pv l : Nat} {c : Nat × Nat → Nat × Nat → Int} (hc : CmpOK call g c) (hI : ∀ (a b pv : Nat) (d : Array (Nat × Nat)) (h : AH), a < b → a ≤ pv → pv < b → b ≤ d.size → d.size ≤ 480 → AllK d → Own n0 h v (rA d) 23 → ∃ h', call 59 [v, iv a, iv b, iv pv, fnV g] h = some (iv (partitionEqual (ltc c) d a b pv).1, h') ∧ Own n0 h' v (rA (partitionEqual (ltc c) d a b pv).2) 23 ∧ AllK (partitionEqual (ltc c) d a b pv).2 ∧ (partitionEqual (ltc c) d a b pv).2.size = d.size ∧ Grow n0 h h') (s : PqS tm v g a b lim wb wp) (s12 : tm.get 12 = some (iv l)) (s13 : tm.get 13 = some (iv pv)) (hab : a < b) (hap : a ≤ pv) (hpb : pv < b) (hcond : (decide (a > 0) && !ltc c d[a - 1]! d[pv]!) = true) (hb : b ≤ d.size) (hd : d.size ≤ 480) (hK : AllK d) (hn : n0 ≤ h.next) (hv : Own n0 h v (rA d) 23) :
    ∃ tm' h', codeB T0 X0 call (N + 20) EPq (.code pqc7) tm h [] = .jump (.exit 1) tm' h' [] ∧ (PqS tm' v g (partitionEqual (ltc c) d a b pv).1 b lim wb wp ∧ (Own n0 h' v (rA ((partitionEqual (ltc c) d a b pv).2)) 23 ∧ AllK ((partitionEqual (ltc c) d a b pv).2) ∧ ((partitionEqual (ltc c) d a b pv).2).size = d.size ∧ Grow n0 h h')) := by
  have hp := plan_Pq17
  simp only [regOps, part, Try.f45, sub] at hp
  obtain ⟨g0, g1, g2, g3, g4, g10, g11⟩ := s
  simp only [Bool.and_eq_true] at hcond
  obtain ⟨hc1, hc2⟩ := hcond
  have ha0 : 0 < a := of_decide_eq_true hc1
  have hlt : ltc c d[a - 1]! d[pv]! = false := by simpa using hc2
  have hlt2 : decide (c d[a - 1]! d[pv]! < 0) = false := hlt
  obtain ⟨p, a1, a2⟩ := hv.fetch (i := a - 1) (by omega)
  obtain ⟨q, b1, b2⟩ := hv.fetch (i := pv) (by omega)
  have hrun := hc.run d[a - 1]! d[pv]! h (hK _) (hK _)
  obtain ⟨h1, e1, e2⟩ := hI a b pv d h hab hap hpb hb hd hK hv
  apply Exists.intro; apply Exists.intro; apply And.intro
  · simp only [pqc7, part, Try.f45, sub, symM, codeB_draw]
    rw [draw_plan hp rfl]
    simp only [drawAll, opFn, Nat.reduceLT, Nat.reduceBEq, g0, g1, g2, g4, s13, bin_gtr, decide_eq_true (show (0 : Int) < (a : Nat) by omega), bin_sub, wm1 (show a ≤ 400000 by omega) ha0, a1, a2, b1, b2, hc.en, hrun, bin_lss, hlt2, evCall_fn ft59 rfl, e1]
    rfl
  · exact ⟨⟨by simp only [symM, Nat.reduceBEq, g0], by simp only [symM], by simp only [symM, Nat.reduceBEq, g2], by simp only [symM, Nat.reduceBEq, g3], by simp only [symM, Nat.reduceBEq, g4], by simp only [symM, Nat.reduceBEq, g10], by simp only [symM, Nat.reduceBEq, g11]⟩, e2⟩
theorem c7L_no {pv l : Nat} {c : Nat × Nat → Nat × Nat → Int} (hc : CmpOK call g c) (s : PqS tm v g a b lim wb wp) (s12 : tm.get 12 = some (iv l)) (s13 : tm.get 13 = some (iv pv)) (hab : a < b) (hpb : pv < b) (hcond : (decide (a > 0) && !ltc c d[a - 1]! d[pv]!) = false) (hb : b ≤ d.size) (hd : d.size ≤ 480) (hK : AllK d) (hn : n0 ≤ h.next) (hv : Own n0 h v (rA d) 23) :
    ∃ tm' h', codeB T0 X0 call (N + 20) EPq (.code pqc7) tm h [] = .fall tm' h' [] ∧ (h' = h ∧ PqS tm' v g a b lim wb wp ∧ tm'.get 12 = some (iv l) ∧ tm'.get 13 = some (iv pv)) := by
  have hp := plan_Pq17
  simp only [regOps, part, Try.f45, sub] at hp
  obtain ⟨g0, g1, g2, g3, g4, g10, g11⟩ := s
  by_cases ha0 : 0 < a
  · rw [decide_eq_true (show a > 0 from ha0), Bool.true_and] at hcond
    have hlt : ltc c d[a - 1]! d[pv]! = true := by simpa using hcond
    have hlt2 : decide (c d[a - 1]! d[pv]! < 0) = true := hlt
    obtain ⟨p, a1, a2⟩ := hv.fetch (i := a - 1) (by omega)
    obtain ⟨q, b1, b2⟩ := hv.fetch (i := pv) (by omega)
    have hrun := hc.run d[a - 1]! d[pv]! h (hK _) (hK _)
    apply Exists.intro; apply Exists.intro; apply And.intro
    · simp only [pqc7, part, Try.f45, sub, symM, codeB_draw]
      rw [draw_plan hp rfl]
      simp only [drawAll, opFn, Nat.reduceBEq, g0, g1, g4, s13, bin_gtr, decide_eq_true (show (0 : Int) < (a : Nat) by omega), bin_sub, wm1 (show a ≤ 400000 by omega) ha0, a1, a2, b1, b2, hc.en, hrun, bin_lss, hlt2]
      rfl
    · exact ⟨rfl, ⟨by simp only [symM, Nat.reduceBEq, g0], by simp only [symM, Nat.reduceBEq, g1], by simp only [symM, Nat.reduceBEq, g2], by simp only [symM, Nat.reduceBEq, g3], by simp only [symM, Nat.reduceBEq, g4], by simp only [symM, Nat.reduceBEq, g10], by simp only [symM, Nat.reduceBEq, g11]⟩, by simp only [symM, Nat.reduceBEq, s12], by simp only [symM, Nat.reduceBEq, s13]⟩
  · apply Exists.intro; apply Exists.intro; apply And.intro
    · simp only [pqc7, part, Try.f45, sub, symM, codeB_draw]
      rw [draw_plan hp rfl]
      simp only [drawAll, opFn, Nat.reduceBEq, g1, bin_gtr, decide_eq_false (show ¬ (0 : Int) < (a : Nat) by omega)]
      rfl
    · exact ⟨rfl, ⟨by simp only [symM, Nat.reduceBEq, g0], by simp only [symM, Nat.reduceBEq, g1], by simp only [symM, Nat.reduceBEq, g2], by simp only [symM, Nat.reduceBEq, g3], by simp only [symM, Nat.reduceBEq, g4], by simp only [symM, Nat.reduceBEq, g10], by simp only [symM, Nat.reduceBEq, g11]⟩, by simp only [symM, Nat.reduceBEq, s12], by simp only [symM, Nat.reduceBEq, s13]⟩
/-- The contract of pdqsortCmpFunc below a size. -/
def PdqOK (call : Abs.Callee) (g : Nat) (c : Nat × Nat → Nat × Nat → Int) (v : Value) (n0 M : Nat) : Prop := ∀ (a b lim : Nat) (d : Array (Nat × Nat)) (h : AH), b - a < M → a ≤ b → lim ≤ 4000 → b ≤ d.size → d.size ≤ 480 → AllK d → n0 ≤ h.next → Own n0 h v (rA d) 23 →
    ∃ h', call 45 [v, iv a, iv b, iv lim, fnV g] h = some (.tuple #[], h') ∧ Own n0 h' v (rA (pdq (ltc c) d a b lim true true)) 23 ∧ AllK (pdq (ltc c) d a b lim true true) ∧ (pdq (ltc c) d a b lim true true).size = d.size ∧ Grow n0 h h'
set_option maxHeartbeats 1000000 in
theorem c8L {pv M : Nat} {c : Nat × Nat → Nat × Nat → Int} (hI : ∀ (a b pv : Nat) (d : Array (Nat × Nat)) (h : AH), a < b → a ≤ pv → pv < b → b ≤ d.size → d.size ≤ 480 → AllK d → Own n0 h v (rA d) 23 → ∃ h', call 60 [v, iv a, iv b, iv pv, fnV g] h = some (.tuple #[iv (partition (ltc c) d a b pv).1, .bool (partition (ltc c) d a b pv).2.1], h') ∧ Own n0 h' v (rA (partition (ltc c) d a b pv).2.2) 23 ∧ AllK (partition (ltc c) d a b pv).2.2 ∧ (partition (ltc c) d a b pv).2.2.size = d.size ∧ Grow n0 h h') (hR : PdqOK call g c v n0 M) (hM : b - a ≤ M) (hlim : lim ≤ 4000) (s : PqS tm v g a b lim wb wp) (s12 : tm.get 12 = some (iv ((b - a : Nat) : Int))) (s13 : tm.get 13 = some (iv pv)) (hab : a + 1 < b) (hap : a ≤ pv) (hpb : pv < b) (hb : b ≤ d.size) (hd : d.size ≤ 480) (hK : AllK d) (hn : n0 ≤ h.next) (hv : Own n0 h v (rA d) 23)
    {mid : Nat} {ap : Bool} {d4 : Array (Nat × Nat)} (hpt : partition (ltc c) d a b pv = (mid, ap, d4)) :
    ∃ tm' h', codeB T0 X0 call (N + 20) EPq (.code pqc8) tm h [] = .fall tm' h' [] ∧
      ((mid - a < b - mid ∧ PqS tm' v g (mid + 1) b lim (decide (mid - a ≥ (b - a) / 8)) ap ∧ (Own n0 h' v (rA (pdq (ltc c) d4 a mid lim true true)) 23 ∧ AllK (pdq (ltc c) d4 a mid lim true true) ∧ (pdq (ltc c) d4 a mid lim true true).size = d.size ∧ Grow n0 h h')) ∨
       (¬ mid - a < b - mid ∧ PqS tm' v g a mid lim (decide (b - mid ≥ (b - a) / 8)) ap ∧ (Own n0 h' v (rA (pdq (ltc c) d4 (mid + 1) b lim true true)) 23 ∧ AllK (pdq (ltc c) d4 (mid + 1) b lim true true) ∧ (pdq (ltc c) d4 (mid + 1) b lim true true).size = d.size ∧ Grow n0 h h'))) := by
  obtain ⟨g0, g1, g2, g3, g4, g10, g11⟩ := s
  have hin := partition_in (ltc c) (d := d) (p := pv) hab
  obtain ⟨h1, e1, e2, e3, e4, e5⟩ := hI a b pv d h (by omega) hap hpb hb hd hK hv
  rw [hpt] at e1 e2 e3 e4 hin
  simp only at e1 e2 e3 e4 hin
  have hw1 : IntKind.i64.wrap ((mid : Int) - a) = ((mid - a : Nat) : Int) := wsub (by omega) (by omega)
  have hw2 : IntKind.i64.wrap ((b : Int) - mid) = ((b - mid : Nat) : Int) := wsub (by omega) (by omega)
  have hw3 : IntKind.i64.wrap (((b - a) / 8 : Nat) : Int) = (((b - a) / 8 : Nat) : Int) := wz (by omega)
  by_cases hl : mid - a < b - mid
  · have hge : decide ((((b - a) / 8 : Nat) : Int) ≤ ((mid - a : Nat) : Int)) = decide (mid - a ≥ (b - a) / 8) := decide_eq_decide.2 (by omega)
    obtain ⟨h2, f1, f2, f3, f4, f5⟩ := hR a mid lim d4 h1 (by omega) hin.1 hlim (by omega) (by omega) e3 (Nat.le_trans hn e5.next) e2
    apply Exists.intro; apply Exists.intro; apply And.intro
    · simp only [pqc8, part, Try.f45, sub, symM, opFn, Nat.reduceLT, Nat.reduceBEq, g0, g1, g2, g3, g4, s12, s13, evCall_fn ft60 rfl, e1, bin_sub, hw1, hw2, quo8, hw3, bin_lss, decide_eq_true (show ((mid - a : Nat) : Int) < ((b - mid : Nat) : Int) by omega), bin_geq, hge, evCall_fn ft45 rfl, f1, bin_add, wadd1 (show mid ≤ 400000 by omega)]
      rfl
    · exact .inl ⟨hl, ⟨by simp only [symM, Nat.reduceBEq, g0], by simp only [symM], by simp only [symM, Nat.reduceBEq, g2], by simp only [symM, Nat.reduceBEq, g3], by simp only [symM, Nat.reduceBEq, g4], by simp only [symM, Nat.reduceBEq], by simp only [symM, Nat.reduceBEq]⟩, f2, f3, f4.trans e4, e5.trans f5 (Nat.le_refl _)⟩
  · have hge : decide ((((b - a) / 8 : Nat) : Int) ≤ ((b - mid : Nat) : Int)) = decide (b - mid ≥ (b - a) / 8) := decide_eq_decide.2 (by omega)
    obtain ⟨h2, f1, f2, f3, f4, f5⟩ := hR (mid + 1) b lim d4 h1 (by omega) (by omega) hlim (by omega) (by omega) e3 (Nat.le_trans hn e5.next) e2
    apply Exists.intro; apply Exists.intro; apply And.intro
    · simp only [pqc8, part, Try.f45, sub, symM, opFn, Nat.reduceLT, Nat.reduceBEq, g0, g1, g2, g3, g4, s12, s13, evCall_fn ft60 rfl, e1, bin_sub, hw1, hw2, quo8, hw3, bin_lss, decide_eq_false (show ¬ ((mid - a : Nat) : Int) < ((b - mid : Nat) : Int) by omega), bin_geq, hge, evCall_fn ft45 rfl, f1, bin_add, wadd1 (show mid ≤ 400000 by omega)]
      rfl
    · exact .inr ⟨hl, ⟨by simp only [symM, Nat.reduceBEq, g0], by simp only [symM, Nat.reduceBEq, g1], by simp only [symM], by simp only [symM, Nat.reduceBEq, g3], by simp only [symM, Nat.reduceBEq, g4], by simp only [symM, Nat.reduceBEq], by simp only [symM, Nat.reduceBEq]⟩, f2, f3, f4.trans e4, e5.trans f5 (Nat.le_refl _)⟩
end
end
end Go.Proofs.Ytcpihpjphdlmfaa.Abs
namespace Go.Proofs.Ytcpihpjphdlmfaa.Abs
open Go Go.Proofs Go.Sort
noncomputable section
variable {call : Abs.Callee}
set_option maxRecDepth 10000
/-- What pdqsortCmpFunc calls. -/
structure PqCalls (call : Abs.Callee) (g : Nat) (c : Nat × Nat → Nat × Nat → Int) (v : Value) (n0 : Nat) : Prop where
  cmp : CmpOK call g c
  ins : PermOK call 52 v n0 g 0 (insertionSort (ltc c))
  heap : PermOK call 54 v n0 g 1 (heapSort (ltc c))
  brk : PermOK call 55 v n0 g 0 breakPatterns
  rev : PermOK call 57 v n0 g 1 reverseRange
  cho : ∀ (a b : Nat) (d : Array (Nat × Nat)) (h : AH), a ≤ b → b ≤ d.size → 8 ≤ b - a → d.size ≤ 480 → AllK d → Own n0 h v (rA d) 23 → ∃ h', call 56 [v, iv a, iv b, fnV g] h = some (.tuple #[iv (choosePivot (ltc c) d a b).1, iv (hintZ (choosePivot (ltc c) d a b).2)], h') ∧ Own n0 h' v (rA d) 23 ∧ Grow h.next h h'
  pis : ∀ (a b : Nat) (d : Array (Nat × Nat)) (h : AH), a < b → b ≤ d.size → d.size ≤ 480 → AllK d → n0 ≤ h.next → Own n0 h v (rA d) 23 → ∃ h', call 58 [v, iv a, iv b, fnV g] h = some (.bool (partialInsertionSort (ltc c) d a b).2, h') ∧ Own n0 h' v (rA (partialInsertionSort (ltc c) d a b).1) 23 ∧ AllK (partialInsertionSort (ltc c) d a b).1 ∧ (partialInsertionSort (ltc c) d a b).1.size = d.size ∧ Grow n0 h h'
  peq : ∀ (a b pv : Nat) (d : Array (Nat × Nat)) (h : AH), a < b → a ≤ pv → pv < b → b ≤ d.size → d.size ≤ 480 → AllK d → Own n0 h v (rA d) 23 → ∃ h', call 59 [v, iv a, iv b, iv pv, fnV g] h = some (iv (partitionEqual (ltc c) d a b pv).1, h') ∧ Own n0 h' v (rA (partitionEqual (ltc c) d a b pv).2) 23 ∧ AllK (partitionEqual (ltc c) d a b pv).2 ∧ (partitionEqual (ltc c) d a b pv).2.size = d.size ∧ Grow n0 h h'
  ptn : ∀ (a b pv : Nat) (d : Array (Nat × Nat)) (h : AH), a < b → a ≤ pv → pv < b → b ≤ d.size → d.size ≤ 480 → AllK d → Own n0 h v (rA d) 23 → ∃ h', call 60 [v, iv a, iv b, iv pv, fnV g] h = some (.tuple #[iv (partition (ltc c) d a b pv).1, .bool (partition (ltc c) d a b pv).2.1], h') ∧ Own n0 h' v (rA (partition (ltc c) d a b pv).2.2) 23 ∧ AllK (partition (ltc c) d a b pv).2.2 ∧ (partition (ltc c) d a b pv).2.2.size = d.size ∧ Grow n0 h h'
theorem pqPiv_in (lt : Nat × Nat → Nat × Nat → Bool) (d : Array (Nat × Nat)) (a b : Nat) (hab : a < b) : a ≤ pqPiv lt d a b ∧ pqPiv lt d a b < b := by
  unfold pqPiv
  have := choosePivot_holds lt d a b hab
  split <;> omega
set_option maxHeartbeats 2000000 in
theorem pqL {g M : Nat} {c : Nat × Nat → Nat × Nat → Int} {v : Value} {n0 : Nat} (hC : PqCalls call g c v n0) (hR : PdqOK call g c v n0 M) (h0 : AH) (hn : n0 ≤ h0.next) :
    ∀ (n a b lim : Nat) (wb wp : Bool) (d : Array (Nat × Nat)) (tm : PM Value) (h : AH) (N : Nat), b - a < n → b - a ≤ M → a ≤ b → lim ≤ 4000 → b ≤ d.size → d.size ≤ 480 → AllK d → n + 100 ≤ N → PqS tm v g a b lim wb wp → Own n0 h v (rA d) 23 → Grow n0 h0 h →
      ∃ tm' h', codeB T0 X0 call N EPq (.loop bodyPq) tm h [] = .jump .ret tm' h' [] ∧ (Own n0 h' v (rA (pdq (ltc c) d a b lim wb wp)) 23 ∧ AllK (pdq (ltc c) d a b lim wb wp) ∧ (pdq (ltc c) d a b lim wb wp).size = d.size ∧ Grow n0 h0 h') := by
  intro n
  induction n with
  | zero => intro a b lim wb wp d tm h N hlt; omega
  | succ n ih =>
    intro a b lim wb wp d tm h N hlt hM hab hlim hb hd hK hN s hv hg
    obtain ⟨N, rfl⟩ : ∃ a, N = a + 50 := ⟨N - 50, by omega⟩
    have hnh : n0 ≤ h.next := Nat.le_trans hn hg.next
    rw [show N + 50 = (N + 49) + 1 from rfl, codeB_loop]
    obtain ⟨t0, k0, e0, eh0, s0, z0⟩ := c0L (call := call) (h := h) (N := N + 27) s hab (by omega)
    rw [eh0] at e0
    by_cases h12 : b - a ≤ 12
    · rw [pdq_small _ h12]
      obtain ⟨t1, k1, e1, f1, f2, f3, f4⟩ := c1L_yes (N := N + 26) hC.ins s0 z0 h12 hab hb hd hK hnh hv
      refine ⟨t1, k1, ?_, f1, f2, f3, hg.trans f4 (Nat.le_refl _)⟩
      unfold bodyPq
      simp only [symM, e0, e1]
    · obtain ⟨t1, k1, e1, eh1, s1, z1⟩ := c1L_no (call := call) (h := h) (N := N + 26) s0 z0 h12
      rw [eh1] at e1
      by_cases hl0 : lim = 0
      · subst hl0
        rw [pdq_heap _ h12]
        obtain ⟨t2, k2, e2, f1, f2, f3, f4⟩ := c2L_yes (N := N + 25) hC.heap s1 (by omega) hb hd hK hnh hv
        refine ⟨t2, k2, ?_, f1, f2, f3, hg.trans f4 (Nat.le_refl _)⟩
        unfold bodyPq
        simp only [symM, e0, e1, e2]
      · obtain ⟨t2, k2, e2, eh2, s2, z2⟩ := c2L_no (call := call) (h := h) (N := N + 25) s1 z1 hl0
        rw [eh2] at e2
        obtain ⟨t3, k3, e3, s3, z3, v3, K3, n3, g3⟩ := c3L (N := N + 24) hC.brk s2 z2 hl0 hlim hab hb hd hK hnh hv
        have hn3 : n0 ≤ k3.next := Nat.le_trans hnh g3.next
        have hlm : pqLim wb lim ≤ 4000 := by unfold pqLim; split <;> omega
        obtain ⟨t4, k4, e4, s4, z4, p4, q4, v4, g4⟩ := c4L (N := N + 23) (hC.cho a b (pqD1 d a b wb) k3 hab (by omega) (by omega) (by omega) K3 v3) s3 z3
        have hn4 : n0 ≤ k4.next := Nat.le_trans hn3 g4.next
        obtain ⟨t5, k5, e5, s5, z5, p5, q5, v5, K5, n5, g5⟩ := c5L (N := N + 22) (ltc c) hC.rev s4 z4 p4 q4 (by omega) (by omega) (by omega) K3 hn4 v4
        have hn5 : n0 ≤ k5.next := Nat.le_trans hn4 g5.next
        have hpv := pqPiv_in (ltc c) (pqD1 d a b wb) a b (by omega)
        obtain ⟨t6, k6, e6, v6, K6, n6, g6⟩ := c6L (N := N + 21) (pqD1 d a b wb) (fun d h hb hd hK hn hv => hC.pis a b d h (by omega) hb hd hK hn hv) s5 z5 p5 q5 (by omega) (by omega) K5 hn5 v5
        have hn6 : n0 ≤ k6.next := Nat.le_trans hn5 g6.next
        have hg6 : Grow n0 h0 k6 := (((hg.trans g3 (Nat.le_refl _)).trans (g4.less (by omega)) (Nat.le_refl _)).trans g5 (Nat.le_refl _)).trans g6 (Nat.le_refl _)
        have hD : pqPi (ltc c) (pqD1 d a b wb) (pqD2 (ltc c) (pqD1 d a b wb) a b) a b wb wp = pqD3 (ltc c) d a b wb wp := rfl
        rw [hD] at e6 v6 K6 n6
        rcases e6 with ⟨r6, e6⟩ | ⟨r6, e6, s6, z6, p6⟩
        · rw [pdq_sorted _ h12 hl0 r6]
          refine ⟨t6, k6, ?_, v6, K6, by omega, hg6⟩
          unfold bodyPq
          simp only [symM, e0, e1, e2, e3, e4, e5, e6]
        · generalize hpq : pqPiv (ltc c) (pqD1 d a b wb) a b = pv at *
          cases hcd : (decide (a > 0) && !ltc c (pqD3 (ltc c) d a b wb wp).1[a - 1]! (pqD3 (ltc c) d a b wb wp).1[pv]!) with
          | true =>
            have hin := partitionEqual_in (ltc c) (d := (pqD3 (ltc c) d a b wb wp).1) (p := pv) (show a < b by omega)
            obtain ⟨t7, k7, e7, s7, v7, K7, n7, g7⟩ := c7L_yes (N := N + 20) hC.cmp hC.peq s6 z6 p6 (by omega) hpv.1 hpv.2 hcd (by omega) (by omega) K6 hn6 v6
            generalize hpe : partitionEqual (ltc c) (pqD3 (ltc c) d a b wb wp).1 a b pv = r at *
            obtain ⟨mid, d4⟩ := r
            simp only at hin
            have n7' : d4.size = (pqD3 (ltc c) d a b wb wp).1.size := n7
            rw [pdq_equal (ltc c) h12 hl0 r6 (by rw [hpq]; exact hcd) (by rw [hpq]; exact hpe) hin]
            obtain ⟨t8, k8, e8, v8, K8, n8, g8⟩ := ih mid b (pqLim wb lim) wb wp d4 t7 k7 (N + 49) (by omega) (by omega) (by omega) hlm (by omega) (by omega) K7 (by omega) s7 v7 (hg6.trans g7 (Nat.le_refl _))
            refine ⟨t8, k8, ?_, v8, K8, by omega, g8⟩
            unfold bodyPq at e8 ⊢
            simp only [symM, symL, e0, e1, e2, e3, e4, e5, e6, e7, e8]
          | false =>
            obtain ⟨t7, k7, e7, eh7, s7, z7, p7⟩ := c7L_no (N := N + 20) hC.cmp s6 z6 p6 (by omega) hpv.2 hcd (by omega) (by omega) K6 hn6 v6
            rw [eh7] at e7
            generalize hpe : partition (ltc c) (pqD3 (ltc c) d a b wb wp).1 a b pv = r
            obtain ⟨mid, ap, d4⟩ := r
            have hin := partition_in (ltc c) (d := (pqD3 (ltc c) d a b wb wp).1) (p := pv) (show a + 1 < b by omega)
            rw [hpe] at hin
            simp only at hin
            obtain ⟨t8, k8, e8, hcase⟩ := c8L (N := N + 20) hC.ptn hR hM hlm s7 z7 p7 (by omega) hpv.1 hpv.2 (by omega) (by omega) K6 hn6 v6 hpe
            rcases hcase with ⟨hl, s8, v8, K8, n8, g8⟩ | ⟨hl, s8, v8, K8, n8, g8⟩
            · rw [pdq_left (ltc c) h12 hl0 r6 (by rw [hpq]; exact hcd) (by rw [hpq]; exact hpe) hin hl]
              obtain ⟨t9, k9, e9, v9, K9, n9, g9⟩ := ih (mid + 1) b (pqLim wb lim) _ ap (pdq (ltc c) d4 a mid (pqLim wb lim) true true) t8 k8 (N + 49) (by omega) (by omega) (by omega) hlm (by omega) (by omega) K8 (by omega) s8 v8 (hg6.trans g8 (Nat.le_refl _))
              refine ⟨t9, k9, ?_, v9, K9, by omega, g9⟩
              unfold bodyPq at e9 ⊢
              simp only [symM, e0, e1, e2, e3, e4, e5, e6, e7, e8, e9]
            · rw [pdq_right (ltc c) h12 hl0 r6 (by rw [hpq]; exact hcd) (by rw [hpq]; exact hpe) hin hl]
              obtain ⟨t9, k9, e9, v9, K9, n9, g9⟩ := ih a mid (pqLim wb lim) _ ap (pdq (ltc c) d4 (mid + 1) b (pqLim wb lim) true true) t8 k8 (N + 49) (by omega) (by omega) (by omega) hlm (by omega) (by omega) K8 (by omega) s8 v8 (hg6.trans g8 (Nat.le_refl _))
              refine ⟨t9, k9, ?_, v9, K9, by omega, g9⟩
              unfold bodyPq at e9 ⊢
              simp only [symM, e0, e1, e2, e3, e4, e5, e6, e7, e8, e9]
theorem pdqsort_S {g M : Nat} {c : Nat × Nat → Nat × Nat → Int} {v : Value} {n0 : Nat} (hC : PqCalls call g c v n0) (hR : PdqOK call g c v n0 M) (a b lim : Nat) (d : Array (Nat × Nat)) (h : AH) (hM : b - a ≤ M) (hab : a ≤ b) (hlim : lim ≤ 4000) (hb : b ≤ d.size) (hd : d.size ≤ 480) (hK : AllK d) (hn : n0 ≤ h.next) (hv : Own n0 h v (rA d) 23) :
    ∃ h', frameB T0 X0 call 3000 45 [v, iv a, iv b, iv lim, fnV g] h = some (.tuple #[], h') ∧ Own n0 h' v (rA (pdq (ltc c) d a b lim true true)) 23 ∧ AllK (pdq (ltc c) d a b lim true true) ∧ (pdq (ltc c) d a b lim true true).size = d.size ∧ Grow n0 h h' := by
  have hbody := bodyPq_eq
  simp only [part, Try.f45, sub] at hbody
  rw [frameB_eq ft45 rfl rfl]
  simp only [Try.f45, symM, opFn, Nat.reduceLT, symL]
  rw [hbody]
  generalize hX : codeB T0 X0 call _ EPq (.loop _) _ _ _ = X
  obtain ⟨t1, h1, e1, e2⟩ := use_loop (P := fun X => ∃ tm' h', X = .jump .ret tm' h' [] ∧ (Own n0 h' v (rA (pdq (ltc c) d a b lim true true)) 23 ∧ AllK (pdq (ltc c) d a b lim true true) ∧ (pdq (ltc c) d a b lim true true).size = d.size ∧ Grow n0 h h')) hX (pqL hC hR h hn (b - a + 1) a b lim true true d _ h _ (Nat.lt_succ_self _) hM hab hlim hb hd hK (by omega) ⟨by simp only [symM, Nat.reduceBEq], by simp only [symM, Nat.reduceBEq], by simp only [symM, Nat.reduceBEq], by simp only [symM, Nat.reduceBEq], by simp only [symM, Nat.reduceBEq], by simp only [symM, Nat.reduceBEq], by simp only [symM]⟩ hv (Grow.refl _ _))
  clear hX
  subst e1
  refine ⟨h1, ?_, e2⟩
  simp only [symM]
  exact retB_zero ft45 rfl
end
end Go.Proofs.Ytcpihpjphdlmfaa.Abs
