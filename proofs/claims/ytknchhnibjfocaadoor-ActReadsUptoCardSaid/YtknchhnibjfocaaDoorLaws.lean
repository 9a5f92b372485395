/- Acts: words and texts, there and back. -/
import Derived.Test.YtknchhnibjfocaaDoorScripts
namespace Go.Proofs.YtknchhnibjfocaaDoor.Abs
open Go Go.Proofs
noncomputable section
variable {call : Abs.Callee}
set_option maxRecDepth 100000
theorem u8_all {p : UInt8 → Bool} (h : ((List.range 256).all fun k => p (UInt8.ofNat k)) = true) (b : UInt8) : p b = true := by
  have := List.all_eq_true.1 h b.toNat (List.mem_range.2 b.toNat_lt)
  simpa using this
theorem hex_of (b : UInt8) : digB (hexd (b.toNat / 16)) = ((b.toNat / 16 : Nat) : Int) ∧ digB (hexd (b.toNat % 16)) = ((b.toNat % 16 : Nat) : Int) ∧ hexV (hexd (b.toNat / 16)) (hexd (b.toNat % 16)) = b := by
  have := u8_all (p := fun b => decide (digB (hexd (b.toNat / 16)) = ((b.toNat / 16 : Nat) : Int)) && (decide (digB (hexd (b.toNat % 16)) = ((b.toNat % 16 : Nat) : Int)) && decide (hexV (hexd (b.toNat / 16)) (hexd (b.toNat % 16)) = b))) (by decide +kernel) b
  simpa only [Bool.and_eq_true, decide_eq_true_eq] using this
theorem hexd_of (c : UInt8) (h : 0 ≤ digB c) : digB c < 16 ∧ hexd (digB c).toNat = c := by
  have := u8_all (p := fun c => decide (digB c < 0) || (decide (digB c < 16) && decide (hexd (digB c).toNat = c))) (by decide +kernel) c
  simp only [Bool.or_eq_true, Bool.and_eq_true, decide_eq_true_eq] at this
  rcases this with q | q
  · omega
  · exact q
theorem plain_ne {b : UInt8} (h : plainB b = true) : b ≠ 37 := by
  intro e; subst e; revert h; decide
theorem text_word : ∀ (l : List UInt8), textT (wordT l) = some l := by
  intro l
  induction l with
  | nil => rfl
  | cons b l ih =>
    have hc : wordT (b :: l) = wordB b ++ wordT l := by unfold wordT; simp
    rw [hc]
    unfold wordB
    by_cases hp : plainB b = true
    · rw [if_pos hp]
      rw [List.singleton_append, textT_plain (plain_ne hp), if_pos hp, ih]; rfl
    · rw [if_neg hp]
      obtain ⟨h1, h2, h3⟩ := hex_of b
      rw [List.cons_append, List.cons_append, List.singleton_append, textT_hex, if_neg, ih, h3]
      · rfl
      · rw [h1, h2, h3]; rintro (q | q | q)
        · omega
        · omega
        · exact hp q
theorem word_text : ∀ (k : Nat) (w s : List UInt8), w.length ≤ k → textT w = some s → wordT s = w := by
  intro k
  induction k with
  | zero =>
    intro w s hk h
    have : w = [] := List.length_eq_zero_iff.1 (by omega)
    subst this
    cases h; rfl
  | succ k ih =>
    intro w s hk h
    cases w with
    | nil => cases h; rfl
    | cons b l =>
      by_cases hb : b = 37
      · subst hb
        match l, hk, h with
        | [], hk, h => rw [textT_short (by simp)] at h; cases h
        | [c], hk, h => rw [textT_short (by simp)] at h; cases h
        | c :: d :: r, hk, h =>
          rw [textT_hex] at h
          split at h
          · cases h
          · rename_i hn
            simp only [Option.map_eq_some_iff] at h
            obtain ⟨o, h1, rfl⟩ := h
            have hr := ih r o (by simp at hk; omega) h1
            have hc : wordT (hexV c d :: o) = wordB (hexV c d) ++ wordT o := by unfold wordT; simp
            rw [hc, hr]
            have q1 : 0 ≤ digB c := by
              rcases Int.lt_or_le (digB c) 0 with q | q
              · exact absurd (.inl q) hn
              · exact q
            have q2 : 0 ≤ digB d := by
              rcases Int.lt_or_le (digB d) 0 with q | q
              · exact absurd (.inr (.inl q)) hn
              · exact q
            have q3 : ¬ plainB (hexV c d) = true := fun q => hn (.inr (.inr q))
            obtain ⟨c1, c2⟩ := hexd_of c q1
            obtain ⟨d1, d2⟩ := hexd_of d q2
            have hv : (hexV c d).toNat = 16 * (digB c).toNat + (digB d).toNat := by
              unfold hexV
              rw [UInt8.toNat_ofNat']
              omega
            unfold wordB
            rw [if_neg q3, hv, show (16 * (digB c).toNat + (digB d).toNat) / 16 = (digB c).toNat by omega, show (16 * (digB c).toNat + (digB d).toNat) % 16 = (digB d).toNat by omega, c2, d2]
            rfl
      · rw [textT_plain hb] at h
        split at h
        · rename_i hp
          simp only [Option.map_eq_some_iff] at h
          obtain ⟨o, h1, rfl⟩ := h
          have hr := ih l o (by simp at hk; omega) h1
          have hc : wordT (b :: o) = wordB b ++ wordT o := by unfold wordT; simp
          rw [hc, hr]
          unfold wordB
          rw [if_pos hp]; rfl
        · cases h
theorem wordT_nil {l : List UInt8} (h : wordT l = []) : l = [] := by
  cases l with
  | nil => rfl
  | cons b l =>
    have hc : wordT (b :: l) = wordB b ++ wordT l := by unfold wordT; simp
    rw [hc] at h
    exact absurd (List.append_eq_nil_iff.1 h).1 (wordB_ne b)
theorem wordT_37 {l : List UInt8} : wordT l ≠ [37] := by
  intro h
  have := text_word l
  rw [h, textT_short (by simp)] at this
  cases this
theorem wordOf_wordL (l : List UInt8) : wordOf (wordL l) = some l := by
  unfold wordOf wordL
  by_cases h0 : l = []
  · subst h0; rw [if_pos rfl]; rfl
  · rw [if_neg h0]
    unfold textL
    rw [if_neg wordT_37, text_word]
    have : (wordT l == []) = false := by
      rw [beq_eq_false_iff_ne]; exact fun q => h0 (wordT_nil q)
    simp only [this, Bool.not_false, if_true]
theorem wordL_wordOf {w s : List UInt8} (h : wordOf w = some s) : wordL s = w := by
  unfold wordOf textL at h
  by_cases h37 : w = [37]
  · rw [if_pos h37] at h
    simp only [if_true] at h
    cases h
    rw [h37]; rfl
  · rw [if_neg h37] at h
    cases ht : textT w with
    | none => rw [ht] at h; cases h
    | some o =>
      rw [ht] at h
      simp only at h
      split at h
      · rename_i hne
        cases h
        have hw := word_text w.length w s (Nat.le_refl _) ht
        unfold wordL
        have : s ≠ [] := by
          intro q
          subst q
          have : w = [] := hw.symm
          subst this
          revert hne; decide
        rw [if_neg this, hw]
      · cases h
end
end Go.Proofs.YtknchhnibjfocaaDoor.Abs
namespace Go.Proofs.YtknchhnibjfocaaDoor.Abs
open Go Go.Proofs
noncomputable section
variable {call : Abs.Callee}
set_option maxRecDepth 100000
/-- A byte that shows. -/
def Shows (b : UInt8) : Prop := 33 ≤ b.toNat ∧ b.toNat ≤ 126
theorem hexd_shows {k : Nat} (hk : k < 16) : Shows (hexd k) := by
  have : ∀ k : _root_.Fin 16, 33 ≤ (hexd k.val).toNat ∧ (hexd k.val).toNat ≤ 126 := by decide
  exact this ⟨k, hk⟩
theorem plain_shows {b : UInt8} (h : plainB b = true) : Shows b := by
  unfold plainB at h
  simp only [Bool.and_eq_true, decide_eq_true_eq] at h
  unfold Shows; omega
theorem wordT_shows (l : List UInt8) : ∀ b ∈ wordT l, Shows b := by
  intro b hb
  unfold wordT at hb
  rw [List.mem_flatMap] at hb
  obtain ⟨x, _, hx⟩ := hb
  unfold wordB at hx
  have hx2 : x.toNat < 256 := x.toNat_lt
  split at hx
  · rename_i hp
    rw [List.mem_singleton] at hx; subst hx; exact plain_shows hp
  · simp only [List.mem_cons, List.not_mem_nil, or_false] at hx
    rcases hx with rfl | rfl | rfl
    · unfold Shows; decide
    · exact hexd_shows (by omega)
    · exact hexd_shows (by omega)
theorem wordL_shows (l : List UInt8) : ∀ b ∈ wordL l, Shows b := by
  unfold wordL
  split
  · intro b hb
    rw [List.mem_singleton] at hb; subst hb; unfold Shows; decide
  · exact wordT_shows l
theorem dec_shows : ∀ (u : Nat), ∀ b ∈ Lib.decDigits u, Shows b := by
  intro u
  induction u using Nat.strongRecOn with
  | _ u ih =>
    intro b hb
    by_cases h : u < 10
    · rw [dec_small h, List.mem_singleton] at hb
      subst hb
      unfold Shows; rw [dig_toNat h]; omega
    · rw [dec_big h, List.mem_append, List.mem_singleton] at hb
      rcases hb with hb | rfl
      · exact ih (u / 10) (by omega) b hb
      · unfold Shows; rw [dig_toNat (Nat.mod_lt _ (by decide))]; omega
theorem itoa_shows (v : Int) : ∀ b ∈ Lib.itoa v, Shows b := by
  unfold Lib.itoa
  split
  · intro b hb
    rw [List.mem_cons] at hb
    rcases hb with rfl | hb
    · unfold Shows; decide
    · exact dec_shows _ b hb
  · exact dec_shows _
theorem fwA_shows (a : ActD) (c : UInt8) : ∀ b ∈ fwA a c, Shows b := by
  unfold fwA
  split
  · exact wordL_shows _
  · split
    · exact wordL_shows _
    · split
      · exact itoa_shows _
      · split
        · exact itoa_shows _
        · exact wordL_shows _
theorem VT_shows : VT.all (fun x => x.1.all fun b => decide (33 ≤ b.toNat) && decide (b.toNat ≤ 126)) = true := by decide
theorem verb_shows {k P : List UInt8} (e : partsOf k = some P) : ∀ b ∈ k, Shows b := by
  have := List.all_eq_true.1 VT_shows _ (lookT_mem VT k P e)
  simp only [List.all_eq_true, Bool.and_eq_true, decide_eq_true_eq] at this
  exact this
theorem Shows.ne {b : UInt8} (h : Shows b) : b ≠ 32 ∧ b ≠ 10 := by
  unfold Shows at h
  constructor <;> (rintro rfl; revert h; decide)
/- Cutting. -/
theorem splitA_run (c : UInt8) : ∀ (w cur r : List UInt8), (∀ b ∈ w, b ≠ c) → splitA c cur (w ++ c :: r) = (cur ++ w) :: splitA c [] r := by
  intro w
  induction w with
  | nil => intro cur r _; rw [List.nil_append, splitA_hit, List.append_nil]
  | cons b w ih =>
    intro cur r h
    rw [List.cons_append, splitA_miss cur _ (h b List.mem_cons_self), ih (cur ++ [b]) r (fun x hx => h x (List.mem_cons_of_mem _ hx)), List.append_assoc]; rfl
theorem splitA_end (c : UInt8) : ∀ (w cur : List UInt8), (∀ b ∈ w, b ≠ c) → splitA c cur w = [cur ++ w] := by
  intro w
  induction w with
  | nil => intro cur _; rw [splitA_nil, List.append_nil]
  | cons b w ih =>
    intro cur h
    rw [splitA_miss cur _ (h b List.mem_cons_self), ih (cur ++ [b]) (fun x hx => h x (List.mem_cons_of_mem _ hx)), List.append_assoc]; rfl
theorem split_spaced : ∀ (l : List (List UInt8)) (w : List UInt8), (∀ b ∈ w, b ≠ 32) → (∀ x ∈ l, ∀ b ∈ x, b ≠ 32) → splitA 32 [] (spaced w l) = w :: l := by
  intro l
  induction l with
  | nil => intro w hw _; unfold spaced; rw [List.map_nil, List.flatten_nil, List.append_nil, splitA_end 32 w [] hw]; rfl
  | cons x l ih =>
    intro w hw hl
    have : spaced w (x :: l) = w ++ 32 :: spaced x l := by unfold spaced; simp
    rw [this, splitA_run 32 w [] _ hw, ih x (hl x List.mem_cons_self) (fun y hy => hl y (List.mem_cons_of_mem _ hy))]; rfl
theorem join_split (c : UInt8) : ∀ (l cur p : List UInt8) (ps : List (List UInt8)), splitA c cur l = p :: ps → cur ++ l = p ++ (ps.map (c :: ·)).flatten := by
  intro l
  induction l with
  | nil =>
    intro cur p ps h
    rw [splitA_nil] at h
    cases h; simp
  | cons b l ih =>
    intro cur p ps h
    by_cases hb : b = c
    · subst hb
      rw [splitA_hit] at h
      obtain ⟨rfl, h2⟩ := List.cons.inj h
      cases hs : splitA b [] l with
      | nil => exact absurd hs (splitA_ne b l [])
      | cons q qs =>
        have := ih [] q qs hs
        rw [← h2, hs, List.map_cons, List.flatten_cons, List.cons_append, ← this, List.nil_append]
    · rw [splitA_miss cur l hb] at h
      have := ih _ _ _ h
      rw [← this, List.append_assoc]; rfl
theorem lines_split : ∀ (l cur la : List UInt8) (ini : List (List UInt8)), splitA 10 cur l = ini ++ [la] → cur ++ l = (ini.map (· ++ [10])).flatten ++ la := by
  intro l
  induction l with
  | nil =>
    intro cur la ini h
    rw [splitA_nil] at h
    cases ini with
    | nil => simp at h; simp [h]
    | cons x ini => simp at h
  | cons b l ih =>
    intro cur la ini h
    by_cases hb : b = 10
    · subst hb
      rw [splitA_hit] at h
      cases ini with
      | nil =>
        rw [List.nil_append] at h
        exact absurd (List.cons.inj h).2 (splitA_ne 10 l [])
      | cons x ini =>
        rw [List.cons_append] at h
        obtain ⟨rfl, h2⟩ := List.cons.inj h
        have := ih [] la ini h2
        rw [List.nil_append] at this
        rw [List.map_cons, List.flatten_cons, List.append_assoc, ← this, List.append_assoc]; rfl
    · rw [splitA_miss cur l hb] at h
      have := ih _ _ _ h
      rw [← this, List.append_assoc]; rfl
/- What is put into an act. -/
def putA (a : ActD) (c : UInt8) (r : ActD) : ActD := if c = 112 then { r with path := a.path } else if c = 111 then { r with other := a.other } else if c = 110 then { r with n := a.n } else if c = 109 then { r with m := a.m } else { r with data := a.data }
theorem set_fw {a : ActD} (hn : I64 a.n) (hm : I64 a.m) {c : UInt8} (hc : KindP c) (r : ActD) : setA c (fwA a c) r = some (putA a c r) := by
  rcases hc with rfl | rfl | rfl | rfl | rfl
  · show (wordOf (wordL a.path)).map _ = _; rw [wordOf_wordL]; rfl
  · show (wordOf (wordL a.other)).map _ = _; rw [wordOf_wordL]; rfl
  · show (numL (Lib.itoa a.n)).map _ = _; rw [numL_itoa hn]; rfl
  · show (numL (Lib.itoa a.m)).map _ = _; rw [numL_itoa hm]; rfl
  · show (wordOf (wordL a.data)).map _ = _; rw [wordOf_wordL]; rfl
theorem read_fw {a : ActD} (hn : I64 a.n) (hm : I64 a.m) : ∀ (l : List UInt8) (r : ActD), (∀ c ∈ l, KindP c) → readA l (l.map (fwA a)) (some r) = some (l.foldl (fun r c => putA a c r) r) := by
  intro l
  induction l with
  | nil => intro r _; rfl
  | cons c l ih =>
    intro r h
    rw [List.map_cons, readA_cons, Option.bind_some, set_fw hn hm (h c List.mem_cons_self), ih _ (fun x hx => h x (List.mem_cons_of_mem _ hx)), List.foldl_cons]
/-- The fields of what was put, and of what was struck. -/
theorem put_fields (a : ActD) : ∀ (l : List UInt8) (r : ActD), (∀ c ∈ l, KindP c) → (l.foldl (fun r c => putA a c r) r) = ⟨r.verb, if 112 ∈ l then a.path else r.path, if 111 ∈ l then a.other else r.other, if 110 ∈ l then a.n else r.n, if 109 ∈ l then a.m else r.m, if 100 ∈ l then a.data else r.data⟩ := by
  intro l
  induction l with
  | nil => intro r _; simp
  | cons c l ih =>
    intro r h
    rw [List.foldl_cons, ih _ (fun x hx => h x (List.mem_cons_of_mem _ hx))]
    rcases h c List.mem_cons_self with rfl | rfl | rfl | rfl | rfl <;> simp [putA, List.mem_cons]
theorem clr_fields : ∀ (l : List UInt8) (r : ActD), (∀ c ∈ l, KindP c) → (l.foldl (fun r c => clrA c r) r) = ⟨r.verb, if 112 ∈ l then [] else r.path, if 111 ∈ l then [] else r.other, if 110 ∈ l then 0 else r.n, if 109 ∈ l then 0 else r.m, if 100 ∈ l then [] else r.data⟩ := by
  intro l
  induction l with
  | nil => intro r _; simp
  | cons c l ih =>
    intro r h
    rw [List.foldl_cons, ih _ (fun x hx => h x (List.mem_cons_of_mem _ hx))]
    rcases h c List.mem_cons_self with rfl | rfl | rfl | rfl | rfl <;> simp [clrA, List.mem_cons]
end
end Go.Proofs.YtknchhnibjfocaaDoor.Abs
namespace Go.Proofs.YtknchhnibjfocaaDoor.Abs
open Go Go.Proofs
noncomputable section
variable {call : Abs.Callee}
set_option maxRecDepth 100000
theorem lineA_some {a : ActD} {s : List UInt8} (h : lineA a = some s) : ∃ P, partsOf a.verb = some P ∧ isZ (P.foldl (fun r c => clrA c r) a) = true ∧ s = spaced a.verb (P.map (fwA a)) := by
  unfold lineA at h
  cases hp : partsOf a.verb with
  | none => rw [hp] at h; cases h
  | some P =>
    rw [hp] at h
    simp only at h
    split at h
    · rename_i hz; cases h; exact ⟨P, rfl, hz, rfl⟩
    · cases h
theorem isZ_iff {a : ActD} : isZ a = true ↔ a.path = [] ∧ a.other = [] ∧ a.n = 0 ∧ a.m = 0 ∧ a.data = [] := by
  unfold isZ
  simp only [Bool.and_eq_true, beq_iff_eq]
theorem ite_or {α : Type} {p : Prop} [Decidable p] {x z : α} (h : (if p then z else x) = z) : (if p then x else z) = x := by
  split
  · rfl
  · rename_i hn; rw [if_neg hn] at h; exact h.symm
theorem act_line {a : ActD} {s : List UInt8} (hn : I64 a.n) (hm : I64 a.m) (h : lineA a = some s) : actA s = some a := by
  obtain ⟨P, hp, hz, rfl⟩ := lineA_some h
  obtain ⟨hg, _⟩ := parts_good hp
  obtain ⟨hP, hnd, hk⟩ := goodP_iff hg
  unfold actA
  rw [split_spaced _ _ (fun b hb => (verb_shows hp b hb).ne.1) (fun x hx b hb => by rw [List.mem_map] at hx; obtain ⟨c, _, rfl⟩ := hx; exact (fwA_shows a c b hb).ne.1)]
  show actR a.verb (P.map (fwA a)) = some a
  unfold actR
  rw [hp]
  simp only [List.length_map, if_true]
  rw [read_fw hn hm P _ hk, put_fields a P _ hk]
  rw [clr_fields P a hk, isZ_iff] at hz
  obtain ⟨z1, z2, z3, z4, z5⟩ := hz
  obtain ⟨v, p, o, n, m, d⟩ := a
  simp only [zeroA] at z1 z2 z3 z4 z5 ⊢
  rw [ite_or z1, ite_or z2, ite_or z3, ite_or z4, ite_or z5]
theorem set_inv {c : UInt8} (hc : KindP c) {w : List UInt8} {r r' : ActD} (h : setA c w r = some r') : fwA r' c = w ∧ r' = putA r' c r := by
  rcases hc with rfl | rfl | rfl | rfl | rfl
  · obtain ⟨s, h1, rfl⟩ := Option.map_eq_some_iff.1 (show (wordOf w).map (fun s => { r with path := s }) = some r' from h)
    exact ⟨wordL_wordOf h1, rfl⟩
  · obtain ⟨s, h1, rfl⟩ := Option.map_eq_some_iff.1 (show (wordOf w).map (fun s => { r with other := s }) = some r' from h)
    exact ⟨wordL_wordOf h1, rfl⟩
  · obtain ⟨s, h1, rfl⟩ := Option.map_eq_some_iff.1 (show (numL w).map (fun s => { r with n := s }) = some r' from h)
    exact ⟨(numL_some h1).2, rfl⟩
  · obtain ⟨s, h1, rfl⟩ := Option.map_eq_some_iff.1 (show (numL w).map (fun s => { r with m := s }) = some r' from h)
    exact ⟨(numL_some h1).2, rfl⟩
  · obtain ⟨s, h1, rfl⟩ := Option.map_eq_some_iff.1 (show (wordOf w).map (fun s => { r with data := s }) = some r' from h)
    exact ⟨wordL_wordOf h1, rfl⟩
theorem fw_put {a r : ActD} {c c' : UInt8} (hc : KindP c) (hc' : KindP c') (hne : c' ≠ c) : fwA (putA a c r) c' = fwA r c' := by
  rcases hc with rfl | rfl | rfl | rfl | rfl <;> rcases hc' with rfl | rfl | rfl | rfl | rfl <;> first | exact absurd rfl hne | rfl
theorem putA_self {a b r : ActD} {c : UInt8} (hc : KindP c) (h : fwA a c = fwA a c) : True := trivial
theorem readA_inv : ∀ (l : List UInt8) (ws : List (List UInt8)) (r r' : ActD), ws.length = l.length → (∀ c ∈ l, KindP c) → l.Nodup → readA l ws (some r) = some r' → l.map (fwA r') = ws ∧ r' = l.foldl (fun x c => putA r' c x) r ∧ (∀ c, KindP c → c ∉ l → fwA r' c = fwA r c) := by
  intro l
  induction l with
  | nil =>
    intro ws r r' hl _ _ h
    have : ws = [] := List.length_eq_zero_iff.1 hl
    subst this
    cases h
    exact ⟨rfl, rfl, fun _ _ _ => rfl⟩
  | cons c l ih =>
    intro ws r r' hl hk hnd h
    cases ws with
    | nil => simp at hl
    | cons w ws =>
      rw [readA_cons, Option.bind_some] at h
      cases hs : setA c w r with
      | none => rw [hs, readA_none] at h; cases h
      | some r1 =>
        rw [hs] at h
        obtain ⟨hnc, hnl⟩ := List.nodup_cons.1 hnd
        have hkc := hk c List.mem_cons_self
        obtain ⟨i1, i2, i3⟩ := ih ws r1 r' (by simpa using hl) (fun x hx => hk x (List.mem_cons_of_mem _ hx)) hnl h
        obtain ⟨s1, s2⟩ := set_inv hkc hs
        have e1 : fwA r' c = w := by rw [i3 c hkc hnc]; exact s1
        have e2 : putA r' c r = r1 := by
          have hk' : ∀ x ∈ l, KindP x := fun x hx => hk x (List.mem_cons_of_mem _ hx)
          have hf := put_fields r' l r1 hk'
          rw [← i2] at hf
          rw [s2]
          rcases hkc with rfl | rfl | rfl | rfl | rfl
          · have := congrArg ActD.path hf; simp only [if_neg hnc] at this; show { r with path := r'.path } = { r with path := r1.path }; rw [this]
          · have := congrArg ActD.other hf; simp only [if_neg hnc] at this; show { r with other := r'.other } = { r with other := r1.other }; rw [this]
          · have := congrArg ActD.n hf; simp only [if_neg hnc] at this; show { r with n := r'.n } = { r with n := r1.n }; rw [this]
          · have := congrArg ActD.m hf; simp only [if_neg hnc] at this; show { r with m := r'.m } = { r with m := r1.m }; rw [this]
          · have := congrArg ActD.data hf; simp only [if_neg hnc] at this; show { r with data := r'.data } = { r with data := r1.data }; rw [this]
        refine ⟨by rw [List.map_cons, e1, i1], by rw [List.foldl_cons, e2]; exact i2, ?_⟩
        intro c' hc' hn'
        rw [List.mem_cons, not_or] at hn'
        rw [i3 c' hc' hn'.2, s2, fw_put hkc hc' hn'.1]
theorem actA_some {w : List UInt8} {a : ActD} (h : actA w = some a) : ∃ w0 ws P, splitA 32 [] w = w0 :: ws ∧ partsOf w0 = some P ∧ ws.length = P.length ∧ readA P ws (some { zeroA with verb := w0 }) = some a := by
  unfold actA at h
  cases hs : splitA 32 [] w with
  | nil => rw [hs] at h; cases h
  | cons w0 ws =>
    rw [hs] at h
    simp only at h
    unfold actR at h
    cases hp : partsOf w0 with
    | none => rw [hp] at h; cases h
    | some P =>
      rw [hp] at h
      simp only at h
      split at h
      · rename_i hl; exact ⟨w0, ws, P, rfl, hp, hl, h⟩
      · cases h
theorem ite_self2 {α : Type} {p : Prop} [Decidable p] {x y z : α} (h : x = if p then y else z) : (if p then z else x) = z := by
  split
  · rfl
  · rename_i hn; rw [if_neg hn] at h; exact h
theorem line_act {w : List UInt8} {a : ActD} (h : actA w = some a) : lineA a = some w := by
  obtain ⟨w0, ws, P, hs, hp, hl, hr⟩ := actA_some h
  obtain ⟨hg, _⟩ := parts_good hp
  obtain ⟨hP, hnd, hk⟩ := goodP_iff hg
  obtain ⟨i1, i2, i3⟩ := readA_inv P ws _ a hl hk hnd hr
  have hf := put_fields a P { zeroA with verb := w0 } hk
  rw [← i2] at hf
  have hv : a.verb = w0 := congrArg ActD.verb hf
  have h1 := congrArg ActD.path hf
  have h2 := congrArg ActD.other hf
  have h3 := congrArg ActD.n hf
  have h4 := congrArg ActD.m hf
  have h5 := congrArg ActD.data hf
  simp only [zeroA] at h1 h2 h3 h4 h5
  unfold lineA
  rw [hv, hp]
  simp only
  have hz : isZ (P.foldl (fun r c => clrA c r) a) = true := by
    rw [clr_fields P a hk, isZ_iff]
    exact ⟨ite_self2 h1, ite_self2 h2, ite_self2 h3, ite_self2 h4, ite_self2 h5⟩
  rw [hz, if_pos rfl, i1]
  have := join_split 32 w [] w0 ws hs
  rw [List.nil_append] at this
  rw [this]; rfl
end
end Go.Proofs.YtknchhnibjfocaaDoor.Abs
namespace Go.Proofs.YtknchhnibjfocaaDoor.Abs
open Go Go.Proofs
noncomputable section
variable {call : Abs.Callee}
set_option maxRecDepth 100000
theorem wordOf_len {w s : List UInt8} (h : wordOf w = some s) : s.length ≤ w.length := by
  unfold wordOf at h
  split at h
  · cases h
    unfold textL
    split
    · simp
    · cases ht : textT w with
      | none => simp
      | some o => exact textT_len w.length w o (Nat.le_refl _) ht
  · cases h
theorem set_small {M : Nat} {c : UInt8} (hc : KindP c) {w : List UInt8} {r r' : ActD} (hw : w.length ≤ M) (hr : SmallA M r) (h : setA c w r = some r') : SmallA M r' := by
  obtain ⟨k1, k2, k3, k4, k5, k6⟩ := hr
  rcases hc with rfl | rfl | rfl | rfl | rfl
  · obtain ⟨s, h1, rfl⟩ := Option.map_eq_some_iff.1 (show (wordOf w).map (fun s => { r with path := s }) = some r' from h)
    exact ⟨k1, Nat.le_trans (wordOf_len h1) hw, k3, k4, k5, k6⟩
  · obtain ⟨s, h1, rfl⟩ := Option.map_eq_some_iff.1 (show (wordOf w).map (fun s => { r with other := s }) = some r' from h)
    exact ⟨k1, k2, Nat.le_trans (wordOf_len h1) hw, k4, k5, k6⟩
  · obtain ⟨s, h1, rfl⟩ := Option.map_eq_some_iff.1 (show (numL w).map (fun s => { r with n := s }) = some r' from h)
    exact ⟨k1, k2, k3, (numL_some h1).1, k5, k6⟩
  · obtain ⟨s, h1, rfl⟩ := Option.map_eq_some_iff.1 (show (numL w).map (fun s => { r with m := s }) = some r' from h)
    exact ⟨k1, k2, k3, k4, (numL_some h1).1, k6⟩
  · obtain ⟨s, h1, rfl⟩ := Option.map_eq_some_iff.1 (show (wordOf w).map (fun s => { r with data := s }) = some r' from h)
    exact ⟨k1, k2, k3, k4, k5, Nat.le_trans (wordOf_len h1) hw⟩
theorem readA_small {M : Nat} : ∀ (l : List UInt8) (ws : List (List UInt8)) (r r' : ActD), (∀ c ∈ l, KindP c) → (∀ w ∈ ws, w.length ≤ M) → SmallA M r → readA l ws (some r) = some r' → SmallA M r' := by
  intro l
  induction l with
  | nil => intro ws r r' _ _ hr h; rw [readA_nil] at h; cases h; exact hr
  | cons c l ih =>
    intro ws r r' hk hw hr h
    cases ws with
    | nil => cases h; exact hr
    | cons w ws =>
      rw [readA_cons, Option.bind_some] at h
      cases hs : setA c w r with
      | none => rw [hs, readA_none] at h; cases h
      | some r1 =>
        rw [hs] at h
        exact ih ws r1 r' (fun x hx => hk x (List.mem_cons_of_mem _ hx)) (fun x hx => hw x (List.mem_cons_of_mem _ hx)) (set_small (hk c List.mem_cons_self) (hw w List.mem_cons_self) hr hs) h
theorem act_small {M : Nat} {w : List UInt8} {a : ActD} (hw : w.length ≤ M) (h : actA w = some a) : SmallA M a := by
  obtain ⟨w0, ws, P, hs, hp, hl, hr⟩ := actA_some h
  obtain ⟨hg, _⟩ := parts_good hp
  obtain ⟨hP, hnd, hk⟩ := goodP_iff hg
  have hm : ∀ x ∈ w0 :: ws, x.length ≤ M := fun x hx => Nat.le_trans (splitA_mem 32 w [] x (by rw [hs]; exact hx)) (by simpa using hw)
  refine readA_small P ws _ a hk (fun x hx => hm x (List.mem_cons_of_mem _ hx)) ?_ hr
  exact ⟨hm w0 List.mem_cons_self, Nat.zero_le _, Nat.zero_le _, (show I64 0 from by unfold I64; omega), (show I64 0 from by unfold I64; omega), Nat.zero_le _⟩
theorem line_shows {a : ActD} {s : List UInt8} (h : lineA a = some s) : ∀ b ∈ s, b = 32 ∨ Shows b := by
  obtain ⟨P, hp, hz, rfl⟩ := lineA_some h
  intro b hb
  unfold spaced at hb
  rw [List.mem_append] at hb
  rcases hb with hb | hb
  · exact .inr (verb_shows hp b hb)
  · rw [List.mem_flatten] at hb
    obtain ⟨x, hx, hbx⟩ := hb
    rw [List.mem_map] at hx
    obtain ⟨y, hy, rfl⟩ := hx
    rw [List.mem_map] at hy
    obtain ⟨c, _, rfl⟩ := hy
    rw [List.mem_cons] at hbx
    rcases hbx with rfl | hbx
    · exact .inl rfl
    · exact .inr (fwA_shows a c b hbx)
theorem line_no10 {a : ActD} {s : List UInt8} (h : lineA a = some s) : ∀ b ∈ s, b ≠ 10 := by
  intro b hb
  rcases line_shows h b hb with rfl | q
  · decide
  · exact q.ne.2
theorem read_lines : ∀ (L : List ActD) (acc t : List UInt8), (∀ a ∈ L, I64 a.n ∧ I64 a.m) → linesL L acc = some t → ∃ ls : List (List UInt8), t = acc ++ (ls.map (· ++ [10])).flatten ∧ (∀ x ∈ ls, ∀ b ∈ x, b ≠ 10) ∧ ∀ A, readN ls A = .inl (A ++ L) := by
  intro L
  induction L with
  | nil =>
    intro acc t _ h
    cases h
    exact ⟨[], by simp, fun x hx => (by cases hx), fun A => by rw [List.append_nil]; rfl⟩
  | cons a L ih =>
    intro acc t hi h
    cases hl : lineA a with
    | none => rw [linesL_none hl] at h; cases h
    | some s =>
      rw [linesL_some hl] at h
      obtain ⟨ls, h1, h2, h3⟩ := ih _ _ (fun x hx => hi x (List.mem_cons_of_mem _ hx)) h
      refine ⟨s :: ls, by rw [h1]; simp, ?_, ?_⟩
      · intro x hx
        rw [List.mem_cons] at hx
        rcases hx with rfl | hx
        · exact line_no10 hl
        · exact h2 x hx
      · intro A
        obtain ⟨i1, i2⟩ := hi a List.mem_cons_self
        rw [readN_some (act_line i1 i2 hl), h3, List.append_assoc]; rfl
theorem split_lines : ∀ (ls : List (List UInt8)), (∀ x ∈ ls, ∀ b ∈ x, b ≠ 10) → splitA 10 [] (ls.map (· ++ [10])).flatten = ls ++ [[]] := by
  intro ls
  induction ls with
  | nil => intro _; rfl
  | cons x ls ih =>
    intro h
    rw [List.map_cons, List.flatten_cons, List.append_assoc, List.singleton_append, splitA_run 10 x [] _ (h x List.mem_cons_self), ih (fun y hy => h y (List.mem_cons_of_mem _ hy))]; rfl
theorem script_ok {L : List ActD} (h : (scriptL L).2 = 0) : ∃ t, linesL L [] = some t ∧ ¬ 65536 < t.length ∧ scriptL L = (t, 0) := by
  unfold scriptL at h ⊢
  cases hl : linesL L [] with
  | none => rw [hl] at h; simp at h
  | some t =>
    rw [hl] at h
    simp only at h ⊢
    split at h
    · simp at h
    · rename_i hb; exact ⟨t, rfl, hb, by rw [if_neg hb]⟩
theorem acts_of_script {L : List ActD} (hi : ∀ a ∈ L, I64 a.n ∧ I64 a.m) (h : (scriptL L).2 = 0) : actsL (scriptL L).1 = (L, 0, 0) := by
  obtain ⟨t, hl, hb, he⟩ := script_ok h
  rw [he]
  obtain ⟨ls, h1, h2, h3⟩ := read_lines L [] t hi hl
  rw [List.nil_append] at h1
  unfold actsL
  rw [if_neg hb, h1, split_lines ls h2, List.dropLast_concat, List.getLast?_concat, h3]
  simp
theorem lines_of_read : ∀ (ini : List (List UInt8)) (A l : List ActD), readN ini A = .inl l → ∃ l', l = A ++ l' ∧ (∀ x ∈ l', ∃ w ∈ ini, actA w = some x) ∧ ∀ acc, linesL l' acc = some (acc ++ (ini.map (· ++ [10])).flatten) := by
  intro ini
  induction ini with
  | nil =>
    intro A l h
    cases h
    exact ⟨[], by simp, fun x hx => (by cases hx), fun acc => by simp [linesL]⟩
  | cons w ini ih =>
    intro A l h
    cases ha : actA w with
    | none => rw [readN_none ha] at h; cases h
    | some a =>
      rw [readN_some ha] at h
      obtain ⟨l', h1, h2, h3⟩ := ih _ _ h
      refine ⟨a :: l', by rw [h1, List.append_assoc]; rfl, ?_, ?_⟩
      · intro x hx
        rw [List.mem_cons] at hx
        rcases hx with rfl | hx
        · exact ⟨w, List.mem_cons_self, ha⟩
        · obtain ⟨u, hu, q⟩ := h2 x hx
          exact ⟨u, List.mem_cons_of_mem _ hu, q⟩
      · intro acc
        rw [linesL_some (line_act ha), h3]
        simp
theorem acts_cases (s : List UInt8) : ((actsL s).2.2 ≠ 0 ∧ (actsL s).1 = []) ∨ ((actsL s).2.2 = 0 ∧ (actsL s).2.1 = 0 ∧ scriptL (actsL s).1 = (s, 0) ∧ ∀ x ∈ (actsL s).1, SmallA s.length x) := by
  by_cases hb : 65536 < s.length
  · have : actsL s = ([], 0, 11) := by unfold actsL; rw [if_pos hb]
    rw [this]; exact .inl ⟨by decide, rfl⟩
  · obtain ⟨ini, la, e⟩ := concat_of (splitA 10 [] s) (splitA_ne 10 s [])
    have hR : actsL s = match readN ini [] with
        | .inr k => ([], k, 14)
        | .inl l => if la = [] then (l, 0, 0) else ([], l.length + 1, 14) := by
      unfold actsL
      rw [if_neg hb, e, List.dropLast_concat, List.getLast?_concat]
      rfl
    rw [hR]
    cases hr : readN ini [] with
    | inr k => exact .inl ⟨by simp, rfl⟩
    | inl l =>
      simp only
      by_cases hla : la = []
      · rw [if_pos hla]
        obtain ⟨l', h1, h2, h3⟩ := lines_of_read ini [] l hr
        rw [List.nil_append] at h1
        subst h1
        have hs := lines_split s [] la ini e
        rw [List.nil_append, hla, List.append_nil] at hs
        refine .inr ⟨rfl, rfl, ?_, ?_⟩
        · unfold scriptL
          rw [h3 [], List.nil_append, ← hs]
          simp only
          rw [if_neg hb]
        · intro x hx
          obtain ⟨w, hw, ha⟩ := h2 x hx
          exact act_small (Nat.le_trans (splitA_mem 10 s [] w (by rw [e]; exact List.mem_append_left _ hw)) (by simp)) ha
      · rw [if_neg hla]; exact .inl ⟨by simp, rfl⟩
end
end Go.Proofs.YtknchhnibjfocaaDoor.Abs
namespace Go.Proofs.YtknchhnibjfocaaDoor.Abs
open Go Go.Proofs
noncomputable section
variable {call : Abs.Callee}
set_option maxRecDepth 10000

theorem ft11 : T0.ft.get 11 = some Tryd.f11 := by kernel_rfl
theorem ft3 : T0.ft.get 3 = some Tryd.f3 := by kernel_rfl
theorem ft4 : T0.ft.get 4 = some Tryd.f4 := by kernel_rfl
theorem ft6 : T0.ft.get 6 = some Tryd.f6 := by kernel_rfl
theorem ft7 : T0.ft.get 7 = some Tryd.f7 := by kernel_rfl
theorem ft8 : T0.ft.get 8 = some Tryd.f8 := by kernel_rfl
theorem ft5 : T0.ft.get 5 = some Tryd.f5 := by kernel_rfl
abbrev awD : ActD := ⟨[119, 114, 105, 116, 101], [47, 97, 32, 98], [], -3, 0, [0]⟩
abbrev awL : List UInt8 := [119, 114, 105, 116, 101, 32, 47, 97, 37, 50, 48, 98, 32, 45, 51, 32, 37, 48, 48]
theorem aw_line : lineA awD = some awL := by
  have hp : partsOf awD.verb = some [112, 110, 100] := by decide
  have h1 : fwA awD 112 = [47, 97, 37, 50, 48, 98] := by decide
  have h2 : fwA awD 110 = [45, 51] := by
    show Lib.itoa (-3) = _
    unfold Lib.itoa
    rw [if_pos (by omega)]
    show 45 :: Lib.decDigits 3 = _
    rw [dec_small (by omega)]; rfl
  have h3 : fwA awD 100 = [37, 48, 48] := by decide
  unfold lineA
  rw [hp]
  simp only [List.map_cons, List.map_nil, h1, h2, h3]
  decide
theorem aw_act : actA awL = some awD := act_line (by unfold I64; decide) (by unfold I64; decide) aw_line
abbrev AwC (call : Abs.Callee) : Prop := ∀ h : AH, Glob h → 4 ≤ h.next → ∃ h', call 11 [] h = some (.bool true, h') ∧ Grow h.next h h'
abbrev SameC (call : Abs.Callee) : Prop := ∀ (a b : ActD) (d e : Value) (h : AH), Row h.next h d (byteVals a.data) 5 → Row h.next h e (byteVals b.data) 5 → ∃ h', call 14 [actV a d, actV b e] h = some (.bool (sameA a b), h') ∧ Grow h.next h h'
abbrev ScriptC (call : Abs.Callee) (f M : Nat) : Prop := ∀ (v : Value) (L : AL) (h : AH), L.length ≤ M → (∀ x ∈ L, SmallA M x.1) → ListI h.next h v L → ∃ h', call f [v] h = some (.tuple #[sv (scriptL (L.map (·.1))).1, iv (scriptL (L.map (·.1))).2], h') ∧ Grow h.next h h'
theorem build_aw {d : Value} {h : AH} (hd : d = .slice (some ⟨h.next, 0, none⟩) 1 1) {h1 : AH} : evBuild T0 24 [(0, sv [119, 114, 105, 116, 101]), (1, sv [47, 97, 32, 98]), (3, iv (-3)), (5, d)] h1 = some (actV awD d, h1) := by
  subst hd
  kernel_rfl
theorem awake_S (M : Nat) (hM : 100 ≤ M) (hLn : LineC call 9 M) (hA : ActC call 12 M) (h : AH) (hg : Glob h) (h4 : 4 ≤ h.next) : ∃ h', frameB T0 X0 call 3000 11 [] h = some (.bool true, h') ∧ Grow h.next h h' := by
  generalize hh1 : h.new (.cells (PM.ofList [bv 0]) 1 5 0 0 .ex) = h1
  have n1 : h1.next = h.next + 1 := by rw [← hh1]; rfl
  have g1 : Grow h.next h h1 := by rw [← hh1]; exact Grow.new _ _
  have hbs : evBuildSlice T0 22 1 [(0, .int .u8 0)] h = some (.slice (some ⟨h.next, 0, none⟩) 1 1, h1) := by rw [← hh1]; exact bs_u8 (x := 0)
  have hrow : Row h1.next h1 (.slice (some ⟨h.next, 0, none⟩) 1 1) (byteVals awD.data) 5 := by
    rw [n1, ← hh1]
    exact .inr ⟨h.next, 0, 1, _, 1, 0, 0, .ex, 5, by rw [byteVals_len]; rfl, Nat.lt_succ_self _, get_new_same _ _, by rw [byteVals_len]; decide, fun i x hi => by rw [Nat.zero_add, PM.get_ofList]; exact hi⟩
  have hbd := build_aw (h := h) (h1 := h1) rfl
  generalize (Value.slice (some ⟨h.next, 0, none⟩) 1 1) = d at hbs hrow hbd
  have hgl1 := hg.grow g1 h4
  have hsm : SmallA M awD := ⟨by simp; omega, by simp; omega, by simp, by unfold I64; decide, by unfold I64; decide, by simp; omega⟩
  obtain ⟨h2, c1, g2⟩ := hLn awD d h1 hrow hgl1 (by omega) hsm
  rw [aw_line] at c1
  simp only [Option.getD_some, Option.isSome_some, if_true] at c1
  have g12 : Grow h.next h h2 := g1.trans g2 (by omega)
  obtain ⟨d2, h3, c2, g3, da⟩ := hA awL h2 (by simp; omega) (hg.grow g12 h4) (by have := g12.next; omega)
  rw [aw_act] at c2 da
  simp only [Option.getD_some, Option.isSome_some, if_true] at c2 da
  have n2 := g12.next
  generalize hh4 : h3.new (.cells (PM.ofList (cellsA zeroA nilV)) 6 24 0 0 .ex) = h4'
  have g4 : Grow h3.next h3 h4' := by rw [← hh4]; exact Grow.new _ _
  have hal : evAlloc T0 24 h3 = some (ptr h3.next, h4') := by rw [← hh4]; exact alloc_A
  have b4 : BoxL h4' h3.next 24 (cellsA zeroA nilV) := by rw [← hh4]; exact BoxL.new h3 _ _
  obtain ⟨h5, s1, s2, s3, s4, _⟩ := b4.storeA (n := h3.next) (a := awD) (d := d2) (cellsA_len _ _) da.row.one.1 (Nat.le_refl _)
  obtain ⟨f0, f1, f2, f3, f4, f5⟩ := field_A (b := h3.next)
  obtain ⟨m0, m1, m2, m3, m4, m5⟩ := load_A s2
  have n3 := g3.next
  refine ⟨h5, ?_, ((g12.trans (g3.less n2) (Nat.le_refl _)).trans (g4.less (by omega)) (Nat.le_refl _)).trans (s3.less (by omega)) (Nat.le_refl _)⟩
  rw [frameB_eq ft11 rfl rfl]
  simp only [Tryd.f11, symM, opFn, Nat.reduceLT, Nat.reduceBEq, hbs, hbd, evCall_fn ft9 rfl, c1, evCall_fn ft12 rfl, c2, hal, s1, bin_eql, bin_seql, f1, f3, m1, m3, show ((0 : Int) == 0) = true from rfl, show (awL == awL) = true from by decide, show ((-3 : Int) == -3) = true from rfl]
  exact retB_one ft11 rfl (by simp only [symM]; rfl)
theorem ActLines_S (M : Nat) (hLn : LineC call 9 M) (hRL : LineC call 10 M) (hAw : AwC call) (a : ActD) (d : Value) (h : AH) (hr : Row h.next h d (byteVals a.data) 5) (hg : Glob h) (h4 : 4 ≤ h.next) (ha : SmallA M a) :
    ∃ h', frameB T0 X0 call 3000 3 [actV a d] h = some (.bool true, h') := by
  generalize hh1 : h.new (.cells (PM.ofList (cellsA a d)) 6 24 0 0 .ex) = h1
  have hbox : rp (some (evNewVar h 24 (actV a d))) = some (.value (ptr h.next), h1) := by rw [box_A, hh1]
  have bx1 : BoxL h1 h.next 24 (cellsA a d) := by rw [← hh1]; exact BoxL.new h _ (cellsA a d)
  have n1 : h1.next = h.next + 1 := by rw [← hh1]; rfl
  have g1 : Grow h.next h h1 := by rw [← hh1]; exact Grow.new _ _
  have lw1 := loadW_A bx1
  obtain ⟨h2, c1, g2⟩ := hLn a d h1 ((hr.grow g1 (Nat.le_refl _)).wide (by omega)) (hg.grow g1 h4) (by omega) ha
  have n2 := g2.next
  have lw2 := loadW_A (bx1.grow g2 (by omega))
  have g12 : Grow h.next h h2 := g1.trans g2 (by omega)
  obtain ⟨h3, c2, g3⟩ := hRL a d h2 ((hr.grow g12 (Nat.le_refl _)).wide (by omega)) (hg.grow g12 h4) (by omega) ha
  have n3 := g3.next
  have g13 : Grow h.next h h3 := g12.trans g3 (by omega)
  obtain ⟨h4', c3, g4⟩ := hAw h3 (hg.grow g13 h4) (by omega)
  refine ⟨h4', ?_⟩
  rw [frameB_eq ft3 rfl rfl]
  have e1 : ∀ x : Int, (x == x) = true := fun x => by simp
  have e2 : ∀ x : List UInt8, (x == x) = true := fun x => by simp
  simp only [Tryd.f3, symM, opFn, Nat.reduceLT, Nat.reduceBEq, hbox, lw1, lw2, evCall_fn ft9 rfl, c1, evCall_fn ft10 rfl, c2, evCall_fn ft11 rfl, c3, bin_eql, bin_seql, e1, e2]
  exact retB_one ft3 rfl get_same
theorem ActReads_S (M : Nat) (hA : ActC call 12 M) (hRA : ActC call 13 M) (hAw : AwC call) (hSa : SameC call) (s : List UInt8) (h : AH) (hs : s.length ≤ M) (hg : Glob h) (h4 : 4 ≤ h.next) :
    ∃ h', frameB T0 X0 call 3000 4 [sv s] h = some (.bool true, h') := by
  obtain ⟨d1, h1, c1, g1, da⟩ := hA s h hs hg h4
  have n1 := g1.next
  generalize hh2 : h1.new (.cells (PM.ofList (cellsA zeroA nilV)) 6 24 0 0 .ex) = h2
  have n2 : h2.next = h1.next + 1 := by rw [← hh2]; rfl
  have g2 : Grow h1.next h1 h2 := by rw [← hh2]; exact Grow.new _ _
  have hal : evAlloc T0 24 h1 = some (ptr h1.next, h2) := by rw [← hh2]; exact alloc_A
  have b2 : BoxL h2 h1.next 24 (cellsA zeroA nilV) := by rw [← hh2]; exact BoxL.new h1 _ _
  obtain ⟨h3, s1, s2, s3, s4, _⟩ := b2.storeA (n := h1.next) (a := (actA s).getD zeroA) (d := d1) (cellsA_len _ _) da.row.one.1 (Nat.le_refl _)
  have g13 : Grow h1.next h1 h3 := g2.trans s3 (Nat.le_refl _)
  have g03 : Grow h.next h h3 := g1.trans (g13.less n1) (Nat.le_refl _)
  have da3 := da.grow g13
  obtain ⟨d2, h5, c2, g5, db⟩ := hRA s h3 hs (hg.grow g03 h4) (by have := g03.next; omega)
  have n5 := g5.next
  generalize hh6 : h5.new (.cells (PM.ofList (cellsA zeroA nilV)) 6 24 0 0 .ex) = h6
  have n6 : h6.next = h5.next + 1 := by rw [← hh6]; rfl
  have g6 : Grow h5.next h5 h6 := by rw [← hh6]; exact Grow.new _ _
  have hal2 : evAlloc T0 24 h5 = some (ptr h5.next, h6) := by rw [← hh6]; exact alloc_A
  have b6 : BoxL h6 h5.next 24 (cellsA zeroA nilV) := by rw [← hh6]; exact BoxL.new h5 _ _
  obtain ⟨h7, t1, t2, t3, t4, _⟩ := b6.storeA (n := h5.next) (a := (actA s).getD zeroA) (d := d2) (cellsA_len _ _) db.row.one.1 (Nat.le_refl _)
  have g57 : Grow h5.next h5 h7 := g6.trans t3 (Nat.le_refl _)
  have g37 : Grow h3.next h3 h7 := g5.trans (g57.less n5) (Nat.le_refl _)
  have n3 : h3.next = h1.next + 1 := by rw [s4, n2]
  have g07 : Grow h.next h h7 := g03.trans (g37.less (by omega)) (Nat.le_refl _)
  have s7 := s2.grow g37 (by omega)
  have da7 := da3.grow g37
  have db7 := db.grow g57
  obtain ⟨h8, c3, g8⟩ := hAw h7 (hg.grow g07 h4) (by have := g07.next; omega)
  have n7 : h7.next = h5.next + 1 := by rw [t4, n6]
  have lw1 := loadW_A (s7.grow g8 (by omega))
  have lw2 := loadW_A (t2.grow g8 (by omega))
  obtain ⟨h9, c4, g9⟩ := hSa _ _ d1 d2 h8 (da7.grow g8).row (db7.grow g8).row
  rw [sameA_refl] at c4
  refine ⟨h9, ?_⟩
  have e1 : ∀ x : Int, (x == x) = true := fun x => by simp
  rw [frameB_eq ft4 rfl rfl]
  simp only [Tryd.f4, symM, opFn, Nat.reduceLT, Nat.reduceBEq, evCall_fn ft12 rfl, c1, hal, s1, evCall_fn ft13 rfl, c2, hal2, t1, evCall_fn ft11 rfl, c3, bin_eql, e1, lw1, lw2, evCall_fn ft14 rfl, c4]
  exact retB_one ft4 rfl get_same
theorem ActScripts_S (M : Nat) (hSc : ScriptC call 15 M) (hRS : ScriptC call 16 M) (hAw : AwC call) (v : Value) (L : AL) (h : AH) (hL : L.length ≤ M) (hsm : ∀ x ∈ L, SmallA M x.1) (x : ListI h.next h v L) :
    ∃ h', frameB T0 X0 call 3000 6 [v] h = some (.bool true, h') := by
  obtain ⟨h1, c1, g1⟩ := hSc v L h hL hsm x
  have x1 := x.grow g1
  obtain ⟨h2, c2, g2⟩ := hRS v L h1 hL hsm ⟨by have := x.n4; have := g1.next; omega, Nat.le_refl _, x1.gl, x1.row.wide g1.next, x1.dat.wide g1.next⟩
  have x2 := x1.grow (g2.less g1.next)
  obtain ⟨h3, c3, g3⟩ := hAw h2 x2.gl (Nat.le_trans x2.n4 x2.nn)
  refine ⟨h3, ?_⟩
  have e1 : ∀ x : Int, (x == x) = true := fun x => by simp
  have e2 : ∀ x : List UInt8, (x == x) = true := fun x => by simp
  rw [frameB_eq ft6 rfl rfl]
  simp only [Tryd.f6, symM, opFn, Nat.reduceLT, Nat.reduceBEq, evCall_fn ft15 rfl, c1, evCall_fn ft16 rfl, c2, evCall_fn ft11 rfl, c3, bin_eql, bin_seql, e1, e2]
  exact retB_one ft6 rfl get_same
end
end Go.Proofs.YtknchhnibjfocaaDoor.Abs
namespace Go.Proofs.YtknchhnibjfocaaDoor.Abs
open Go Go.Proofs
noncomputable section
variable {call : Abs.Callee}
set_option maxRecDepth 10000
theorem map_at {La Lb : AL} (e : La.map (·.1) = Lb.map (·.1)) {i : Nat} {x : ActD × Value} (hx : La[i]? = some x) : ∃ y, Lb[i]? = some y ∧ y.1 = x.1 := by
  have := congrArg (fun l => l[i]?) e
  simp only [List.getElem?_map, hx, Option.map_some] at this
  cases hy : Lb[i]? with
  | none => rw [hy] at this; cases this
  | some y => rw [hy] at this; exact ⟨y, rfl, by simpa using this.symm⟩

noncomputable def bodyTx : Code := part Tryd.f7 [1, 1, 1, 1, 0, 1, 0, 0]
abbrev ETx : Env := ⟨7, 57, none⟩
theorem plan_Tx : planB (regOps Tryd.f7 [1, 1, 1, 1, 0, 1, 0, 0, 1, 0, 0, 0]) 57 = some ([.one 0, .one 1, .one 2, .one 3, .one 4, .one 5, .one 6, .one 7, .eff [] 8 [], .one 9], []) := by kernel_rfl
theorem sameTx (hSa : SameC call) (n : Nat) (va vb : Value) (La Lb : AL) (hL : La.length < 10000000000) (hm : La.map (·.1) = Lb.map (·.1)) :
    ∀ (l : AL) (i : Nat) (tm : PM Value) (h : AH) (N : Nat), La.drop i = l → i + l.length = La.length → l.length + 60 ≤ N → tm.get 3 = some va → tm.get 6 = some vb → tm.get 9 = some (iv i) →
      n ≤ h.next → ActsR n h va La → DatsR n h La → ActsR n h vb Lb → DatsR n h Lb →
      ∃ tm' h', codeB T0 X0 call N ETx (.loop bodyTx) tm h [] = .jump (.exit 0) tm' h' [] ∧ (True) ∧ Grow n h h' := by
  intro l
  induction l with
  | nil =>
    intro i tm h N hd hi hN ga gb gi hn ra da rb db
    obtain ⟨N, rfl⟩ : ∃ a, N = a + 60 := ⟨N - 60, by omega⟩
    have hiL : i = La.length := by simpa using hi
    subst hiL
    have hlen := fun ty => ra.len (h' := h) ty
    apply Exists.intro; apply Exists.intro
    refine ⟨?_, trivial, Grow.refl _ _⟩
    · rw [codeB_loop]
      simp only [bodyTx, part, Tryd.f7, sub, symM, opFn, Nat.reduceLT, Nat.reduceBEq, ga, gi, hlen, bin_lss, decide_eq_false (show ¬ ((La.length : Nat) : Int) < (La.length : Nat) by omega)]
      rfl
  | cons z l ih =>
    intro i tm h N hd hi hN ga gb gi hn ra da rb db
    obtain ⟨N, rfl⟩ : ∃ a, N = a + 60 := ⟨N - 60, by omega⟩
    simp only [List.length_cons] at hi hN
    have hz := dropAt hd
    obtain ⟨y, hy, hyz⟩ := map_at hm hz
    have hnext : La.drop (i + 1) = l := by rw [← List.drop_drop, hd]; rfl
    have hlt : decide ((i : Int) < (La.length : Nat)) = true := decide_eq_true (by omega)
    have hw1 := wadd1 (a := i) (by omega)
    have hlen := fun ty => ra.len (h' := h) ty
    obtain ⟨q, e1, e2, _⟩ := ra.at hz
    obtain ⟨q2, e3, e4, _⟩ := rb.at hy
    obtain ⟨h1, c1, g1⟩ := hSa z.1 y.1 z.2 y.2 h ((da z (List.mem_of_getElem? hz)).wide hn) ((db y (List.mem_of_getElem? hy)).wide hn)
    rw [hyz, sameA_refl] at c1
    rw [hyz] at e4
    have gg : Grow n h h1 := g1.less hn
    have hpl := plan_Tx
    simp only [regOps, part, Tryd.f7, sub] at hpl
    rw [show N + 60 = (N + 59) + 1 from rfl, codeB_loop]
    simp only [bodyTx, part, Tryd.f7, sub, symM, opFn, Nat.reduceLT, Nat.reduceBEq, ga, gi, hlen, bin_lss, hlt, codeB_draw]
    rw [draw_plan hpl rfl]
    simp only [drawAll, opFn, Nat.reduceLT, Nat.reduceBEq, ga, gb, gi, e1, e2, e3, e4, evCall_fn ft14 rfl, c1, bin_add, hw1]
    exact wrapG gg (ih (i + 1) _ h1 (N + 59) hnext (by omega) (by omega) (by simp only [symM, Nat.reduceBEq, ga]) (by simp only [symM, Nat.reduceBEq, gb]) get_same (Nat.le_trans hn gg.next) (ra.grow gg (Nat.le_refl _)) (da.grow gg (Nat.le_refl _)) (rb.grow gg (Nat.le_refl _)) (db.grow gg (Nat.le_refl _)))

noncomputable def bodyBk : Code := part Tryd.f8 [1, 1, 0, 1, 0, 1, 1, 1, 0, 0]
abbrev EBk : Env := ⟨8, 87, none⟩
theorem plan_Bk : planB (regOps Tryd.f8 [1, 1, 0, 1, 0, 1, 1, 1, 0, 0, 1, 0, 0, 0]) 87 = some ([.one 0, .one 1, .one 2, .one 3, .one 4, .one 5, .one 6, .one 7, .eff [] 8 [], .one 9], []) := by kernel_rfl
theorem sameBk (hSa : SameC call) (n : Nat) (va vb : Value) (La Lb : AL) (hL : La.length < 10000000000) (hm : La.map (·.1) = Lb.map (·.1)) (k1 : Value) :
    ∀ (l : AL) (i : Nat) (tm : PM Value) (h : AH) (N : Nat), La.drop i = l → i + l.length = La.length → l.length + 60 ≤ N → tm.get 7 = some va → tm.get 0 = some vb → tm.get 10 = some (iv i) → tm.get 1 = some k1 →
      n ≤ h.next → ActsR n h va La → DatsR n h La → ActsR n h vb Lb → DatsR n h Lb →
      ∃ tm' h', codeB T0 X0 call N EBk (.loop bodyBk) tm h [] = .jump (.exit 0) tm' h' [] ∧ (tm'.get 1 = some k1) ∧ Grow n h h' := by
  intro l
  induction l with
  | nil =>
    intro i tm h N hd hi hN ga gb gi gk1 hn ra da rb db
    obtain ⟨N, rfl⟩ : ∃ a, N = a + 60 := ⟨N - 60, by omega⟩
    have hiL : i = La.length := by simpa using hi
    subst hiL
    have hlen := fun ty => ra.len (h' := h) ty
    apply Exists.intro; apply Exists.intro
    refine ⟨?_, ?_, Grow.refl _ _⟩
    · rw [codeB_loop]
      simp only [bodyBk, part, Tryd.f8, sub, symM, opFn, Nat.reduceLT, Nat.reduceBEq, ga, gi, hlen, bin_lss, decide_eq_false (show ¬ ((La.length : Nat) : Int) < (La.length : Nat) by omega)]
      rfl
    · simp only [symM, Nat.reduceBEq, gk1]
  | cons z l ih =>
    intro i tm h N hd hi hN ga gb gi gk1 hn ra da rb db
    obtain ⟨N, rfl⟩ : ∃ a, N = a + 60 := ⟨N - 60, by omega⟩
    simp only [List.length_cons] at hi hN
    have hz := dropAt hd
    obtain ⟨y, hy, hyz⟩ := map_at hm hz
    have hnext : La.drop (i + 1) = l := by rw [← List.drop_drop, hd]; rfl
    have hlt : decide ((i : Int) < (La.length : Nat)) = true := decide_eq_true (by omega)
    have hw1 := wadd1 (a := i) (by omega)
    have hlen := fun ty => ra.len (h' := h) ty
    obtain ⟨q, e1, e2, _⟩ := ra.at hz
    obtain ⟨q2, e3, e4, _⟩ := rb.at hy
    obtain ⟨h1, c1, g1⟩ := hSa z.1 y.1 z.2 y.2 h ((da z (List.mem_of_getElem? hz)).wide hn) ((db y (List.mem_of_getElem? hy)).wide hn)
    rw [hyz, sameA_refl] at c1
    rw [hyz] at e4
    have gg : Grow n h h1 := g1.less hn
    have hpl := plan_Bk
    simp only [regOps, part, Tryd.f8, sub] at hpl
    rw [show N + 60 = (N + 59) + 1 from rfl, codeB_loop]
    simp only [bodyBk, part, Tryd.f8, sub, symM, opFn, Nat.reduceLT, Nat.reduceBEq, ga, gi, hlen, bin_lss, hlt, codeB_draw]
    rw [draw_plan hpl rfl]
    simp only [drawAll, opFn, Nat.reduceLT, Nat.reduceBEq, ga, gb, gi, e1, e2, e3, e4, evCall_fn ft14 rfl, c1, bin_add, hw1]
    exact wrapG gg (ih (i + 1) _ h1 (N + 59) hnext (by omega) (by omega) (by simp only [symM, Nat.reduceBEq, ga]) (by simp only [symM, Nat.reduceBEq, gb]) get_same (by simp only [symM, Nat.reduceBEq, gk1]) (Nat.le_trans hn gg.next) (ra.grow gg (Nat.le_refl _)) (da.grow gg (Nat.le_refl _)) (rb.grow gg (Nat.le_refl _)) (db.grow gg (Nat.le_refl _)))

theorem ActTexts_S (M : Nat) (hM : M < 1000000000) (hA : ActsC call 17 M) (hRA : ActsC call 18 M) (hAw : AwC call) (hSa : SameC call) (s : List UInt8) (h : AH) (hs : s.length ≤ M) (hg : Glob h) (h4 : 4 ≤ h.next) (hlm : (actsL s).1.length ≤ M) :
    ∃ h', frameB T0 X0 call (M + 3000) 7 [sv s] h = some (.bool true, h') := by
  obtain ⟨va, La, h1, c1, g1, ma, ra, da⟩ := hA s h hs hg h4
  have n1 := g1.next
  obtain ⟨vb, Lb, h2, c2, g2, mb, rb, db⟩ := hRA s h1 hs (hg.grow g1 h4) (by omega)
  have n2 := g2.next
  have g02 := g1.trans g2 n1
  obtain ⟨h3, c3, g3⟩ := hAw h2 (hg.grow g02 h4) (by omega)
  have hm : La.map (·.1) = Lb.map (·.1) := ma.trans mb.symm
  have hll : La.length = Lb.length := by have := congrArg List.length hm; simpa using this
  have hla : La.length ≤ M := by have := congrArg List.length ma; rw [List.length_map] at this; omega
  have ra3 : ActsR h2.next h3 va La := (ra.grow g2 (Nat.le_refl _)).wide n2 |>.grow g3 (Nat.le_refl _)
  have da3 : DatsR h2.next h3 La := ((da.grow g2 (Nat.le_refl _)).wide n2).grow g3 (Nat.le_refl _)
  have rb3 := rb.grow g3 (Nat.le_refl _)
  have db3 := db.grow g3 (Nat.le_refl _)
  have l1 := fun ty => ra3.len (h' := h3) ty
  have l2 := fun ty => rb3.len (h' := h3) ty
  have e1 : ∀ x : Int, (x == x) = true := fun x => by simp
  rw [frameB_eq ft7 rfl rfl]
  rw [← hll] at l2
  simp only [Tryd.f7, symM, opFn, Nat.reduceLT, Nat.reduceBEq, evCall_fn ft17 rfl, c1, evCall_fn ft18 rfl, c2, evCall_fn ft11 rfl, c3, bin_neq, e1, l1, l2]
  refine bind_loop (b := bodyTx) (Q := fun tm' h' => True ∧ Grow h2.next h3 h') (P := fun co => ∃ h', endF T0 7 co = some (.bool true, h')) ?_ ?_
  · exact sameTx hSa h2.next va vb La Lb (by omega) hm La 0 _ h3 _ rfl (Nat.zero_add _) (by omega) (by simp only [symM, Nat.reduceBEq]) (by simp only [symM, Nat.reduceBEq]) get_same g3.next ra3 da3 rb3 db3
  · rintro tm' h' _
    refine ⟨h', ?_⟩
    simp only [symM, opFn, Nat.reduceLT]
    exact retB_one ft7 rfl get_same
end
end Go.Proofs.YtknchhnibjfocaaDoor.Abs
namespace Go.Proofs.YtknchhnibjfocaaDoor.Abs
open Go Go.Proofs
noncomputable section
variable {call : Abs.Callee}
set_option maxRecDepth 10000

theorem linesL_len : ∀ (L : List ActD) (acc t : List UInt8), linesL L acc = some t → acc.length + L.length ≤ t.length := by
  intro L
  induction L with
  | nil => intro acc t h; cases h; simp
  | cons a L ih =>
    intro acc t h
    cases hl : lineA a with
    | none => rw [linesL_none hl] at h; cases h
    | some s =>
      rw [linesL_some hl] at h
      have := ih _ _ h
      rw [List.length_append, List.length_append] at this
      simp only [List.length_cons, List.length_nil] at this ⊢
      omega
theorem actsL_len (s : List UInt8) : (actsL s).1.length ≤ s.length := by
  rcases acts_cases s with ⟨_, h⟩ | ⟨_, _, h, _⟩
  · rw [h]; simp
  · obtain ⟨t, h1, h2, h3⟩ := script_ok (L := (actsL s).1) (by rw [h])
    rw [h] at h3
    have := linesL_len _ _ _ h1
    have ht : s = t := congrArg Prod.fst h3
    rw [← ht] at this; simpa using this
theorem ActBack_S (M : Nat) (hM : M < 1000000000) (h65 : 65536 ≤ M) (hSc : ScriptC call 15 M) (hA : ActsC call 17 M) (hAw : AwC call) (hSa : SameC call) (v : Value) (L : AL) (s : List UInt8) (h : AH) (hL : L.length ≤ M) (hsm : ∀ x ∈ L, SmallA M x.1) (hs : s.length ≤ M) (x : ListI h.next h v L) :
    ∃ h', frameB T0 X0 call (M + 3000) 8 [v, sv s] h = some (.bool true, h') := by
  obtain ⟨h1, c1, g1⟩ := hSc v L h hL hsm x
  have x1 := x.grow g1
  have e0 : ∀ x : Int, (x == x) = true := fun x => by simp
  have es : ∀ x : List UInt8, (x == x) = true := fun x => by simp
  -- the second half, from any memory
  have half : ∀ (hh : AH), Grow h.next h hh → (∃ va h2 h3 n e, call 17 [sv s] hh = some (.tuple #[va, iv n, iv e], h2) ∧ (e == 0) = false ∧ call 11 [] h2 = some (.bool true, h3) ∧ ∀ ty, evBuiltin T0 .len #[34] ty [va] h3 = some (.value (iv 0), h3)) ∨
      (∃ va h2 h3 h4, call 17 [sv s] hh = some (.tuple #[va, iv 0, iv 0], h2) ∧ call 15 [va] h2 = some (.tuple #[sv s, iv 0], h3) ∧ call 11 [] h3 = some (.bool true, h4)) := by
    intro hh g
    have xx := x.grow g
    obtain ⟨va, La, h2, c2, g2, ma, ra, da⟩ := hA s hh hs xx.gl (Nat.le_trans xx.n4 xx.nn)
    have n2 := g2.next
    have hgl2 := xx.gl.grow g2 (Nat.le_trans xx.n4 xx.nn)
    have h42 : 4 ≤ h2.next := Nat.le_trans (Nat.le_trans xx.n4 xx.nn) n2
    rcases acts_cases s with ⟨r1, r2⟩ | ⟨r1, r2, r3, r4⟩
    · have hne : ((actsL s).2.2 == 0) = false := by rw [beq_eq_false_iff_ne]; exact r1
      obtain ⟨h3, c3, g3⟩ := hAw h2 hgl2 h42
      have hla : La = [] := by rw [r2] at ma; exact List.map_eq_nil_iff.1 ma
      subst hla
      exact .inl ⟨va, h2, h3, _, _, c2, hne, c3, fun ty => (ra.grow g3 (Nat.le_refl _)).len (h' := h3) ty⟩
    · have hlen : La.length ≤ M := by
        have := congrArg List.length ma
        rw [List.length_map] at this
        have := actsL_len s
        omega
      have hsml : ∀ y ∈ La, SmallA M y.1 := by
        intro y hy
        have : y.1 ∈ (actsL s).1 := by rw [← ma]; exact List.mem_map_of_mem hy
        obtain ⟨k1, k2, k3, k4, k5, k6⟩ := r4 _ this
        exact ⟨by omega, by omega, by omega, k4, k5, by omega⟩
      obtain ⟨h3, c3, g3⟩ := hSc va La h2 hlen hsml ⟨h42, Nat.le_refl _, hgl2, ra, da⟩
      rw [ma, r3] at c3
      rw [r1, r2] at c2
      obtain ⟨h4, c4, g4⟩ := hAw h3 (hgl2.grow g3 h42) (by have := g3.next; omega)
      exact .inr ⟨va, h2, h3, h4, c2, c3, c4⟩
  by_cases hz : (scriptL (L.map (·.1))).2 = 0
  · obtain ⟨t, ht, hb, he⟩ := script_ok hz
    have hback := acts_of_script (L := L.map (·.1)) (fun a ha => by rw [List.mem_map] at ha; obtain ⟨y, hy, rfl⟩ := ha; exact ⟨(hsm y hy).n, (hsm y hy).m⟩) hz
    rw [he] at c1 hback
    obtain ⟨va, La, h2, c2, g2, ma, ra, da⟩ := hA t h1 (by omega) x1.gl (Nat.le_trans x1.n4 x1.nn)
    rw [hback] at c2 ma
    have n1 := g1.next
    have n2 := g2.next
    have g02 : Grow h.next h h2 := g1.trans g2 n1
    have x2 := x.grow g02
    have ra2 := ra
    have rb2 : ActsR h2.next h2 v L := x2.row.wide x2.nn
    have db2 : DatsR h2.next h2 L := x2.dat.wide x2.nn
    have hml : La.length = L.length := by have := congrArg List.length ma; simpa using this
    have l1 := fun ty => ra2.len (h' := h2) ty
    have l2 := fun ty => rb2.len (h' := h2) ty
    rw [← hml] at l2
    rw [frameB_eq ft8 rfl rfl]
    simp only [Tryd.f8, symM, opFn, Nat.reduceLT, Nat.reduceBEq, evCall_fn ft15 rfl, c1, bin_eql, bin_neq, e0, evCall_fn ft17 rfl, c2, l1, l2]
    refine bind_loop (b := bodyBk) (Q := fun tm' h' => tm'.get 1 = some (sv s) ∧ Grow h2.next h2 h') (P := fun co => ∃ h', endF T0 8 co = some (.bool true, h')) ?_ ?_
    · exact sameBk hSa h2.next va v La L (by omega) ma (sv s) La 0 _ h2 _ rfl (Nat.zero_add _) (by omega) (by simp only [symM, Nat.reduceBEq]) (by simp only [symM, Nat.reduceBEq]) get_same (by simp only [symM, Nat.reduceBEq]) (Nat.le_refl _) ra2 da rb2 db2
    · rintro tm' h3 ⟨q1, g3⟩
      rcases half h3 (g02.trans (g3.less (by omega)) (Nat.le_refl _)) with ⟨wa, k2, k3, n, e, d1, d2, d3, d4⟩ | ⟨wa, k2, k3, k4, d1, d2, d3⟩
      · refine ⟨k3, ?_⟩
        simp only [symM, opFn, Nat.reduceLT, Nat.reduceBEq, q1, evCall_fn ft17 rfl, d1, bin_neq, d2, evCall_fn ft11 rfl, d3, d4, bin_eql, e0]
        exact retB_one ft8 rfl get_same
      · refine ⟨k4, ?_⟩
        simp only [symM, opFn, Nat.reduceLT, Nat.reduceBEq, q1, evCall_fn ft17 rfl, d1, bin_neq, e0, evCall_fn ft15 rfl, d2, evCall_fn ft11 rfl, d3, bin_eql, bin_seql, es]
        exact retB_one ft8 rfl get_same
  · have hne : ((scriptL (L.map (·.1))).2 == 0) = false := by rw [beq_eq_false_iff_ne]; exact hz
    rcases half h1 g1 with ⟨wa, k2, k3, n, e, d1, d2, d3, d4⟩ | ⟨wa, k2, k3, k4, d1, d2, d3⟩
    · refine ⟨k3, ?_⟩
      rw [frameB_eq ft8 rfl rfl]
      simp only [Tryd.f8, symM, opFn, Nat.reduceLT, Nat.reduceBEq, evCall_fn ft15 rfl, c1, hne, evCall_fn ft17 rfl, d1, bin_neq, d2, evCall_fn ft11 rfl, d3, d4, bin_eql, e0]
      exact retB_one ft8 rfl get_same
    · refine ⟨k4, ?_⟩
      rw [frameB_eq ft8 rfl rfl]
      simp only [Tryd.f8, symM, opFn, Nat.reduceLT, Nat.reduceBEq, c1, hne, evCall_fn ft17 rfl, d1, bin_neq, e0, evCall_fn ft15 rfl, d2, evCall_fn ft11 rfl, d3, bin_eql, bin_seql, es]
      exact retB_one ft8 rfl get_same
end
end Go.Proofs.YtknchhnibjfocaaDoor.Abs
namespace Go.Proofs.YtknchhnibjfocaaDoor.Abs
open Go Go.Proofs
noncomputable section
variable {call : Abs.Callee}
set_option maxRecDepth 10000
theorem count_spaced : ∀ (l : List (List UInt8)) (w : List UInt8), (∀ b ∈ w, b ≠ 32) → (∀ x ∈ l, ∀ b ∈ x, b ≠ 32) → (spaced w l).count 32 = l.length := by
  intro l
  induction l with
  | nil =>
    intro w hw _
    unfold spaced
    rw [List.map_nil, List.flatten_nil, List.append_nil]
    exact List.count_eq_zero.2 (fun h => hw 32 h rfl)
  | cons x l ih =>
    intro w hw hl
    have e : spaced w (x :: l) = w ++ 32 :: spaced x l := by unfold spaced; simp
    rw [e, List.count_append, List.count_cons_self, ih x (hl x List.mem_cons_self) (fun y hy => hl y (List.mem_cons_of_mem _ hy)), List.count_eq_zero.2 (fun h => hw 32 h rfl)]
    simp
theorem lineA_of {a : ActD} {P : List UInt8} (hp : partsOf a.verb = some P) (hz : isZ (P.foldl (fun r c => clrA c r) a) = true) : lineA a = some (spaced a.verb (P.map (fwA a))) ∧ (spaced a.verb (P.map (fwA a))).count 32 = P.length := by
  constructor
  · unfold lineA; rw [hp]; simp only; rw [if_pos hz]
  · rw [count_spaced _ _ (fun b hb => (verb_shows hp b hb).ne.1) (fun x hx b hb => by rw [List.mem_map] at hx; obtain ⟨c, _, rfl⟩ := hx; exact (fwA_shows a c b hb).ne.1), List.length_map]
abbrev lkD (s t : List UInt8) : ActD := ⟨[108, 105, 110, 107], s, t, 0, 0, []⟩
abbrev wrD (t data : List UInt8) (n : Int) : ActD := ⟨[119, 114, 105, 116, 101], t, [], n, 0, data⟩
abbrev rdD (s : List UInt8) (m n : Int) : ActD := ⟨[114, 101, 97, 100], s, [], m, n, []⟩
theorem bs_act3 {a b c : ActD} {d e f : Value} {h : AH} : evBuildSlice T0 34 3 [(0, actV a d), (1, actV b e), (2, actV c f)] h = some (.slice (some ⟨h.next, 0, none⟩) 3 3, h.new (.cells (PM.ofList (flatA [(a, d), (b, e), (c, f)])) 18 24 0 0 .ex)) := by
  unfold evBuildSlice
  simp only [und_acts, sz_act, zero_act]
  have h1 : fillA (fun i => some (i * 6, 6)) (zeros (.agg (cellsA zeroA nilV).toArray) (3 * 6)) [(0, actV a d), (1, actV b e), (2, actV c f)] = some (flatA [(a, d), (b, e), (c, f)]) := rfl
  rw [h1]
  rfl
theorem build_lk {s t : List UInt8} {h : AH} : evBuild T0 24 [(0, sv [108, 105, 110, 107]), (1, sv s), (2, sv t)] h = some (actV (lkD s t) nilV, h) := by
  kernel_rfl
theorem build_wr {t data : List UInt8} {n : Int} {d : Value} (hd : HasLen d data.length) {h : AH} : evBuild T0 24 [(0, sv [119, 114, 105, 116, 101]), (1, sv t), (3, iv n), (5, d)] h = some (actV (wrD t data n) d, h) := by
  obtain ⟨o, c, rfl⟩ := hd
  kernel_rfl
theorem build_rd {s : List UInt8} {m n : Int} {h : AH} : evBuild T0 24 [(0, sv [114, 101, 97, 100]), (1, sv s), (3, iv m), (4, iv n)] h = some (actV (rdD s m n) nilV, h) := by
  kernel_rfl
theorem und_ints : und T0 35 = some (.slice 3) := by kernel_rfl
theorem zero_int : zeroOf T0 3 = some (iv 0) := by kernel_rfl
theorem bs_int3 {h : AH} : evBuildSlice T0 35 3 [(0, iv 2), (1, iv 3), (2, iv 3)] h = some (.slice (some ⟨h.next, 0, none⟩) 3 3, h.new (.cells (PM.ofList [iv 2, iv 3, iv 3]) 3 3 0 0 .ex)) := by
  unfold evBuildSlice
  simp only [und_ints, sz_int, zero_int]
  rfl
noncomputable def bodyWi : Code := part Tryd.f5 [1, 1, 0, 1, 0, 0, 1, 0, 0, 1, 1, 1, 0, 1, 0, 0]
abbrev EWo : Env := ⟨5, 94, none⟩
theorem blanksLp (l0 : List UInt8) (hl0 : l0.length < 10000000000) (k11 k12 k14 k15 k16 : Value) : ∀ (l : List UInt8) (i c : Nat) (tm : PM Value) (h : AH) (N : Nat), l0.drop i = l → i + l.length = l0.length → c ≤ i → (∀ b ∈ l, b = 32 ∨ Shows b) → l.length + 60 ≤ N →
    tm.get 11 = some k11 → tm.get 12 = some k12 → tm.get 14 = some k14 → tm.get 15 = some k15 → tm.get 16 = some k16 → tm.get 13 = some (sv l0) → tm.get 17 = some (iv (c : Nat)) → tm.get 18 = some (iv i) →
    ∃ tm', codeB T0 X0 call N EWo (.loop bodyWi) tm h [] = .jump (.exit 2) tm' h [] ∧ tm'.get 11 = some k11 ∧ tm'.get 12 = some k12 ∧ tm'.get 14 = some k14 ∧ tm'.get 15 = some k15 ∧ tm'.get 16 = some k16 ∧ tm'.get 17 = some (iv ((c + l.count 32 : Nat) : Int)) := by
  intro l
  induction l with
  | nil =>
    intro i c tm h N hd hi hc hb hN g11 g12 g14 g15 g16 g13 g17 g18
    obtain ⟨N, rfl⟩ : ∃ a, N = a + 60 := ⟨N - 60, by omega⟩
    have hiL : i = l0.length := by simpa using hi
    subst hiL
    apply Exists.intro
    refine ⟨?_, ?_, ?_, ?_, ?_, ?_, ?_⟩
    · rw [codeB_loop]
      simp only [bodyWi, part, Tryd.f5, sub, symM, opFn, Nat.reduceLT, Nat.reduceBEq, g13, g18, len_str, bin_lss, decide_eq_false (show ¬ ((l0.length : Nat) : Int) < (l0.length : Nat) by omega)]
      rfl
    · simp only [symM, Nat.reduceBEq, g11]
    · simp only [symM, Nat.reduceBEq, g12]
    · simp only [symM, Nat.reduceBEq, g14]
    · simp only [symM, Nat.reduceBEq, g15]
    · simp only [symM, Nat.reduceBEq, g16]
    · simp only [symM, Nat.reduceBEq, g17]; rfl
  | cons b l ih =>
    intro i c tm h N hd hi hc hb hN g11 g12 g14 g15 g16 g13 g17 g18
    obtain ⟨N, rfl⟩ : ∃ a, N = a + 60 := ⟨N - 60, by omega⟩
    simp only [List.length_cons] at hi hN
    have hlt : decide ((i : Int) < (l0.length : Nat)) = true := decide_eq_true (by omega)
    have ix := idx_str (byteAt hd)
    have hw1 := wadd1 (a := i) (by omega)
    have hw2 := wadd1 (a := c) (by omega)
    have hnext : l0.drop (i + 1) = l := by rw [← List.drop_drop, hd]; rfl
    have hbl : ∀ x ∈ l, x = 32 ∨ Shows x := fun x hx => hb x (List.mem_cons_of_mem _ hx)
    rw [show N + 60 = (N + 59) + 1 from rfl, codeB_loop]
    rcases hb b List.mem_cons_self with rfl | hs
    · have e1 : (((32 : UInt8).toNat : Int) == 32) = true := rfl
      have e2 : decide (((32 : UInt8).toNat : Int) < 32) = false := by decide
      have e3 : decide ((126 : Int) < ((32 : UInt8).toNat : Int)) = false := by decide
      rw [List.count_cons_self, show c + (l.count 32 + 1) = (c + 1) + l.count 32 by omega]
      simp only [bodyWi, part, Tryd.f5, sub, symM, opFn, Nat.reduceLT, Nat.reduceBEq, g13, g17, g18, len_str, bin_lss, hlt, ix, bin_eql, e1, bin_gtr, e2, e3, bin_add, hw1, hw2]
      exact ih (i + 1) (c + 1) _ h (N + 59) hnext (by omega) (by omega) hbl (by omega) (by simp only [symM, Nat.reduceBEq, g11]) (by simp only [symM, Nat.reduceBEq, g12]) (by simp only [symM, Nat.reduceBEq, g14]) (by simp only [symM, Nat.reduceBEq, g15]) (by simp only [symM, Nat.reduceBEq, g16]) (by simp only [symM, Nat.reduceBEq, g13]) (by simp only [symM, Nat.reduceBEq]) get_same
    · have e1 : ((b.toNat : Int) == 32) = false := by rw [beq_eq_false_iff_ne]; unfold Shows at hs; omega
      have e2 : decide ((b.toNat : Int) < 32) = false := decide_eq_false (by unfold Shows at hs; omega)
      have e3 : decide ((126 : Int) < (b.toNat : Int)) = false := decide_eq_false (by unfold Shows at hs; omega)
      have hcn : (b :: l).count 32 = l.count 32 := List.count_cons_of_ne (hs.ne.1)
      rw [hcn]
      simp only [bodyWi, part, Tryd.f5, sub, symM, opFn, Nat.reduceLT, Nat.reduceBEq, g13, g18, len_str, bin_lss, hlt, ix, bin_eql, e1, bin_gtr, e2, e3, bin_add, hw1]
      exact ih (i + 1) c _ h (N + 59) hnext (by omega) (by omega) hbl (by omega) (by simp only [symM, Nat.reduceBEq, g11]) (by simp only [symM, Nat.reduceBEq, g12]) (by simp only [symM, Nat.reduceBEq, g14]) (by simp only [symM, Nat.reduceBEq, g15]) (by simp only [symM, Nat.reduceBEq, g16]) (by simp only [symM, Nat.reduceBEq, g13]) (by simp only [symM, Nat.reduceBEq, g17]) get_same
end
end Go.Proofs.YtknchhnibjfocaaDoor.Abs
namespace Go.Proofs.YtknchhnibjfocaaDoor.Abs
open Go Go.Proofs
noncomputable section
variable {call : Abs.Callee}
set_option maxRecDepth 10000
theorem use_exit1 {N : Nat} {E : Env} {b : Code} {tm : PM Value} {h : AH} {df : List Nat} {i : Nat} {X : CO} {Q : PM Value → Prop} (hX : codeB T0 X0 call N E (.loop b) tm h df = X)
    (H : ∃ tm', codeB T0 X0 call N E (.loop b) tm h df = .jump (.exit i) tm' h df ∧ Q tm') : ∃ tm', X = .jump (.exit i) tm' h df ∧ Q tm' := hX ▸ H
noncomputable def bodyWo : Code := part Tryd.f5 [1, 1, 0, 1, 0, 0]
theorem plan_Wo : planB (regOps Tryd.f5 [1, 1, 0, 1, 0, 0, 1, 0, 0, 1, 1, 1, 1, 0]) 94 = some ([.one 0, .one 1, .one 2, .one 3, .one 4, .one 5, .one 6, .one 7, .one 8, .one 9, .one 10, .one 11, .eff [] 12 [], .one 13, .one 14, .one 15, .one 16, .one 18, .eff [] 17 [16, 18], .one 19, .one 20, .one 21, .one 22], []) := by kernel_rfl
theorem wordsLpO (M : Nat) (hM : M < 1000000000) (hLn : LineC call 9 M) (hA : ActC call 12 M) (hSa : SameC call) (n : Nat) (h4n : 4 ≤ n) (v : Value) (L : AL) (hL3 : L.length = 3)
    (hx : ∀ (i : Nat) (x : ActD × Value), L[i]? = some x → SmallA M x.1 ∧ ∃ s, lineA x.1 = some s ∧ s.length ≤ M ∧ ([2, 3, 3] : List Nat)[i]? = some (s.count 32)) :
    ∀ (l : AL) (i : Nat) (tm : PM Value) (h : AH) (N : Nat), L.drop i = l → i + l.length = 3 → l.length + M + 200 ≤ N → tm.get 11 = some v → tm.get 12 = some (iv i) → n ≤ h.next → Glob h → ActsR n h v L → DatsR n h L →
      ∃ tm' h', codeB T0 X0 call N EWo (.loop bodyWo) tm h [] = .jump (.exit 0) tm' h' [] ∧ True ∧ Grow n h h' := by
  intro l
  induction l with
  | nil =>
    intro i tm h N hd hi hN g11 g12 hn hg ra da
    obtain ⟨N, rfl⟩ : ∃ a, N = a + 100 := ⟨N - 100, by omega⟩
    have hiL : i = 3 := by simpa using hi
    subst hiL
    apply Exists.intro; apply Exists.intro
    refine ⟨?_, trivial, Grow.refl _ _⟩
    rw [codeB_loop]
    simp only [bodyWo, part, Tryd.f5, sub, symM, opFn, Nat.reduceLT, g12, bin_lss, show decide ((((3 : Nat) : Int)) < 3) = false from by decide]
    rfl
  | cons z l ih =>
    intro i tm h N hd hi hN g11 g12 hn hg ra da
    obtain ⟨N, rfl⟩ : ∃ a, N = a + 100 := ⟨N - 100, by omega⟩
    simp only [List.length_cons] at hi hN
    have hz := dropAt hd
    obtain ⟨hsm, s, hln, hsl, hcnt⟩ := hx i z hz
    have hac := act_line hsm.n hsm.m hln
    have hnext : L.drop (i + 1) = l := by rw [← List.drop_drop, hd]; rfl
    have hlt : decide ((i : Int) < 3) = true := decide_eq_true (by omega)
    have hw1 := wadd1 (a := i) (by omega)
    obtain ⟨q, e1, e2, _⟩ := ra.at hz
    have h4h : 4 ≤ h.next := Nat.le_trans h4n hn
    obtain ⟨h1, c1, g1⟩ := hLn z.1 z.2 h ((da z (List.mem_of_getElem? hz)).wide hn) hg h4h hsm
    rw [hln] at c1
    simp only [Option.getD_some, Option.isSome_some, if_true] at c1
    have n1 := g1.next
    obtain ⟨d2, h2, c2, g2, db⟩ := hA s h1 hsl (hg.grow g1 h4h) (by omega)
    rw [hac] at c2 db
    simp only [Option.getD_some, Option.isSome_some, if_true] at c2 db
    have n2 := g2.next
    generalize hh3 : h2.new (.cells (PM.ofList (cellsA zeroA nilV)) 6 24 0 0 .ex) = h3
    have n3 : h3.next = h2.next + 1 := by rw [← hh3]; rfl
    have g3 : Grow h2.next h2 h3 := by rw [← hh3]; exact Grow.new _ _
    have hal : evAlloc T0 24 h2 = some (ptr h2.next, h3) := by rw [← hh3]; exact alloc_A
    have b3 : BoxL h3 h2.next 24 (cellsA zeroA nilV) := by rw [← hh3]; exact BoxL.new h2 _ _
    obtain ⟨h5, s1, s2, s3, s4, _⟩ := b3.storeA (n := h2.next) (a := z.1) (d := d2) (cellsA_len _ _) db.row.one.1 (Nat.le_refl _)
    have g25 : Grow h2.next h2 h5 := g3.trans s3 (Nat.le_refl _)
    have g05 : Grow h.next h h5 := (g1.trans (g2.less n1) (Nat.le_refl _)).trans (g25.less (by omega)) (Nat.le_refl _)
    have gn5 : Grow n h h5 := g05.less hn
    have lw := loadW_A s2
    obtain ⟨q', e1', e4, hqv⟩ := (ra.grow gn5 (Nat.le_refl _)).at hz
    rw [e1] at e1'
    cases e1'
    obtain ⟨h6, c4, g6⟩ := hSa z.1 z.1 d2 z.2 h5 (db.grow g25).row (((da z (List.mem_of_getElem? hz)).grow gn5 (Nat.le_refl _)).wide (Nat.le_trans hn g05.next))
    rw [sameA_refl] at c4
    have n5 := g05.next
    generalize hh7 : h6.new (.cells (PM.ofList [iv 2, iv 3, iv 3]) 3 3 0 0 .ex) = h7
    have g7 : Grow h6.next h6 h7 := by rw [← hh7]; exact Grow.new _ _
    have hbi : evBuildSlice T0 35 3 [(0, iv 2), (1, iv 3), (2, iv 3)] h6 = some (.slice (some ⟨h6.next, 0, none⟩) 3 3, h7) := by rw [bs_int3, hh7]
    have hri : Row (h6.next + 1) h7 (.slice (some ⟨h6.next, 0, none⟩) 3 3) [iv 2, iv 3, iv 3] 3 := by
      rw [← hh7]
      exact .inr ⟨h6.next, 0, 3, _, 3, 0, 0, .ex, 3, rfl, Nat.lt_succ_self _, get_new_same _ _, by decide, fun j y hj => by rw [Nat.zero_add, PM.get_ofList]; exact hj⟩
    have hbx : ([iv 2, iv 3, iv 3] : List Value)[i]? = some (iv ((s.count 32 : Nat) : Int)) := by
      have : ([iv 2, iv 3, iv 3] : List Value) = [2, 3, 3].map fun k : Nat => iv (k : Int) := rfl
      rw [this, List.getElem?_map, hcnt]; rfl
    obtain ⟨q7, e7, e8⟩ := hri.at und_ints sz_int agg_int hbx
    have e7 : evIndexAddr T0 35 (.slice (some ⟨h6.next, 0, none⟩) 3 3) (iv i) = some q7 := e7
    have n6 := g6.next
    have gn7 : Grow n h h7 := (gn5.trans (g6.less (by omega)) (Nat.le_refl _)).trans (g7.less (by omega)) (Nat.le_refl _)
    have ee : ∀ x : Int, (x == x) = true := fun x => by simp
    have hpl := plan_Wo
    simp only [regOps, part, Tryd.f5, sub] at hpl
    rw [show N + 100 = (N + 99) + 1 from rfl, codeB_loop]
    simp only [bodyWo, part, Tryd.f5, sub, symM, opFn, Nat.reduceLT, Nat.reduceBEq, symL, g11, g12, bin_lss, hlt, e1, e2, evCall_fn ft9 rfl, c1, evCall_fn ft12 rfl, c2, hal, s1]
    generalize hX : codeB T0 X0 call _ EWo (.loop _) _ _ _ = X
    obtain ⟨tm2, rfl, t11, t12, t14, t15, t16, t17⟩ := use_exit1 (i := 2) (Q := fun tm' => tm'.get 11 = some v ∧ tm'.get 12 = some (iv i) ∧ tm'.get 14 = some (iv 0) ∧ tm'.get 15 = some (ptr h2.next) ∧ tm'.get 16 = some (iv 0) ∧ tm'.get 17 = some (iv ((0 + s.count 32 : Nat) : Int))) hX
      (blanksLp s (by omega) v (iv i) (iv 0) (ptr h2.next) (iv 0) s 0 0 _ h5 _ rfl (Nat.zero_add _) (Nat.le_refl _) (line_shows hln) (by omega) (by simp only [symM, Nat.reduceBEq, g11]) (by simp only [symM, Nat.reduceBEq, g12]) (by simp only [symM, Nat.reduceBEq]) (by simp only [symM, Nat.reduceBEq]) (by simp only [symM, Nat.reduceBEq]) (by simp only [symM, Nat.reduceBEq]) (by simp only [symM, Nat.reduceBEq]; rfl) get_same)
    rw [Nat.zero_add] at t17
    simp only [symM, symL, codeB_draw]
    rw [draw_plan hpl rfl]
    simp only [drawAll, opFn, Nat.reduceLT, Nat.reduceBEq, bsx_gen, goBSX_some, t11, t12, t14, t15, t16, t17, bin_neq, lw, e1, e4, evCall_fn ft14 rfl, c4, effE_cons, hbi, e7, e8, ee, bin_add, hw1]
    exact wrapG gn7 (ih (i + 1) _ h7 (N + 99) hnext (by omega) (by omega) (by simp only [symM, Nat.reduceBEq, t11]) get_same (Nat.le_trans hn (by have := g7.next; omega)) (hg.grow (gn7) h4n) (ra.grow gn7 (Nat.le_refl _)) (da.grow gn7 (Nat.le_refl _)))
theorem ActWords_S (M K : Nat) (hM : M < 1000000000) (hK : 10 + 10 * (3 * (K + 5) + 21) ≤ M) (hLn : LineC call 9 M) (hA : ActC call 12 M) (hSa : SameC call) (hAw : AwC call) (s t data : List UInt8) (n m : Int) (d : Value) (h : AH) (hr : Row h.next h d (byteVals data) 5) (hg : Glob h) (h4 : 4 ≤ h.next)
    (hs : s.length ≤ K) (ht : t.length ≤ K) (hd : data.length ≤ K) (hn : I64 n) (hm : I64 m) :
    ∃ h', frameB T0 X0 call (M + 3000) 5 [sv s, sv t, d, iv n, iv m] h = some (.bool true, h') := by
  generalize hL : ([(lkD s t, nilV), (wrD t data n, d), (rdD s m n, nilV)] : AL) = L
  generalize hh1 : h.new (.cells (PM.ofList (flatA [(lkD s t, nilV), (wrD t data n, d), (rdD s m n, nilV)])) 18 24 0 0 .ex) = h1
  have n1 : h1.next = h.next + 1 := by rw [← hh1]; rfl
  have g1 : Grow h.next h h1 := by rw [← hh1]; exact Grow.new _ _
  have hbs : evBuildSlice T0 34 3 [(0, actV (lkD s t) nilV), (1, actV (wrD t data n) d), (2, actV (rdD s m n) nilV)] h = some (.slice (some ⟨h.next, 0, none⟩) 3 3, h1) := by rw [bs_act3, hh1]
  have ra : ActsR h1.next h1 (.slice (some ⟨h.next, 0, none⟩) 3 3) L := by
    rw [← hL, n1, ← hh1]
    exact .inr ⟨h.next, 0, 3, _, 18, 0, 0, .ex, 24, rfl, Nat.lt_succ_self _, get_new_same _ _, by show 0 + 3 * 6 ≤ 18; decide, fun i y hy => by rw [Nat.zero_add, PM.get_ofList]; exact hy⟩
  have da : DatsR h1.next h1 L := by
    rw [← hL]
    intro x hx
    simp only [List.mem_cons, List.not_mem_nil, or_false] at hx
    rcases hx with rfl | rfl | rfl
    · exact .inl ⟨rfl, rfl⟩
    · exact (hr.grow g1 (Nat.le_refl _)).wide (by omega)
    · exact .inl ⟨rfl, rfl⟩
  have z0 : I64 0 := by unfold I64; omega
  have sm1 : SmallA K (lkD s t) → SmallA M (lkD s t) := fun ⟨a, b, c, d, e, f⟩ => ⟨by omega, by omega, by omega, d, e, by omega⟩
  have k1 : 4 ≤ M := by omega
  have S1 : SmallA K (lkD s t) ∨ True := .inr trivial
  have hx : ∀ (i : Nat) (x : ActD × Value), L[i]? = some x → SmallA M x.1 ∧ ∃ s, lineA x.1 = some s ∧ s.length ≤ M ∧ ([2, 3, 3] : List Nat)[i]? = some (s.count 32) := by
    have go : ∀ (a : ActD) (P : List UInt8), partsOf a.verb = some P → isZ (P.foldl (fun r c => clrA c r) a) = true → a.verb.length ≤ 5 → a.path.length ≤ K → a.other.length ≤ K → a.data.length ≤ K → I64 a.n → I64 a.m →
        SmallA M a ∧ ∃ s, lineA a = some s ∧ s.length ≤ M ∧ s.count 32 = P.length := by
      intro a P hp hz v1 v2 v3 v4 v5 v6
      obtain ⟨l1, l2⟩ := lineA_of hp hz
      refine ⟨⟨by omega, by omega, by omega, v5, v6, by omega⟩, _, l1, ?_, l2⟩
      have := line_len (M := K + 5) (s := spaced a.verb (P.map (fwA a))) ⟨by omega, by omega, by omega, v5, v6, by omega⟩ l1
      omega
    rw [← hL]
    intro i x hix
    match i, hix with
    | 0, hix =>
      cases hix
      obtain ⟨a, s', b, c, e⟩ := go (lkD s t) [112, 111] (show partsOf [108, 105, 110, 107] = some [112, 111] from by decide) rfl (show ([108, 105, 110, 107] : List UInt8).length ≤ 5 from by decide) hs ht (Nat.zero_le _) z0 z0
      exact ⟨a, s', b, c, by rw [e]; rfl⟩
    | 1, hix =>
      cases hix
      obtain ⟨a, s', b, c, e⟩ := go (wrD t data n) [112, 110, 100] (show partsOf [119, 114, 105, 116, 101] = some [112, 110, 100] from by decide) rfl (show ([119, 114, 105, 116, 101] : List UInt8).length ≤ 5 from by decide) ht (Nat.zero_le _) hd hn z0
      exact ⟨a, s', b, c, by rw [e]; rfl⟩
    | 2, hix =>
      cases hix
      obtain ⟨a, s', b, c, e⟩ := go (rdD s m n) [112, 110, 109] (show partsOf [114, 101, 97, 100] = some [112, 110, 109] from by decide) rfl (show ([114, 101, 97, 100] : List UInt8).length ≤ 5 from by decide) hs (Nat.zero_le _) (Nat.zero_le _) hm hn
      exact ⟨a, s', b, c, by rw [e]; rfl⟩
    | i + 3, hix => simp at hix
  have hgl := hg.grow g1 h4
  have aw : ∀ hh, Grow h1.next h1 hh → ∃ h', call 11 [] hh = some (.bool true, h') := fun hh g => by
    obtain ⟨h', c, _⟩ := hAw hh (hgl.grow g (by omega)) (by have := g.next; omega)
    exact ⟨h', c⟩
  have hwr := build_wr (t := t) (n := n) hr.hasLen (h := h)
  rw [frameB_eq ft5 rfl rfl]
  simp only [Tryd.f5, symM, opFn, Nat.reduceLT, Nat.reduceBEq, bsx_gen, goBSX_some, build_lk, hwr, build_rd, hbs]
  refine bind_loop (b := bodyWo) (Q := fun tm' h' => True ∧ Grow h1.next h1 h') (P := fun co => ∃ h', endF T0 5 co = some (.bool true, h')) ?_ ?_
  · exact wordsLpO M hM hLn hA hSa h1.next (by omega) _ L (by rw [← hL]; rfl) hx L 0 _ h1 _ rfl (by rw [← hL]; rfl) (by rw [← hL]; show 3 + M + 200 ≤ _; omega) (by simp only [symM, Nat.reduceBEq]) get_same (Nat.le_refl _) hgl ra da
  · rintro tm' h' ⟨_, g⟩
    obtain ⟨h2, c⟩ := aw h' g
    refine ⟨h2, ?_⟩
    simp only [symM, opFn, Nat.reduceLT, evCall_fn ft11 rfl, c]
    exact retB_one ft5 rfl get_same
end
end Go.Proofs.YtknchhnibjfocaaDoor.Abs
