/- Acts: numbers written. -/
import Derived.Test.YtknchhnibjfocaaDoorTexts
import Derived.Lib.AtoiAllCases
import Derived.Lib.ItoaMem
namespace Go.Proofs.YtknchhnibjfocaaDoor.Abs
open Go Go.Proofs
noncomputable section
variable {call : Abs.Callee}
set_option maxRecDepth 10000
theorem ft25 : T0.ft.get 25 = some Tryd.f25 := by kernel_rfl
theorem ft31 : T0.ft.get 31 = some Tryd.f31 := by kernel_rfl
theorem ft28 : T0.ft.get 28 = some Tryd.f28 := by kernel_rfl
/- Numerals. -/
theorem dec_small {u : Nat} (h : u < 10) : Lib.decDigits u = [UInt8.ofNat (48 + u)] := by rw [Lib.decDigits, dif_pos h]
theorem dec_big {u : Nat} (h : ¬ u < 10) : Lib.decDigits u = Lib.decDigits (u / 10) ++ [UInt8.ofNat (48 + u % 10)] := by rw [Lib.decDigits, dif_neg h]
theorem dec_len : ∀ (k u : Nat), u < 10 ^ (k + 1) → (Lib.decDigits u).length ≤ k + 1 := by
  intro k
  induction k with
  | zero => intro u h; rw [dec_small (by simpa using h)]; simp
  | succ k ih =>
    intro u h
    by_cases hu : u < 10
    · rw [dec_small hu]; simp
    · rw [dec_big hu, List.length_append]
      have := ih (u / 10) (by rw [Nat.pow_succ] at h; omega)
      simp; omega
theorem itoa_len {v : Int} (h0 : -9223372036854775808 ≤ v) (h1 : v ≤ 9223372036854775807) : (Lib.itoa v).length ≤ 20 := by
  unfold Lib.itoa
  split
  · have := dec_len 18 v.natAbs (by omega)
    simp; omega
  · have := dec_len 18 v.toNat (by omega)
    omega
theorem dig_toNat {k : Nat} (h : k < 10) : (UInt8.ofNat (48 + k)).toNat = 48 + k := by simp; omega
theorem parse_app : ∀ (l : List UInt8) (acc : Nat) (c : UInt8), Lib.parseUint10 acc (l ++ [c]) = match Lib.parseUint10 acc l with
    | .ok u => Lib.parseUint10 u [c]
    | Lib.NumEnd.syntax => Lib.NumEnd.syntax
    | .range => .range := by
  intro l
  induction l with
  | nil => intro acc c; rfl
  | cons b l ih =>
    intro acc c
    rw [List.cons_append, Lib.parseUint10, Lib.parseUint10]
    split
    · split
      · rfl
      · split
        · rfl
        · exact ih _ c
    · rfl
theorem parse_dec : ∀ (u : Nat), u < 18446744073709551616 → Lib.parseUint10 0 (Lib.decDigits u) = .ok u := by
  intro u
  induction u using Nat.strongRecOn with
  | _ u ih =>
    intro hu
    by_cases h : u < 10
    · rw [dec_small h, Lib.parseUint10, dig_toNat h, if_pos (by omega), if_neg (by omega), if_neg (by omega), Lib.parseUint10]
      congr 1; omega
    · rw [dec_big h, parse_app, ih (u / 10) (by omega) (by omega)]
      simp only
      rw [Lib.parseUint10, dig_toNat (Nat.mod_lt _ (by decide)), if_pos (by omega), if_neg (by omega), if_neg (by omega), Lib.parseUint10]
      congr 1; omega
theorem dec_head : ∀ (u : Nat), ∃ c r, Lib.decDigits u = c :: r ∧ 48 ≤ c.toNat ∧ c.toNat ≤ 57 := by
  intro u
  induction u using Nat.strongRecOn with
  | _ u ih =>
    by_cases h : u < 10
    · exact ⟨_, [], dec_small h, by rw [dig_toNat h]; omega, by rw [dig_toNat h]; omega⟩
    · obtain ⟨c, r, e, h1, h2⟩ := ih (u / 10) (by omega)
      exact ⟨c, r ++ [UInt8.ofNat (48 + u % 10)], by rw [dec_big h, e]; rfl, h1, h2⟩
theorem atoi_itoa {v : Int} (h0 : -9223372036854775808 ≤ v) (h1 : v ≤ 9223372036854775807) : Lib.atoiAll (Lib.itoa v) = .ok v := by
  unfold Lib.itoa
  by_cases hv : v < 0
  · rw [if_pos hv]
    obtain ⟨c, r, e, _, _⟩ := dec_head v.natAbs
    unfold Lib.atoiAll
    have h45 : (45 : UInt8).toNat = 45 := rfl
    simp only [h45, or_true, if_true]
    unfold Lib.parseMag
    rw [if_neg (by rw [e]; simp), parse_dec _ (by omega)]
    simp only [not_true, false_and, if_false, true_and]
    rw [if_neg (by omega)]
    congr 1; omega
  · rw [if_neg hv]
    obtain ⟨c, r, e, h2, h3⟩ := dec_head v.toNat
    rw [e, Lib.atoiAll_plain c r (by omega) (by omega), ← e]
    unfold Lib.parseMag
    rw [if_neg (by rw [e]; simp), parse_dec _ (by omega)]
    show (if 9223372036854775808 ≤ v.toNat then _ else Lib.NumEnd.ok (v.toNat:Int)) = _
    rw [if_neg (by omega)]
    congr 1; omega

/- The document's numeral. -/
theorem u64w {x : Int} (h : 0 ≤ x ∧ x ≤ 18446744073709551615) : IntKind.u64.wrap x = x := IntWalk.u64_in x h
theorem un_neg {k : IntKind} {m : Int} {h : AH} : evUnary T0 .neg (.int k m) h = some (.int k (k.wrap (-m)), h) := by
  rw [← Int.zero_sub]; rfl
abbrev uv (x : Int) : Value := .int .u64 x
theorem dig8 {k : Nat} (hk : k < 10) {h : AH} : evConvert T0 69 5 (uv ((48 + k : Nat) : Int)) h = some (bv (UInt8.ofNat (48 + k)), h) := by
  rw [conv_i2i und_u64 und_u8, w8 (by omega)]
  show some (Value.int .u8 ((48 + k : Nat) : Int), h) = some (.int .u8 ((UInt8.ofNat (48 + k)).toNat : Int), h)
  rw [dig_toNat hk]
theorem add48 {k : Nat} (hk : k < 10) : IntKind.u64.wrap (48 + (k : Int)) = ((48 + k : Nat) : Int) := by rw [u64w (by omega)]; omega
theorem quo10 {t : TypeId} {p q : Operand} {u : Nat} {h : AH} (hu : u < 18446744073709551616) : evBin T0 .quo t p q (uv (u : Int)) (uv 10) h = some (uv ((u / 10 : Nat) : Int)) := by
  have := bin_quo (T := T0) (t := t) (a := p) (b := q) (k := .u64) (m := u) (n := 10) (h := h) (by decide)
  rw [u64w (by omega)] at this
  exact this
theorem rem10 {t : TypeId} {p q : Operand} {u : Nat} {h : AH} : evBin T0 .rem t p q (uv (u : Int)) (uv 10) h = some (uv ((u % 10 : Nat) : Int)) := bin_rem (n := 10) (by decide)
theorem one_str {x : UInt8} {h : AH} : evConvert T0 22 9 (.slice (some ⟨h.next, 0, none⟩) 1 1) (h.new (.cells (PM.ofList [bv x]) 1 5 0 0 .ex)) = some (sv [x], h.new (.cells (PM.ofList [bv x]) 1 5 0 0 .ex)) :=
  conv_bytes (n := h.next + 1) (.inr ⟨h.next, 0, 1, _, 1, 0, 0, .ex, 5, rfl, Nat.lt_succ_self _, get_new_same _ _, by simp [byteVals], fun i x hi => by rw [Nat.zero_add, PM.get_ofList]; exact hi⟩)
noncomputable def bodyNu : Code := part Tryd.f25 [1, 1, 1, 1, 0, 0, 0]
abbrev ENu : Env := ⟨25, 34, none⟩
theorem numLp (n : Nat) (v : Value) : ∀ (k u : Nat) (s : List UInt8) (tm : PM Value) (h : AH) (N : Nat), u < 10 ^ (k + 1) → u < 18446744073709551616 → s.length + k ≤ 40 → k + 60 ≤ N → tm.get 0 = some v → tm.get 3 = some (uv (u : Int)) → tm.get 4 = some (sv (UInt8.ofNat (48 + u % 10) :: s)) → n ≤ h.next →
    ∃ tm' h', codeB T0 X0 call N ENu (.loop bodyNu) tm h [] = .jump (.exit 0) tm' h' [] ∧ (tm'.get 0 = some v ∧ tm'.get 4 = some (sv (Lib.decDigits u ++ s))) ∧ Grow n h h' := by
  intro k
  induction k with
  | zero =>
    intro u s tm h N hu hu2 hs hN g0 g3 g4 hn
    obtain ⟨N, rfl⟩ : ∃ a, N = a + 60 := ⟨N - 60, by omega⟩
    have hu : u < 10 := by simpa using hu
    rw [Nat.mod_eq_of_lt hu] at g4
    apply Exists.intro; apply Exists.intro
    refine ⟨?_, ⟨?_, ?_⟩, Grow.refl _ _⟩
    · rw [codeB_loop]
      simp only [bodyNu, part, Tryd.f25, sub, symM, opFn, Nat.reduceLT, g3, bin_geq, decide_eq_false (show ¬ (10 : Int) ≤ (u : Int) by omega)]
      rfl
    · simp only [symM, Nat.reduceBEq, g0]
    · rw [dec_small hu]; simp only [symM, Nat.reduceBEq, g4]; rfl
  | succ k ih =>
    intro u s tm h N hu hu2 hs hN g0 g3 g4 hn
    by_cases h10 : u < 10
    · obtain ⟨N, rfl⟩ : ∃ a, N = a + 60 := ⟨N - 60, by omega⟩
      rw [Nat.mod_eq_of_lt h10] at g4
      apply Exists.intro; apply Exists.intro
      refine ⟨?_, ⟨?_, ?_⟩, Grow.refl _ _⟩
      · rw [codeB_loop]
        simp only [bodyNu, part, Tryd.f25, sub, symM, opFn, Nat.reduceLT, g3, bin_geq, decide_eq_false (show ¬ (10 : Int) ≤ (u : Int) by omega)]
        rfl
      · simp only [symM, Nat.reduceBEq, g0]
      · rw [dec_small h10]; simp only [symM, Nat.reduceBEq, g4]; rfl
    · obtain ⟨N, rfl⟩ : ∃ a, N = a + 60 := ⟨N - 60, by omega⟩
      have hm : u / 10 % 10 < 10 := Nat.mod_lt _ (by decide)
      have sa : ∀ t p q (hh : AH), evBin T0 .add t p q (sv [UInt8.ofNat (48 + u / 10 % 10)]) (sv (UInt8.ofNat (48 + u % 10) :: s)) hh = some (sv (UInt8.ofNat (48 + u / 10 % 10) :: UInt8.ofNat (48 + u % 10) :: s)) := fun t p q hh => bin_sadd (by simp; omega)
      have q1 : ∀ t p q (hh : AH), evBin T0 .quo t p q (uv (u : Int)) (uv 10) hh = some (uv ((u / 10 : Nat) : Int)) := fun t p q hh => quo10 hu2
      rw [show N + 60 = (N + 59) + 1 from rfl, codeB_loop]
      simp only [bodyNu, part, Tryd.f25, sub, symM, opFn, Nat.reduceLT, Nat.reduceBEq, g3, g4, bin_geq, decide_eq_true (show (10 : Int) ≤ (u : Int) by omega), q1, rem10, bin_add, add48 hm, dig8 hm, bs_u8, one_str, sa]
      have := ih (u / 10) (UInt8.ofNat (48 + u % 10) :: s)
      rw [dec_big h10, List.append_assoc]
      exact wrapG ((Grow.new h _).less hn) (this _ _ (N + 59) (by rw [Nat.pow_succ] at hu; omega) (by omega) (by simp; omega) (by omega) (by simp only [symM, Nat.reduceBEq, g0]) (by simp only [symM, Nat.reduceBEq]) get_same (Nat.le_trans hn (Nat.le_succ _)))
theorem Number_S (n : Int) (h : AH) (h0 : -9223372036854775808 ≤ n) (h1 : n ≤ 9223372036854775807) :
    ∃ h', frameB T0 X0 call 3000 25 [iv n] h = some (sv (Lib.itoa n), h') ∧ Grow h.next h h' := by
  have cv : ∀ hh : AH, evConvert T0 3 69 (iv n) hh = some (uv (IntKind.u64.wrap n), hh) := fun hh => conv_i2i und_int und_u64
  by_cases hn : n < 0
  · have e1 : IntKind.u64.wrap (-(IntKind.u64.wrap n)) = ((n.natAbs : Nat) : Int) := by
      rw [IntKind.wrap_u64, IntKind.wrap_u64]; omega
    have hm : n.natAbs % 10 < 10 := Nat.mod_lt _ (by decide)
    rw [frameB_eq ft25 rfl rfl]
    simp only [Tryd.f25, symM, opFn, Nat.reduceLT, Nat.reduceBEq, cv, bin_lss, decide_eq_true hn, un_neg, e1, rem10, bin_add, add48 hm, dig8 hm, bs_u8, one_str]
    refine bind_loop (b := bodyNu) (Q := fun tm' h' => (tm'.get 0 = some (iv n) ∧ tm'.get 4 = some (sv (Lib.decDigits n.natAbs ++ []))) ∧ Grow h.next (h.new (.cells (PM.ofList [bv (UInt8.ofNat (48 + n.natAbs % 10))]) 1 5 0 0 .ex)) h') (P := fun x => ∃ h', endF T0 25 x = some (sv (Lib.itoa n), h') ∧ Grow h.next h h') ?_ ?_
    · exact numLp h.next (iv n) 19 n.natAbs [] _ _ _ (by omega) (by omega) (by simp) (by omega) (by simp only [symM, Nat.reduceBEq]) (by simp only [symM, Nat.reduceBEq]) get_same (Nat.le_succ _)
    · rintro tm' h' ⟨⟨q0, q4⟩, g⟩
      rw [List.append_nil] at q4
      have sa : ∀ t p q (hh : AH), evBin T0 .add t p q (sv [45]) (sv (Lib.decDigits n.natAbs)) hh = some (sv (45 :: Lib.decDigits n.natAbs)) := fun t p q hh => bin_sadd (by have := dec_len 19 n.natAbs (by omega); simp; omega)
      refine ⟨h', ?_, (Grow.new h _).trans g (Nat.le_refl _)⟩
      simp only [symM, opFn, Nat.reduceLT, Nat.reduceBEq, q0, q4, bin_lss, decide_eq_true hn, sa]
      rw [show Lib.itoa n = 45 :: Lib.decDigits n.natAbs from by unfold Lib.itoa; rw [if_pos hn]]
      exact retB_one ft25 rfl get_same
  · have e1 : IntKind.u64.wrap n = ((n.toNat : Nat) : Int) := by rw [u64w (by omega)]; omega
    have hm : n.toNat % 10 < 10 := Nat.mod_lt _ (by decide)
    rw [frameB_eq ft25 rfl rfl]
    simp only [Tryd.f25, symM, opFn, Nat.reduceLT, Nat.reduceBEq, cv, bin_lss, decide_eq_false hn, e1, rem10, bin_add, add48 hm, dig8 hm, bs_u8, one_str]
    refine bind_loop (b := bodyNu) (Q := fun tm' h' => (tm'.get 0 = some (iv n) ∧ tm'.get 4 = some (sv (Lib.decDigits n.toNat ++ []))) ∧ Grow h.next (h.new (.cells (PM.ofList [bv (UInt8.ofNat (48 + n.toNat % 10))]) 1 5 0 0 .ex)) h') (P := fun x => ∃ h', endF T0 25 x = some (sv (Lib.itoa n), h') ∧ Grow h.next h h') ?_ ?_
    · exact numLp h.next (iv n) 19 n.toNat [] _ _ _ (by omega) (by omega) (by simp) (by omega) (by simp only [symM, Nat.reduceBEq]) (by simp only [symM, Nat.reduceBEq]) get_same (Nat.le_succ _)
    · rintro tm' h' ⟨⟨q0, q4⟩, g⟩
      rw [List.append_nil] at q4
      refine ⟨h', ?_, (Grow.new h _).trans g (Nat.le_refl _)⟩
      simp only [symM, opFn, Nat.reduceLT, Nat.reduceBEq, q0, q4, bin_lss, decide_eq_false hn]
      rw [show Lib.itoa n = Lib.decDigits n.toNat from by unfold Lib.itoa; rw [if_neg hn]]
      exact retB_one ft25 rfl get_same

/- Words that are numbers. -/
abbrev I64 (v : Int) : Prop := -9223372036854775808 ≤ v ∧ v ≤ 9223372036854775807
def isNum (w : List UInt8) : Prop := ∃ v : Int, I64 v ∧ Lib.itoa v = w
abbrev NumC (call : Abs.Callee) (f M : Nat) : Prop := ∀ (w : List UInt8) (h : AH), w.length ≤ M → Glob h → ∃ (v : Int) (b : Bool) (h' : AH), call f [sv w] h = some (.tuple #[iv v, .bool b], h') ∧ Grow h.next h h' ∧ I64 v ∧ (b = true → Lib.itoa v = w) ∧ (isNum w → b = true)
theorem num_iff {w : List UInt8} {v : Int} {b : Bool} (hv : I64 v) (h1 : b = true → Lib.itoa v = w) (h2 : isNum w → b = true) : b = true ↔ isNum w := ⟨fun q => ⟨v, hv, h1 q⟩, h2⟩
def numNext (u : Int) (b : UInt8) : Int := IntKind.u64.wrap (IntKind.u64.wrap (IntKind.u64.wrap (u * 10) + (b.toNat : Int)) - 48)
theorem numNext_dig {u k : Nat} (hk : k < 10) (hu : u * 10 + k < 18446744073709551616) : numNext (u : Int) (UInt8.ofNat (48 + k)) = ((u * 10 + k : Nat) : Int) := by
  unfold numNext
  rw [dig_toNat hk, IntKind.wrap_u64, IntKind.wrap_u64, IntKind.wrap_u64]; omega
theorem fold_dec : ∀ (u : Nat), u < 18446744073709551616 → (Lib.decDigits u).foldl numNext 0 = (u : Int) := by
  intro u
  induction u using Nat.strongRecOn with
  | _ u ih =>
    intro hu
    by_cases h : u < 10
    · rw [dec_small h]
      show numNext ((0 : Nat) : Int) _ = _
      rw [numNext_dig h (by omega)]; omega
    · rw [dec_big h, List.foldl_append, ih (u / 10) (by omega) (by omega)]
      show numNext _ _ = _
      rw [numNext_dig (Nat.mod_lt _ (by decide)) (by omega)]; omega
theorem numNext_rng (u : Int) (b : UInt8) : 0 ≤ numNext u b ∧ numNext u b < 18446744073709551616 := by
  unfold numNext; rw [IntKind.wrap_u64]; omega
theorem fold_rng (l : List UInt8) : 0 ≤ l.foldl numNext 0 ∧ l.foldl numNext 0 < 18446744073709551616 := by
  rw [← List.foldr_reverse]
  cases l.reverse with
  | nil => simp
  | cons b l => exact numNext_rng _ _
noncomputable def bodyNr : Code := part Tryd.f31 [1, 1, 1, 1, 0, 1, 0, 0]
abbrev ENr : Env := ⟨31, 47, none⟩
theorem rnumLp (L : List UInt8) (hL : L.length < 10000000000) (f : Value) :
    ∀ (l : List UInt8) (i : Nat) (u : Int) (tm : PM Value) (h : AH) (N : Nat), L.drop i = l → i + l.length = L.length → l.length + 60 ≤ N → tm.get 0 = some (sv L) → tm.get 4 = some (uv u) → tm.get 5 = some f → tm.get 6 = some (iv (i : Nat)) →
      ∃ tm' h', codeB T0 X0 call N ENr (.loop bodyNr) tm h [] = .jump (.exit 0) tm' h' [] ∧ (tm'.get 0 = some (sv L) ∧ tm'.get 5 = some f ∧ ∃ u', tm'.get 4 = some (uv u') ∧ (L.length ≤ 20 → u' = l.foldl numNext u)) ∧ Grow h.next h h' := by
  intro l
  induction l with
  | nil =>
    intro i u tm h N hd hi hN g0 g4 g5 g6
    obtain ⟨N, rfl⟩ : ∃ a, N = a + 60 := ⟨N - 60, by omega⟩
    have hiL : i = L.length := by simpa using hi
    subst hiL
    apply Exists.intro; apply Exists.intro
    refine ⟨?_, ⟨?_, ?_, u, ?_, fun _ => rfl⟩, Grow.refl _ _⟩
    · rw [codeB_loop]
      simp only [bodyNr, part, Tryd.f31, sub, symM, opFn, Nat.reduceLT, Nat.reduceBEq, g0, g6, len_str, bin_lss, decide_eq_false (show ¬ ((L.length : Nat) : Int) < (L.length : Nat) by omega)]
      rfl
    · simp only [symM, Nat.reduceBEq, g0]
    · simp only [symM, Nat.reduceBEq, g5]
    · simp only [symM, Nat.reduceBEq, g4]
  | cons x l ih =>
    intro i u tm h N hd hi hN g0 g4 g5 g6
    obtain ⟨N, rfl⟩ : ∃ a, N = a + 60 := ⟨N - 60, by omega⟩
    have hlt : decide ((i : Int) < (L.length : Nat)) = true := decide_eq_true (by simp at hi; omega)
    have hw := wadd1 (a := i) (by simp at hi; omega)
    have ix := idx_str (byteAt hd)
    have hnext : L.drop (i + 1) = l := by rw [← List.drop_drop, hd]; rfl
    rw [show N + 60 = (N + 59) + 1 from rfl, codeB_loop]
    by_cases h20 : L.length ≤ 20
    · have c20 : decide (((L.length : Nat) : Int) ≤ 20) = true := decide_eq_true (by omega)
      have c8 : ∀ hh : AH, evConvert T0 5 69 (bv x) hh = some (uv (x.toNat : Int), hh) := fun hh => by
        rw [conv_i2i und_u8 und_u64, u64w (by have := x.toNat_lt; omega)]
      simp only [bodyNr, part, Tryd.f31, sub, symM, opFn, Nat.reduceLT, Nat.reduceBEq, g0, g4, g6, len_str, bin_lss, bin_leq, hlt, c20, ix, c8, bin_mul, bin_add, bin_sub, hw]
      exact ih (i + 1) (numNext u x) _ h (N + 59) hnext (by simp at hi ⊢; omega) (by simp at hN ⊢; omega) (by simp only [symM, Nat.reduceBEq, g0]) (by simp only [symM, Nat.reduceBEq]; rfl) (by simp only [symM, Nat.reduceBEq, g5]) get_same
    · have c20 : decide (((L.length : Nat) : Int) ≤ 20) = false := decide_eq_false (by omega)
      apply Exists.intro; apply Exists.intro
      refine ⟨?_, ⟨?_, ?_, u, ?_, fun q => absurd q h20⟩, Grow.refl _ _⟩
      · simp only [bodyNr, part, Tryd.f31, sub, symM, opFn, Nat.reduceLT, Nat.reduceBEq, g0, g6, len_str, bin_lss, bin_leq, hlt, c20]
        rfl
      · simp only [symM, Nat.reduceBEq, g0]
      · simp only [symM, Nat.reduceBEq, g5]
      · simp only [symM, Nat.reduceBEq, g4]

abbrev NumberC (call : Abs.Callee) : Prop := ∀ (n : Int) (h : AH), I64 n → ∃ h', call 25 [iv n] h = some (sv (Lib.itoa n), h') ∧ Grow h.next h h'
theorem wrap_rng (x : Int) : I64 (IntKind.i64.wrap x) := by rw [IntKind.wrap_i64]; unfold I64; omega
/-- What the document reads: of a numeral its number. -/
theorem rnum_pos {w : List UInt8} {v : Int} (hv : I64 v) (h0 : 0 ≤ v) (e : Lib.itoa v = w) : IntKind.i64.wrap (w.foldl numNext 0) = v := by
  subst e
  unfold Lib.itoa
  rw [if_neg (by omega), fold_dec _ (by unfold I64 at hv; omega), w64 (by unfold I64 at hv; omega)]; omega
theorem rnum_neg {r : List UInt8} {v : Int} (hv : I64 v) (h0 : v < 0) (e : Lib.itoa v = 45 :: r) : IntKind.i64.wrap (-(IntKind.i64.wrap (r.foldl numNext 0))) = v := by
  unfold Lib.itoa at e
  rw [if_pos h0] at e
  obtain rfl : Lib.decDigits v.natAbs = r := (List.cons.inj e).2
  unfold I64 at hv
  rw [fold_dec _ (by omega), IntKind.wrap_i64, IntKind.wrap_i64]; omega
theorem isNum_head {w : List UInt8} {v : Int} (e : Lib.itoa v = w) : (0 ≤ v ∧ ∃ c r, w = c :: r ∧ c ≠ 45) ∨ (v < 0 ∧ ∃ r, w = 45 :: r) := by
  unfold Lib.itoa at e
  by_cases h : v < 0
  · rw [if_pos h] at e; exact .inr ⟨h, _, e.symm⟩
  · rw [if_neg h] at e
    obtain ⟨c, r, q, q1, q2⟩ := dec_head v.toNat
    exact .inl ⟨by omega, c, r, by rw [← e, q], fun hc => by subst hc; simp at q1⟩
theorem rnumber_S (hN : NumberC call) (M : Nat) (w : List UInt8) (h : AH) (hw : w.length ≤ M) (hM : M < 10000000000) :
    ∃ (v : Int) (b : Bool) (h' : AH), frameB T0 X0 call (M + 3000) 31 [sv w] h = some (.tuple #[iv v, .bool b], h') ∧ Grow h.next h h' ∧ I64 v ∧ (b = true → Lib.itoa v = w) ∧ (isNum w → b = true) := by
  cases w with
  | nil =>
    rw [frameB_eq ft31 rfl rfl]
    simp only [Tryd.f31, symM, opFn, Nat.reduceLT, Nat.reduceBEq, len_str, bin_gtr, decide_eq_false (show ¬ (0 : Int) < ((([] : List UInt8).length : Nat) : Int) by decide)]
    refine bind_loop (b := bodyNr) (Q := fun tm' h' => (tm'.get 0 = some (sv ([] : List UInt8)) ∧ tm'.get 5 = some (iv 0) ∧ ∃ u', tm'.get 4 = some (uv u') ∧ ((([] : List UInt8)).length ≤ 20 → u' = (([] : List UInt8)).foldl numNext 0)) ∧ Grow h.next h h') (P := fun co => ∃ (v : Int) (b : Bool) (h' : AH), endF T0 31 co = some (.tuple #[iv v, .bool b], h') ∧ Grow h.next h h' ∧ I64 v ∧ (b = true → Lib.itoa v = ([] : List UInt8)) ∧ (isNum ([] : List UInt8) → b = true)) ?_ ?_
    · exact rnumLp ([] : List UInt8) (by omega) (iv 0) (([] : List UInt8)) 0 0 _ h _ (by simp) (Nat.zero_add _) (by simp) (by simp only [symM, Nat.reduceBEq]) (by simp only [symM, Nat.reduceBEq]) (by simp only [symM, Nat.reduceBEq]) get_same
    · rintro tm' h1 ⟨⟨q0, q5, u', q4, q6⟩, g⟩
      obtain ⟨h2, c1, c2⟩ := hN (IntKind.i64.wrap u') h1 (wrap_rng _)
      have cv : evConvert T0 69 3 (uv u') h1 = some (iv (IntKind.i64.wrap u'), h1) := conv_i2i und_u64 und_int
      refine ⟨IntKind.i64.wrap u', Lib.itoa (IntKind.i64.wrap u') == ([] : List UInt8), h2, ?_, g.trans (c2.less g.next) (Nat.le_refl _), wrap_rng _, fun q => by simpa using q, ?_⟩
      · simp only [symM, opFn, Nat.reduceLT, Nat.reduceBEq, q0, q4, q5, cv, bin_eql, show ((0 : Int) == 1) = false from rfl, evCall_fn ft25 rfl, c1, bin_seql]
        exact retB_two ft31 rfl (by simp only [symM, Nat.reduceBEq]) get_same
      · rintro ⟨v, hv, e⟩
        rcases isNum_head e with ⟨_, c, r, q, _⟩ | ⟨_, r, q⟩ <;> exact absurd q (by simp)
  | cons x r =>
    have hlen : (x :: r).length = r.length + 1 := rfl
    have hpos : decide ((0 : Int) < (((x :: r).length : Nat) : Int)) = true := decide_eq_true (by omega)
    have ix : evIndex T0 9 (sv (x :: r)) (iv 0) = some (bv x) := idx_str (i := 0) rfl
    by_cases hx : x = 45
    · subst hx
      rw [frameB_eq ft31 rfl rfl]
      simp only [Tryd.f31, symM, opFn, Nat.reduceLT, Nat.reduceBEq, len_str, bin_gtr, bin_eql, hpos, ix, show (((45 : UInt8).toNat : Int) == 45) = true from rfl]
      refine bind_loop (b := bodyNr) (Q := fun tm' h' => (tm'.get 0 = some (sv (45 :: r)) ∧ tm'.get 5 = some (iv 1) ∧ ∃ u', tm'.get 4 = some (uv u') ∧ (((45 :: r)).length ≤ 20 → u' = (r).foldl numNext 0)) ∧ Grow h.next h h') (P := fun co => ∃ (v : Int) (b : Bool) (h' : AH), endF T0 31 co = some (.tuple #[iv v, .bool b], h') ∧ Grow h.next h h' ∧ I64 v ∧ (b = true → Lib.itoa v = (45 :: r)) ∧ (isNum (45 :: r) → b = true)) ?_ ?_
      · exact rnumLp (45 :: r) (by omega) (iv 1) (r) 1 0 _ h _ (by simp) (by simp; omega) (by omega) (by simp only [symM, Nat.reduceBEq]) (by simp only [symM, Nat.reduceBEq]) (by simp only [symM, Nat.reduceBEq]) get_same
      · rintro tm' h1 ⟨⟨q0, q5, u', q4, q6⟩, g⟩
        obtain ⟨h2, c1, c2⟩ := hN (IntKind.i64.wrap (-(IntKind.i64.wrap u'))) h1 (wrap_rng _)
        have cv : evConvert T0 69 3 (uv u') h1 = some (iv (IntKind.i64.wrap u'), h1) := conv_i2i und_u64 und_int
        refine ⟨IntKind.i64.wrap (-(IntKind.i64.wrap u')), Lib.itoa (IntKind.i64.wrap (-(IntKind.i64.wrap u'))) == (45 :: r), h2, ?_, g.trans (c2.less g.next) (Nat.le_refl _), wrap_rng _, fun q => by simpa using q, ?_⟩
        · simp only [symM, opFn, Nat.reduceLT, Nat.reduceBEq, q0, q4, q5, cv, bin_eql, show ((1 : Int) == 1) = true from rfl, un_neg, evCall_fn ft25 rfl, c1, bin_seql]
          exact retB_two ft31 rfl (by simp only [symM, Nat.reduceBEq]) get_same
        · rintro ⟨v, hv, e⟩
          rcases isNum_head e with ⟨_, c, r', q, q'⟩ | ⟨h0, r', q⟩
          · exact absurd (List.cons.inj q).1.symm q'
          · have h20 : (45 :: r).length ≤ 20 := by rw [← e]; exact itoa_len hv.1 hv.2
            rw [q6 h20, rnum_neg hv h0 e, e]; simp
    · have hne : ((x.toNat : Int) == 45) = false := by
        rw [beq_eq_false_iff_ne]; intro q; exact hx (UInt8.toNat_inj.1 (by show x.toNat = 45; omega))
      rw [frameB_eq ft31 rfl rfl]
      simp only [Tryd.f31, symM, opFn, Nat.reduceLT, Nat.reduceBEq, len_str, bin_gtr, bin_eql, hpos, ix, hne]
      refine bind_loop (b := bodyNr) (Q := fun tm' h' => (tm'.get 0 = some (sv (x :: r)) ∧ tm'.get 5 = some (iv 0) ∧ ∃ u', tm'.get 4 = some (uv u') ∧ (((x :: r)).length ≤ 20 → u' = (x :: r).foldl numNext 0)) ∧ Grow h.next h h') (P := fun co => ∃ (v : Int) (b : Bool) (h' : AH), endF T0 31 co = some (.tuple #[iv v, .bool b], h') ∧ Grow h.next h h' ∧ I64 v ∧ (b = true → Lib.itoa v = (x :: r)) ∧ (isNum (x :: r) → b = true)) ?_ ?_
      · exact rnumLp (x :: r) (by omega) (iv 0) (x :: r) 0 0 _ h _ (by simp) (Nat.zero_add _) (by omega) (by simp only [symM, Nat.reduceBEq]) (by simp only [symM, Nat.reduceBEq]) (by simp only [symM, Nat.reduceBEq]) get_same
      · rintro tm' h1 ⟨⟨q0, q5, u', q4, q6⟩, g⟩
        obtain ⟨h2, c1, c2⟩ := hN (IntKind.i64.wrap u') h1 (wrap_rng _)
        have cv : evConvert T0 69 3 (uv u') h1 = some (iv (IntKind.i64.wrap u'), h1) := conv_i2i und_u64 und_int
        refine ⟨IntKind.i64.wrap u', Lib.itoa (IntKind.i64.wrap u') == (x :: r), h2, ?_, g.trans (c2.less g.next) (Nat.le_refl _), wrap_rng _, fun q => by simpa using q, ?_⟩
        · simp only [symM, opFn, Nat.reduceLT, Nat.reduceBEq, q0, q4, q5, cv, bin_eql, show ((0 : Int) == 1) = false from rfl, evCall_fn ft25 rfl, c1, bin_seql]
          exact retB_two ft31 rfl (by simp only [symM, Nat.reduceBEq]) get_same
        · rintro ⟨v, hv, e⟩
          rcases isNum_head e with ⟨h0, c, r', q, q'⟩ | ⟨h0, r', q⟩
          · have h20 : (x :: r).length ≤ 20 := by rw [← e]; exact itoa_len hv.1 hv.2
            rw [q6 h20, rnum_pos hv h0 e, e]; simp
          · exact absurd (List.cons.inj q).1 hx
theorem atoi_rng {l : List UInt8} {v : Int} (e : Lib.atoiAll l = .ok v) : I64 v := by
  unfold Lib.atoiAll at e
  cases l with
  | nil => cases e
  | cons c r =>
    simp only at e
    split at e
    · cases e
    · cases e
    · split at e
      · cases e
      · split at e
        · cases e
        · rename_i q1 q2
          cases e
          unfold I64
          by_cases h45 : c.toNat = 45
          · simp only [h45, not_true, false_and, true_and, if_true] at q1 q2 ⊢; omega
          · simp only [h45, not_false_eq_true, true_and, if_false] at q1 q2 ⊢; omega
theorem sat_rng (l : List UInt8) : I64 (Lib.atoiSat l) := by
  unfold Lib.atoiSat I64; split <;> omega
theorem sAtoi_eq {w : List UInt8} {h : AH} (hg : Glob h) (hw : w.length ≤ 281474976710656) : sAtoi [sv w] h = (match Lib.atoiAll w with
    | .ok v => some (.tuple #[.int .i64 v, .nilIface], h)
    | Lib.NumEnd.syntax => some (.tuple #[.int .i64 0, errV h], h.new (roObj 105))
    | .range => some (.tuple #[.int .i64 (Lib.atoiSat w), errV h], h.new (roObj 105))) := by
  unfold sAtoi
  simp only [sv_size]
  rw [if_pos ⟨hg, hw⟩]
  cases Lib.atoiAll w <;> rfl
theorem sItoa_eq {v : Int} {h : AH} (hg : Glob h) (hv : I64 v) : sItoa [iv v] h = some (sv (Lib.itoa v), h) := by
  unfold sItoa
  simp only
  rw [if_pos ⟨hg, hv.1, hv.2⟩]
theorem und_err : (und T0 60 matches some (.interface _)) = true := by kernel_rfl
theorem eq_err {p q : Operand} {h hh : AH} : evBin T0 .eql 60 p q (errV h) .nilIface hh = some (.bool false) := by
  show refBin T0 .eql 60 (errV h) .nilIface hh = _
  have : refEq T0 hh 20 60 (errV h) .nilIface = some false := by
    have hm := und_err
    unfold errV refEq
    split at hm
    · rename_i m e; simp only [e]
    · cases hm
  unfold refBin
  simp only [this]
theorem eq_nil {t : Nat} {hh : AH} : evBin T0 .eql 60 (.tmp t) (.const .nilIface) .nilIface .nilIface hh = some (.bool true) := by
  show slowBin T0 .eql 60 (.tmp t) (.const .nilIface) .nilIface .nilIface = _
  kernel_rfl
theorem number_S (hL : LibC call) (w : List UInt8) (h : AH) (hw : w.length < 10000000000) (hg : Glob h) :
    ∃ (v : Int) (b : Bool) (h' : AH), frameB T0 X0 call 3000 28 [sv w] h = some (.tuple #[iv v, .bool b], h') ∧ Grow h.next h h' ∧ I64 v ∧ (b = true → Lib.itoa v = w) ∧ (isNum w → b = true) := by
  have hs := sAtoi_eq hg (w := w) (by omega)
  have bad : ∀ x : Int, I64 x → Lib.atoiAll w ≠ .ok x → sAtoi [sv w] h = some (.tuple #[.int .i64 x, errV h], h.new (roObj 105)) → ¬ isNum w →
      ∃ (v : Int) (b : Bool) (h' : AH), frameB T0 X0 call 3000 28 [sv w] h = some (.tuple #[iv v, .bool b], h') ∧ Grow h.next h h' ∧ I64 v ∧ (b = true → Lib.itoa v = w) ∧ (isNum w → b = true) := by
    intro x hx _ q hn
    have c1 := hL.atoi _ _ _ q
    refine ⟨x, false, h.new (roObj 105), ?_, Grow.new _ _, hx, fun q => (by cases q), fun q => absurd q hn⟩
    have en : ∀ p q hh, evBin T0 .eql 60 p q (errV h) .nilIface hh = some (.bool false) := fun p q hh => eq_err
    rw [frameB_eq ft28 rfl rfl]
    simp only [Tryd.f28, symM, opFn, Nat.reduceLT, Nat.reduceBEq, evCall_fn ft43 rfl, c1, ev_nilI, en]
    exact retB_two ft28 rfl (by simp only [symM, Nat.reduceBEq]) get_same
  cases e : Lib.atoiAll w with
  | ok v =>
    rw [e] at hs
    have c1 := hL.atoi _ _ _ hs
    have hv := atoi_rng e
    have c2 := hL.itoa _ _ _ (sItoa_eq hg hv)
    refine ⟨v, Lib.itoa v == w, h, ?_, Grow.refl _ _, hv, fun q => by simpa using q, ?_⟩
    · rw [frameB_eq ft28 rfl rfl]
      simp only [Tryd.f28, symM, opFn, Nat.reduceLT, Nat.reduceBEq, evCall_fn ft43 rfl, c1, ev_nilI, eq_nil, evCall_fn ft21 rfl, c2, bin_seql]
      exact retB_two ft28 rfl (by simp only [symM, Nat.reduceBEq]) get_same
    · rintro ⟨v0, hv0, e0⟩
      have := atoi_itoa hv0.1 hv0.2
      rw [e0, e] at this
      cases this
      rw [e0]; simp
  | range =>
    rw [e] at hs
    exact bad _ (sat_rng w) (by rw [e]; simp) hs (fun ⟨v0, hv0, e0⟩ => by have := atoi_itoa hv0.1 hv0.2; rw [e0, e] at this; cases this)
  | _ =>
    rw [e] at hs
    exact bad 0 (by unfold I64; omega) (by rw [e]; simp) hs (fun ⟨v0, hv0, e0⟩ => by have := atoi_itoa hv0.1 hv0.2; rw [e0, e] at this; cases this)
end
end Go.Proofs.YtknchhnibjfocaaDoor.Abs
namespace Go.Proofs.YtknchhnibjfocaaDoor.Abs
open Go Go.Proofs
noncomputable section
variable {call : Abs.Callee}
set_option maxRecDepth 10000
theorem ft9 : T0.ft.get 9 = some Tryd.f9 := by kernel_rfl
theorem ft10 : T0.ft.get 10 = some Tryd.f10 := by kernel_rfl
/-- An act. -/
structure ActD where
  verb : List UInt8
  path : List UInt8
  other : List UInt8
  n : Int
  m : Int
  data : List UInt8
def cellsA (a : ActD) (d : Value) : List Value := [sv a.verb, sv a.path, sv a.other, iv a.n, iv a.m, d]
def actV (a : ActD) (d : Value) : Value := .agg (cellsA a d).toArray
def clrA (c : UInt8) (a : ActD) : ActD := if c = 112 then { a with path := [] } else if c = 111 then { a with other := [] } else if c = 110 then { a with n := 0 } else if c = 109 then { a with m := 0 } else { a with data := [] }
def fwA (a : ActD) (c : UInt8) : List UInt8 := if c = 112 then wordL a.path else if c = 111 then wordL a.other else if c = 110 then Lib.itoa a.n else if c = 109 then Lib.itoa a.m else wordL a.data
def isZ (a : ActD) : Bool := a.path == [] && (a.other == [] && (a.n == 0 && (a.m == 0 && (a.data == []))))
def spaced (w : List UInt8) (l : List (List UInt8)) : List UInt8 := w ++ (l.map ((32 : UInt8) :: ·)).flatten
def lineA (a : ActD) : Option (List UInt8) := match partsOf a.verb with
  | some P => if isZ (P.foldl (fun r c => clrA c r) a) then some (spaced a.verb (P.map (fwA a))) else none
  | none => none
structure SmallA (M : Nat) (a : ActD) : Prop where
  verb : a.verb.length ≤ M
  path : a.path.length ≤ M
  other : a.other.length ≤ M
  n : I64 a.n
  m : I64 a.m
  data : a.data.length ≤ M
def HasLen (d : Value) (k : Nat) : Prop := ∃ o c, d = .slice o k c
theorem Row.hasLen {n : Nat} {h : AH} {d : Value} {l : List UInt8} (hr : Row n h d (byteVals l) 5) : HasLen d l.length := by
  rcases hr with ⟨rfl, hl⟩ | ⟨b, o, cap, c, m, lo, hi, kd, el, h1, _⟩
  · refine ⟨none, 0, ?_⟩
    rw [← byteVals_len l, hl]; rfl
  · rw [byteVals_len] at h1; exact ⟨_, _, h1⟩
theorem HasLen.len {d : Value} {k : Nat} (hd : HasLen d k) (ty : TypeId) (h : AH) : evBuiltin T0 .len #[22] ty [d] h = some (.value (iv k), h) := by
  obtain ⟨o, c, rfl⟩ := hd
  exact len_slice und_bytes
theorem Row.one {n : Nat} {h : AH} {d : Value} {l : List Value} {e : TypeId} (hr : Row n h d l e) : oneCell d = true ∧ d.cells.toList = [d] := by
  rcases hr with ⟨rfl, hl⟩ | ⟨b, o, cap, c, m, lo, hi, kd, el, rfl, _⟩ <;> exact ⟨rfl, rfl⟩
theorem cellsA_len (a : ActD) (d : Value) : (cellsA a d).length = 6 := rfl
theorem field_A {b : Nat} : evFieldAddr T0 24 (ptr b) 0 = some (.pointer (some ⟨b, 0, none⟩)) ∧ evFieldAddr T0 24 (ptr b) 1 = some (.pointer (some ⟨b, 1, none⟩)) ∧ evFieldAddr T0 24 (ptr b) 2 = some (.pointer (some ⟨b, 2, none⟩)) ∧
    evFieldAddr T0 24 (ptr b) 3 = some (.pointer (some ⟨b, 3, none⟩)) ∧ evFieldAddr T0 24 (ptr b) 4 = some (.pointer (some ⟨b, 4, none⟩)) ∧ evFieldAddr T0 24 (ptr b) 5 = some (.pointer (some ⟨b, 5, none⟩)) := ⟨by kernel_rfl, by kernel_rfl, by kernel_rfl, by kernel_rfl, by kernel_rfl, by kernel_rfl⟩
theorem alloc_A {h : AH} : evAlloc T0 24 h = some (ptr h.next, h.new (.cells (PM.ofList (cellsA ⟨[], [], [], 0, 0, []⟩ nilV)) 6 24 0 0 .ex)) := by
  unfold evAlloc
  rw [show zeroOf T0 24 = some (.agg #[.string .empty, .string .empty, .string .empty, iv 0, iv 0, nilV]) from by kernel_rfl]
  rfl
theorem box_A {h : AH} {a : ActD} {d : Value} : rp (some (evNewVar h 24 (actV a d))) = some (.value (ptr h.next), h.new (.cells (PM.ofList (cellsA a d)) 6 24 0 0 .ex)) := rfl
theorem load_A {h : AH} {b : Nat} {a : ActD} {d : Value} (hb : BoxL h b 24 (cellsA a d)) : evLoad T0 9 (.pointer (some ⟨b, 0, none⟩)) h = some (sv a.verb) ∧ evLoad T0 9 (.pointer (some ⟨b, 1, none⟩)) h = some (sv a.path) ∧ evLoad T0 9 (.pointer (some ⟨b, 2, none⟩)) h = some (sv a.other) ∧
    evLoad T0 3 (.pointer (some ⟨b, 3, none⟩)) h = some (iv a.n) ∧ evLoad T0 3 (.pointer (some ⟨b, 4, none⟩)) h = some (iv a.m) ∧ evLoad T0 22 (.pointer (some ⟨b, 5, none⟩)) h = some d :=
  ⟨hb.load (i := 0) agg_str rfl, hb.load (i := 1) agg_str rfl, hb.load (i := 2) agg_str rfl, hb.load (i := 3) agg_int rfl, hb.load (i := 4) agg_int rfl, hb.load (i := 5) agg_bytes rfl⟩
theorem loadW_A {h : AH} {b : Nat} {a : ActD} {d : Value} (hb : BoxL h b 24 (cellsA a d)) : evLoad T0 24 (ptr b) h = some (actV a d) :=
  hb.loadA agg_act sz_act (by simp [cellsA]) (fun i x hi => by rw [Nat.zero_add]; exact hi)
/- A text is walked over. -/
theorem und_strR {h : AH} {P : List UInt8} : evRange T0 9 (sv P) h = some (ptr h.next, h.new (.str ⟨P.toArray⟩ 0)) := by
  unfold evRange
  simp only [und_str]
theorem decode_low {P : List UInt8} {i : Nat} {c : UInt8} (hi : P[i]? = some c) (hc : c.toNat < 128) : Utf8.decode ⟨P.toArray⟩ i = (c.toNat, 1) := by
  have h1 : (⟨P.toArray⟩ : ByteArray).get! (i + 0) = c := by
    show P.toArray[i + 0]! = c
    have := (List.getElem?_eq_some_iff.1 hi)
    obtain ⟨q, e⟩ := this
    simp [q, e]
  unfold Utf8.decode
  simp only [h1]
  rw [if_pos (by omega)]
theorem next_c {h : AH} {b i : Nat} {P : List UInt8} {c : UInt8} (hb : h.get b = some (.str ⟨P.toArray⟩ i)) (hi : P[i]? = some c) (hc : c.toNat < 128) :
    evNext (ptr b) true h = some (.tuple #[.bool true, iv i, .int .i32 (c.toNat : Int)], h.set b (.str ⟨P.toArray⟩ (i + 1))) := by
  have hlt : i < P.length := (List.getElem?_eq_some_iff.1 hi).1
  unfold evNext
  simp only [hb, Nat.beq_refl, Bool.and_true, ifB_true, decode_low hi hc]
  rw [show Nat.blt i (⟨P.toArray⟩ : ByteArray).size = true from Nat.ble_eq_true_of_le (by rw [sv_size]; omega), ifB_true]
theorem next_e {h : AH} {b : Nat} {P : List UInt8} (hb : h.get b = some (.str ⟨P.toArray⟩ P.length)) : evNext (ptr b) true h = some (.tuple #[.bool false], h) := by
  unfold evNext
  simp only [hb, Nat.beq_refl, Bool.and_true, ifB_true]
  rw [show Nat.blt P.length (⟨P.toArray⟩ : ByteArray).size = false from by rw [sv_size]; exact ble_no (by omega), ifB_false]
theorem OwnC.offS {s n : Nat} {h : AH} {v : Value} {k b : Nat} {cs : List Value} {e : Nat} {t : ByteArray} {i : Nat} (ho : OwnC s n h v k cs e) (hb : h.get b = some (.str t i)) : Off v b := by
  rcases ho with ⟨rfl, _⟩ | ⟨g, c2, kd2, cap, h1, h2, rfl, h4, h5⟩
  · intro o l c hh; cases hh
  · intro o l c hh
    cases hh
    rw [hb] at h4; cases h4
theorem OwnC.away {s n : Nat} {h h' : AH} {v : Value} {k b : Nat} {cs : List Value} {e : Nat} (ho : OwnC s n h v k cs e) (hb : Off v b) (hn : h.next ≤ h'.next) (hg : ∀ k, k ≠ b → h'.get k = h.get k) : OwnC s n h' v k cs e := by
  rcases ho with h1 | ⟨g, c2, kd2, cap, h1, h2, rfl, h4, h5⟩
  · exact .inl h1
  · have hgb : g ≠ b := fun hh => hb 0 k cap (by rw [hh])
    exact .inr ⟨g, c2, kd2, cap, h1, Nat.lt_of_lt_of_le h2 hn, rfl, (hg g hgb).trans h4, h5⟩
theorem BoxL.away {h h' : AH} {b el : Nat} {l : List Value} (hb : BoxL h b el l) (hg : h'.get b = h.get b) : BoxL h' b el l := by
  obtain ⟨c, h1, h2⟩ := hb
  exact ⟨c, hg.trans h1, h2⟩
/-- A cell of a box of our own is written. -/
theorem BoxL.put {n : Nat} {h : AH} {b t o : Nat} {l : List Value} {z : Value} (hb : BoxL h b 24 l) (hs : szOf T0 t = some 1) (hz : oneCell z = true) (ho : o < l.length) (hn : n ≤ b) :
    ∃ h', evStore T0 t (.pointer (some ⟨b, o, none⟩)) z h = some h' ∧ BoxL h' b 24 (l.take o ++ [z] ++ l.drop (o + 1)) ∧ Grow n h h' ∧ h'.next = h.next ∧ ∀ k, k ≠ b → h'.get k = h.get k := by
  obtain ⟨h', e1, e2, e3, e4⟩ := hb.store (n := n) (t := t) (o := o) (ws := [z]) (v := z) hs (by cases z <;> first | rfl | (simp [oneCell] at hz)) (by simp) (by simp [hz]) ho hn
  refine ⟨h', e1, e2, e3, e4, ?_⟩
  intro k hk
  obtain ⟨h'', f1, f2, f3, f4⟩ := hb.store (n := b) (t := t) (o := o) (ws := [z]) (v := z) hs (by cases z <;> first | rfl | (simp [oneCell] at hz)) (by simp) (by simp [hz]) ho (Nat.le_refl _)
  obtain ⟨c, q1, q2⟩ := hb
  rw [f1] at e1; cases e1
  have hcl : z.cells.toList = [z] := by cases z <;> first | rfl | (simp [oneCell] at hz)
  simp only [evStore, storeVarA, hs, hcl] at f1
  rw [show Nat.beq [z].length 1 = true from rfl, ifB_true] at f1
  simp only [storeRow, q1] at f1
  obtain ⟨_, e5⟩ := ifB_some f1
  rw [← Option.some.inj e5, AH.get_set, if_neg hk]
abbrev WordC (call : Abs.Callee) (f M : Nat) : Prop := ∀ (l : List UInt8) (h : AH), l.length ≤ M → ∃ h', call f [sv l] h = some (sv (wordL l), h') ∧ Grow h.next h h'
abbrev VerbsC (call : Abs.Callee) : Prop := ∀ h : AH, call 19 [] h = some (.map (some h.next), mapAt h 21)
abbrev LineC (call : Abs.Callee) (f M : Nat) : Prop := ∀ (a : ActD) (d : Value) (h : AH), Row h.next h d (byteVals a.data) 5 → Glob h → 4 ≤ h.next → SmallA M a → ∃ h', call f [actV a d] h = some (.tuple #[sv ((lineA a).getD []), iv (if (lineA a).isSome then 0 else 1)], h') ∧ Grow h.next h h'
/- The parts of verbs. -/
theorem lookT_mem : ∀ (tab : List (List UInt8 × List UInt8)) (k P : List UInt8), lookT tab k = some P → (k, P) ∈ tab := by
  intro tab
  induction tab with
  | nil => intro k P e; cases e
  | cons x tab ih =>
    intro k P e
    rw [lookT] at e
    split at e
    · rename_i hk
      cases e
      rw [hk]; exact List.mem_cons_self
    · exact List.mem_cons_of_mem _ (ih k P e)
def goodP (P : List UInt8) : Bool := decide (P.length ≤ 10) && (decide P.Nodup && P.all fun c => c == 112 || (c == 111 || (c == 110 || (c == 109 || c == 100))))
theorem VT_good : VT.all (fun x => goodP x.2 && decide (x.1.length ≤ 10)) = true := by decide
theorem parts_good {k P : List UInt8} (e : partsOf k = some P) : goodP P = true ∧ k.length ≤ 10 := by
  have := List.all_eq_true.1 VT_good _ (lookT_mem VT k P e)
  simp only [Bool.and_eq_true, decide_eq_true_eq] at this
  exact this
def KindP (c : UInt8) : Prop := c = 112 ∨ c = 111 ∨ c = 110 ∨ c = 109 ∨ c = 100
theorem goodP_iff {P : List UInt8} (h : goodP P = true) : P.length ≤ 10 ∧ P.Nodup ∧ ∀ c ∈ P, KindP c := by
  unfold goodP at h
  simp only [Bool.and_eq_true, decide_eq_true_eq, List.all_eq_true, Bool.or_eq_true, beq_iff_eq] at h
  exact h
theorem KindP.low {c : UInt8} (h : KindP c) : c.toNat < 128 := by
  rcases h with rfl | rfl | rfl | rfl | rfl <;> decide
end
end Go.Proofs.YtknchhnibjfocaaDoor.Abs
namespace Go.Proofs.YtknchhnibjfocaaDoor.Abs
open Go Go.Proofs
noncomputable section
variable {call : Abs.Callee}
set_option maxRecDepth 10000
/- Where act.Line's loop stands. -/
structure LineI (n : Nat) (h : AH) (b1 b7 bi : Nat) (v : Value) (W : List (List UInt8)) (cs rs : List Value) (P : List UInt8) (i : Nat) : Prop where
  n4 : 4 ≤ n
  lt1 : b1 < n
  l7 : n ≤ b7 ∧ b7 < h.next
  li : n ≤ bi ∧ bi < h.next
  nn : n ≤ h.next
  gl : Glob h
  bx : BoxL h b1 24 cs
  rx : BoxL h b7 24 rs
  it : h.get bi = some (.str ⟨P.toArray⟩ i)
  own : OwnC 1 n h v W.length (strsV W) 9
theorem LineI.grow {n : Nat} {h h' : AH} {b1 b7 bi : Nat} {v : Value} {W : List (List UInt8)} {cs rs : List Value} {P : List UInt8} {i : Nat} (x : LineI n h b1 b7 bi v W cs rs P i) (g : Grow h.next h h') : LineI n h' b1 b7 bi v W cs rs P i :=
  ⟨x.n4, x.lt1, ⟨x.l7.1, Nat.lt_of_lt_of_le x.l7.2 g.next⟩, ⟨x.li.1, Nat.lt_of_lt_of_le x.li.2 g.next⟩, Nat.le_trans x.nn g.next, x.gl.grow g (Nat.le_trans x.n4 x.nn), x.bx.grow g (Nat.lt_of_lt_of_le x.lt1 x.nn), x.rx.grow g x.l7.2, (g.keep bi x.li.2).trans x.it, x.own.grow g⟩
theorem LineI.step {n : Nat} {h : AH} {b1 b7 bi : Nat} {v : Value} {W : List (List UInt8)} {cs rs : List Value} {P : List UInt8} {i : Nat} (x : LineI n h b1 b7 bi v W cs rs P i) (j : Nat) : LineI n (h.set bi (.str ⟨P.toArray⟩ j)) b1 b7 bi v W cs rs P j ∧ Grow n h (h.set bi (.str ⟨P.toArray⟩ j)) := by
  have g : Grow n h (h.set bi (.str ⟨P.toArray⟩ j)) := Grow.set h _ x.li.1
  have h7 : b7 ≠ bi := by
    intro e
    obtain ⟨c, q1, q2⟩ := x.rx
    rw [e, x.it] at q1; cases q1
  refine ⟨⟨x.n4, x.lt1, x.l7, x.li, x.nn, x.gl.grow g x.n4, x.bx.grow g x.lt1, x.rx.away (by rw [AH.get_set, if_neg h7]), by rw [AH.get_set, if_pos rfl], x.own.away (x.own.offS x.it) (Nat.le_refl _) (fun k hk => by rw [AH.get_set, if_neg hk])⟩, g⟩
theorem LineI.put {n : Nat} {h : AH} {b1 b7 bi : Nat} {v : Value} {W : List (List UInt8)} {cs rs : List Value} {P : List UInt8} {i : Nat} (x : LineI n h b1 b7 bi v W cs rs P i) (w : List UInt8) (hW : W.length ≤ 100) (o t : Nat) (z : Value) (ho : o < rs.length) (hs : szOf T0 t = some 1) (hz : oneCell z = true) (ty : TypeId) :
    ∃ v' h1 h2, evBuiltin T0 .append #[46, 46] ty [v, .slice (some ⟨h.next, 0, none⟩) 1 1] (h.new (.cells (PM.ofList [sv w]) 1 9 0 0 .ex)) = some (.value v', h1) ∧
      evStore T0 t (.pointer (some ⟨b7, o, none⟩)) z h1 = some h2 ∧ LineI n h2 b1 b7 bi v' (W ++ [w]) cs (rs.take o ++ [z] ++ rs.drop (o + 1)) P i ∧ Grow n h h2 := by
  obtain ⟨v', h1, a1, a2, a3, a4⟩ := put_str w x.own (by omega) x.nn ty
  obtain ⟨c7, q7, _⟩ := id x.rx
  have k7 := a4 b7 x.l7.2 (x.own.off q7 (by decide))
  have ki := a4 bi x.li.2 (x.own.offS x.it)
  have y : LineI n h1 b1 b7 bi v' (W ++ [w]) cs rs P i :=
    ⟨x.n4, x.lt1, ⟨x.l7.1, Nat.lt_of_lt_of_le x.l7.2 a3.next⟩, ⟨x.li.1, Nat.lt_of_lt_of_le x.li.2 a3.next⟩, Nat.le_trans x.nn a3.next, x.gl.grow a3 x.n4, x.bx.grow a3 x.lt1, x.rx.away k7, ki.trans x.it, a2⟩
  obtain ⟨h2, b1', b2, b3, b4, b5⟩ := y.rx.put (n := n) hs hz ho y.l7.1
  have hi : bi ≠ b7 := by
    intro e
    have q := k7.trans q7
    rw [← e, y.it] at q; cases q
  refine ⟨v', h1, h2, a1, b1', ⟨y.n4, y.lt1, by rw [b4]; exact y.l7, by rw [b4]; exact y.li, by rw [b4]; exact y.nn, y.gl.grow b3 y.n4, y.bx.grow b3 y.lt1, b2, (b5 bi hi).trans y.it, y.own.away (y.own.off (k7.trans q7) (by decide)) (by rw [b4]; exact Nat.le_refl _) b5⟩, a3.trans b3 (Nat.le_refl _)⟩
theorem sz_int : szOf T0 3 = some 1 := by kernel_rfl
theorem sz_bytes : szOf T0 22 = some 1 := by kernel_rfl
noncomputable def bodyLn : Code := part Tryd.f9 [1, 1, 1, 1, 1, 0, 1, 0, 0]
abbrev ELn : Env := ⟨9, 102, none⟩
theorem itoa_C (hL : LibC call) {v : Int} {h : AH} (hg : Glob h) (hv : I64 v) : call 21 [iv v] h = some (sv (Lib.itoa v), h) := hL.itoa _ _ _ (sItoa_eq hg hv)
theorem lineLp (hL : LibC call) (M : Nat) (hW : WordC call 20 M) (n b1 b7 bi : Nat) (a : ActD) (d : Value) (P : List UInt8) (hP : P.length ≤ 10) (ha : SmallA M a) :
    ∀ (l : List UInt8) (i : Nat) (W : List (List UInt8)) (r : ActD) (dv v : Value) (tm : PM Value) (h : AH) (N : Nat), P.drop i = l → i + l.length = P.length → (∀ c ∈ l, KindP c) → W.length = i + 1 → l.length + 60 ≤ N → tm.get 1 = some (ptr b1) → tm.get 6 = some v → tm.get 7 = some (ptr b7) → tm.get 25 = some (ptr bi) →
      LineI n h b1 b7 bi v W (cellsA a d) (cellsA r dv) P i → Row n h d (byteVals a.data) 5 → HasLen dv r.data.length →
      ∃ tm' h', codeB T0 X0 call N ELn (.loop bodyLn) tm h [] = .jump (.exit 0) tm' h' [] ∧ (∃ v' dv', tm'.get 6 = some v' ∧ tm'.get 7 = some (ptr b7) ∧ LineI n h' b1 b7 bi v' (W ++ l.map (fwA a)) (cellsA a d) (cellsA (l.foldl (fun r c => clrA c r) r) dv') P P.length ∧ HasLen dv' (l.foldl (fun r c => clrA c r) r).data.length) ∧ Grow n h h' := by
  intro l
  induction l with
  | nil =>
    intro i W r dv v tm h N hd hi hk hWl hN g1 g6 g7 g25 x hr hv
    obtain ⟨N, rfl⟩ : ∃ a, N = a + 60 := ⟨N - 60, by omega⟩
    have hiL : i = P.length := by simpa using hi
    subst hiL
    apply Exists.intro; apply Exists.intro
    refine ⟨?_, ⟨v, dv, ?_, ?_, by rw [List.map_nil, List.append_nil]; exact x, hv⟩, Grow.refl _ _⟩
    · rw [codeB_loop]
      simp only [bodyLn, part, Tryd.f9, sub, symM, opFn, Nat.reduceLT, g25, next_e x.it]
      rfl
    · simp only [symM, Nat.reduceBEq, g6]
    · simp only [symM, Nat.reduceBEq, g7]
  | cons c l ih =>
    intro i W r dv v tm h N hd hi hk hWl hN g1 g6 g7 g25 x hr hv
    obtain ⟨N, rfl⟩ : ∃ a, N = a + 60 := ⟨N - 60, by omega⟩
    simp only [List.length_cons] at hi hN
    have hkc := hk c List.mem_cons_self
    have hkl : ∀ c ∈ l, KindP c := fun c hc => hk c (List.mem_cons_of_mem _ hc)
    have hnx := next_c x.it (byteAt hd) hkc.low
    obtain ⟨x1, g1'⟩ := x.step (i + 1)
    generalize h.set bi (.str ⟨P.toArray⟩ (i + 1)) = h1 at hnx x1 g1'
    have hnext : P.drop (i + 1) = l := by rw [← List.drop_drop, hd]; rfl
    obtain ⟨l0, l1, l2, l3, l4, l5⟩ := load_A x1.bx
    have hr1 := hr.grow g1' (Nat.le_refl _)
    have nx : ∀ (w : List UInt8), (W ++ [w]).length = i + 1 + 1 := fun w => by rw [List.length_append, hWl]; rfl
    rw [List.map_cons, List.append_cons, List.foldl_cons]
    rw [show N + 60 = (N + 59) + 1 from rfl, codeB_loop]
    rcases hkc with rfl | rfl | rfl | rfl | rfl
    · have ec : clrA 112 r = { r with path := [] } := by unfold clrA; rfl
      have ew : fwA a 112 = wordL a.path := by unfold fwA; rfl
      rw [ec, ew]
      obtain ⟨h2, c1, c2⟩ := hW a.path h1 ha.path
      obtain ⟨v', h3, h4, a1, a2, x3, g3⟩ := (x1.grow c2).put (wordL a.path) (by omega) 1 9 (sv []) (by rw [cellsA_len]; decide) sz_str rfl 46
      simp only [bodyLn, part, Tryd.f9, sub, symM, opFn, Nat.reduceLT, Nat.reduceBEq, g1, g6, g7, g25, hnx, bin_eql, show ((((112 : UInt8).toNat : Int)) == 112) = true from rfl, field_A.2.1, l1, evCall_fn ft20 rfl, c1, bs_str, a1, a2]
      exact wrapG ((g1'.trans (c2.less x1.nn) (Nat.le_refl _)).trans g3 (Nat.le_refl _)) (ih (i + 1) _ { r with path := [] } dv v' _ h4 (N + 59) hnext (by omega) hkl (nx _) (by omega) (by simp only [symM, Nat.reduceBEq, g1]) (by simp only [symM, Nat.reduceBEq]) (by simp only [symM, Nat.reduceBEq, g7]) (by simp only [symM, Nat.reduceBEq, g25]) x3 (hr1.grow ((c2.less x1.nn).trans g3 (Nat.le_refl _)) (Nat.le_refl _)) hv)
    · have ec : clrA 111 r = { r with other := [] } := by unfold clrA; rfl
      have ew : fwA a 111 = wordL a.other := by unfold fwA; rfl
      rw [ec, ew]
      obtain ⟨h2, c1, c2⟩ := hW a.other h1 ha.other
      obtain ⟨v', h3, h4, a1, a2, x3, g3⟩ := (x1.grow c2).put (wordL a.other) (by omega) 2 9 (sv []) (by rw [cellsA_len]; decide) sz_str rfl 46
      simp only [bodyLn, part, Tryd.f9, sub, symM, opFn, Nat.reduceLT, Nat.reduceBEq, g1, g6, g7, g25, hnx, bin_eql, show ((((111 : UInt8).toNat : Int)) == 112) = false from rfl, show ((((111 : UInt8).toNat : Int)) == 111) = true from rfl, field_A.2.2.1, l2, evCall_fn ft20 rfl, c1, bs_str, a1, a2]
      exact wrapG ((g1'.trans (c2.less x1.nn) (Nat.le_refl _)).trans g3 (Nat.le_refl _)) (ih (i + 1) _ { r with other := [] } dv v' _ h4 (N + 59) hnext (by omega) hkl (nx _) (by omega) (by simp only [symM, Nat.reduceBEq, g1]) (by simp only [symM, Nat.reduceBEq]) (by simp only [symM, Nat.reduceBEq, g7]) (by simp only [symM, Nat.reduceBEq, g25]) x3 (hr1.grow ((c2.less x1.nn).trans g3 (Nat.le_refl _)) (Nat.le_refl _)) hv)
    · have ec : clrA 110 r = { r with n := 0 } := by unfold clrA; rfl
      have ew : fwA a 110 = Lib.itoa a.n := by unfold fwA; rfl
      rw [ec, ew]
      have c1 := itoa_C hL x1.gl ha.n
      obtain ⟨v', h3, h4, a1, a2, x3, g3⟩ := x1.put (Lib.itoa a.n) (by omega) 3 3 (iv 0) (by rw [cellsA_len]; decide) sz_int rfl 46
      simp only [bodyLn, part, Tryd.f9, sub, symM, opFn, Nat.reduceLT, Nat.reduceBEq, g1, g6, g7, g25, hnx, bin_eql, show ((((110 : UInt8).toNat : Int)) == 112) = false from rfl, show ((((110 : UInt8).toNat : Int)) == 111) = false from rfl, show ((((110 : UInt8).toNat : Int)) == 110) = true from rfl, field_A.2.2.2.1, l3, evCall_fn ft21 rfl, c1, bs_str, a1, a2]
      exact wrapG (g1'.trans g3 (Nat.le_refl _)) (ih (i + 1) _ { r with n := 0 } dv v' _ h4 (N + 59) hnext (by omega) hkl (nx _) (by omega) (by simp only [symM, Nat.reduceBEq, g1]) (by simp only [symM, Nat.reduceBEq]) (by simp only [symM, Nat.reduceBEq, g7]) (by simp only [symM, Nat.reduceBEq, g25]) x3 (hr1.grow (g3) (Nat.le_refl _)) hv)
    · have ec : clrA 109 r = { r with m := 0 } := by unfold clrA; rfl
      have ew : fwA a 109 = Lib.itoa a.m := by unfold fwA; rfl
      rw [ec, ew]
      have c1 := itoa_C hL x1.gl ha.m
      obtain ⟨v', h3, h4, a1, a2, x3, g3⟩ := x1.put (Lib.itoa a.m) (by omega) 4 3 (iv 0) (by rw [cellsA_len]; decide) sz_int rfl 46
      simp only [bodyLn, part, Tryd.f9, sub, symM, opFn, Nat.reduceLT, Nat.reduceBEq, g1, g6, g7, g25, hnx, bin_eql, show ((((109 : UInt8).toNat : Int)) == 112) = false from rfl, show ((((109 : UInt8).toNat : Int)) == 111) = false from rfl, show ((((109 : UInt8).toNat : Int)) == 110) = false from rfl, show ((((109 : UInt8).toNat : Int)) == 109) = true from rfl, field_A.2.2.2.2.1, l4, evCall_fn ft21 rfl, c1, bs_str, a1, a2]
      exact wrapG (g1'.trans g3 (Nat.le_refl _)) (ih (i + 1) _ { r with m := 0 } dv v' _ h4 (N + 59) hnext (by omega) hkl (nx _) (by omega) (by simp only [symM, Nat.reduceBEq, g1]) (by simp only [symM, Nat.reduceBEq]) (by simp only [symM, Nat.reduceBEq, g7]) (by simp only [symM, Nat.reduceBEq, g25]) x3 (hr1.grow (g3) (Nat.le_refl _)) hv)
    · have ec : clrA 100 r = { r with data := [] } := by unfold clrA; rfl
      have ew : fwA a 100 = wordL a.data := by unfold fwA; rfl
      rw [ec, ew]
      obtain ⟨h2, c1, c2⟩ := hW a.data h1 ha.data
      obtain ⟨v', h3, h4, a1, a2, x3, g3⟩ := (x1.grow c2).put (wordL a.data) (by omega) 5 22 nilV (by rw [cellsA_len]; decide) sz_bytes rfl 46
      simp only [bodyLn, part, Tryd.f9, sub, symM, opFn, Nat.reduceLT, Nat.reduceBEq, g1, g6, g7, g25, hnx, bin_eql, show ((((100 : UInt8).toNat : Int)) == 112) = false from rfl, show ((((100 : UInt8).toNat : Int)) == 111) = false from rfl, show ((((100 : UInt8).toNat : Int)) == 110) = false from rfl, show ((((100 : UInt8).toNat : Int)) == 109) = false from rfl, show ((((100 : UInt8).toNat : Int)) == 100) = true from rfl, field_A.2.2.2.2.2, l5, conv_bytes hr1, evCall_fn ft20 rfl, c1, bs_str, a1, a2]
      exact wrapG ((g1'.trans (c2.less x1.nn) (Nat.le_refl _)).trans g3 (Nat.le_refl _)) (ih (i + 1) _ { r with data := [] } nilV v' _ h4 (N + 59) hnext (by omega) hkl (nx _) (by omega) (by simp only [symM, Nat.reduceBEq, g1]) (by simp only [symM, Nat.reduceBEq]) (by simp only [symM, Nat.reduceBEq, g7]) (by simp only [symM, Nat.reduceBEq, g25]) x3 (hr1.grow ((c2.less x1.nn).trans g3 (Nat.le_refl _)) (Nat.le_refl _)) ⟨none, 0, rfl⟩)
end
end Go.Proofs.YtknchhnibjfocaaDoor.Abs
namespace Go.Proofs.YtknchhnibjfocaaDoor.Abs
open Go Go.Proofs
noncomputable section
variable {call : Abs.Callee}
set_option maxRecDepth 10000

theorem plan_Line1 : planB (regOps Tryd.f9 [1, 0]) 102 = some ([.one 1, .one 2, .eff [] 0 [1, 2], .one 3, .one 4, .one 5, .one 6, .one 7, .one 8], []) := by kernel_rfl
theorem plan_Line4 : planB (regOps Tryd.f9 [1, 1, 1, 0]) 102 = some ([.one 0, .one 1, .one 3, .eff [2, 4] 6 []], [5]) := by kernel_rfl
/-- The words joined by blanks. -/
theorem join_words (w : List UInt8) (l : List (List UInt8)) : Lib.join (w :: l) [32] = spaced w l := by
  rw [Lib.join_cons]; rfl
theorem spaced_len (K : Nat) : ∀ (l : List (List UInt8)) (w : List UInt8), (∀ x ∈ l, x.length ≤ K) → (spaced w l).length ≤ w.length + l.length * (K + 1) := by
  intro l
  induction l with
  | nil => intro w _; simp [spaced]
  | cons x l ih =>
    intro w h
    have h1 := ih w (fun y hy => h y (List.mem_cons_of_mem _ hy))
    have h2 := h x List.mem_cons_self
    unfold spaced at h1 ⊢
    simp only [List.map_cons, List.flatten_cons, List.length_append, List.length_cons] at h1 ⊢
    rw [Nat.add_mul]; omega
theorem wordL_len (l : List UInt8) : (wordL l).length ≤ 3 * l.length + 1 := by
  unfold wordL
  split
  · simp
  · have := wordT_len l; omega
theorem fwA_len {M : Nat} {a : ActD} (ha : SmallA M a) (c : UInt8) : (fwA a c).length ≤ 3 * M + 20 := by
  have h1 := wordL_len a.path
  have h2 := wordL_len a.other
  have h3 := wordL_len a.data
  have h4 := itoa_len ha.n.1 ha.n.2
  have h5 := itoa_len ha.m.1 ha.m.2
  have := ha.path; have := ha.other; have := ha.data
  unfold fwA
  split
  · omega
  · split
    · omega
    · split
      · omega
      · split
        · omega
        · omega
theorem strsOf_sv (l : List (List UInt8)) : strsOf (strsV l) = some (l.map fun x => (⟨x.toArray⟩ : ByteArray)) := by
  induction l with
  | nil => rfl
  | cons x l ih => rw [strsV, List.map_cons, strsOf, ← strsV, ih]; rfl
theorem Join_C (hL : LibC call) {n : Nat} {h : AH} {v : Value} {W : List (List UInt8)} (ho : OwnC 1 n h v W.length (strsV W) 9) (h0 : W ≠ []) (hW : W.length ≤ 100) (hl : (Lib.join W [32]).length ≤ 140737488355328) : call 22 [v, sv [32]] h = some (sv (Lib.join W [32]), h) := by
  refine hL.join _ _ _ ?_
  have hn0 : W.length ≠ 0 := fun q => h0 (List.length_eq_zero_iff.1 q)
  rcases ho with ⟨rfl, hk, _⟩ | ⟨b, c, kd, cap, q1, q2, rfl, q4, q5, q6, q7⟩
  · exact absurd hk hn0
  · have hld : loadRow h b 0 W.length = some (strsV W) := by
      have := loadRow_of (l := strsV W) (b := b) (h := h) (o := 0) q4 (by omega) (fun i y hy => by rw [Nat.zero_add]; exact q6 i y hy)
      rwa [q5, Nat.mul_one] at this
    have hcap : W.length ≤ cap := by rcases q7 with ⟨_, rfl⟩ | ⟨_, rfl⟩ <;> omega
    unfold sJoin
    simp only [hld, strsOf_sv]
    have e1 : (W.map fun x => (⟨x.toArray⟩ : ByteArray)).map (fun x => x.data.toList) = W := by rw [List.map_map]; exact List.map_id W
    rw [e1, List.length_map]
    rw [if_pos ⟨rfl, hn0, hcap, by omega, hl⟩]
theorem Row.wide {n m : Nat} {h : AH} {v : Value} {l : List Value} {e : TypeId} (hr : Row n h v l e) (hn : n ≤ m) : Row m h v l e := by
  rcases hr with h1 | ⟨b, o, cap, c, k, lo, hi, kd, el, h1, h2, h3⟩
  · exact .inl h1
  · exact .inr ⟨b, o, cap, c, k, lo, hi, kd, el, h1, Nat.lt_of_lt_of_le h2 hn, h3⟩
def lastR (df : List Nat) : Option (PM Value × AH) → CO
  | some q => .fall q.1 q.2 df
  | none => .bad
theorem lastD_some {ops : Array Oper} {fa df : List Nat} {p : PM Value × AH} : lastD T0 ops fa df (some p) = lastR df (runAl T0 ops fa p.1 p.2) := rfl
theorem lastR_some {df : List Nat} {q : PM Value × AH} : lastR df (some q) = .fall q.1 q.2 df := rfl
theorem clr_verb (P : List UInt8) : ∀ (a : ActD), P.foldl (fun r c => clrA c r) { a with verb := [] } = { P.foldl (fun r c => clrA c r) a with verb := [] } := by
  induction P with
  | nil => intro a; rfl
  | cons c P ih =>
    intro a
    rw [List.foldl_cons, List.foldl_cons, ← ih]
    congr 1
    unfold clrA
    split
    · rfl
    · split
      · rfl
      · split
        · rfl
        · split <;> rfl
theorem isZ_verb (a : ActD) : isZ { a with verb := [] } = isZ a := rfl
def restV (r : ActD) (dv : Value) : Prop := HasLen dv r.data.length
theorem Line_S (hL : LibC call) (hV : VerbsC call) (M : Nat) (hM : M < 10000000000) (hW : WordC call 20 M) (a : ActD) (d : Value) (h : AH) (hr : Row h.next h d (byteVals a.data) 5) (hg : Glob h) (h4 : 4 ≤ h.next) (ha : SmallA M a) :
    ∃ h', frameB T0 X0 call 3000 9 [actV a d] h = some (.tuple #[sv ((lineA a).getD []), iv (if (lineA a).isSome then 0 else 1)], h') ∧ Grow h.next h h' := by
  generalize hh1 : h.new (.cells (PM.ofList (cellsA a d)) 6 24 0 0 .ex) = h1
  have hbox : rp (some (evNewVar h 24 (actV a d))) = some (.value (ptr h.next), h1) := by rw [box_A, hh1]
  have bx1 : BoxL h1 h.next 24 (cellsA a d) := by rw [← hh1]; exact BoxL.new h _ (cellsA a d)
  have n1 : h1.next = h.next + 1 := by rw [← hh1]; rfl
  have g1 : Grow h.next h h1 := by rw [← hh1]; exact Grow.new _ _
  have hv1 := hV h1
  have g2 := mapAt_grow h1 21
  have hm := mapAt_get h1 21
  have e21 : VT.take 21 = VT := rfl
  rw [e21] at hm
  generalize mapAt h1 21 = h2 at hv1 g2 hm
  have bx2 := bx1.grow g2 (by omega)
  have n2 := g2.next
  have hl := look_S (k := a.verb) hm
  obtain ⟨k0, _⟩ := load_A bx1
  obtain ⟨l0, l1, l2, l3, l4, l5⟩ := load_A bx2
  have lw := loadW_A bx2
  have hp1 := plan_Line1
  have hp4 := plan_Line4
  simp only [regOps, part, Tryd.f9, sub] at hp1 hp4
  have g12 : Grow h.next h h2 := g1.trans (g2.less (by omega)) (Nat.le_refl _)
  rw [frameB_eq ft9 rfl rfl]
  unfold lineA
  cases hp : partsOf a.verb with
  | none =>
    rw [hp] at hl
    simp only [Option.getD_none, Option.isSome_none] at hl
    refine ⟨h2, ?_, g12⟩
    simp only [Tryd.f9, symM, opFn, Nat.reduceLT, hbox, codeB_draw]
    rw [draw_plan hp1 rfl]
    simp only [drawAll, opFn, Nat.reduceLT, Nat.reduceBEq, effE_cons, eqV_str, field_A.1, k0, l0, evCall_fn ft19 rfl, hv1, hl]
    exact retB_two ft9 rfl (by simp only [symM, Nat.reduceBEq]; rfl) (by simp only [symM]; rfl)
  | some P =>
    rw [hp] at hl
    simp only [Option.getD_some, Option.isSome_some] at hl
    obtain ⟨hgp, hvl⟩ := parts_good hp
    obtain ⟨hP, hnd, hk⟩ := goodP_iff hgp
    -- the list of words
    generalize hh3 : h2.new (.cells (PM.ofList [sv a.verb]) 1 9 0 0 .ex) = h3
    have n3 : h3.next = h2.next + 1 := by rw [← hh3]; rfl
    have g3 : Grow h2.next h2 h3 := by rw [← hh3]; exact Grow.new _ _
    have own3 : OwnC 1 h2.next h3 (.slice (some ⟨h2.next, 0, none⟩) 1 1) 1 (strsV [a.verb]) 9 := by
      rw [← hh3]
      exact .inr ⟨h2.next, _, .ex, 1, Nat.le_refl _, Nat.lt_succ_self _, rfl, get_new_same _ _, rfl, fun i x hi => by rw [PM.get_ofList]; exact hi, .inl ⟨rfl, rfl⟩⟩
    have hbs : evBuildSlice T0 46 1 [(0, sv a.verb)] h2 = some (.slice (some ⟨h2.next, 0, none⟩) 1 1, h3) := by rw [bs_str, hh3]
    -- the copy of the act
    generalize hh4 : h3.new (.cells (PM.ofList (cellsA ⟨[], [], [], 0, 0, []⟩ nilV)) 6 24 0 0 .ex) = h5
    have n5 : h5.next = h3.next + 1 := by rw [← hh4]; rfl
    have g5 : Grow h3.next h3 h5 := by rw [← hh4]; exact Grow.new _ _
    have hal : evAlloc T0 24 h3 = some (ptr h3.next, h5) := by rw [alloc_A, hh4]
    have b5 : BoxL h5 h3.next 24 (cellsA ⟨[], [], [], 0, 0, []⟩ nilV) := by rw [← hh4]; exact BoxL.new h3 _ _
    obtain ⟨h6, s1, s2, s3, s4⟩ := b5.store (n := h3.next) (t := 24) (o := 0) (ws := cellsA a d) (v := actV a d) sz_act (by unfold actV; rfl) (by simp [cellsA]) (by show (true && (true && (true && (true && (true && (oneCell d && true)))))) = true; rw [hr.one.1]; rfl) (by simp [cellsA]) (Nat.le_refl _)
    have s2 : BoxL h6 h3.next 24 (cellsA a d) := s2
    obtain ⟨h7, u1, u2, u3, u4, _⟩ := s2.put (n := h3.next) (t := 9) (o := 0) (z := sv []) sz_str rfl (by simp [cellsA]) (Nat.le_refl _)
    have u2 : BoxL h7 h3.next 24 (cellsA { a with verb := [] } d) := u2
    have g57 : Grow h3.next h5 h7 := s3.trans u3 (Nat.le_refl _)
    have n7 : h7.next = h5.next := by rw [u4, s4]
    have g37 : Grow h3.next h3 h7 := g5.trans g57 (Nat.le_refl _)
    generalize hh8 : h7.new (.str ⟨P.toArray⟩ 0) = h8
    have n8 : h8.next = h7.next + 1 := by rw [← hh8]; rfl
    have g8 : Grow h7.next h7 h8 := by rw [← hh8]; exact Grow.new _ _
    have hrg : evRange T0 9 (sv P) h7 = some (ptr h7.next, h8) := by rw [und_strR, hh8]
    have g38 : Grow h3.next h3 h8 := g37.trans g8 (by omega)
    have g28 : Grow h2.next h2 h8 := g3.trans g38 (by omega)
    have x0 : LineI h2.next h8 h.next h3.next h7.next (.slice (some ⟨h2.next, 0, none⟩) 1 1) [a.verb] (cellsA a d) (cellsA { a with verb := [] } d) P 0 :=
      ⟨by omega, by omega, ⟨by omega, by omega⟩, ⟨by omega, by omega⟩, by omega, hg.grow (g12.trans (g28.less (by omega)) (Nat.le_refl _)) h4, bx2.grow g28 (by omega), u2.grow g8 (by omega), by rw [← hh8]; exact get_new_same _ _, own3.grow g38⟩
    have hr8 : Row h2.next h8 d (byteVals a.data) 5 := (hr.grow (g12.trans (g28.less (by omega)) (Nat.le_refl _)) (Nat.le_refl _)).wide (by omega)
    simp only [Tryd.f9, symM, opFn, Nat.reduceLT, hbox, codeB_draw]
    rw [draw_plan hp1 rfl]
    simp only [drawAll, opFn, Nat.reduceLT, Nat.reduceBEq, effE_cons, eqV_str, field_A.1, k0, l0, evCall_fn ft19 rfl, hv1, hl]
    rw [draw_plan hp4 rfl]
    simp only [drawAll, opFn, Nat.reduceLT, Nat.reduceBEq, symA, lastD_some, lastR_some, field_A.1, l0, lw, hbs, hal, s1, u1, hrg]
    refine bind_loop (b := bodyLn) (Q := fun tm' h' => (∃ v' dv', tm'.get 6 = some v' ∧ tm'.get 7 = some (ptr h3.next) ∧ LineI h2.next h' h.next h3.next h7.next v' ([a.verb] ++ P.map (fwA a)) (cellsA a d) (cellsA (P.foldl (fun r c => clrA c r) { a with verb := [] }) dv') P P.length ∧ HasLen dv' (P.foldl (fun r c => clrA c r) { a with verb := [] }).data.length) ∧ Grow h2.next h8 h')
      (P := fun co => ∃ h', endF T0 9 co = some (.tuple #[sv ((if isZ (P.foldl (fun r c => clrA c r) a) then some (spaced a.verb (P.map (fwA a))) else none).getD []), iv (if (if isZ (P.foldl (fun r c => clrA c r) a) then some (spaced a.verb (P.map (fwA a))) else none).isSome then 0 else 1)], h') ∧ Grow h.next h h') ?_ ?_
    · exact lineLp hL M hW h2.next h.next h3.next h7.next a d P hP ha P 0 [a.verb] _ d _ _ h8 _ rfl (Nat.zero_add _) hk rfl (by omega) (by simp only [symM, Nat.reduceBEq]) (by simp only [symM, Nat.reduceBEq]) (by simp only [symM, Nat.reduceBEq]) get_same x0 hr8 (hr.hasLen)
    · rintro tm' h' ⟨⟨v', dv', q6, q7, x, hlen⟩, g⟩
      have gall : Grow h.next h h' := (g12.trans (g28.less (by omega)) (Nat.le_refl _)).trans (g.less (by omega)) (Nat.le_refl _)
      rw [← isZ_verb, ← clr_verb]
      generalize P.foldl (fun r c => clrA c r) { a with verb := [] } = r at x hlen
      obtain ⟨_, m1, m2, m3, m4, m5⟩ := load_A x.rx
      have ml := fun ty => hlen.len ty h'
      obtain ⟨f0, f1, f2, f3, f4, f5⟩ := field_A (b := h3.next)
      refine ⟨h', ?_, gall⟩
      cases e1 : (r.path == []) with
      | false =>
        have hz : isZ r = false := by unfold isZ; rw [e1]; rfl
        simp only [hz, Bool.false_eq_true, if_false, Option.getD_none, Option.isSome_none]
        simp only [symM, opFn, Nat.reduceLT, Nat.reduceBEq, q7, f1, m1, bin_sneq, e1]
        exact retB_two ft9 rfl (by simp only [symM, Nat.reduceBEq]) (by simp only [symM])
      | true =>
        cases e2 : (r.other == []) with
        | false =>
          have hz : isZ r = false := by unfold isZ; rw [e1, e2]; rfl
          simp only [hz, Bool.false_eq_true, if_false, Option.getD_none, Option.isSome_none]
          simp only [symM, opFn, Nat.reduceLT, Nat.reduceBEq, q7, f1, f2, m1, m2, bin_sneq, e1, e2]
          exact retB_two ft9 rfl (by simp only [symM, Nat.reduceBEq]) (by simp only [symM])
        | true =>
          cases e3 : (r.n == 0) with
          | false =>
            have hz : isZ r = false := by unfold isZ; rw [e1, e2, e3]; rfl
            simp only [hz, Bool.false_eq_true, if_false, Option.getD_none, Option.isSome_none]
            simp only [symM, opFn, Nat.reduceLT, Nat.reduceBEq, q7, f1, f2, f3, m1, m2, m3, bin_sneq, bin_neq, e1, e2, e3]
            exact retB_two ft9 rfl (by simp only [symM, Nat.reduceBEq]) (by simp only [symM])
          | true =>
            cases e4 : (r.m == 0) with
            | false =>
              have hz : isZ r = false := by unfold isZ; rw [e1, e2, e3, e4]; rfl
              simp only [hz, Bool.false_eq_true, if_false, Option.getD_none, Option.isSome_none]
              simp only [symM, opFn, Nat.reduceLT, Nat.reduceBEq, q7, f1, f2, f3, f4, m1, m2, m3, m4, bin_sneq, bin_neq, e1, e2, e3, e4]
              exact retB_two ft9 rfl (by simp only [symM, Nat.reduceBEq]) (by simp only [symM])
            | true =>
              cases e5 : (r.data == []) with
              | false =>
                have hz : isZ r = false := by unfold isZ; rw [e1, e2, e3, e4, e5]; rfl
                have e6 : ((r.data.length : Int) == 0) = false := by
                  rw [beq_eq_false_iff_ne] at e5 ⊢
                  intro q
                  exact e5 (List.length_eq_zero_iff.1 (by omega))
                simp only [hz, Bool.false_eq_true, if_false, Option.getD_none, Option.isSome_none]
                simp only [symM, opFn, Nat.reduceLT, Nat.reduceBEq, q7, f1, f2, f3, f4, f5, m1, m2, m3, m4, m5, ml, bin_sneq, bin_neq, e1, e2, e3, e4, e6]
                exact retB_two ft9 rfl (by simp only [symM, Nat.reduceBEq]) (by simp only [symM])
              | true =>
                have hz : isZ r = true := by unfold isZ; rw [e1, e2, e3, e4, e5]; rfl
                have e6 : ((r.data.length : Int) == 0) = true := by
                  have : r.data = [] := by simpa using e5
                  rw [this]; rfl
                simp only [hz, if_true, Option.getD_some, Option.isSome_some]
                have hjl := spaced_len (3 * M + 20) (P.map (fwA a)) a.verb (fun x hx => by rw [List.mem_map] at hx; obtain ⟨c, _, rfl⟩ := hx; exact fwA_len ha c)
                rw [List.length_map] at hjl
                have hbig : P.length * (3 * M + 20 + 1) ≤ 10 * (3 * M + 20 + 1) := Nat.mul_le_mul_right _ hP
                have hj := Join_C hL x.own (by simp) (by simp; omega) (by rw [List.singleton_append, join_words]; omega)
                rw [List.singleton_append, join_words] at hj
                simp only [symM, opFn, Nat.reduceLT, Nat.reduceBEq, q7, q6, f1, f2, f3, f4, f5, m1, m2, m3, m4, m5, ml, bin_sneq, bin_neq, e1, e2, e3, e4, e6, evCall_fn ft22 rfl, hj]
                exact retB_two ft9 rfl (by simp only [symM, Nat.reduceBEq]) (by simp only [symM])
end
end Go.Proofs.YtknchhnibjfocaaDoor.Abs
namespace Go.Proofs.YtknchhnibjfocaaDoor.Abs
open Go Go.Proofs
noncomputable section
variable {call : Abs.Callee}
set_option maxRecDepth 10000
abbrev PartsC (call : Abs.Callee) : Prop := ∀ (k : List UInt8) (h : AH), ∃ h', call 23 [sv k] h = some (.tuple #[sv ((partsOf k).getD []), .bool (partsOf k).isSome], h') ∧ Grow h.next h h'
theorem spaced_cons (w x : List UInt8) (l : List (List UInt8)) : spaced w (x :: l) = spaced (w ++ [32] ++ x) l := by
  unfold spaced
  simp
theorem fw_clr {c c' : UInt8} (r : ActD) (hc : KindP c) (hc' : KindP c') (hne : c' ≠ c) : fwA (clrA c r) c' = fwA r c' := by
  rcases hc with rfl | rfl | rfl | rfl | rfl <;> rcases hc' with rfl | rfl | rfl | rfl | rfl <;> first | exact absurd rfl hne | rfl
theorem clr_small {M : Nat} {r : ActD} (hr : SmallA M r) (c : UInt8) : SmallA M (clrA c r) := by
  obtain ⟨h1, h2, h3, h4, h5, h6⟩ := hr
  unfold clrA
  split
  · exact ⟨h1, Nat.zero_le _, h3, h4, h5, h6⟩
  · split
    · exact ⟨h1, h2, Nat.zero_le _, h4, h5, h6⟩
    · split
      · exact ⟨h1, h2, h3, by unfold I64; simp, h5, h6⟩
      · split
        · exact ⟨h1, h2, h3, h4, by unfold I64; simp, h6⟩
        · exact ⟨h1, h2, h3, h4, h5, Nat.zero_le _⟩
noncomputable def bodyRL : Code := part Tryd.f10 [1, 1, 1, 1, 0, 1, 0, 0]
abbrev ERL : Env := ⟨10, 93, none⟩
theorem rlineLp (hNu : NumberC call) (M : Nat) (hM : M < 10000000000) (hW : WordC call 24 M) (n b1 : Nat) (hb1 : n ≤ b1) (a : ActD) (P : List UInt8) (hP : P.length ≤ 10) :
    ∀ (l : List UInt8) (i : Nat) (out : List UInt8) (r : ActD) (dv : Value) (tm : PM Value) (h : AH) (N : Nat), P.drop i = l → i + l.length = P.length → (∀ c ∈ l, KindP c) → l.Nodup → (∀ c ∈ l, fwA r c = fwA a c) → out.length ≤ 10 + i * (3 * M + 21) → SmallA M r → l.length + 80 ≤ N →
      tm.get 1 = some (ptr b1) → tm.get 4 = some (sv P) → tm.get 6 = some (sv out) → tm.get 7 = some (iv i) → BoxL h b1 24 (cellsA r dv) → b1 < h.next → Row n h dv (byteVals r.data) 5 → n ≤ h.next →
      ∃ tm' h', codeB T0 X0 call N ERL (.loop bodyRL) tm h [] = .jump (.exit 0) tm' h' [] ∧ (∃ dv', tm'.get 1 = some (ptr b1) ∧ tm'.get 6 = some (sv (spaced out (l.map (fwA a)))) ∧ BoxL h' b1 24 (cellsA (l.foldl (fun r c => clrA c r) r) dv') ∧ HasLen dv' (l.foldl (fun r c => clrA c r) r).data.length) ∧ Grow n h h' := by
  intro l
  induction l with
  | nil =>
    intro i out r dv tm h N hd hi hk hnd hf ho hs hN g1 g4 g6 g7 bx hlt hr hn
    obtain ⟨N, rfl⟩ : ∃ a, N = a + 80 := ⟨N - 80, by omega⟩
    have hiL : i = P.length := by simpa using hi
    subst hiL
    apply Exists.intro; apply Exists.intro
    refine ⟨?_, ⟨dv, ?_, ?_, bx, hr.hasLen⟩, Grow.refl _ _⟩
    · rw [codeB_loop]
      simp only [bodyRL, part, Tryd.f10, sub, symM, opFn, Nat.reduceLT, Nat.reduceBEq, g4, g7, len_str, bin_lss, decide_eq_false (show ¬ ((P.length : Nat) : Int) < (P.length : Nat) by omega)]
      rfl
    · simp only [symM, Nat.reduceBEq, g1]
    · simp only [symM, Nat.reduceBEq, g6]
      unfold spaced; simp
  | cons c l ih =>
    intro i out r dv tm h N hd hi hk hnd hf ho hs hN g1 g4 g6 g7 bx hlt hr hn
    obtain ⟨N, rfl⟩ : ∃ a, N = a + 80 := ⟨N - 80, by omega⟩
    simp only [List.length_cons] at hi hN
    have hkc := hk c List.mem_cons_self
    have hkl : ∀ c ∈ l, KindP c := fun c hc => hk c (List.mem_cons_of_mem _ hc)
    obtain ⟨hnc, hndl⟩ := List.nodup_cons.1 hnd
    have hfc := hf c List.mem_cons_self
    have hfl : ∀ c' ∈ l, fwA (clrA c r) c' = fwA a c' := fun c' hc' => by
      rw [fw_clr r hkc (hkl c' hc') (fun q => hnc (q ▸ hc'))]; exact hf c' (List.mem_cons_of_mem _ hc')
    have hsl := clr_small hs c
    have hlw := fwA_len hs c
    have hlt2 : decide ((i : Int) < (P.length : Nat)) = true := decide_eq_true (by omega)
    have ix := idx_str (byteAt hd)
    have hw1 := wadd1 (a := i) (by omega)
    have hnext : P.drop (i + 1) = l := by rw [← List.drop_drop, hd]; rfl
    obtain ⟨l0, l1, l2, l3, l4, l5⟩ := load_A bx
    obtain ⟨f0, f1, f2, f3, f4, f5⟩ := field_A (b := b1)
    have hol : (out ++ [32] ++ fwA r c).length ≤ 10 + (i + 1) * (3 * M + 21) := by
      rw [List.length_append, List.length_append, Nat.add_mul, Nat.one_mul]; simp only [List.length_cons, List.length_nil]; omega
    have hbig : out.length + 1 + (fwA r c).length ≤ 9223372036854775807 := by
      have : i * (3 * M + 21) ≤ 10 * (3 * M + 21) := Nat.mul_le_mul_right _ (by omega)
      omega
    have s1 : ∀ t p q hh, evBin T0 .add t p q (sv out) (sv [32]) hh = some (sv (out ++ [32])) := fun t p q hh => bin_sadd (by simp; omega)
    have s2 : ∀ t p q hh, evBin T0 .add t p q (sv (out ++ [32])) (sv (fwA r c)) hh = some (sv (out ++ [32] ++ fwA r c)) := fun t p q hh => bin_sadd (by rw [List.length_append]; exact hbig)
    rw [List.map_cons, List.foldl_cons, spaced_cons, ← hfc]
    rw [show N + 80 = (N + 79) + 1 from rfl, codeB_loop]
    rcases hkc with rfl | rfl | rfl | rfl | rfl
    · have ec : clrA 112 r = { r with path := [] } := by unfold clrA; rfl
      have ew : fwA r 112 = wordL r.path := by unfold fwA; rfl
      rw [ec] at hfl hsl
      rw [ew] at s2 hol
      rw [ec, ew]
      obtain ⟨h2, c1, c2⟩ := hW r.path h hs.path
      obtain ⟨h3, e1, e2, g3, e4, _⟩ := (bx.grow c2 hlt).put (n := n) (t := 9) (o := 1) (z := (sv [])) sz_str rfl (by rw [cellsA_len]; decide) hb1
      simp only [bodyRL, part, Tryd.f10, sub, symM, opFn, Nat.reduceLT, Nat.reduceBEq, g1, g4, g6, g7, len_str, bin_lss, hlt2, s1, ix, bin_eql, show ((((112 : UInt8).toNat : Int)) == 112) = true from rfl, f1, l1, evCall_fn ft24 rfl, c1, s2, e1, bin_add, hw1]
      exact wrapG ((c2.less hn).trans g3 (Nat.le_refl _)) (ih (i + 1) _ { r with path := [] } dv _ h3 (N + 79) hnext (by omega) hkl hndl hfl hol hsl (by omega) (by simp only [symM, Nat.reduceBEq, g1]) (by simp only [symM, Nat.reduceBEq, g4]) (by simp only [symM, Nat.reduceBEq]) get_same e2 (by rw [e4]; exact Nat.lt_of_lt_of_le hlt c2.next) (hr.grow ((c2.less hn).trans g3 (Nat.le_refl _)) (Nat.le_refl _)) (by rw [e4]; exact Nat.le_trans hn c2.next))
    · have ec : clrA 111 r = { r with other := [] } := by unfold clrA; rfl
      have ew : fwA r 111 = wordL r.other := by unfold fwA; rfl
      rw [ec] at hfl hsl
      rw [ew] at s2 hol
      rw [ec, ew]
      obtain ⟨h2, c1, c2⟩ := hW r.other h hs.other
      obtain ⟨h3, e1, e2, g3, e4, _⟩ := (bx.grow c2 hlt).put (n := n) (t := 9) (o := 2) (z := (sv [])) sz_str rfl (by rw [cellsA_len]; decide) hb1
      simp only [bodyRL, part, Tryd.f10, sub, symM, opFn, Nat.reduceLT, Nat.reduceBEq, g1, g4, g6, g7, len_str, bin_lss, hlt2, s1, ix, bin_eql, show ((((111 : UInt8).toNat : Int)) == 112) = false from rfl, show ((((111 : UInt8).toNat : Int)) == 111) = true from rfl, f2, l2, evCall_fn ft24 rfl, c1, s2, e1, bin_add, hw1]
      exact wrapG ((c2.less hn).trans g3 (Nat.le_refl _)) (ih (i + 1) _ { r with other := [] } dv _ h3 (N + 79) hnext (by omega) hkl hndl hfl hol hsl (by omega) (by simp only [symM, Nat.reduceBEq, g1]) (by simp only [symM, Nat.reduceBEq, g4]) (by simp only [symM, Nat.reduceBEq]) get_same e2 (by rw [e4]; exact Nat.lt_of_lt_of_le hlt c2.next) (hr.grow ((c2.less hn).trans g3 (Nat.le_refl _)) (Nat.le_refl _)) (by rw [e4]; exact Nat.le_trans hn c2.next))
    · have ec : clrA 110 r = { r with n := 0 } := by unfold clrA; rfl
      have ew : fwA r 110 = Lib.itoa r.n := by unfold fwA; rfl
      rw [ec] at hfl hsl
      rw [ew] at s2 hol
      rw [ec, ew]
      obtain ⟨h2, c1, c2⟩ := hNu r.n h hs.n
      obtain ⟨h3, e1, e2, g3, e4, _⟩ := (bx.grow c2 hlt).put (n := n) (t := 3) (o := 3) (z := (iv 0)) sz_int rfl (by rw [cellsA_len]; decide) hb1
      simp only [bodyRL, part, Tryd.f10, sub, symM, opFn, Nat.reduceLT, Nat.reduceBEq, g1, g4, g6, g7, len_str, bin_lss, hlt2, s1, ix, bin_eql, show ((((110 : UInt8).toNat : Int)) == 112) = false from rfl, show ((((110 : UInt8).toNat : Int)) == 111) = false from rfl, show ((((110 : UInt8).toNat : Int)) == 110) = true from rfl, f3, l3, evCall_fn ft25 rfl, c1, s2, e1, bin_add, hw1]
      exact wrapG ((c2.less hn).trans g3 (Nat.le_refl _)) (ih (i + 1) _ { r with n := 0 } dv _ h3 (N + 79) hnext (by omega) hkl hndl hfl hol hsl (by omega) (by simp only [symM, Nat.reduceBEq, g1]) (by simp only [symM, Nat.reduceBEq, g4]) (by simp only [symM, Nat.reduceBEq]) get_same e2 (by rw [e4]; exact Nat.lt_of_lt_of_le hlt c2.next) (hr.grow ((c2.less hn).trans g3 (Nat.le_refl _)) (Nat.le_refl _)) (by rw [e4]; exact Nat.le_trans hn c2.next))
    · have ec : clrA 109 r = { r with m := 0 } := by unfold clrA; rfl
      have ew : fwA r 109 = Lib.itoa r.m := by unfold fwA; rfl
      rw [ec] at hfl hsl
      rw [ew] at s2 hol
      rw [ec, ew]
      obtain ⟨h2, c1, c2⟩ := hNu r.m h hs.m
      obtain ⟨h3, e1, e2, g3, e4, _⟩ := (bx.grow c2 hlt).put (n := n) (t := 3) (o := 4) (z := (iv 0)) sz_int rfl (by rw [cellsA_len]; decide) hb1
      simp only [bodyRL, part, Tryd.f10, sub, symM, opFn, Nat.reduceLT, Nat.reduceBEq, g1, g4, g6, g7, len_str, bin_lss, hlt2, s1, ix, bin_eql, show ((((109 : UInt8).toNat : Int)) == 112) = false from rfl, show ((((109 : UInt8).toNat : Int)) == 111) = false from rfl, show ((((109 : UInt8).toNat : Int)) == 110) = false from rfl, show ((((109 : UInt8).toNat : Int)) == 109) = true from rfl, f4, l4, evCall_fn ft25 rfl, c1, s2, e1, bin_add, hw1]
      exact wrapG ((c2.less hn).trans g3 (Nat.le_refl _)) (ih (i + 1) _ { r with m := 0 } dv _ h3 (N + 79) hnext (by omega) hkl hndl hfl hol hsl (by omega) (by simp only [symM, Nat.reduceBEq, g1]) (by simp only [symM, Nat.reduceBEq, g4]) (by simp only [symM, Nat.reduceBEq]) get_same e2 (by rw [e4]; exact Nat.lt_of_lt_of_le hlt c2.next) (hr.grow ((c2.less hn).trans g3 (Nat.le_refl _)) (Nat.le_refl _)) (by rw [e4]; exact Nat.le_trans hn c2.next))
    · have ec : clrA 100 r = { r with data := [] } := by unfold clrA; rfl
      have ew : fwA r 100 = wordL r.data := by unfold fwA; rfl
      rw [ec] at hfl hsl
      rw [ew] at s2 hol
      rw [ec, ew]
      obtain ⟨h2, c1, c2⟩ := hW r.data h hs.data
      obtain ⟨h3, e1, e2, g3, e4, _⟩ := (bx.grow c2 hlt).put (n := n) (t := 22) (o := 5) (z := nilV) sz_bytes rfl (by rw [cellsA_len]; decide) hb1
      simp only [bodyRL, part, Tryd.f10, sub, symM, opFn, Nat.reduceLT, Nat.reduceBEq, g1, g4, g6, g7, len_str, bin_lss, hlt2, s1, ix, bin_eql, show ((((100 : UInt8).toNat : Int)) == 112) = false from rfl, show ((((100 : UInt8).toNat : Int)) == 111) = false from rfl, show ((((100 : UInt8).toNat : Int)) == 110) = false from rfl, show ((((100 : UInt8).toNat : Int)) == 109) = false from rfl, f5, l5, conv_bytes hr, evCall_fn ft24 rfl, c1, s2, e1, bin_add, hw1]
      exact wrapG ((c2.less hn).trans g3 (Nat.le_refl _)) (ih (i + 1) _ { r with data := [] } nilV _ h3 (N + 79) hnext (by omega) hkl hndl hfl hol hsl (by omega) (by simp only [symM, Nat.reduceBEq, g1]) (by simp only [symM, Nat.reduceBEq, g4]) (by simp only [symM, Nat.reduceBEq]) get_same e2 (by rw [e4]; exact Nat.lt_of_lt_of_le hlt c2.next) (.inl ⟨rfl, rfl⟩) (by rw [e4]; exact Nat.le_trans hn c2.next))

theorem rLine_S (hN : NumberC call) (hPa : PartsC call) (M : Nat) (hM : M < 10000000000) (hW : WordC call 24 M) (a : ActD) (d : Value) (h : AH) (hr : Row h.next h d (byteVals a.data) 5) (ha : SmallA M a) :
    ∃ h', frameB T0 X0 call 3000 10 [actV a d] h = some (.tuple #[sv ((lineA a).getD []), iv (if (lineA a).isSome then 0 else 1)], h') ∧ Grow h.next h h' := by
  generalize hh1 : h.new (.cells (PM.ofList (cellsA a d)) 6 24 0 0 .ex) = h1
  have hbox : rp (some (evNewVar h 24 (actV a d))) = some (.value (ptr h.next), h1) := by rw [box_A, hh1]
  have bx1 : BoxL h1 h.next 24 (cellsA a d) := by rw [← hh1]; exact BoxL.new h _ (cellsA a d)
  have n1 : h1.next = h.next + 1 := by rw [← hh1]; rfl
  have g1 : Grow h.next h h1 := by rw [← hh1]; exact Grow.new _ _
  obtain ⟨h2, c1, g2⟩ := hPa a.verb h1
  have bx2 := bx1.grow g2 (by omega)
  have n2 := g2.next
  obtain ⟨k0, _⟩ := load_A bx1
  obtain ⟨l0, l1, l2, l3, l4, l5⟩ := load_A bx2
  have g12 : Grow h.next h h2 := g1.trans (g2.less (by omega)) (Nat.le_refl _)
  rw [frameB_eq ft10 rfl rfl]
  unfold lineA
  cases hp : partsOf a.verb with
  | none =>
    rw [hp] at c1
    simp only [Option.getD_none, Option.isSome_none] at c1
    refine ⟨h2, ?_, g12⟩
    simp only [Tryd.f10, symM, opFn, Nat.reduceLT, Nat.reduceBEq, hbox, field_A.1, k0, evCall_fn ft23 rfl, c1]
    exact retB_two ft10 rfl (by simp only [symM, Nat.reduceBEq]; rfl) (by simp only [symM]; rfl)
  | some P =>
    rw [hp] at c1
    simp only [Option.getD_some, Option.isSome_some] at c1
    obtain ⟨hgp, hvl⟩ := parts_good hp
    obtain ⟨hP, hnd, hk⟩ := goodP_iff hgp
    have hr2 := hr.grow g12 (Nat.le_refl _)
    simp only [Tryd.f10, symM, opFn, Nat.reduceLT, Nat.reduceBEq, hbox, field_A.1, k0, l0, evCall_fn ft23 rfl, c1]
    refine bind_loop (b := bodyRL) (Q := fun tm' h' => (∃ dv', tm'.get 1 = some (ptr h.next) ∧ tm'.get 6 = some (sv (spaced a.verb (P.map (fwA a)))) ∧ BoxL h' h.next 24 (cellsA (P.foldl (fun r c => clrA c r) a) dv') ∧ HasLen dv' (P.foldl (fun r c => clrA c r) a).data.length) ∧ Grow h.next h2 h')
      (P := fun co => ∃ h', endF T0 10 co = some (.tuple #[sv ((if isZ (P.foldl (fun r c => clrA c r) a) then some (spaced a.verb (P.map (fwA a))) else none).getD []), iv (if (if isZ (P.foldl (fun r c => clrA c r) a) then some (spaced a.verb (P.map (fwA a))) else none).isSome then 0 else 1)], h') ∧ Grow h.next h h') ?_ ?_
    · exact rlineLp hN M hM hW h.next h.next (Nat.le_refl _) a P hP P 0 a.verb a d _ h2 _ rfl (Nat.zero_add _) hk hnd (fun _ _ => rfl) (by omega) ha (by omega) (by simp only [symM, Nat.reduceBEq]) (by simp only [symM, Nat.reduceBEq]) (by simp only [symM, Nat.reduceBEq]) get_same bx2 (by omega) hr2 (by omega)
    · rintro tm' h' ⟨⟨dv', q1, q6, x, hlen⟩, g⟩
      have gall : Grow h.next h h' := g12.trans g (Nat.le_refl _)
      generalize P.foldl (fun r c => clrA c r) a = r at x hlen
      obtain ⟨_, m1, m2, m3, m4, m5⟩ := load_A x
      have ml := fun ty => hlen.len ty h'
      obtain ⟨f0, f1, f2, f3, f4, f5⟩ := field_A (b := h.next)
      refine ⟨h', ?_, gall⟩
      cases e1 : (r.path == []) with
      | false =>
        have hz : isZ r = false := by unfold isZ; rw [e1]; rfl
        simp only [hz, Bool.false_eq_true, if_false, Option.getD_none, Option.isSome_none]
        simp only [symM, opFn, Nat.reduceLT, Nat.reduceBEq, q1, f1, m1, bin_sneq, e1]
        exact retB_two ft10 rfl (by simp only [symM, Nat.reduceBEq]) (by simp only [symM])
      | true =>
        cases e2 : (r.other == []) with
        | false =>
          have hz : isZ r = false := by unfold isZ; rw [e1, e2]; rfl
          simp only [hz, Bool.false_eq_true, if_false, Option.getD_none, Option.isSome_none]
          simp only [symM, opFn, Nat.reduceLT, Nat.reduceBEq, q1, f1, f2, m1, m2, bin_sneq, e1, e2]
          exact retB_two ft10 rfl (by simp only [symM, Nat.reduceBEq]) (by simp only [symM])
        | true =>
          cases e3 : (r.n == 0) with
          | false =>
            have hz : isZ r = false := by unfold isZ; rw [e1, e2, e3]; rfl
            simp only [hz, Bool.false_eq_true, if_false, Option.getD_none, Option.isSome_none]
            simp only [symM, opFn, Nat.reduceLT, Nat.reduceBEq, q1, f1, f2, f3, m1, m2, m3, bin_sneq, bin_neq, e1, e2, e3]
            exact retB_two ft10 rfl (by simp only [symM, Nat.reduceBEq]) (by simp only [symM])
          | true =>
            cases e4 : (r.m == 0) with
            | false =>
              have hz : isZ r = false := by unfold isZ; rw [e1, e2, e3, e4]; rfl
              simp only [hz, Bool.false_eq_true, if_false, Option.getD_none, Option.isSome_none]
              simp only [symM, opFn, Nat.reduceLT, Nat.reduceBEq, q1, f1, f2, f3, f4, m1, m2, m3, m4, bin_sneq, bin_neq, e1, e2, e3, e4]
              exact retB_two ft10 rfl (by simp only [symM, Nat.reduceBEq]) (by simp only [symM])
            | true =>
              cases e5 : (r.data == []) with
              | false =>
                have hz : isZ r = false := by unfold isZ; rw [e1, e2, e3, e4, e5]; rfl
                have e6 : ((r.data.length : Int) == 0) = false := by
                  rw [beq_eq_false_iff_ne] at e5 ⊢
                  intro q
                  exact e5 (List.length_eq_zero_iff.1 (by omega))
                simp only [hz, Bool.false_eq_true, if_false, Option.getD_none, Option.isSome_none]
                simp only [symM, opFn, Nat.reduceLT, Nat.reduceBEq, q1, f1, f2, f3, f4, f5, m1, m2, m3, m4, m5, ml, bin_sneq, bin_neq, e1, e2, e3, e4, e6]
                exact retB_two ft10 rfl (by simp only [symM, Nat.reduceBEq]) (by simp only [symM])
              | true =>
                have hz : isZ r = true := by unfold isZ; rw [e1, e2, e3, e4, e5]; rfl
                have e6 : ((r.data.length : Int) == 0) = true := by
                  have : r.data = [] := by simpa using e5
                  rw [this]; rfl
                simp only [hz, if_true, Option.getD_some, Option.isSome_some]
                simp only [symM, opFn, Nat.reduceLT, Nat.reduceBEq, q1, q6, f1, f2, f3, f4, f5, m1, m2, m3, m4, m5, ml, bin_sneq, bin_neq, e1, e2, e3, e4, e6]
                exact retB_two ft10 rfl (by simp only [symM, Nat.reduceBEq]) (by simp only [symM])
end
end Go.Proofs.YtknchhnibjfocaaDoor.Abs
