/- Acts: the text that a word is. -/
import Derived.Test.YtknchhnibjfocaaDoorWords
import Derived.Lib.SplitLaws
namespace Go.Proofs.YtknchhnibjfocaaDoor.Abs
open Go Go.Proofs
noncomputable section
variable {call : Abs.Callee}
set_option maxRecDepth 10000
theorem ft27 : T0.ft.get 27 = some Tryd.f27 := by kernel_rfl
theorem ft30 : T0.ft.get 30 = some Tryd.f30 := by kernel_rfl
theorem digB_index (b : UInt8) : Lib.indexByte hexL b = digB b := by
  have : ∀ k : _root_.Fin 256, Lib.indexByte hexL (UInt8.ofNat k.val) = digB (UInt8.ofNat k.val) := by decide +kernel
  have h := this ⟨b.toNat, b.toNat_lt⟩
  simpa using h
theorem index_S (hL : LibC call) (b : UInt8) (h : AH) : call 42 [sv hexL, bv b] h = some (iv (digB b), h) := by
  refine hL.index _ _ _ ?_
  show some ((.int .i64 (Lib.indexByte hexL ((b.toNat : Int).toNat.toUInt8)), h) : Value × AH) = _
  rw [show (b.toNat : Int).toNat.toUInt8 = b from by simp, digB_index]
theorem digB_cases (b : UInt8) : digB b = -1 ∨ ∃ k : Nat, k < 16 ∧ digB b = k := by
  unfold digB
  split
  · rename_i h; exact .inr ⟨b.toNat - 48, by omega, by omega⟩
  · split
    · rename_i h; exact .inr ⟨b.toNat - 87, by omega, by omega⟩
    · exact .inl rfl
theorem shl4 {x : Nat} {t : TypeId} {p q : Operand} {h : AH} (hx : x < 16) : evBin T0 .shl t p q (iv (x : Nat)) (.int .u64 4) h = some (iv ((16 * x : Nat) : Int)) := by
  have h1 : evBin T0 .shl t p q (iv (x : Nat)) (.int .u64 4) h = some (.int .i64 (IntKind.i64.wrap ((x <<< 4 : Nat) : Int))) := bin_shl (n := 4) (by decide)
  rw [h1, Nat.shiftLeft_eq, show x * 2 ^ 4 = 16 * x from by omega, w64 (by omega)]
theorem shl4n {t : TypeId} {p q : Operand} {h : AH} : evBin T0 .shl t p q (iv (-1)) (.int .u64 4) h = some (iv (-16)) := by
  show orV none (slowBin T0 .shl t p q (iv (-1)) (.int .u64 4)) = _
  kernel_rfl
theorem or_nn {x y : Nat} {t : TypeId} {p q : Operand} {h : AH} (hx : x < 16) (hy : y < 16) : evBin T0 .or t p q (iv ((16 * x : Nat) : Int)) (iv (y : Nat)) h = some (iv ((16 * x + y : Nat) : Int)) := by
  have h1 : evBin T0 .or t p q (iv ((16 * x : Nat) : Int)) (iv (y : Nat)) h = some (.int .i64 (IntKind.i64.wrap ((16 * x ||| y : Nat) : Int))) := bin_or (show 16 * x < 2 ^ 64 by omega) (show y < 2 ^ 64 by omega)
  have h2 : ∀ x y : _root_.Fin 16, 16 * x.val ||| y.val = 16 * x.val + y.val := by decide
  rw [h1, h2 ⟨x, hx⟩ ⟨y, hy⟩, w64 (by omega)]
theorem or_n1 {y : Nat} {t : TypeId} {p q : Operand} {h : AH} (hy : y < 16) : evBin T0 .or t p q (iv (-16)) (iv (y : Nat)) h = some (iv ((y : Int) - 16)) := by
  have : y = 0 ∨ y = 1 ∨ y = 2 ∨ y = 3 ∨ y = 4 ∨ y = 5 ∨ y = 6 ∨ y = 7 ∨ y = 8 ∨ y = 9 ∨ y = 10 ∨ y = 11 ∨ y = 12 ∨ y = 13 ∨ y = 14 ∨ y = 15 := by omega
  show orV none (slowBin T0 .or t p q (iv (-16)) (iv (y : Nat))) = _
  rcases this with rfl | rfl | rfl | rfl | rfl | rfl | rfl | rfl | rfl | rfl | rfl | rfl | rfl | rfl | rfl | rfl <;> kernel_rfl
theorem or_n2 {x : Nat} {t : TypeId} {p q : Operand} {h : AH} (hx : x < 16) : evBin T0 .or t p q (iv ((16 * x : Nat) : Int)) (iv (-1)) h = some (iv (-1)) := by
  have : x = 0 ∨ x = 1 ∨ x = 2 ∨ x = 3 ∨ x = 4 ∨ x = 5 ∨ x = 6 ∨ x = 7 ∨ x = 8 ∨ x = 9 ∨ x = 10 ∨ x = 11 ∨ x = 12 ∨ x = 13 ∨ x = 14 ∨ x = 15 := by omega
  show orV none (slowBin T0 .or t p q (iv ((16 * x : Nat) : Int)) (iv (-1))) = _
  rcases this with rfl | rfl | rfl | rfl | rfl | rfl | rfl | rfl | rfl | rfl | rfl | rfl | rfl | rfl | rfl | rfl <;> kernel_rfl
theorem or_n3 {t : TypeId} {p q : Operand} {h : AH} : evBin T0 .or t p q (iv (-16)) (iv (-1)) h = some (iv (-1)) := by
  show orV none (slowBin T0 .or t p q (iv (-16)) (iv (-1))) = _
  kernel_rfl
/-- Two digits as one number; below 0: they are none. -/
theorem two_digits (c d : UInt8) : ∃ m n : Int, (∀ t p q (h : AH), evBin T0 .shl t p q (iv (digB c)) (.int .u64 4) h = some (iv m)) ∧ (∀ t p q (h : AH), evBin T0 .or t p q (iv m) (iv (digB d)) h = some (iv n)) ∧
    (((digB c < 0 ∨ digB d < 0) ∧ n < 0) ∨ (0 ≤ digB c ∧ 0 ≤ digB d ∧ n = 16 * digB c + digB d ∧ n < 256)) := by
  rcases digB_cases c with e1 | ⟨x, hx, e1⟩
  · rcases digB_cases d with e2 | ⟨y, hy, e2⟩
    · rw [e1, e2]; exact ⟨-16, -1, fun _ _ _ _ => shl4n, fun _ _ _ _ => or_n3, .inl ⟨.inl (by omega), by omega⟩⟩
    · rw [e1, e2]; exact ⟨-16, (y : Int) - 16, fun _ _ _ _ => shl4n, fun _ _ _ _ => or_n1 hy, .inl ⟨.inl (by omega), by omega⟩⟩
  · rcases digB_cases d with e2 | ⟨y, hy, e2⟩
    · rw [e1, e2]; exact ⟨_, -1, fun _ _ _ _ => shl4 hx, fun _ _ _ _ => or_n2 hx, .inl ⟨.inr (by omega), by omega⟩⟩
    · rw [e1, e2]; exact ⟨_, _, fun _ _ _ _ => shl4 hx, fun _ _ _ _ => or_nn hx hy, .inr ⟨by omega, by omega, by omega, by omega⟩⟩
/-- The text that a word is. -/
def hexV (c d : UInt8) : UInt8 := UInt8.ofNat (16 * digB c + digB d).toNat
def textT : List UInt8 → Option (List UInt8)
  | [] => some []
  | b :: l => if b = 37 then (match l with
      | c :: d :: r => if digB c < 0 ∨ digB d < 0 ∨ plainB (hexV c d) = true then none else (textT r).map (hexV c d :: ·)
      | _ => none) else if plainB b = true then (textT l).map (b :: ·) else none
theorem textT_cons (b : UInt8) (l : List UInt8) : textT (b :: l) = if b = 37 then (match l with
      | c :: d :: r => if digB c < 0 ∨ digB d < 0 ∨ plainB (hexV c d) = true then none else (textT r).map (hexV c d :: ·)
      | _ => none) else if plainB b = true then (textT l).map (b :: ·) else none := by
  conv => lhs; rw [textT.eq_def]
theorem textT_plain {b : UInt8} {l : List UInt8} (hb : b ≠ 37) : textT (b :: l) = if plainB b = true then (textT l).map (b :: ·) else none := by rw [textT_cons, if_neg hb]
theorem textT_hex {c d : UInt8} {r : List UInt8} : textT (37 :: c :: d :: r) = if digB c < 0 ∨ digB d < 0 ∨ plainB (hexV c d) = true then none else (textT r).map (hexV c d :: ·) := by rw [textT_cons, if_pos rfl]
theorem textT_short {l : List UInt8} (h : l.length < 2) : textT (37 :: l) = none := by
  rw [textT_cons, if_pos rfl]
  match l, h with
  | [], _ => rfl
  | [c], _ => rfl
theorem textT_len : ∀ (k : Nat) (l o : List UInt8), l.length ≤ k → textT l = some o → o.length ≤ l.length := by
  intro k
  induction k with
  | zero => intro l o hl e; rw [List.length_eq_zero_iff.1 (Nat.le_zero.1 hl)] at e; simp [textT] at e; subst e; simp
  | succ k ih =>
    intro l o hl e
    cases l with
    | nil => simp [textT] at e; subst e; simp
    | cons b l =>
      by_cases hb : b = 37
      · subst hb
        by_cases hs : l.length < 2
        · rw [textT_short hs] at e; cases e
        · match l, hs, hl, e with
          | c :: d :: r, _, hl, e =>
          rw [textT_hex] at e
          split at e
          · cases e
          · cases hr : textT r with
            | none => rw [hr] at e; cases e
            | some o' =>
              rw [hr] at e; cases e
              have := ih r o' (by simp at hl; omega) hr
              simp; omega
      · rw [textT_plain hb] at e
        split at e
        · cases hr : textT l with
          | none => rw [hr] at e; cases e
          | some o' =>
            rw [hr] at e; cases e
            have := ih l o' (by simp at hl; omega) hr
            simp; omega
        · cases e
theorem eqBytes_refl : ∀ l : List UInt8, eqBytes l l = true := by
  intro l
  induction l with
  | nil => rfl
  | cons b l ih => simp [eqBytes, ih]
theorem eqV_str {s : ByteArray} : eqV (.string s) (.string s) = true := by simp [eqV, eqBytes_refl]
noncomputable def bodyT : Code := part Tryd.f27 [1, 1, 0, 1, 0, 0]
abbrev ET : Env := ⟨27, 62, none⟩
theorem plan_text : planB (regOps Tryd.f27 [1, 1, 0, 1, 0, 0, 1, 0, 0, 1, 0, 1, 0, 1, 0, 1, 0]) 62 = some ([.one 0, .one 1, .one 2, .one 3, .one 6, .one 7, .one 8, .one 9, .eff [] 4 [6, 7, 8, 9], .one 5, .eff [] 10 [5], .one 11, .one 12], []) := by kernel_rfl
theorem beq_u8 {x : UInt8} {k : Nat} (hk : k < 256) : ((x.toNat : Int) == (k : Int)) = decide (x = UInt8.ofNat k) := by
  by_cases hx : x = UInt8.ofNat k
  · subst hx
    have : (UInt8.ofNat k).toNat = k := by simp; omega
    rw [this]; simp
  · have : x.toNat ≠ k := fun q => hx (by rw [← q]; simp)
    rw [decide_eq_false hx, beq_eq_false_iff_ne]; omega
theorem convB {n : Int} {h : AH} (h0 : 0 ≤ n) (h1 : n < 256) : evConvert T0 3 5 (iv n) h = some (bv (UInt8.ofNat n.toNat), h) := by
  rw [conv_intu8, w8 (by omega)]
  have : (UInt8.ofNat n.toNat).toNat = n.toNat := by simp; omega
  show some (Value.int .u8 n, h) = some (Value.int .u8 ((UInt8.ofNat n.toNat).toNat : Int), h)
  rw [this, Int.toNat_of_nonneg h0]
theorem textWrap {X : CO} {n : Nat} {h h1 : AH} {l l2 : List UInt8} {L out out2 : List UInt8} (g : Grow n h h1) (H1 : ∀ o, textT l2 = some o → ∃ o', textT l = some o' ∧ out ++ o' = out2 ++ o) (H2 : textT l2 = none → textT l = none)
    (H : ∃ tm' h', ((∃ o, textT l2 = some o ∧ X = .jump (.exit 0) tm' h' [] ∧ tm'.get 0 = some (sv L) ∧ ∃ v', tm'.get 4 = some v' ∧ OwnC 1 n h' v' (out2 ++ o).length (byteVals (out2 ++ o)) 5) ∨
        (textT l2 = none ∧ X = .jump .ret tm' h' [] ∧ tm'.get 2 = some (sv []) ∧ tm'.get 3 = some (.bool false))) ∧ Grow n h1 h') :
    ∃ tm' h', ((∃ o, textT l = some o ∧ X = .jump (.exit 0) tm' h' [] ∧ tm'.get 0 = some (sv L) ∧ ∃ v', tm'.get 4 = some v' ∧ OwnC 1 n h' v' (out ++ o).length (byteVals (out ++ o)) 5) ∨
        (textT l = none ∧ X = .jump .ret tm' h' [] ∧ tm'.get 2 = some (sv []) ∧ tm'.get 3 = some (.bool false))) ∧ Grow n h h' := by
  obtain ⟨tm', h', q, g2⟩ := H
  refine ⟨tm', h', ?_, g.trans g2 (Nat.le_refl _)⟩
  rcases q with ⟨o, q1, q2, q3, v', q4, q5⟩ | ⟨q1, q2⟩
  · obtain ⟨o', p1, p2⟩ := H1 o q1
    exact .inl ⟨o', p1, q2, q3, v', q4, by rw [p2]; exact q5⟩
  · exact .inr ⟨H2 q1, q2⟩
theorem textLp (hL : LibC call) (hP : PlainC call 36) (L : List UInt8) (hL2 : L.length < 10000000000) (hne : L ≠ [37]) (n : Nat) :
    ∀ (k : Nat) (l out : List UInt8) (i : Nat) (tm : PM Value) (h : AH) (N : Nat) (v : Value), l.length ≤ k → L.drop i = l → i + l.length = L.length → k + 60 ≤ N → out.length ≤ i → tm.get 0 = some (sv L) → tm.get 4 = some v → tm.get 5 = some (iv i) →
      OwnC 1 n h v out.length (byteVals out) 5 → n ≤ h.next →
      ∃ tm' h', ((∃ o, textT l = some o ∧ codeB T0 X0 call N ET (.loop bodyT) tm h [] = .jump (.exit 0) tm' h' [] ∧ tm'.get 0 = some (sv L) ∧ ∃ v', tm'.get 4 = some v' ∧ OwnC 1 n h' v' (out ++ o).length (byteVals (out ++ o)) 5) ∨
        (textT l = none ∧ codeB T0 X0 call N ET (.loop bodyT) tm h [] = .jump .ret tm' h' [] ∧ tm'.get 2 = some (sv []) ∧ tm'.get 3 = some (.bool false))) ∧ Grow n h h' := by
  have base : ∀ (out : List UInt8) (i : Nat) (tm : PM Value) (h : AH) (N : Nat) (v : Value), i = L.length → 60 ≤ N → tm.get 0 = some (sv L) → tm.get 4 = some v → tm.get 5 = some (iv i) →
      OwnC 1 n h v out.length (byteVals out) 5 →
      ∃ tm' h', ((∃ o, textT [] = some o ∧ codeB T0 X0 call N ET (.loop bodyT) tm h [] = .jump (.exit 0) tm' h' [] ∧ tm'.get 0 = some (sv L) ∧ ∃ v', tm'.get 4 = some v' ∧ OwnC 1 n h' v' (out ++ o).length (byteVals (out ++ o)) 5) ∨
        (textT [] = none ∧ codeB T0 X0 call N ET (.loop bodyT) tm h [] = .jump .ret tm' h' [] ∧ tm'.get 2 = some (sv []) ∧ tm'.get 3 = some (.bool false))) ∧ Grow n h h' := by
    intro out i tm h N v hiL hN g0 g4 g5 ho
    obtain ⟨N, rfl⟩ : ∃ a, N = a + 60 := ⟨N - 60, by omega⟩
    subst hiL
    apply Exists.intro; apply Exists.intro
    refine ⟨.inl ⟨[], rfl, ?_, ?_, v, ?_, by rw [List.append_nil]; exact ho⟩, Grow.refl _ _⟩
    · rw [codeB_loop]
      simp only [bodyT, part, Tryd.f27, sub, symM, opFn, Nat.reduceLT, Nat.reduceBEq, g0, g5, len_str, bin_lss, decide_eq_false (show ¬ ((L.length : Nat) : Int) < (L.length : Nat) by omega)]
      rfl
    · simp only [symM, Nat.reduceBEq, g0]
    · simp only [symM, Nat.reduceBEq, g4]
  intro k
  induction k with
  | zero =>
    intro l out i tm h N v hk hd hi hN ho2 g0 g4 g5 ho hn
    have hl0 : l = [] := List.length_eq_zero_iff.1 (by omega)
    subst hl0
    exact base out i tm h N v (by simpa using hi) (by omega) g0 g4 g5 ho
  | succ k ih =>
    intro l out i tm h N v hk hd hi hN ho2 g0 g4 g5 ho hn
    cases l with
    | nil => exact base out i tm h N v (by simpa using hi) (by omega) g0 g4 g5 ho
    | cons x r =>
      obtain ⟨N, rfl⟩ : ∃ a, N = a + 60 := ⟨N - 60, by omega⟩
      simp only [List.length_cons] at hi hk
      have hlt : decide ((i : Int) < (L.length : Nat)) = true := decide_eq_true (by omega)
      have hneb : (!(L == [37])) = true := by simpa using hne
      have hw1 := wadd1 (a := i) (by omega)
      have hw2 : IntKind.i64.wrap ((i : Int) + 2) = ((i + 2 : Nat) : Int) := by rw [w64 (by omega)]; omega
      have ix := idx_str (byteAt hd)
      have hnext : L.drop (i + 1) = r := by rw [← List.drop_drop, hd]; rfl
      rw [show N + 60 = (N + 59) + 1 from rfl, codeB_loop]
      have h37 : ((x.toNat : Int) == 37) = decide (x = 37) := beq_u8 (k := 37) (by decide)
      by_cases hx : x = 37
      · rw [decide_eq_true hx] at h37
        by_cases hs : r.length < 2
        · have hl2 : decide (((i + 2 : Nat) : Int) < (L.length : Nat)) = false := decide_eq_false (by omega)
          apply Exists.intro; apply Exists.intro
          refine ⟨.inr ⟨by rw [hx]; exact textT_short hs, ?_, ?_, ?_⟩, Grow.refl _ _⟩
          · simp only [bodyT, part, Tryd.f27, sub, symM, opFn, Nat.reduceLT, Nat.reduceBEq, g0, g5, len_str, bin_lss, hlt, bin_sneq, hneb, ix, bin_eql, h37, bin_add, hw2, hl2, show decide ((-1 : Int) < 0) = true from rfl]
            rfl
          · simp only [symM, Nat.reduceBEq]
          · simp only [symM]
        · obtain ⟨c, d, r2, rfl⟩ : ∃ c d r2, r = c :: d :: r2 := by
            match r, hs with
            | c :: d :: r2, _ => exact ⟨c, d, r2, rfl⟩
            | [], hs => exact absurd (by simp) hs
            | [c], hs => exact absurd (by simp) hs
          simp only [List.length_cons] at hi hk
          have hl2 : decide (((i + 2 : Nat) : Int) < (L.length : Nat)) = true := decide_eq_true (by omega)
          have hnext2 : L.drop (i + 2) = d :: r2 := by rw [show i + 2 = (i + 1) + 1 from rfl, ← List.drop_drop, hnext]; rfl
          have hnext3 : L.drop (i + 3) = r2 := by rw [show i + 3 = (i + 2) + 1 from rfl, ← List.drop_drop, hnext2]; rfl
          have ix1 := idx_str (byteAt hnext)
          have ix2 := idx_str (byteAt hnext2)
          have hw3 : IntKind.i64.wrap (((i + 2 : Nat) : Int) + 1) = ((i + 3 : Nat) : Int) := by rw [w64 (by omega)]; omega
          obtain ⟨m, q, d1, d2, d3⟩ := two_digits c d
          have hpl := plan_text
          simp only [regOps, part, Tryd.f27, sub] at hpl
          have tex := @textT_hex c d r2
          rw [hx]
          rcases d3 with ⟨n1, n2⟩ | ⟨n1, n2, n3, n4⟩
          · have hq : decide (q < 0) = true := decide_eq_true n2
            apply Exists.intro; apply Exists.intro
            refine ⟨.inr ⟨by rw [tex, if_pos (n1.elim .inl (fun q => .inr (.inl q)))], ?_, ?_, ?_⟩, Grow.refl _ _⟩
            · simp only [bodyT, part, Tryd.f27, sub, symM, opFn, Nat.reduceLT, Nat.reduceBEq, g0, g5, len_str, bin_lss, hlt, bin_sneq, hneb, ix, bin_eql, h37, bin_add, hw2, hl2, codeB_draw]
              rw [draw_plan hpl rfl]
              simp only [drawAll, opFn, Nat.reduceLT, Nat.reduceBEq, g0, g5, effE_cons, eqV_str, bin_add, hw1, hw2, ix1, ix2, evCall_fn ft42 rfl, index_S hL, d1, d2, bin_lss, hq]
              rfl
            · simp only [symM, Nat.reduceBEq]
            · simp only [symM]
          · have hq : decide (q < 0) = false := decide_eq_false (by omega)
            have hcv : ∀ h, evConvert T0 3 5 (iv q) h = some (bv (hexV c d), h) := fun h => by
              unfold hexV; rw [← n3]; exact convB (by omega) n4
            by_cases hp : plainB (hexV c d) = true
            · apply Exists.intro; apply Exists.intro
              refine ⟨.inr ⟨by rw [tex, if_pos (.inr (.inr hp))], ?_, ?_, ?_⟩, Grow.refl _ _⟩
              · simp only [bodyT, part, Tryd.f27, sub, symM, opFn, Nat.reduceLT, Nat.reduceBEq, g0, g5, len_str, bin_lss, hlt, bin_sneq, hneb, ix, bin_eql, h37, bin_add, hw2, hl2, codeB_draw]
                rw [draw_plan hpl rfl]
                simp only [drawAll, opFn, Nat.reduceLT, Nat.reduceBEq, g0, g5, effE_cons, eqV_str, bin_add, hw1, hw2, ix1, ix2, evCall_fn ft42 rfl, index_S hL, d1, d2, bin_lss, hq, hcv, evCall_fn ft36 rfl, hP, hp]
                rfl
              · simp only [symM, Nat.reduceBEq]
              · simp only [symM]
            · have hpf : plainB (hexV c d) = false := by simpa using hp
              obtain ⟨v1, h1, a1, a2, a3⟩ := put_bytes (new := [hexV c d]) (k := 1) ho rfl (by simp; omega) hn 22
              simp only [byteVals, List.map_cons, List.map_nil] at a1
              have hrec := fun tm' g0' g4' g5' => ih r2 (out ++ [hexV c d]) (i + 3) tm' h1 (N + 59) v1 (by omega) hnext3 (by omega) (by omega) (by simp; omega) g0' g4' g5' a2 (Nat.le_trans hn a3.next)
              simp only [bodyT, part, Tryd.f27, sub, symM, opFn, Nat.reduceLT, Nat.reduceBEq, g0, g5, len_str, bin_lss, hlt, bin_sneq, hneb, ix, bin_eql, h37, bin_add, hw2, hl2, codeB_draw]
              rw [draw_plan hpl rfl]
              simp only [drawAll, opFn, Nat.reduceLT, Nat.reduceBEq, g0, g4, g5, effE_cons, eqV_str, bin_add, hw1, hw2, hw3, ix1, ix2, evCall_fn ft42 rfl, index_S hL, d1, d2, bin_lss, hq, hcv, evCall_fn ft36 rfl, hP, hpf, bs_u8, a1]
              refine textWrap a3 ?_ ?_ (hrec _ (by simp only [symM, Nat.reduceBEq, g0]) (by simp only [symM, Nat.reduceBEq]) get_same)
              · intro o ho'; exact ⟨hexV c d :: o, by rw [tex, if_neg (by rintro (q | q | q) <;> first | omega | exact hp q), ho']; rfl, by simp⟩
              · intro ho'; rw [tex, if_neg (by rintro (q | q | q) <;> first | omega | exact hp q), ho']; rfl
      · rw [decide_eq_false hx] at h37
        have tex := textT_plain (l := r) hx
        by_cases hp : plainB x = true
        · obtain ⟨v1, h1, a1, a2, a3⟩ := put_bytes (new := [x]) (k := 1) ho rfl (by simp; omega) hn 22
          simp only [byteVals, List.map_cons, List.map_nil] at a1
          have hrec := fun tm' g0' g4' g5' => ih r (out ++ [x]) (i + 1) tm' h1 (N + 59) v1 (by omega) hnext (by omega) (by omega) (by simp; omega) g0' g4' g5' a2 (Nat.le_trans hn a3.next)
          simp only [bodyT, part, Tryd.f27, sub, symM, opFn, Nat.reduceLT, Nat.reduceBEq, g0, g4, g5, len_str, bin_lss, hlt, bin_sneq, hneb, ix, bin_eql, h37, bin_add, hw1, evCall_fn ft36 rfl, hP, hp, bs_u8, a1]
          refine textWrap a3 ?_ ?_ (hrec _ (by simp only [symM, Nat.reduceBEq, g0]) (by simp only [symM, Nat.reduceBEq]) get_same)
          · intro o ho'; exact ⟨x :: o, by rw [tex, if_pos hp, ho']; rfl, by simp⟩
          · intro ho'; rw [tex, if_pos hp, ho']; rfl
        · have hpf : plainB x = false := by simpa using hp
          apply Exists.intro; apply Exists.intro
          refine ⟨.inr ⟨by rw [tex, if_neg hp], ?_, ?_, ?_⟩, Grow.refl _ _⟩
          · simp only [bodyT, part, Tryd.f27, sub, symM, opFn, Nat.reduceLT, Nat.reduceBEq, g0, g5, len_str, bin_lss, hlt, bin_sneq, hneb, ix, bin_eql, h37, evCall_fn ft36 rfl, hP, hpf]
            rfl
          · simp only [symM, Nat.reduceBEq]
          · simp only [symM]
end
end Go.Proofs.YtknchhnibjfocaaDoor.Abs
namespace Go.Proofs.YtknchhnibjfocaaDoor.Abs
open Go Go.Proofs
noncomputable section
variable {call : Abs.Callee}
set_option maxRecDepth 10000
def textL (l : List UInt8) : List UInt8 × Bool := if l = [37] then ([], true) else match textT l with
  | none => ([], false)
  | some o => (o, !(l == []))
theorem text_S (hL : LibC call) (hP : PlainC call 36) (M : Nat) (l : List UInt8) (h : AH) (hl : l.length ≤ M) (hM : M < 10000000000) :
    ∃ h', frameB T0 X0 call (M + 3000) 27 [sv l] h = some (.tuple #[sv (textL l).1, .bool (textL l).2], h') ∧ Grow h.next h h' := by
  by_cases h37 : l = [37]
  · subst h37
    refine ⟨h, ?_, Grow.refl _ _⟩
    rw [frameB_eq ft27 rfl rfl]
    have hlp : ∀ (tm : PM Value) (N : Nat), 60 ≤ N → tm.get 0 = some (sv [37]) → tm.get 4 = some nilV → tm.get 5 = some (iv 0) → ∃ tm' h', codeB T0 X0 call N ET (.loop bodyT) tm h [] = .jump (.exit 0) tm' h' [] ∧ (h' = h ∧ tm'.get 0 = some (sv [37]) ∧ tm'.get 4 = some nilV) := by
      intro tm N hN g0 g4 g5
      obtain ⟨N, rfl⟩ : ∃ a, N = a + 60 := ⟨N - 60, by omega⟩
      apply Exists.intro; apply Exists.intro
      refine ⟨?_, rfl, ?_, ?_⟩
      · rw [codeB_loop]
        simp only [bodyT, part, Tryd.f27, sub, symM, opFn, Nat.reduceLT, Nat.reduceBEq, g0, g5, len_str, bin_lss, show decide ((0 : Int) < (([37] : List UInt8).length : Nat)) = true from rfl, bin_sneq, show (!(([37] : List UInt8) == [37])) = false from rfl]
        rfl
      · simp only [symM, Nat.reduceBEq, g0]
      · simp only [symM, Nat.reduceBEq, g4]
    simp only [Tryd.f27, symM, opFn, Nat.reduceLT]
    refine bind_loop (b := bodyT) (Q := fun tm' h' => h' = h ∧ tm'.get 0 = some (sv [37]) ∧ tm'.get 4 = some nilV) (P := fun x => endF T0 27 x = some (.tuple #[sv (textL [37]).1, .bool (textL [37]).2], h)) ?_ ?_
    · exact hlp _ _ (by omega) (by simp only [symM, Nat.reduceBEq]) (by simp only [symM, Nat.reduceBEq]) get_same
    · rintro tm' h' ⟨rfl, q0, q4⟩
      simp only [symM, opFn, Nat.reduceLT, Nat.reduceBEq, q0, q4, conv_bytes (l := []) (.inl ⟨rfl, rfl⟩ : Row h'.next h' nilV (byteVals []) 5), bin_sneq, show (!(([37] : List UInt8) == [])) = true from rfl]
      exact retB_two ft27 rfl (by simp only [symM, Nat.reduceBEq]; rfl) (by simp only [symM]; rfl)
  · have key := fun (tm : PM Value) (N : Nat) (hN : M + 60 ≤ N) (q0 : tm.get 0 = some (sv l)) (q4 : tm.get 4 = some nilV) (q5 : tm.get 5 = some (iv (0 : Nat))) => textLp hL hP l (by omega) h37 h.next M l [] 0 tm h N nilV hl rfl (by simp) hN (by simp) q0 q4 q5 (.inl ⟨rfl, rfl, rfl⟩) (Nat.le_refl _)
    rw [frameB_eq ft27 rfl rfl]
    simp only [Tryd.f27, symM, opFn, Nat.reduceLT]
    refine bind_loopJ (b := bodyT) (Q := fun x => ∃ tm' h', ((∃ o, textT l = some o ∧ x = .jump (.exit 0) tm' h' [] ∧ tm'.get 0 = some (sv l) ∧ ∃ v', tm'.get 4 = some v' ∧ OwnC 1 h.next h' v' ([] ++ o).length (byteVals ([] ++ o)) 5) ∨
        (textT l = none ∧ x = .jump .ret tm' h' [] ∧ tm'.get 2 = some (sv []) ∧ tm'.get 3 = some (.bool false))) ∧ Grow h.next h h') (P := fun x => ∃ h', endF T0 27 x = some (.tuple #[sv (textL l).1, .bool (textL l).2], h') ∧ Grow h.next h h') ?_ ?_
    · exact key _ _ (by omega) (by simp only [symM, Nat.reduceBEq]) (by simp only [symM, Nat.reduceBEq]) get_same
    · rintro x ⟨tm', h', q, g⟩
      unfold textL
      rw [if_neg h37]
      rcases q with ⟨o, q1, rfl, q3, v', q4, q5⟩ | ⟨q1, rfl, q2, q3⟩
      · rw [q1]
        rw [List.nil_append] at q5
        refine ⟨h', ?_, g⟩
        simp only [symM, opFn, Nat.reduceLT, Nat.reduceBEq, symL, q3, q4, conv_bytes q5.row1, bin_sneq]
        exact retB_two ft27 rfl (by simp only [symM, Nat.reduceBEq]) (by simp only [symM])
      · rw [q1]
        refine ⟨h', ?_, g⟩
        simp only [symM]
        exact retB_two ft27 rfl q2 q3
noncomputable def bodyRT : Code := part Tryd.f30 [1, 1, 1, 0, 1, 0, 0]
abbrev ERT : Env := ⟨30, 71, none⟩
theorem plan_rtext : planB (regOps Tryd.f30 [1, 1, 1, 0, 1, 0, 0, 1, 0, 0, 1, 0, 1, 0, 1, 0]) 71 = some ([.one 0, .one 1, .one 2, .one 3, .one 6, .one 7, .one 8, .one 9, .eff [] 4 [6, 7, 8, 9], .one 5, .eff [] 10 [5], .one 11, .one 12, .one 13], []) := by kernel_rfl
abbrev DigC (call : Abs.Callee) : Prop := ∀ (b : UInt8) (h : AH), call 44 [bv b] h = some (iv (digB b), h)
theorem rtextLp (hD : DigC call) (hP : PlainC call 40) (L : List UInt8) (hL2 : L.length < 10000000000) (n : Nat) :
    ∀ (k : Nat) (l out : List UInt8) (i : Nat) (tm : PM Value) (h : AH) (N : Nat) (v : Value), l.length ≤ k → L.drop i = l → i + l.length = L.length → k + 60 ≤ N → out.length ≤ i → tm.get 0 = some (sv L) → tm.get 4 = some v → tm.get 5 = some (iv i) →
      OwnC 1 n h v out.length (byteVals out) 5 → n ≤ h.next →
      ∃ tm' h', ((∃ o, textT l = some o ∧ codeB T0 X0 call N ERT (.loop bodyRT) tm h [] = .jump (.exit 0) tm' h' [] ∧ tm'.get 0 = some (sv L) ∧ ∃ v', tm'.get 4 = some v' ∧ OwnC 1 n h' v' (out ++ o).length (byteVals (out ++ o)) 5) ∨
        (textT l = none ∧ codeB T0 X0 call N ERT (.loop bodyRT) tm h [] = .jump .ret tm' h' [] ∧ tm'.get 2 = some (sv []) ∧ tm'.get 3 = some (.bool false))) ∧ Grow n h h' := by
  have base : ∀ (out : List UInt8) (i : Nat) (tm : PM Value) (h : AH) (N : Nat) (v : Value), i = L.length → 60 ≤ N → tm.get 0 = some (sv L) → tm.get 4 = some v → tm.get 5 = some (iv i) →
      OwnC 1 n h v out.length (byteVals out) 5 →
      ∃ tm' h', ((∃ o, textT [] = some o ∧ codeB T0 X0 call N ERT (.loop bodyRT) tm h [] = .jump (.exit 0) tm' h' [] ∧ tm'.get 0 = some (sv L) ∧ ∃ v', tm'.get 4 = some v' ∧ OwnC 1 n h' v' (out ++ o).length (byteVals (out ++ o)) 5) ∨
        (textT [] = none ∧ codeB T0 X0 call N ERT (.loop bodyRT) tm h [] = .jump .ret tm' h' [] ∧ tm'.get 2 = some (sv []) ∧ tm'.get 3 = some (.bool false))) ∧ Grow n h h' := by
    intro out i tm h N v hiL hN g0 g4 g5 ho
    obtain ⟨N, rfl⟩ : ∃ a, N = a + 60 := ⟨N - 60, by omega⟩
    subst hiL
    apply Exists.intro; apply Exists.intro
    refine ⟨.inl ⟨[], rfl, ?_, ?_, v, ?_, by rw [List.append_nil]; exact ho⟩, Grow.refl _ _⟩
    · rw [codeB_loop]
      simp only [bodyRT, part, Tryd.f30, sub, symM, opFn, Nat.reduceLT, Nat.reduceBEq, g0, g5, len_str, bin_lss, decide_eq_false (show ¬ ((L.length : Nat) : Int) < (L.length : Nat) by omega)]
      rfl
    · simp only [symM, Nat.reduceBEq, g0]
    · simp only [symM, Nat.reduceBEq, g4]
  intro k
  induction k with
  | zero =>
    intro l out i tm h N v hk hd hi hN ho2 g0 g4 g5 ho hn
    have hl0 : l = [] := List.length_eq_zero_iff.1 (by omega)
    subst hl0
    exact base out i tm h N v (by simpa using hi) (by omega) g0 g4 g5 ho
  | succ k ih =>
    intro l out i tm h N v hk hd hi hN ho2 g0 g4 g5 ho hn
    cases l with
    | nil => exact base out i tm h N v (by simpa using hi) (by omega) g0 g4 g5 ho
    | cons x r =>
      obtain ⟨N, rfl⟩ : ∃ a, N = a + 60 := ⟨N - 60, by omega⟩
      simp only [List.length_cons] at hi hk
      have hlt : decide ((i : Int) < (L.length : Nat)) = true := decide_eq_true (by omega)
      have hw1 := wadd1 (a := i) (by omega)
      have hw2 : IntKind.i64.wrap ((i : Int) + 2) = ((i + 2 : Nat) : Int) := by rw [w64 (by omega)]; omega
      have ix := idx_str (byteAt hd)
      have hnext : L.drop (i + 1) = r := by rw [← List.drop_drop, hd]; rfl
      rw [show N + 60 = (N + 59) + 1 from rfl, codeB_loop]
      have h37 : ((x.toNat : Int) == 37) = decide (x = 37) := beq_u8 (k := 37) (by decide)
      by_cases hx : x = 37
      · rw [decide_eq_true hx] at h37
        by_cases hs : r.length < 2
        · have hl2 : decide ((L.length : Nat) ≤ ((i + 2 : Nat) : Int)) = true := decide_eq_true (by omega)
          apply Exists.intro; apply Exists.intro
          refine ⟨.inr ⟨by rw [hx]; exact textT_short hs, ?_, ?_, ?_⟩, Grow.refl _ _⟩
          · simp only [bodyRT, part, Tryd.f30, sub, symM, opFn, Nat.reduceLT, Nat.reduceBEq, g0, g5, len_str, bin_lss, hlt, ix, bin_eql, h37, bin_add, hw2, bin_geq, hl2]
            rfl
          · simp only [symM, Nat.reduceBEq]
          · simp only [symM]
        · obtain ⟨c, d, r2, rfl⟩ : ∃ c d r2, r = c :: d :: r2 := by
            match r, hs with
            | c :: d :: r2, _ => exact ⟨c, d, r2, rfl⟩
            | [], hs => exact absurd (by simp) hs
            | [c], hs => exact absurd (by simp) hs
          simp only [List.length_cons] at hi hk
          have hl2 : decide ((L.length : Nat) ≤ ((i + 2 : Nat) : Int)) = false := decide_eq_false (by omega)
          have hnext2 : L.drop (i + 2) = d :: r2 := by rw [show i + 2 = (i + 1) + 1 from rfl, ← List.drop_drop, hnext]; rfl
          have hnext3 : L.drop (i + 3) = r2 := by rw [show i + 3 = (i + 2) + 1 from rfl, ← List.drop_drop, hnext2]; rfl
          have ix1 := idx_str (byteAt hnext)
          have ix2 := idx_str (byteAt hnext2)
          have hw3 : IntKind.i64.wrap (((i + 2 : Nat) : Int) + 1) = ((i + 3 : Nat) : Int) := by rw [w64 (by omega)]; omega
          have hpl := plan_rtext
          simp only [regOps, part, Tryd.f30, sub] at hpl
          have tex := @textT_hex c d r2
          rw [hx]
          by_cases n1 : digB c < 0
          · have hq : decide (digB c < 0) = true := decide_eq_true n1
            apply Exists.intro; apply Exists.intro
            refine ⟨.inr ⟨by rw [tex, if_pos (.inl n1)], ?_, ?_, ?_⟩, Grow.refl _ _⟩
            · simp only [bodyRT, part, Tryd.f30, sub, symM, opFn, Nat.reduceLT, Nat.reduceBEq, g0, g5, len_str, bin_lss, hlt, ix, bin_eql, h37, bin_add, hw1, hw2, bin_geq, hl2, ix1, evCall_fn ft44 rfl, hD, hq]
              rfl
            · simp only [symM, Nat.reduceBEq]
            · simp only [symM]
          · have hq : decide (digB c < 0) = false := decide_eq_false n1
            by_cases n2 : digB d < 0
            · have hq2 : decide (digB d < 0) = true := decide_eq_true n2
              apply Exists.intro; apply Exists.intro
              refine ⟨.inr ⟨by rw [tex, if_pos (.inr (.inl n2))], ?_, ?_, ?_⟩, Grow.refl _ _⟩
              · simp only [bodyRT, part, Tryd.f30, sub, symM, opFn, Nat.reduceLT, Nat.reduceBEq, g0, g5, len_str, bin_lss, hlt, ix, bin_eql, h37, bin_add, hw1, hw2, bin_geq, hl2, ix1, ix2, evCall_fn ft44 rfl, hD, hq, hq2]
                rfl
              · simp only [symM, Nat.reduceBEq]
              · simp only [symM]
            · have hq2 : decide (digB d < 0) = false := decide_eq_false n2
              have hc16 : digB c < 16 := by rcases digB_cases c with e | ⟨k, _, e⟩ <;> omega
              have hd16 : digB d < 16 := by rcases digB_cases d with e | ⟨k, _, e⟩ <;> omega
              have m1 : IntKind.i64.wrap (16 * digB c) = 16 * digB c := w64 (by omega)
              have m2 : IntKind.i64.wrap (16 * digB c + digB d) = 16 * digB c + digB d := w64 (by omega)
              have hcv : ∀ h, evConvert T0 3 5 (iv (16 * digB c + digB d)) h = some (bv (hexV c d), h) := fun h => by
                unfold hexV; exact convB (by omega) (by omega)
              by_cases hp : plainB (hexV c d) = true
              · apply Exists.intro; apply Exists.intro
                refine ⟨.inr ⟨by rw [tex, if_pos (.inr (.inr hp))], ?_, ?_, ?_⟩, Grow.refl _ _⟩
                · simp only [bodyRT, part, Tryd.f30, sub, symM, opFn, Nat.reduceLT, Nat.reduceBEq, g0, g5, len_str, bin_lss, hlt, ix, bin_eql, h37, bin_add, hw1, hw2, bin_geq, hl2, ix1, ix2, evCall_fn ft44 rfl, hD, hq, hq2, codeB_draw]
                  rw [draw_plan hpl rfl]
                  simp only [drawAll, opFn, Nat.reduceLT, Nat.reduceBEq, g0, g5, effE_cons, eqV_str, bin_add, bin_mul, hw1, hw2, ix1, ix2, evCall_fn ft44 rfl, hD, m1, m2, hcv, evCall_fn ft40 rfl, hP, hp]
                  rfl
                · simp only [symM, Nat.reduceBEq]
                · simp only [symM]
              · have hpf : plainB (hexV c d) = false := by simpa using hp
                obtain ⟨v1, h1, a1, a2, a3⟩ := put_bytes (new := [hexV c d]) (k := 1) ho rfl (by simp; omega) hn 22
                simp only [byteVals, List.map_cons, List.map_nil] at a1
                have hrec := fun tm' g0' g4' g5' => ih r2 (out ++ [hexV c d]) (i + 3) tm' h1 (N + 59) v1 (by omega) hnext3 (by omega) (by omega) (by simp; omega) g0' g4' g5' a2 (Nat.le_trans hn a3.next)
                simp only [bodyRT, part, Tryd.f30, sub, symM, opFn, Nat.reduceLT, Nat.reduceBEq, g0, g5, len_str, bin_lss, hlt, ix, bin_eql, h37, bin_add, hw1, hw2, bin_geq, hl2, ix1, ix2, evCall_fn ft44 rfl, hD, hq, hq2, codeB_draw]
                rw [draw_plan hpl rfl]
                simp only [drawAll, opFn, Nat.reduceLT, Nat.reduceBEq, g0, g4, g5, effE_cons, eqV_str, bin_add, bin_mul, hw1, hw2, hw3, ix1, ix2, evCall_fn ft44 rfl, hD, m1, m2, hcv, evCall_fn ft40 rfl, hP, hpf, bs_u8, a1]
                refine textWrap a3 ?_ ?_ (hrec _ (by simp only [symM, Nat.reduceBEq, g0]) (by simp only [symM, Nat.reduceBEq]) get_same)
                · intro o ho'; exact ⟨hexV c d :: o, by rw [tex, if_neg (by rintro (q | q | q) <;> first | omega | exact hp q), ho']; rfl, by simp⟩
                · intro ho'; rw [tex, if_neg (by rintro (q | q | q) <;> first | omega | exact hp q), ho']; rfl
      · rw [decide_eq_false hx] at h37
        have tex := textT_plain (l := r) hx
        by_cases hp : plainB x = true
        · obtain ⟨v1, h1, a1, a2, a3⟩ := put_bytes (new := [x]) (k := 1) ho rfl (by simp; omega) hn 22
          simp only [byteVals, List.map_cons, List.map_nil] at a1
          have hrec := fun tm' g0' g4' g5' => ih r (out ++ [x]) (i + 1) tm' h1 (N + 59) v1 (by omega) hnext (by omega) (by omega) (by simp; omega) g0' g4' g5' a2 (Nat.le_trans hn a3.next)
          simp only [bodyRT, part, Tryd.f30, sub, symM, opFn, Nat.reduceLT, Nat.reduceBEq, g0, g4, g5, len_str, bin_lss, hlt, ix, bin_eql, h37, bin_add, hw1, evCall_fn ft40 rfl, hP, hp, bs_u8, a1]
          refine textWrap a3 ?_ ?_ (hrec _ (by simp only [symM, Nat.reduceBEq, g0]) (by simp only [symM, Nat.reduceBEq]) get_same)
          · intro o ho'; exact ⟨x :: o, by rw [tex, if_pos hp, ho']; rfl, by simp⟩
          · intro ho'; rw [tex, if_pos hp, ho']; rfl
        · have hpf : plainB x = false := by simpa using hp
          apply Exists.intro; apply Exists.intro
          refine ⟨.inr ⟨by rw [tex, if_neg hp], ?_, ?_, ?_⟩, Grow.refl _ _⟩
          · simp only [bodyRT, part, Tryd.f30, sub, symM, opFn, Nat.reduceLT, Nat.reduceBEq, g0, g5, len_str, bin_lss, hlt, ix, bin_eql, h37, evCall_fn ft40 rfl, hP, hpf]
            rfl
          · simp only [symM, Nat.reduceBEq]
          · simp only [symM]
theorem textT_ne {l o : List UInt8} (h : textT l = some o) : (o == []) = (l == []) := by
  cases l with
  | nil => simp [textT] at h; subst h; rfl
  | cons b l =>
    have ho : o ≠ [] := by
      by_cases hb : b = 37
      · subst hb
        by_cases hs : l.length < 2
        · rw [textT_short hs] at h; cases h
        · match l, hs, h with
          | c :: d :: r, _, h =>
          rw [textT_hex] at h
          split at h
          · cases h
          · cases hr : textT r with
            | none => rw [hr] at h; cases h
            | some o' => rw [hr] at h; cases h; simp
      · rw [textT_plain hb] at h
        split at h
        · cases hr : textT l with
          | none => rw [hr] at h; cases h
          | some o' => rw [hr] at h; cases h; simp
        · cases h
    have h1 : (o == []) = false := by simpa using ho
    rw [h1]; rfl
theorem rtext_S (hD : DigC call) (hP : PlainC call 40) (M : Nat) (l : List UInt8) (h : AH) (hl : l.length ≤ M) (hM : M < 10000000000) :
    ∃ h', frameB T0 X0 call (M + 3000) 30 [sv l] h = some (.tuple #[sv (textL l).1, .bool (textL l).2], h') ∧ Grow h.next h h' := by
  by_cases h37 : l = [37]
  · subst h37
    refine ⟨h, ?_, Grow.refl _ _⟩
    rw [frameB_eq ft30 rfl rfl]
    simp only [Tryd.f30, symM, opFn, Nat.reduceLT, Nat.reduceBEq, bin_seql, show (([37] : List UInt8) == [37]) = true from rfl]
    exact retB_two ft30 rfl (by simp only [symM, Nat.reduceBEq]; rfl) (by simp only [symM]; rfl)
  · generalize hh1 : h.new (.cells (PM.ofList []) 0 5 0 0 .ex) = h1
    have g1 : Grow h.next h h1 := by rw [← hh1]; exact Grow.new _ _
    have hbs : evBuildSlice T0 22 0 [] h = some (.slice (some ⟨h.next, 0, none⟩) 0 0, h1) := by rw [← hh1]; exact bs_u80
    have hb0 : (l == [37]) = false := by simpa using h37
    have ho : OwnC 1 h.next h1 (.slice (some ⟨h.next, 0, none⟩) 0 0) ([] : List UInt8).length (byteVals []) 5 := by
      rw [← hh1]
      exact .inr ⟨h.next, _, .ex, 0, Nat.le_refl _, Nat.lt_succ_self _, rfl, get_new_same _ _, rfl, fun i x hi => by simp [byteVals] at hi, .inl ⟨rfl, rfl⟩⟩
    have key := fun (tm : PM Value) (N : Nat) (hN : M + 60 ≤ N) (q0 : tm.get 0 = some (sv l)) (q4 : tm.get 4 = some (.slice (some ⟨h.next, 0, none⟩) 0 0)) (q5 : tm.get 5 = some (iv (0 : Nat))) => rtextLp hD hP l (by omega) h.next M l [] 0 tm h1 N _ hl rfl (by simp) hN (by simp) q0 q4 q5 ho g1.next
    rw [frameB_eq ft30 rfl rfl]
    simp only [Tryd.f30, symM, opFn, Nat.reduceLT, Nat.reduceBEq, bin_seql, hb0, hbs]
    refine bind_loopJ (b := bodyRT) (Q := fun x => ∃ tm' h', ((∃ o, textT l = some o ∧ x = .jump (.exit 0) tm' h' [] ∧ tm'.get 0 = some (sv l) ∧ ∃ v', tm'.get 4 = some v' ∧ OwnC 1 h.next h' v' ([] ++ o).length (byteVals ([] ++ o)) 5) ∨
        (textT l = none ∧ x = .jump .ret tm' h' [] ∧ tm'.get 2 = some (sv []) ∧ tm'.get 3 = some (.bool false))) ∧ Grow h.next h1 h') (P := fun x => ∃ h', endF T0 30 x = some (.tuple #[sv (textL l).1, .bool (textL l).2], h') ∧ Grow h.next h h') ?_ ?_
    · exact key _ _ (by omega) (by simp only [symM, Nat.reduceBEq]) (by simp only [symM, Nat.reduceBEq]) get_same
    · rintro x ⟨tm', h', q, g⟩
      unfold textL
      rw [if_neg h37]
      have g2 := g1.trans g (Nat.le_refl _)
      rcases q with ⟨o, q1, rfl, q3, v', q4, q5⟩ | ⟨q1, rfl, q2, q3⟩
      · rw [q1]
        rw [List.nil_append] at q5
        refine ⟨h', ?_, g2⟩
        have hlen : ∀ ty, evBuiltin T0 .len #[22] ty [v'] h' = some (.value (iv o.length), h') := by
          intro ty
          have := q5.own.row.len (ty := ty) (h' := h') und_bytes
          rwa [byteVals_len] at this
        have hz : decide ((0 : Int) < (o.length : Nat)) = !(l == []) := by
          rw [← textT_ne q1]
          cases o with
          | nil => rfl
          | cons b o => exact decide_eq_true (by simp only [List.length_cons]; omega)
        simp only [symM, opFn, Nat.reduceLT, Nat.reduceBEq, symL, q4, conv_bytes q5.row1, hlen, bin_gtr, hz]
        exact retB_two ft30 rfl (by simp only [symM, Nat.reduceBEq]) (by simp only [symM])
      · rw [q1]
        refine ⟨h', ?_, g2⟩
        simp only [symM]
        exact retB_two ft30 rfl q2 q3
end
end Go.Proofs.YtknchhnibjfocaaDoor.Abs
namespace Go.Proofs.YtknchhnibjfocaaDoor.Abs
open Go Go.Proofs
noncomputable section
variable {call : Abs.Callee}
set_option maxRecDepth 10000
theorem ft19 : T0.ft.get 19 = some Tryd.f19 := by kernel_rfl
theorem ft29 : T0.ft.get 29 = some Tryd.f29 := by kernel_rfl
theorem ft23 : T0.ft.get 23 = some Tryd.f23 := by kernel_rfl
abbrev VT : List (List UInt8 × List UInt8) := [([109, 97, 107, 101], [110, 109]), ([109, 111, 117, 110, 116], []), ([102, 97, 105, 108], [110]), ([114, 101, 115, 116, 97, 114, 116], [110]), ([99, 114, 101, 97, 116, 101], [112]), ([109, 107, 100, 105, 114], [112]), ([108, 105, 110, 107], [112, 111]), ([117, 110, 108, 105, 110, 107], [112]), ([114, 109, 100, 105, 114], [112]), ([114, 101, 110, 97, 109, 101], [112, 111]), ([114, 101, 97, 100], [112, 110, 109]), ([119, 114, 105, 116, 101], [112, 110, 100]), ([116, 114, 117, 110, 99, 97, 116, 101], [112, 110]), ([115, 116, 97, 116], [112]), ([108, 105, 115, 116], [112]), ([103, 114, 111, 119], [110]), ([115, 116, 97, 114, 116], [110, 109]), ([115, 116, 101, 112], []), ([108, 101, 102, 116], []), ([112, 105, 101, 99, 101, 115], [112]), ([102, 114, 101, 101], [])]
def ents : List (List UInt8 × List UInt8) → Nat → List MapEntry
  | [], _ => []
  | (k, v) :: r, i => { key := sv k, val := sv v, born := i } :: ents r (i + 1)
def lookT : List (List UInt8 × List UInt8) → List UInt8 → Option (List UInt8)
  | [], _ => none
  | (q, v) :: r, k => if k = q then some v else lookT r k
/-- The parts of a verb's acts. -/
def partsOf (k : List UInt8) : Option (List UInt8) := lookT VT k
theorem same_sv (a b : List UInt8) : Instr.sameNow .string (sv a) (sv b) = some (decide (a = b)) := by
  show some ((⟨a.toArray⟩ : ByteArray).data == (⟨b.toArray⟩ : ByteArray).data) = _
  congr 1
  by_cases h : a = b
  · subst h; simp
  · rw [decide_eq_false h]; simpa using h
theorem find_ents (k : List UInt8) : ∀ (tab : List (List UInt8 × List UInt8)) (i j : Nat), (lookT tab k = none → Instr.findNow .string (sv k) (ents tab i) j = some none) ∧ ∀ v, lookT tab k = some v → ∃ m, Instr.findNow .string (sv k) (ents tab i) j = some (some (m, sv v)) := by
  intro tab
  induction tab with
  | nil => intro i j; exact ⟨fun _ => rfl, fun v e => by cases e⟩
  | cons x tab ih =>
    intro i j
    obtain ⟨q, v⟩ := x
    rw [ents, Instr.findNow, same_sv]
    by_cases h : k = q
    · rw [lookT, if_pos h, decide_eq_true h]
      exact ⟨fun e => by (cases e), fun v' e => by cases e; exact ⟨_, rfl⟩⟩
    · rw [lookT, if_neg h, decide_eq_false h]
      exact ih (i + 1) (j + 1)
theorem ents_take : ∀ (tab : List (List UInt8 × List UInt8)) (i n : Nat), (ents tab i).take n = ents (tab.take n) i := by
  intro tab
  induction tab with
  | nil => intro i n; simp [ents]
  | cons x tab ih =>
    intro i n
    obtain ⟨q, v⟩ := x
    cases n with
    | zero => rfl
    | succ n => rw [ents, List.take_succ_cons, List.take_succ_cons, ents, ih]
theorem ents_app : ∀ (a b : List (List UInt8 × List UInt8)) (i : Nat), ents (a ++ b) i = ents a i ++ ents b (i + a.length) := by
  intro a
  induction a with
  | nil => intro b i; rfl
  | cons x a ih =>
    intro b i
    obtain ⟨q, v⟩ := x
    rw [List.cons_append, ents, ents, ih, List.length_cons, List.cons_append, show i + 1 + a.length = i + (a.length + 1) by omega]
theorem ev_nilMap {T : Tab} {tm : PM Value} : ev T tm (.const (.map none)) = some (.map none) := rfl
/-- The map while it is filled. -/
def mapAt (h : AH) : Nat → AH
  | 0 => h.new (.map [] 0)
  | i + 1 => (mapAt h i).set h.next (.map (ents (VT.take (i + 1)) 0) (i + 1))
theorem mapAt_get (h : AH) (i : Nat) : (mapAt h i).get h.next = some (.map (ents (VT.take i) 0) i) := by
  cases i with
  | zero => exact get_new_same _ _
  | succ i => rw [mapAt, AH.get_set, if_pos rfl]
theorem mapAt_grow (h : AH) (i : Nat) : Grow h.next h (mapAt h i) := by
  induction i with
  | zero => exact Grow.new _ _
  | succ i ih => exact ih.trans (Grow.set _ _ (Nat.le_refl _)) (Nat.le_refl _)
theorem und_map : und T0 44 = some (.map 9 9) := by kernel_rfl
theorem kk_str : keyKind T0 9 = some .string := by kernel_rfl
theorem zero_str : zeroOf T0 9 = some (sv []) := by kernel_rfl
theorem mapAt_step (h : AH) {i : Nat} {k v : List UInt8} (he : VT[i]? = some (k, v)) (hf : lookT (VT.take i) k = none) : evMapUpdate T0 44 (.map (some h.next)) (sv k) (sv v) (mapAt h i) = some (mapAt h (i + 1)) := by
  unfold evMapUpdate
  simp only [und_map, kk_str, mapAt_get, (find_ents k (VT.take i) 0 0).1 hf]
  rw [show flat (sv k) = true from rfl, ifB_true, mapAt, List.take_add_one, he, ents_app]
  have hlen : (VT.take i).length = i := by rw [List.length_take]; have := (List.getElem?_eq_some_iff.1 he).1; omega
  rw [hlen, Nat.zero_add]
  rfl
theorem mk_map {h : AH} {tm : PM Value} : evMakeMapX T0 tm 44 none h = some (.value (.map (some h.next)), mapAt h 0) := rfl
theorem verbs_S (h : AH) : frameB T0 X0 call 3000 19 [] h = some (.map (some h.next), mapAt h 21) := by
  have s0 : evMapUpdate T0 44 (.map (some h.next)) (sv [109, 97, 107, 101]) (sv [110, 109]) (mapAt h 0) = some (mapAt h 1) := mapAt_step h rfl (by decide)
  have s1 : evMapUpdate T0 44 (.map (some h.next)) (sv [109, 111, 117, 110, 116]) (sv []) (mapAt h 1) = some (mapAt h 2) := mapAt_step h rfl (by decide)
  have s2 : evMapUpdate T0 44 (.map (some h.next)) (sv [102, 97, 105, 108]) (sv [110]) (mapAt h 2) = some (mapAt h 3) := mapAt_step h rfl (by decide)
  have s3 : evMapUpdate T0 44 (.map (some h.next)) (sv [114, 101, 115, 116, 97, 114, 116]) (sv [110]) (mapAt h 3) = some (mapAt h 4) := mapAt_step h rfl (by decide)
  have s4 : evMapUpdate T0 44 (.map (some h.next)) (sv [99, 114, 101, 97, 116, 101]) (sv [112]) (mapAt h 4) = some (mapAt h 5) := mapAt_step h rfl (by decide)
  have s5 : evMapUpdate T0 44 (.map (some h.next)) (sv [109, 107, 100, 105, 114]) (sv [112]) (mapAt h 5) = some (mapAt h 6) := mapAt_step h rfl (by decide)
  have s6 : evMapUpdate T0 44 (.map (some h.next)) (sv [108, 105, 110, 107]) (sv [112, 111]) (mapAt h 6) = some (mapAt h 7) := mapAt_step h rfl (by decide)
  have s7 : evMapUpdate T0 44 (.map (some h.next)) (sv [117, 110, 108, 105, 110, 107]) (sv [112]) (mapAt h 7) = some (mapAt h 8) := mapAt_step h rfl (by decide)
  have s8 : evMapUpdate T0 44 (.map (some h.next)) (sv [114, 109, 100, 105, 114]) (sv [112]) (mapAt h 8) = some (mapAt h 9) := mapAt_step h rfl (by decide)
  have s9 : evMapUpdate T0 44 (.map (some h.next)) (sv [114, 101, 110, 97, 109, 101]) (sv [112, 111]) (mapAt h 9) = some (mapAt h 10) := mapAt_step h rfl (by decide)
  have s10 : evMapUpdate T0 44 (.map (some h.next)) (sv [114, 101, 97, 100]) (sv [112, 110, 109]) (mapAt h 10) = some (mapAt h 11) := mapAt_step h rfl (by decide)
  have s11 : evMapUpdate T0 44 (.map (some h.next)) (sv [119, 114, 105, 116, 101]) (sv [112, 110, 100]) (mapAt h 11) = some (mapAt h 12) := mapAt_step h rfl (by decide)
  have s12 : evMapUpdate T0 44 (.map (some h.next)) (sv [116, 114, 117, 110, 99, 97, 116, 101]) (sv [112, 110]) (mapAt h 12) = some (mapAt h 13) := mapAt_step h rfl (by decide)
  have s13 : evMapUpdate T0 44 (.map (some h.next)) (sv [115, 116, 97, 116]) (sv [112]) (mapAt h 13) = some (mapAt h 14) := mapAt_step h rfl (by decide)
  have s14 : evMapUpdate T0 44 (.map (some h.next)) (sv [108, 105, 115, 116]) (sv [112]) (mapAt h 14) = some (mapAt h 15) := mapAt_step h rfl (by decide)
  have s15 : evMapUpdate T0 44 (.map (some h.next)) (sv [103, 114, 111, 119]) (sv [110]) (mapAt h 15) = some (mapAt h 16) := mapAt_step h rfl (by decide)
  have s16 : evMapUpdate T0 44 (.map (some h.next)) (sv [115, 116, 97, 114, 116]) (sv [110, 109]) (mapAt h 16) = some (mapAt h 17) := mapAt_step h rfl (by decide)
  have s17 : evMapUpdate T0 44 (.map (some h.next)) (sv [115, 116, 101, 112]) (sv []) (mapAt h 17) = some (mapAt h 18) := mapAt_step h rfl (by decide)
  have s18 : evMapUpdate T0 44 (.map (some h.next)) (sv [108, 101, 102, 116]) (sv []) (mapAt h 18) = some (mapAt h 19) := mapAt_step h rfl (by decide)
  have s19 : evMapUpdate T0 44 (.map (some h.next)) (sv [112, 105, 101, 99, 101, 115]) (sv [112]) (mapAt h 19) = some (mapAt h 20) := mapAt_step h rfl (by decide)
  have s20 : evMapUpdate T0 44 (.map (some h.next)) (sv [102, 114, 101, 101]) (sv []) (mapAt h 20) = some (mapAt h 21) := mapAt_step h rfl (by decide)
  rw [frameB_eq ft19 rfl rfl]
  simp only [Tryd.f19, symM, opFn, Nat.reduceLT, ev_nilMap, mk_map, s0, s1, s2, s3, s4, s5, s6, s7, s8, s9, s10, s11, s12, s13, s14, s15, s16, s17, s18, s19, s20]
  exact retB_one ft19 rfl get_same
theorem look_S {h : AH} {b ck : Nat} {k : List UInt8} (hb : h.get b = some (.map (ents VT 0) ck)) : evLookup T0 44 (.map (some b)) (sv k) true h = some (.tuple #[sv ((partsOf k).getD []), .bool (partsOf k).isSome]) := by
  unfold evLookup
  simp only [und_map, kk_str, zero_str, mapOf, hb]
  obtain ⟨f1, f2⟩ := find_ents k VT 0 0
  rw [show flat (sv k) = true from rfl, ifB_true]
  unfold partsOf
  cases hk : lookT VT k with
  | none => rw [f1 hk]; rfl
  | some v =>
    obtain ⟨m, e⟩ := f2 v hk
    rw [e]; rfl
end
end Go.Proofs.YtknchhnibjfocaaDoor.Abs
namespace Go.Proofs.YtknchhnibjfocaaDoor.Abs
open Go Go.Proofs
noncomputable section
variable {call : Abs.Callee}
set_option maxRecDepth 10000
/-- A text cut at a byte; what is there already of its first piece. -/
def splitA (c : UInt8) : List UInt8 → List UInt8 → List (List UInt8)
  | cur, [] => [cur]
  | cur, b :: l => if b = c then cur :: splitA c [] l else splitA c (cur ++ [b]) l
def prep (p : List UInt8) : List (List UInt8) → List (List UInt8)
  | [] => []
  | w :: ws => (p ++ w) :: ws
theorem prep_prep (p q : List UInt8) (l : List (List UInt8)) : prep p (prep q l) = prep (p ++ q) l := by cases l <;> simp [prep]
theorem splitA_prep (c : UInt8) : ∀ (l cur : List UInt8), splitA c cur l = prep cur (splitA c [] l) := by
  intro l
  induction l with
  | nil => intro cur; simp [splitA, prep]
  | cons b l ih =>
    intro cur
    rw [splitA, splitA]
    by_cases h : b = c
    · rw [if_pos h, if_pos h]; simp [prep]
    · rw [if_neg h, if_neg h, ih (cur ++ [b]), ih ([] ++ [b]), prep_prep]; simp
theorem splitA_ne (c : UInt8) (l cur : List UInt8) : splitA c cur l ≠ [] := by
  induction l generalizing cur with
  | nil => simp [splitA]
  | cons b l ih => rw [splitA]; split <;> simp [ih]
theorem splitA_len (c : UInt8) (l cur : List UInt8) : (splitA c cur l).length = l.count c + 1 := by
  induction l generalizing cur with
  | nil => simp [splitA]
  | cons b l ih =>
    rw [splitA]
    by_cases h : b = c
    · subst h; rw [if_pos rfl, List.length_cons, ih, List.count_cons_self]
    · rw [if_neg h, ih, List.count_cons_of_ne (fun q => h q)]
theorem splitA_mem (c : UInt8) : ∀ (l cur w : List UInt8), w ∈ splitA c cur l → w.length ≤ cur.length + l.length := by
  intro l
  induction l with
  | nil => intro cur w h; simp [splitA] at h; subst h; simp
  | cons b l ih =>
    intro cur w h
    rw [splitA] at h
    split at h
    · rw [List.mem_cons] at h
      rcases h with rfl | h
      · simp
      · have := ih [] w h; simp at this ⊢; omega
    · have := ih _ w h; simp at this ⊢; omega
theorem splitK_one (c : UInt8) : ∀ (s : List UInt8) (k : Nat), k = s.count c → Lib.splitK [c] 0 k s = splitA c [] s := by
  intro s
  induction s with
  | nil => intro k hk; simp at hk; subst hk; rfl
  | cons b l ih =>
    intro k hk
    rw [splitA]
    by_cases h : b = c
    · subst h
      rw [if_pos rfl]
      rw [List.count_cons_self] at hk
      subst hk
      have hi : Lib.index (b :: l) [b] = 0 := by rw [Lib.index_one, Lib.indexByte]; simp
      rw [Lib.splitK, hi]
      simp only [show ((0 : Int) == -1) = false from rfl, Bool.false_eq_true, if_false]
      show [] :: Lib.splitK [b] 0 (l.count b) l = _
      rw [ih _ rfl]
    · rw [if_neg h, List.nil_append, splitA_prep]
      rw [List.count_cons_of_ne (fun q => h q)] at hk
      rw [← ih k hk]
      cases k with
      | zero => rfl
      | succ k =>
        rw [Lib.splitK, Lib.splitK, Lib.index_one, Lib.index_one]
        have hb : (b == c) = false := by simpa using h
        rw [show Lib.indexByte (b :: l) c = if Lib.indexByte l c == -1 then -1 else Lib.indexByte l c + 1 from by rw [Lib.indexByte, hb]; rfl]
        by_cases hm : Lib.indexByte l c = -1
        · rw [hm]; rfl
        · have hge := Lib.indexByte_ge l c
          obtain ⟨m, hmm⟩ : ∃ m : Nat, Lib.indexByte l c = m := ⟨(Lib.indexByte l c).toNat, by omega⟩
          rw [hmm]
          have e1 : ((m : Int) == -1) = false := by rw [beq_eq_false_iff_ne]; omega
          have e2 : (((m : Int) + 1) == -1) = false := by rw [beq_eq_false_iff_ne]; omega
          simp only [e1, e2, Bool.false_eq_true, if_false]
          rw [show ((m : Int) + 1).toNat = m + 1 by omega, show ((m : Int)).toNat = m from rfl]
          simp [prep]
theorem pieces_one (c : UInt8) (l : List UInt8) : pieces ⟨l.toArray⟩ ⟨#[c]⟩ = (splitA c [] l).map sv := by
  unfold pieces
  have h1 := Lib.splitB_data ⟨#[c]⟩ 0 (Lib.countB ⟨l.toArray⟩ ⟨#[c]⟩) ⟨l.toArray⟩
  have h2 : Lib.countB ⟨l.toArray⟩ ⟨#[c]⟩ = l.count c := by
    show Lib.count l [c] = _
    exact Lib.count_one c l
  rw [h2] at h1 ⊢
  have h3 : (Lib.splitB ⟨#[c]⟩ 0 (l.count c) ⟨l.toArray⟩).map (·.data.toList) = splitA c [] l := by
    rw [h1]; exact splitK_one c l _ rfl
  rw [← h3, List.map_map]
  apply List.map_congr_left
  intro x _
  exact sv_of x
abbrev strsV (l : List (List UInt8)) : List Value := l.map sv
theorem Split_S (hL : LibC call) (c : UInt8) (l : List UInt8) (h : AH) (hg : Glob h) (hl : l.length < 4294967281) :
    call 26 [sv l, sv [c]] h = some (.slice (some ⟨h.next, 0, none⟩) (splitA c [] l).length (splitA c [] l).length, h.new (.cells (PM.ofList (strsV (splitA c [] l))) (splitA c [] l).length 9 0 0 .ex)) := by
  refine hL.split _ _ _ ?_
  have hlen : (pieces ⟨l.toArray⟩ ⟨#[c]⟩).length = (splitA c [] l).length := by rw [pieces_one, List.length_map]
  have hc : Lib.countB ⟨l.toArray⟩ ⟨#[c]⟩ = l.count c := by
    show Lib.count l [c] = _
    exact Lib.count_one c l
  have hcl : l.count c ≤ l.length := List.count_le_length
  unfold sSplit
  simp only
  rw [if_pos ⟨hg, by rw [sv_size]; exact hl, Nat.le_refl 1, by rw [hlen, hc, splitA_len], by rw [hc, XB_val]; omega⟩]
  rw [hlen, pieces_one]
/-- A slice of texts that may be read. -/
theorem strs_at {n : Nat} {h : AH} {v : Value} {W : List (List UInt8)} (hr : Row n h v (strsV W) 9) {i : Nat} {w : List UInt8} (hi : W[i]? = some w) : ∃ p, evIndexAddr T0 46 v (iv (i : Nat)) = some p ∧ evLoad T0 9 p h = some (sv w) :=
  hr.at und_strs sz_str agg_str (by rw [List.getElem?_map, hi]; rfl)
theorem strs_len {n : Nat} {h h' : AH} {v : Value} {W : List (List UInt8)} (hr : Row n h v (strsV W) 9) (ty : TypeId) : evBuiltin T0 .len #[46] ty [v] h' = some (.value (iv W.length), h') := by
  have := hr.len (ty := ty) (h' := h') und_strs
  rwa [List.length_map] at this
theorem split_row (W : List (List UInt8)) (h : AH) : Row (h.next + 1) (h.new (.cells (PM.ofList (strsV W)) W.length 9 0 0 .ex)) (.slice (some ⟨h.next, 0, none⟩) W.length W.length) (strsV W) 9 :=
  .inr ⟨h.next, 0, W.length, _, W.length, _, _, .ex, 9, by rw [List.length_map], Nat.lt_succ_self _, get_new_same _ _, by rw [List.length_map]; omega, fun i x hi => by rw [Nat.zero_add, PM.get_ofList]; exact hi⟩
theorem bs_str0 {h : AH} : evBuildSlice T0 46 0 [] h = some (.slice (some ⟨h.next, 0, none⟩) 0 0, h.new (.cells (PM.ofList []) 0 9 0 0 .ex)) := bs_zero und_strs sz_str zero_str
theorem bs_str {x : List UInt8} {h : AH} : evBuildSlice T0 46 1 [(0, sv x)] h = some (.slice (some ⟨h.next, 0, none⟩) 1 1, h.new (.cells (PM.ofList [sv x]) 1 9 0 0 .ex)) := bs_one und_strs sz_str zero_str rfl rfl
theorem put_str {n : Nat} {h : AH} {v : Value} {W : List (List UInt8)} (x : List UInt8) (ho : OwnC 1 n h v W.length (strsV W) 9) (hl : W.length + 1 < 100000000000) (hn : n ≤ h.next) (ty : TypeId) :
    ∃ v' h', evBuiltin T0 .append #[46, 46] ty [v, .slice (some ⟨h.next, 0, none⟩) 1 1] (h.new (.cells (PM.ofList [sv x]) 1 9 0 0 .ex)) = some (.value v', h') ∧ OwnC 1 n h' v' (W ++ [x]).length (strsV (W ++ [x])) 9 ∧ Grow n h h' ∧
      ∀ k, k < h.next → Off v k → h'.get k = h.get k := by
  obtain ⟨t1, t2, t3⟩ := ti_str
  have g := Grow.new h (.cells (PM.ofList [sv x]) 1 9 0 0 .ex)
  have happ : appendedA T0 46 (infoOf 9) (.string .empty) (.slice (some ⟨h.next, 0, none⟩) 1 1) (h.new (.cells (PM.ofList [sv x]) 1 9 0 0 .ex)) = some (1, [sv x]) := by
    refine appended_slice und_strs (get_new_same _ _) (by rw [t2]; rfl) (by rw [t2]; exact Nat.le_refl _) ?_
    intro j y hj; rw [PM.get_ofList]; exact hj
  obtain ⟨v', h', a1, a2, a3, a4, _⟩ := append_gen und_strs tt_str t1 t2 t3 (ho.grow g) happ rfl rfl hl (Nat.le_trans hn g.next) ty
  refine ⟨v', h', a1, ?_, (g.less hn).trans a3 (Nat.le_refl _), fun k hk ho => (a4 k (Nat.lt_of_lt_of_le hk g.next) ho).trans (g.keep k hk)⟩
  rw [List.length_append, List.length_cons, List.length_nil]
  rw [show strsV (W ++ [x]) = strsV W ++ [sv x] from by simp [strsV]]
  exact a2
noncomputable def bodyWs : Code := part Tryd.f29 [1, 1, 1, 0, 1, 0, 0]
abbrev EWs : Env := ⟨29, 33, none⟩
theorem wordsLp (L : List UInt8) (hL : L.length < 10000000000) (n : Nat) :
    ∀ (l cur : List UInt8) (W : List (List UInt8)) (i fr : Nat) (tm : PM Value) (h : AH) (N : Nat) (v : Value), L.drop i = l → i + l.length = L.length → l.length + 61 ≤ N → fr ≤ i → (L.take i).drop fr = cur → W.length ≤ i →
      tm.get 0 = some (sv L) → tm.get 3 = some v → tm.get 4 = some (iv fr) → tm.get 5 = some (iv i) → OwnC 1 n h v W.length (strsV W) 9 → n ≤ h.next →
      ∃ tm' h', codeB T0 X0 call N EWs (.loop bodyWs) tm h [] = .jump (.exit 0) tm' h' [] ∧ (∃ v', tm'.get 3 = some v' ∧ OwnC 1 n h' v' (W ++ splitA 32 cur l).length (strsV (W ++ splitA 32 cur l)) 9) ∧ Grow n h h' := by
  intro l
  induction l with
  | nil =>
    intro cur W i fr tm h N v hd hi hN hf hc hW g0 g3 g4 g5 ho hn
    obtain ⟨N, rfl⟩ : ∃ a, N = a + 61 := ⟨N - 61, by omega⟩
    have hiL : i = L.length := by simpa using hi
    have hle : decide ((i : Int) ≤ (L.length : Nat)) = true := decide_eq_true (by omega)
    have heq : ((i : Int) == (L.length : Nat)) = true := by simp [hiL]
    have hsl := slice_str (l := L) (a := fr) (b := i) (h := h) hf (by omega)
    rw [hc] at hsl
    obtain ⟨v1, h1, a1, a2, a3, _⟩ := put_str cur ho (by omega) hn 46
    have hw1 := wadd1 (a := i) (by omega)
    have hle2 : decide (((i + 1 : Nat) : Int) ≤ (L.length : Nat)) = false := decide_eq_false (by omega)
    apply Exists.intro; apply Exists.intro
    refine ⟨?_, ⟨v1, ?_, a2⟩, a3⟩
    · rw [show N + 61 = (N + 60) + 1 from rfl, codeB_loop]
      simp only [bodyWs, part, Tryd.f29, sub, symM, opFn, Nat.reduceLT, Nat.reduceBEq, g0, g3, g4, g5, len_str, bin_leq, hle, bin_eql, heq, ev3, evOpt, hsl, bs_str, a1, bin_add, hw1]
      rw [show N + 60 = (N + 59) + 1 from rfl, codeB_loop]
      simp only [symM, opFn, Nat.reduceLT, Nat.reduceBEq, g0, len_str, bin_leq, hle2]
      rfl
    · simp only [symM, Nat.reduceBEq]
  | cons x l ih =>
    intro cur W i fr tm h N v hd hi hN hf hc hW g0 g3 g4 g5 ho hn
    obtain ⟨N, rfl⟩ : ∃ a, N = a + 61 := ⟨N - 61, by omega⟩
    simp only [List.length_cons] at hi hN
    have hle : decide ((i : Int) ≤ (L.length : Nat)) = true := decide_eq_true (by omega)
    have hne : ((i : Int) == (L.length : Nat)) = false := by rw [beq_eq_false_iff_ne]; omega
    have ix := idx_str (byteAt hd)
    have hw1 := wadd1 (a := i) (by omega)
    have hnext : L.drop (i + 1) = l := by rw [← List.drop_drop, hd]; rfl
    have h32 : ((x.toNat : Int) == 32) = decide (x = 32) := beq_u8 (k := 32) (by decide)
    have htk := takeSucc hd
    rw [splitA]
    rw [show N + 61 = (N + 60) + 1 from rfl, codeB_loop]
    by_cases hx : x = 32
    · rw [decide_eq_true hx] at h32
      rw [if_pos hx]
      have hsl := slice_str (l := L) (a := fr) (b := i) (h := h) hf (by omega)
      rw [hc] at hsl
      obtain ⟨v1, h1, a1, a2, a3, _⟩ := put_str cur ho (by omega) hn 46
      simp only [bodyWs, part, Tryd.f29, sub, symM, opFn, Nat.reduceLT, Nat.reduceBEq, g0, g3, g4, g5, len_str, bin_leq, hle, bin_eql, hne, ix, h32, ev3, evOpt, hsl, bs_str, a1, bin_add, hw1]
      have hrec := fun tm' q0 q3 q4 q5 => ih [] (W ++ [cur]) (i + 1) (i + 1) tm' h1 (N + 60) v1 hnext (by omega) (by omega) (Nat.le_refl _) (by simp) (by simp; omega) q0 q3 q4 q5 a2 (Nat.le_trans hn a3.next)
      rw [List.append_assoc, List.singleton_append] at hrec
      exact wrapG a3 (hrec _ (by simp only [symM, Nat.reduceBEq, g0]) (by simp only [symM, Nat.reduceBEq]) (by simp only [symM, Nat.reduceBEq]) get_same)
    · rw [decide_eq_false hx] at h32
      rw [if_neg hx]
      simp only [bodyWs, part, Tryd.f29, sub, symM, opFn, Nat.reduceLT, Nat.reduceBEq, g0, g5, len_str, bin_leq, hle, bin_eql, hne, ix, h32, bin_add, hw1]
      exact ih (cur ++ [x]) W (i + 1) fr _ h (N + 60) v hnext (by omega) (by omega) (by omega) (by rw [htk, List.drop_append_of_le_length (by rw [List.length_take]; omega), hc]) (by omega) (by simp only [symM, Nat.reduceBEq, g0]) (by simp only [symM, Nat.reduceBEq, g3]) (by simp only [symM, Nat.reduceBEq, g4]) get_same ho hn
theorem Words_S (M : Nat) (l : List UInt8) (h : AH) (hl : l.length ≤ M) (hM : M < 10000000000) :
    ∃ v h', frameB T0 X0 call (M + 3000) 29 [sv l] h = some (v, h') ∧ OwnC 1 h.next h' v (splitA 32 [] l).length (strsV (splitA 32 [] l)) 9 ∧ Grow h.next h h' := by
  generalize hh1 : h.new (.cells (PM.ofList []) 0 9 0 0 .ex) = h1
  have g1 : Grow h.next h h1 := by rw [← hh1]; exact Grow.new _ _
  have hbs : evBuildSlice T0 46 0 [] h = some (.slice (some ⟨h.next, 0, none⟩) 0 0, h1) := by rw [← hh1]; exact bs_str0
  have ho : OwnC 1 h.next h1 (.slice (some ⟨h.next, 0, none⟩) 0 0) ([] : List (List UInt8)).length (strsV []) 9 := by
    rw [← hh1]
    exact .inr ⟨h.next, _, .ex, 0, Nat.le_refl _, Nat.lt_succ_self _, rfl, get_new_same _ _, rfl, fun i x hi => by simp at hi, .inl ⟨rfl, rfl⟩⟩
  have key := fun (tm : PM Value) (N : Nat) (hN : M + 61 ≤ N) (q0 : tm.get 0 = some (sv l)) (q3 : tm.get 3 = some (.slice (some ⟨h.next, 0, none⟩) 0 0)) (q4 : tm.get 4 = some (iv (0 : Nat))) (q5 : tm.get 5 = some (iv (0 : Nat))) =>
    wordsLp (call := call) l (by omega) h.next l [] [] 0 0 tm h1 N _ rfl (by simp) (by omega) (Nat.le_refl _) (by simp) (by simp) q0 q3 q4 q5 ho g1.next
  rw [frameB_eq ft29 rfl rfl]
  simp only [Tryd.f29, symM, opFn, Nat.reduceLT, hbs]
  refine bind_loop (b := bodyWs) (Q := fun tm' h' => (∃ v', tm'.get 3 = some v' ∧ OwnC 1 h.next h' v' ([] ++ splitA 32 [] l).length (strsV ([] ++ splitA 32 [] l)) 9) ∧ Grow h.next h1 h') (P := fun x => ∃ v h', endF T0 29 x = some (v, h') ∧ OwnC 1 h.next h' v (splitA 32 [] l).length (strsV (splitA 32 [] l)) 9 ∧ Grow h.next h h') ?_ ?_
  · exact key _ _ (by omega) (by simp only [symM, Nat.reduceBEq]) (by simp only [symM, Nat.reduceBEq]) (by simp only [symM, Nat.reduceBEq]; rfl) get_same
  · rintro tm' h' ⟨⟨v', q1, q2⟩, q3⟩
    rw [List.nil_append] at q2
    refine ⟨v', h', ?_, q2, g1.trans q3 (Nat.le_refl _)⟩
    simp only [symM, opFn, Nat.reduceLT, q1]
    exact retB_one ft29 rfl get_same
end
end Go.Proofs.YtknchhnibjfocaaDoor.Abs
namespace Go.Proofs.YtknchhnibjfocaaDoor.Abs
open Go Go.Proofs
noncomputable section
variable {call : Abs.Callee}
set_option maxRecDepth 10000
def goBSX (T : Tab) (t : TypeId) (n : Nat) (h : AH) : Option (List (Nat × Value)) → Res
  | some vs => rp (evBuildSlice T t n vs h)
  | none => none
theorem bsx_gen {T : Tab} {tm : PM Value} {t : TypeId} {n : Nat} {ps : List (Nat × Operand)} {h : AH} : evBuildSliceX T tm t n ps h = goBSX T t n h (evParts T tm ps) := rfl
theorem goBSX_some {T : Tab} {t : TypeId} {n : Nat} {vs : List (Nat × Value)} {h : AH} : goBSX T t n h (some vs) = rp (evBuildSlice T t n vs h) := rfl
abbrev PT : List (List UInt8) := VT.map fun x => x.1 ++ 32 :: x.2
theorem PT_split : ∀ x ∈ VT, splitA 32 [] (x.1 ++ 32 :: x.2) = [x.1, x.2] := by decide
theorem PT_len : ∀ x ∈ VT, (x.1 ++ 32 :: x.2).length ≤ 20 := by decide
abbrev WordsC (call : Abs.Callee) (M : Nat) : Prop := ∀ (l : List UInt8) (h : AH), l.length ≤ M → ∃ v h', call 29 [sv l] h = some (v, h') ∧ OwnC 1 h.next h' v (splitA 32 [] l).length (strsV (splitA 32 [] l)) 9 ∧ Grow h.next h h'
noncomputable def bodyPa : Code := part Tryd.f23 [1, 1, 0, 1, 0, 0]
abbrev EPa : Env := ⟨23, 27, none⟩
theorem bs_PT {h : AH} : evBuildSlice T0 46 21 [(0, sv [109, 97, 107, 101, 32, 110, 109]), (1, sv [109, 111, 117, 110, 116, 32]), (2, sv [102, 97, 105, 108, 32, 110]), (3, sv [114, 101, 115, 116, 97, 114, 116, 32, 110]), (4, sv [99, 114, 101, 97, 116, 101, 32, 112]), (5, sv [109, 107, 100, 105, 114, 32, 112]), (6, sv [108, 105, 110, 107, 32, 112, 111]), (7, sv [117, 110, 108, 105, 110, 107, 32, 112]), (8, sv [114, 109, 100, 105, 114, 32, 112]), (9, sv [114, 101, 110, 97, 109, 101, 32, 112, 111]), (10, sv [114, 101, 97, 100, 32, 112, 110, 109]), (11, sv [119, 114, 105, 116, 101, 32, 112, 110, 100]), (12, sv [116, 114, 117, 110, 99, 97, 116, 101, 32, 112, 110]), (13, sv [115, 116, 97, 116, 32, 112]), (14, sv [108, 105, 115, 116, 32, 112]), (15, sv [103, 114, 111, 119, 32, 110]), (16, sv [115, 116, 97, 114, 116, 32, 110, 109]), (17, sv [115, 116, 101, 112, 32]), (18, sv [108, 101, 102, 116, 32]), (19, sv [112, 105, 101, 99, 101, 115, 32, 112]), (20, sv [102, 114, 101, 101, 32])] h =
    some (.slice (some ⟨h.next, 0, none⟩) 21 21, h.new (.cells (PM.ofList (strsV PT)) 21 9 0 0 .ex)) := by
  unfold evBuildSlice
  simp only [und_strs, sz_str, zero_str]
  rfl
theorem growOr {A B : PM Value → AH → Prop} {n : Nat} {h h1 : AH} (g : Grow h.next h h1) (hn : n ≤ h.next) (H : ∃ tm' h', (A tm' h' ∨ B tm' h') ∧ Grow n h1 h') : ∃ tm' h', (A tm' h' ∨ B tm' h') ∧ Grow n h h' := by
  obtain ⟨tm', h', q, g2⟩ := H
  exact ⟨tm', h', q, (g.less hn).trans g2 (Nat.le_refl _)⟩
theorem partsLp (M : Nat) (hM : 20 ≤ M) (hW : WordsC call M) (k : List UInt8) (n : Nat) (v : Value) :
    ∀ (l : List (List UInt8 × List UInt8)) (i : Nat) (tm : PM Value) (h : AH) (N : Nat), VT.drop i = l → i + l.length = 21 → l.length + 60 ≤ N → tm.get 0 = some (sv k) → tm.get 4 = some v → tm.get 5 = some (iv i) →
      Row n h v (strsV PT) 9 → n ≤ h.next →
      ∃ tm' h', ((∃ p, lookT l k = some p ∧ codeB T0 X0 call N EPa (.loop bodyPa) tm h [] = .jump .ret tm' h' [] ∧ tm'.get 2 = some (sv p) ∧ tm'.get 3 = some (.bool true)) ∨
        (lookT l k = none ∧ codeB T0 X0 call N EPa (.loop bodyPa) tm h [] = .jump (.exit 0) tm' h' [])) ∧ Grow n h h' := by
  intro l
  induction l with
  | nil =>
    intro i tm h N hd hi hN g0 g4 g5 hr hn
    obtain ⟨N, rfl⟩ : ∃ a, N = a + 60 := ⟨N - 60, by omega⟩
    have hi21 : i = 21 := by simpa using hi
    subst hi21
    have hlen := strs_len (h' := h) hr
    apply Exists.intro; apply Exists.intro
    refine ⟨.inr ⟨rfl, ?_⟩, Grow.refl _ _⟩
    rw [codeB_loop]
    simp only [bodyPa, part, Tryd.f23, sub, symM, opFn, Nat.reduceLT, Nat.reduceBEq, g4, g5, hlen, bin_lss, show decide (((21 : Nat) : Int) < (PT.length : Nat)) = false from rfl]
    rfl
  | cons x l ih =>
    intro i tm h N hd hi hN g0 g4 g5 hr hn
    obtain ⟨N, rfl⟩ : ∃ a, N = a + 60 := ⟨N - 60, by omega⟩
    simp only [List.length_cons] at hi hN
    have hlen := strs_len (h' := h) hr
    have hlt : decide ((i : Int) < (PT.length : Nat)) = true := decide_eq_true (by show (i : Int) < (21 : Nat); omega)
    have hxi : VT[i]? = some x := by have := congrArg (fun l => l[0]?) hd; simpa using this
    have hmem : x ∈ VT := List.mem_of_getElem? hxi
    have hpt : PT[i]? = some (x.1 ++ 32 :: x.2) := by rw [List.getElem?_map, hxi]; rfl
    obtain ⟨q, e1, e2⟩ := strs_at hr hpt
    have hw1 := wadd1 (a := i) (by omega)
    have hnext : VT.drop (i + 1) = l := by rw [← List.drop_drop, hd]; rfl
    obtain ⟨w, h1, c1, c2, c3⟩ := hW (x.1 ++ 32 :: x.2) h (Nat.le_trans (PT_len x hmem) hM)
    rw [PT_split x hmem] at c2
    have hrw := c2.own.row
    obtain ⟨q0, f1, f2⟩ := strs_at (i := 0) hrw rfl
    obtain ⟨q1, f3, f4⟩ := strs_at (i := 1) hrw rfl
    have f1 : evIndexAddr T0 46 w (iv 0) = some q0 := f1
    have f3 : evIndexAddr T0 46 w (iv 1) = some q1 := f3
    rw [show N + 60 = (N + 59) + 1 from rfl, codeB_loop]
    rw [lookT]
    by_cases hk : k = x.1
    · have hb : (x.1 == k) = true := by simp [hk]
      apply Exists.intro; apply Exists.intro
      refine ⟨.inl ⟨x.2, by rw [if_pos hk], ?_, ?_, ?_⟩, c3.less hn⟩
      · simp only [bodyPa, part, Tryd.f23, sub, symM, opFn, Nat.reduceLT, Nat.reduceBEq, g0, g4, g5, hlen, bin_lss, hlt, e1, e2, evCall_fn ft29 rfl, c1, f1, f2, bin_seql, hb, f3, f4]
        rfl
      · simp only [symM, Nat.reduceBEq]
      · simp only [symM]
    · have hb : (x.1 == k) = false := by simpa using fun q => hk q.symm
      rw [if_neg hk]
      simp only [bodyPa, part, Tryd.f23, sub, symM, opFn, Nat.reduceLT, Nat.reduceBEq, g0, g4, g5, hlen, bin_lss, hlt, e1, e2, evCall_fn ft29 rfl, c1, f1, f2, bin_seql, hb, bin_add, hw1]
      exact growOr c3 hn (ih (i + 1) _ h1 (N + 59) hnext (by omega) (by omega) (by simp only [symM, Nat.reduceBEq, g0]) (by simp only [symM, Nat.reduceBEq, g4]) get_same (hr.grow c3 hn) (Nat.le_trans hn c3.next))
theorem Parts_S (M : Nat) (hM : 20 ≤ M) (hW : WordsC call M) (k : List UInt8) (h : AH) :
    ∃ h', frameB T0 X0 call 3000 23 [sv k] h = some (.tuple #[sv ((partsOf k).getD []), .bool (partsOf k).isSome], h') ∧ Grow h.next h h' := by
  generalize hh1 : h.new (.cells (PM.ofList (strsV PT)) 21 9 0 0 .ex) = h1
  have g1 : Grow h.next h h1 := by rw [← hh1]; exact Grow.new _ _
  have n1 : h1.next = h.next + 1 := by rw [← hh1]; rfl
  have hbs := bs_PT (h := h)
  rw [hh1] at hbs
  have hr : Row h1.next h1 (.slice (some ⟨h.next, 0, none⟩) 21 21) (strsV PT) 9 := by rw [n1, ← hh1]; exact split_row PT h
  have key := fun (tm : PM Value) (N : Nat) (hN : 81 ≤ N) (q0 : tm.get 0 = some (sv k)) (q4 : tm.get 4 = some (.slice (some ⟨h.next, 0, none⟩) 21 21)) (q5 : tm.get 5 = some (iv (0 : Nat))) =>
    partsLp M hM hW k h1.next _ VT 0 tm h1 N rfl rfl hN q0 q4 q5 hr (Nat.le_refl _)
  rw [frameB_eq ft23 rfl rfl]
  simp only [Tryd.f23, symM, opFn, Nat.reduceLT, bsx_gen, goBSX_some, hbs]
  refine bind_loopJ (b := bodyPa) (Q := fun x => ∃ tm' h', ((∃ p, lookT VT k = some p ∧ x = .jump .ret tm' h' [] ∧ tm'.get 2 = some (sv p) ∧ tm'.get 3 = some (.bool true)) ∨ (lookT VT k = none ∧ x = .jump (.exit 0) tm' h' [])) ∧ Grow h1.next h1 h')
    (P := fun x => ∃ h', endF T0 23 x = some (.tuple #[sv ((partsOf k).getD []), .bool (partsOf k).isSome], h') ∧ Grow h.next h h') ?_ ?_
  · exact key _ _ (by omega) (by simp only [symM, Nat.reduceBEq]) (by simp only [symM, Nat.reduceBEq]) get_same
  · rintro x ⟨tm', h', q, g⟩
    have g2 := g1.trans (g.less (by omega)) (Nat.le_refl _)
    unfold partsOf
    rcases q with ⟨p, q1, rfl, q2, q3⟩ | ⟨q1, rfl⟩
    · rw [q1]
      refine ⟨h', ?_, g2⟩
      simp only [symM]
      exact retB_two ft23 rfl q2 q3
    · rw [q1]
      refine ⟨h', ?_, g2⟩
      simp only [symM, opFn, Nat.reduceLT, symL]
      exact retB_two ft23 rfl (by simp only [symM, Nat.reduceBEq]; rfl) (by simp only [symM]; rfl)
end
end Go.Proofs.YtknchhnibjfocaaDoor.Abs
