/- An abstract machine: equality, conversions, interfaces. -/
import Derived.Test.YtknchhnibjfocaaDoorAbsH
import Derived.Test.YtknchhnibjfocaaDoorAbsHC
namespace Go.Proofs.YtknchhnibjfocaaDoor.Abs
open Go
noncomputable section

theorem eqGuard_pure {P : Program} {op : BinOp} {t : TypeId} {x y : Operand} {a b : Value} (h1 : ¬ (a = .nilIface ∧ b = .nilIface)) (h2 : ∀ cs ds, ¬ (a = .agg cs ∧ b = .agg ds)) (w : World) :
    (eqGuard op t x y a b).run P w = .ok () w := by
  unfold eqGuard
  cases op with
  | eql =>
    simp only [Bool.not_true, Bool.false_eq_true, if_false]
    split
    · exact absurd ⟨rfl, rfl⟩ h1
    · exact absurd ⟨rfl, rfl⟩ (h2 _ _)
    · rfl
  | neq =>
    simp only [Bool.not_true, Bool.false_eq_true, if_false]
    split
    · exact absurd ⟨rfl, rfl⟩ h1
    · exact absurd ⟨rfl, rfl⟩ (h2 _ _)
    · rfl
  | _ => rfl

theorem ifB_or {α : Type} {c : Bool} {x y : α} {z : α} (h : ifB c x y = z) : (c = true ∧ x = z) ∨ (c = false ∧ y = z) := by
  cases c with
  | true => exact .inl ⟨rfl, h⟩
  | false => exact .inr ⟨rfl, h⟩

def unfrozenL (h : AH) (b : Nat) : Bool := match h.get b with | some (.cells _ _ _ lo hi kd) => (match kd with | .ro => false | _ => Nat.ble hi lo) | _ => false
theorem unfrozenL_ok {P : Program} {r : Ren} {h : AH} {w : World} (hr : HR P r h w) {b : Nat} {bk : Bk} (hb : r b = some bk) (e : unfrozenL h b = true) :
    ∃ cs el fl fh, w.heap[bk.blk]? = some (.cells cs el (fl, fh)) ∧ fh ≤ fl ∧ ∃ o, h.get b = some o ∧ o.ro = false := by
  unfold unfrozenL at e
  split at e
  · rename_i c n el lo hi kd hg
    obtain ⟨bk', ob, h1, h2, h3⟩ := hr.live b _ hg
    rw [hb] at h1; cases h1
    obtain ⟨cs, fl, fh, rfl, h4, h5, h6, h7, h8, h9⟩ := h3
    cases kd with
    | ro => cases e
    | ex => exact ⟨cs, el, fl, fh, h2, h8 (ble_le e), _, hg, rfl⟩
    | loose => exact ⟨cs, el, fl, fh, h2, h8 (ble_le e), _, hg, rfl⟩
  · cases e

theorem sameAddr_other {P : Program} {w : World} {a b : Addr} {cs ds : Array Value} {e1 e2 : TypeId} {f1 f2 g1 g2 : Nat} (ha : w.heap[a.block]? = some (.cells cs e1 (f1, f2))) (hb : w.heap[b.block]? = some (.cells ds e2 (g1, g2)))
    (hf : f2 ≤ f1) (hg : g2 ≤ g1) (hne : a.block ≠ b.block) : (sameAddr a b).run P w = .ok false w := by
  have fa : ∀ o s, w.frozen? ⟨a.block, o, s⟩ = false := by
    intro o s; simp only [World.frozen?, ha]
    by_cases h : f1 ≤ o <;> simp [h] <;> omega
  have fb : ∀ o s, w.frozen? ⟨b.block, o, s⟩ = false := by
    intro o s; simp only [World.frozen?, hb]
    by_cases h : g1 ≤ o <;> simp [h] <;> omega
  have sa : w.shape? a.block = some (e1, cs.size) := by simp [World.shape?, ha]
  have sb : w.shape? b.block = some (e2, ds.size) := by simp [World.shape?, hb]
  have h1 : (a.block == b.block) = false := by simpa using hne
  obtain ⟨ab, ao, as⟩ := a
  obtain ⟨bb, bo, bs⟩ := b
  simp only at *
  simp [sameAddr, h1, fa, fb, noView, viewAt, mayBeOne, stringish, sa, sb]

/-- x == y for what refers. -/
def refEq (T : Tab) (h : AH) : Nat → TypeId → Value → Value → Option Bool
  | 0, _, _, _ => none
  | d + 1, t, x, y =>
  match x, y with
  | .pointer none, .pointer none => (match und T t with | some (.pointer _) => some true | _ => none)
  | .pointer none, .pointer (some _) => (match und T t with | some (.pointer _) => some false | _ => none)
  | .pointer (some _), .pointer none => (match und T t with | some (.pointer _) => some false | _ => none)
  | .pointer (some a), .pointer (some b) => (match und T t with
    | some (.pointer e) => (match szOf T e with
      | some (_ + 1) => ifB (Nat.beq a.block b.block) (some (Nat.beq a.off b.off)) (ifB (unfrozenL h a.block && unfrozenL h b.block) (some false) none)
      | _ => none)
    | _ => none)
  | .slice none _ _, .slice none _ _ => (match und T t with | some (.slice _) => some true | _ => none)
  | .slice none _ _, .slice (some _) _ _ => (match und T t with | some (.slice _) => some false | _ => none)
  | .slice (some _) _ _, .slice none _ _ => (match und T t with | some (.slice _) => some false | _ => none)
  | .map none, .map none => (match und T t with | some (.map _ _) => some true | _ => none)
  | .map none, .map (some _) => (match und T t with | some (.map _ _) => some false | _ => none)
  | .map (some _), .map none => (match und T t with | some (.map _ _) => some false | _ => none)
  | .nilFunc, .nilFunc => (match und T t with | some (.func _ _ _) => some true | _ => none)
  | .nilFunc, .func _ _ _ => (match und T t with | some (.func _ _ _) => some false | _ => none)
  | .func _ _ _, .nilFunc => (match und T t with | some (.func _ _ _) => some false | _ => none)
  | .nilIface, .iface _ _ => (match und T t with | some (.interface _) => some false | _ => none)
  | .iface _ _, .nilIface => (match und T t with | some (.interface _) => some false | _ => none)
  | .iface tx vx, .iface ty vy => (match und T t with
    | some (.interface _) => ifB (Nat.beq tx ty) (match T.tt.get tx with
        | some i => ifB i.comparable (refEq T h d tx vx vy) none
        | none => none) (some false)
    | _ => none)
  | .int k a, .int k' b => (match und T t with | some (.int _) => ifB (decide (k = k')) (some (eqI a b)) none | _ => none)
  | .string a, .string b => (match und T t with | some .string => some (a == b) | _ => none)
  | _, _ => none

theorem refEq_sound {T : Tab} (ok : TabOK T) {r : Ren} {h : AH} {w : World} (hr : HR T.P r h w) : ∀ (n d : Nat), n ≤ d → ∀ (t : TypeId) (x y x' y' : Value) (b : Bool), VR r x x' → VR r y y' → refEq T h n t x y = some b →
    (Op.equalIn d t x' y').run T.P w = .ok b w := by
  intro n
  induction n with
  | zero => intro d _ t x y x' y' b _ _ e; simp [refEq] at e
  | succ n ih =>
    intro d hd t x y x' y' b hx hy e
    obtain ⟨d, rfl⟩ : ∃ k, d = k + 1 := ⟨d - 1, by omega⟩
    unfold refEq at e
    have simple : ∀ (dsc : TypeDesc) (q : Bool), und T t = some dsc → (∀ (h : T.P.underlying t = some dsc), (Op.equalIn (d + 1) t x' y').run T.P w = .ok q w) → q = b → (Op.equalIn (d + 1) t x' y').run T.P w = .ok b w := by
      intro dsc q h1 h2 h3; rw [← h3]; exact h2 (und_ok ok h1)
    split at e
    · split at e
      · rename_i el hel; cases e; cases hx; cases hy; (rw [Op.equalIn]; simp only [Sem.run_bind, run_und w (und_ok ok hel), Result.andThen_ok, Sem.run_pure, Option.isNone_none])
      · cases e
    · split at e
      · rename_i el hel; cases e; cases hx; cases hy; (rw [Op.equalIn]; simp only [Sem.run_bind, run_und w (und_ok ok hel), Result.andThen_ok, Sem.run_pure, Option.isNone_some])
      · cases e
    · split at e
      · rename_i el hel; cases e; cases hx; cases hy; (rw [Op.equalIn]; simp only [Sem.run_bind, run_und w (und_ok ok hel), Result.andThen_ok, Sem.run_pure])
      · cases e
    · split at e
      · rename_i el hel
        split at e
        · rename_i m hm
          obtain ⟨i, hi, hsz⟩ := sz_ok ok hm
          cases hx with
          | ptr b1 o1 k1 hb1 => cases hy with
            | ptr b2 o2 k2 hb2 =>
              simp only at e
              have hz : i.size ≠ 0 := by omega
              cases e1 : Nat.beq b1 b2 with
              | true =>
                have := Nat.eq_of_beq_eq_true e1
                subst this
                rw [hb1] at hb2; cases hb2
                rw [e1, ifB_true] at e; cases e
                rw [Op.equalIn]
                simp only [Sem.run_bind, run_und w (und_ok ok hel), Result.andThen_ok, run_size w hi, ne_eq, hz, not_false_eq_true, if_true, sameAddr, BEq.rfl, Sem.run_pure]
                rw [beq_decide]
                congr 1
                by_cases ho : o1 = o2
                · subst ho; simp
                · rw [decide_eq_false ho, beq_eq_false_iff_ne]; intro hh; simp only [Addr.mk.injEq] at hh; omega
              | false =>
                rw [e1, ifB_false] at e
                obtain ⟨e2, e3⟩ := ifB_some e
                cases e3
                rw [Bool.and_eq_true] at e2
                obtain ⟨cs, el1, fl, fh, a1, a2, o, a3, a4⟩ := unfrozenL_ok hr hb1 e2.1
                obtain ⟨ds, el2, gl, gh, c1, c2, o', c3, _⟩ := unfrozenL_ok hr hb2 e2.2
                have hne : k1.blk ≠ k2.blk := by
                  intro hh
                  have := hr.inj b1 b2 o o' k1 k2 a3 c3 (.inl a4) hb1 hb2 hh
                  subst this
                  simp at e1
                have := sameAddr_other (P := T.P) (a := ⟨k1.blk, o1 + k1.dlt, none⟩) (b := ⟨k2.blk, o2 + k2.dlt, none⟩) a1 c1 a2 c2 hne
                rw [Op.equalIn]
                simp only [Sem.run_bind, run_und w (und_ok ok hel), Result.andThen_ok, run_size w hi, ne_eq, hz, not_false_eq_true, if_true, this]
        · cases e
      · cases e
    · split at e
      · rename_i el hel; cases e; cases hx; cases hy; (rw [Op.equalIn]; simp only [Sem.run_bind, run_und w (und_ok ok hel), Result.andThen_ok, Sem.run_pure, Option.isNone_none])
      · cases e
    · split at e
      · rename_i el hel; cases e; cases hx; cases hy <;> (rw [Op.equalIn]; simp only [Sem.run_bind, run_und w (und_ok ok hel), Result.andThen_ok, Sem.run_pure, Option.isNone_some])
      · cases e
    · split at e
      · rename_i el hel; cases e; cases hy; cases hx <;> (rw [Op.equalIn]; simp only [Sem.run_bind, run_und w (und_ok ok hel), Result.andThen_ok, Sem.run_pure])
      · cases e
    · split at e
      · rename_i el hel; cases e; cases hx; cases hy; (rw [Op.equalIn]; simp only [Sem.run_bind, run_und w (und_ok ok hel), Result.andThen_ok, Sem.run_pure, Option.isNone_none])
      · cases e
    · split at e
      · rename_i el hel; cases e; cases hx; cases hy; (rw [Op.equalIn]; simp only [Sem.run_bind, run_und w (und_ok ok hel), Result.andThen_ok, Sem.run_pure, Option.isNone_some])
      · cases e
    · split at e
      · rename_i el hel; cases e; cases hx; cases hy; (rw [Op.equalIn]; simp only [Sem.run_bind, run_und w (und_ok ok hel), Result.andThen_ok, Sem.run_pure])
      · cases e
    · split at e
      · rename_i el hel; cases e; cases hx; cases hy; (rw [Op.equalIn]; simp only [Sem.run_bind, run_und w (und_ok ok hel), Result.andThen_ok, Sem.run_pure])
      · cases e
    · split at e
      · rename_i el hel; cases e; cases hx; cases hy; (rw [Op.equalIn]; simp only [Sem.run_bind, run_und w (und_ok ok hel), Result.andThen_ok, Sem.run_pure])
      · cases e
    · split at e
      · rename_i el hel; cases e; cases hx; cases hy; (rw [Op.equalIn]; simp only [Sem.run_bind, run_und w (und_ok ok hel), Result.andThen_ok, Sem.run_pure])
      · cases e
    · split at e
      · rename_i el hel; cases e; cases hx; cases hy; (rw [Op.equalIn]; simp only [Sem.run_bind, run_und w (und_ok ok hel), Result.andThen_ok, Sem.run_pure])
      · cases e
    · split at e
      · rename_i el hel; cases e; cases hx; cases hy; (rw [Op.equalIn]; simp only [Sem.run_bind, run_und w (und_ok ok hel), Result.andThen_ok, Sem.run_pure])
      · cases e
    · split at e
      · rename_i el hel
        cases hx with
        | iface _ _ vx' hvx => cases hy with
          | iface _ _ vy' hvy =>
            rcases ifB_or e with ⟨e1, e9⟩ | ⟨e1, e9⟩
            · clear e
              have := Nat.eq_of_beq_eq_true e1
              subst this
              split at e9
              · rename_i i hi
                obtain ⟨e2, e3⟩ := ifB_some e9
                have := ih d (by omega) _ _ _ vx' vy' b hvx hvy e3
                rw [Op.equalIn]
                simp only [Sem.run_bind, run_und w (und_ok ok hel), Result.andThen_ok, ne_eq, not_true_eq_false, if_false, run_info w (ok.t _ i hi), e2, Bool.not_true, Bool.false_eq_true, this]
              · cases e9
            · cases e9
              have hne := Nat.ne_of_beq_eq_false e1
              rw [Op.equalIn]
              simp only [Sem.run_bind, run_und w (und_ok ok hel), Result.andThen_ok, ne_eq, hne, not_false_eq_true, if_true, Sem.run_pure]
      · cases e
    · split at e
      · rename_i k hk
        obtain ⟨e2, e3⟩ := ifB_some e
        cases e3; cases hx; cases hy
        have := of_decide_eq_true e2
        subst this
        rw [Op.equalIn]
        simp only [Sem.run_bind, run_und w (und_ok ok hk), Result.andThen_ok, if_true, Sem.run_pure, eqI_eq]
      · cases e
    · split at e
      · rename_i hk
        cases e; cases hx; cases hy
        rw [Op.equalIn]
        simp only [Sem.run_bind, run_und w (und_ok ok hk), Result.andThen_ok, Sem.run_pure]
      · cases e
    · cases e

/-- Operators. -/
def slowBin (T : Tab) (op : BinOp) (t : TypeId) (a b : Operand) (x y : Value) : Option Value :=
  match prun T.P (do eqGuard op t a b x y; binOp op t x y : Sem Value) with
  | some v => ifB (flat v) (some v) none
  | none => none
def orV (a b : Option Value) : Option Value := match a with | some v => some v | none => b

def refBin (T : Tab) (op : BinOp) (t : TypeId) (x y : Value) (h : AH) : Option Value :=
  match op with
  | .eql => (match refEq T h 20 t x y with | some b => some (.bool b) | none => none)
  | .neq => (match refEq T h 20 t x y with | some b => some (.bool (!b)) | none => none)
  | _ => none

/-- Whole numbers as doubles. -/
def fastD (op : BinOp) (a b : Nat) : Option Value :=
  match dz a, dz b with
  | some x, some y => match (match op with
    | .add => addz x y
    | .sub => subz x y
    | .mul => mulz x y
    | _ => none) with
    | some z => some (.float .f64 (zd z))
    | none => none
  | _, _ => none
def fastC (op : BinOp) (a b c d : Nat) : Option Value :=
  match dz a, dz b, dz c, dz d with
  | some x, some y, some u, some v => match op with
    | .mul => (match mulC x y u v with
      | some p => some (.complex .f64 (zd p.1) (zd p.2))
      | none => none)
    | .add => (match addz x u, addz y v with
      | some e, some f => some (.complex .f64 (zd e) (zd f))
      | _, _ => none)
    | _ => none
  | _, _, _, _ => none
theorem binC_mul {P : Program} (t : TypeId) (p q : Operand) (a b c d : Nat) (w : World) :
    (do eqGuard .mul t p q (.complex .f64 a b) (.complex .f64 c d); binOp .mul t (.complex .f64 a b) (.complex .f64 c d) : Sem Value).run P w = (Op.complexOp .mul .f64 a b c d).run P w := rfl
theorem binC_add {P : Program} (t : TypeId) (p q : Operand) (a b c d : Nat) (w : World) :
    (do eqGuard .add t p q (.complex .f64 a b) (.complex .f64 c d); binOp .add t (.complex .f64 a b) (.complex .f64 c d) : Sem Value).run P w = (Op.complexOp .add .f64 a b c d).run P w := rfl
theorem binD_mul {P : Program} (t : TypeId) (p q : Operand) (a b : Nat) (w : World) :
    (do eqGuard .mul t p q (.float .f64 a) (.float .f64 b); binOp .mul t (.float .f64 a) (.float .f64 b) : Sem Value).run P w = (Op.floatArith .mul .f64 a b).run P w := rfl
theorem binD_add {P : Program} (t : TypeId) (p q : Operand) (a b : Nat) (w : World) :
    (do eqGuard .add t p q (.float .f64 a) (.float .f64 b); binOp .add t (.float .f64 a) (.float .f64 b) : Sem Value).run P w = (Op.floatArith .add .f64 a b).run P w := rfl
theorem binD_sub {P : Program} (t : TypeId) (p q : Operand) (a b : Nat) (w : World) :
    (do eqGuard .sub t p q (.float .f64 a) (.float .f64 b); binOp .sub t (.float .f64 a) (.float .f64 b) : Sem Value).run P w = (Op.floatArith .sub .f64 a b).run P w := rfl
theorem fastD_ok {P : Program} {op : BinOp} (t : TypeId) (p q : Operand) {a b : Nat} {v : Value} (e : fastD op a b = some v) (w : World) :
    (do eqGuard op t p q (.float .f64 a) (.float .f64 b); binOp op t (.float .f64 a) (.float .f64 b) : Sem Value).run P w = .ok v w ∧ flat v = true := by
  unfold fastD at e
  split at e
  · rename_i x y h1 h2
    obtain ⟨rfl, z1⟩ := dz_spec h1
    obtain ⟨rfl, z2⟩ := dz_spec h2
    split at e
    · rename_i z hz
      cases e
      refine ⟨?_, rfl⟩
      cases op <;> simp only at hz <;> try (cases hz; done)
      · rw [binD_add]; exact (run_add (P := P) (w := w) z1 z2 hz).1
      · rw [binD_sub]; exact (run_sub (P := P) (w := w) z1 z2 hz).1
      · rw [binD_mul]; exact (run_mul (P := P) (w := w) z1 z2 hz).1
    · cases e
  · cases e
theorem fastC_ok {P : Program} {op : BinOp} (t : TypeId) (p q : Operand) {a b c d : Nat} {v : Value} (e : fastC op a b c d = some v) (w : World) :
    (do eqGuard op t p q (.complex .f64 a b) (.complex .f64 c d); binOp op t (.complex .f64 a b) (.complex .f64 c d) : Sem Value).run P w = .ok v w ∧ flat v = true := by
  unfold fastC at e
  split at e
  · rename_i x y u z h1 h2 h3 h4
    obtain ⟨rfl, z1⟩ := dz_spec h1
    obtain ⟨rfl, z2⟩ := dz_spec h2
    obtain ⟨rfl, z3⟩ := dz_spec h3
    obtain ⟨rfl, z4⟩ := dz_spec h4
    cases op <;> simp only at e <;> try (cases e; done)
    · split at e
      · rename_i e1 e2 k1 k2
        cases e
        refine ⟨?_, rfl⟩
        rw [binC_add]; exact run_addC (P := P) (w := w) z1 z2 z3 z4 k1 k2
      · cases e
    · split at e
      · rename_i r hr
        cases e
        refine ⟨?_, rfl⟩
        rw [binC_mul]; exact run_mulC (P := P) (w := w) z1 z2 z3 z4 hr
      · cases e
  · cases e

def evBin (T : Tab) (op : BinOp) (t : TypeId) (a b : Operand) (x y : Value) (h : AH) : Option Value :=
  match x, y with
  | .int k m, .int k' n => orV (match op with
      | .shl => fastShift .shl k m n
      | .shr => fastShift .shr k m n
      | _ => ifB (decide (k = k')) (fastInt op k m n) none) (slowBin T op t a b (.int k m) (.int k' n))
  | .complex .f64 p q, .complex .f64 u v => orV (fastC op p q u v) (slowBin T op t a b (.complex .f64 p q) (.complex .f64 u v))
  | .float .f64 p, .float .f64 q => orV (fastD op p q) (slowBin T op t a b (.float .f64 p) (.float .f64 q))
  | .nilIface, .nilIface => slowBin T op t a b .nilIface .nilIface
  | .agg cs, .agg ds => ifB (flat (.agg cs) && flat (.agg ds)) (slowBin T op t a b (.agg cs) (.agg ds)) none
  | x, y => ifB (flat x && flat y) (slowBin T op t a b x y) (refBin T op t x y h)

theorem slowBin_sound {T : Tab} {r : Ren} {h : AH} {w : World} (hr : HR T.P r h w) {op : BinOp} {t : TypeId} {a b : Operand} {x y v : Value} (e : slowBin T op t a b x y = some v) :
    SOK T.P r h w (do eqGuard op t a b x y; binOp op t x y) v h := by
  unfold slowBin at e
  split at e
  · rename_i v' h1
    obtain ⟨e1, e2⟩ := ifB_some e
    cases e2
    exact .same hr (prun_ok h1 w) (VR.of_flat r _ e1)
  · cases e

theorem refEq_ref {T : Tab} {h : AH} {n : Nat} {t : TypeId} {x y : Value} {b : Bool} (e : refEq T h n t x y = some b) : ¬ (x = .nilIface ∧ y = .nilIface) ∧ ∀ cs ds, ¬ (x = .agg cs ∧ y = .agg ds) := by
  cases n with
  | zero => simp [refEq] at e
  | succ n =>
    constructor
    · rintro ⟨rfl, rfl⟩; simp [refEq] at e
    · rintro cs ds ⟨rfl, rfl⟩; simp [refEq] at e

theorem binOp_eql_ref {T : Tab} {h : AH} {n : Nat} {t : TypeId} {x y x' y' : Value} {b : Bool} {r : Ren} (e : refEq T h n t x y = some b) (hx : VR r x x') (hy : VR r y y') (hni : ∀ k m k' m', ¬ (x = .int k m ∧ y = .int k' m')) (hns : ∀ a c, ¬ (x = .string a ∧ y = .string c)) :
    binOp .eql t x' y' = (do pure (.bool (← Op.equal t x' y'))) ∧ binOp .neq t x' y' = (do pure (.bool (!(← Op.equal t x' y')))) := by
  cases n with
  | zero => simp [refEq] at e
  | succ n =>
    unfold refEq at e
    split at e <;> try (cases e; done)
    all_goals first
      | (cases hx <;> cases hy <;> exact ⟨rfl, rfl⟩)
      | exact absurd ⟨rfl, rfl⟩ (hni _ _ _ _)
      | exact absurd ⟨rfl, rfl⟩ (hns _ _)

theorem refBin_sound {T : Tab} (ok : TabOK T) {r : Ren} {h : AH} {w : World} (hr : HR T.P r h w) {op : BinOp} {t : TypeId} (a b : Operand) {x y x' y' v : Value} (hx : VR r x x') (hy : VR r y y') (hni : ∀ k m k' m', ¬ (x = .int k m ∧ y = .int k' m')) (hns : ∀ a c, ¬ (x = .string a ∧ y = .string c))
    (e : refBin T op t x y h = some v) : SOK T.P r h w (do eqGuard op t a b x' y'; binOp op t x' y') v h := by
  have guard : ∀ q, refEq T h 20 t x y = some q → (eqGuard op t a b x' y').run T.P w = .ok () w := by
    intro q hq
    obtain ⟨g1, g2⟩ := refEq_ref hq
    refine eqGuard_pure ?_ ?_ w
    · rintro ⟨rfl, rfl⟩; cases hx; cases hy; exact g1 ⟨rfl, rfl⟩
    · rintro cs ds ⟨rfl, rfl⟩; cases hx; cases hy; exact g2 _ _ ⟨rfl, rfl⟩
  unfold refBin at e
  split at e
  · split at e
    · rename_i q hq
      cases e
      refine .same hr (v' := .bool q) ?_ (.bool _)
      have hs := refEq_sound ok hr 20 10000 (by omega) t x y x' y' q hx hy hq
      simp only [Sem.run_bind, guard q hq, Result.andThen_ok, (binOp_eql_ref hq hx hy hni hns).1, Op.equal, Op.maxDepth, hs, Sem.run_pure]
    · cases e
  · split at e
    · rename_i q hq
      cases e
      refine .same hr (v' := .bool (!q)) ?_ (.bool _)
      have hs := refEq_sound ok hr 20 10000 (by omega) t x y x' y' q hx hy hq
      simp only [Sem.run_bind, guard q hq, Result.andThen_ok, (binOp_eql_ref hq hx hy hni hns).2, Op.equal, Op.maxDepth, hs, Sem.run_pure]
    · cases e
  · cases e

theorem orV_some {a b : Option Value} {v : Value} (h : orV a b = some v) : a = some v ∨ b = some v := by
  unfold orV at h
  split at h
  · exact .inl h
  · exact .inr h

theorem evBin_sound {T : Tab} (ok : TabOK T) {r : Ren} {h : AH} {w : World} (hr : HR T.P r h w) {op : BinOp} {t : TypeId} (a b : Operand) {x y x' y' v : Value} (hx : VR r x x') (hy : VR r y y')
    (e : evBin T op t a b x y h = some v) : SOK T.P r h w (do eqGuard op t a b x' y'; binOp op t x' y') v h := by
  unfold evBin at e
  split at e
  · rename_i k m k' n
    cases hx; cases hy
    rcases orV_some e with e | e
    · have hv : flat v = true := by
        split at e
        · unfold fastShift at e; split at e <;> try (cases e; done)
          obtain ⟨_, e⟩ := ifB_some e; cases e; rfl
        · unfold fastShift at e; split at e <;> try (cases e; done)
          obtain ⟨_, e⟩ := ifB_some e; cases e; rfl
        · obtain ⟨_, e⟩ := ifB_some e
          unfold fastInt at e
          split at e <;> try (cases e; rfl)
          split at e <;> try (cases e; done)
          split at e
          · rcases ifB_or e with ⟨_, e⟩ | ⟨_, e⟩ <;> cases e; rfl
          · rcases ifB_or e with ⟨_, e⟩ | ⟨_, e⟩ <;> cases e; rfl
          · obtain ⟨_, e⟩ := ifB_some e; cases e; rfl
          · obtain ⟨_, e⟩ := ifB_some e; cases e; rfl
          · obtain ⟨_, e⟩ := ifB_some e; cases e; rfl
          · cases e
      refine .same hr ?_ (VR.of_flat r v hv)
      split at e
      · exact fastShift_ok t a b e w
      · exact fastShift_ok t a b e w
      · obtain ⟨e1, e2⟩ := ifB_some e
        have := of_decide_eq_true e1
        subst this
        exact fastInt_ok t a b e2 w
    · exact slowBin_sound hr e
  · cases hx; cases hy
    rcases orV_some e with e | e
    · obtain ⟨q1, q2⟩ := fastC_ok (P := T.P) t a b e w
      exact .same hr q1 (VR.of_flat r v q2)
    · exact slowBin_sound hr e
  · cases hx; cases hy
    rcases orV_some e with e | e
    · obtain ⟨q1, q2⟩ := fastD_ok (P := T.P) t a b e w
      exact .same hr q1 (VR.of_flat r v q2)
    · exact slowBin_sound hr e
  · cases hx; cases hy; exact slowBin_sound hr e
  · obtain ⟨e1, e2⟩ := ifB_some e
    rw [Bool.and_eq_true] at e1
    rw [hx.flat_eq e1.1, hy.flat_eq e1.2]
    exact slowBin_sound hr e2
  · rename_i h1 _ _ h2 h3
    rcases ifB_or e with ⟨e1, e9⟩ | ⟨e1, e9⟩
    · rw [Bool.and_eq_true] at e1
      rw [hx.flat_eq e1.1, hy.flat_eq e1.2]
      exact slowBin_sound hr e9
    · refine refBin_sound ok hr a b hx hy (fun k m k' m' hh => h1 k m k' m' hh.1 hh.2) ?_ e9
      rintro p q ⟨rfl, rfl⟩
      simp [flat] at e1
end
end Go.Proofs.YtknchhnibjfocaaDoor.Abs
