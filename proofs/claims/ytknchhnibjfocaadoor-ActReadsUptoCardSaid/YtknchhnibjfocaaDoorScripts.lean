/- Acts: lists of acts in memory. -/
import Derived.Test.YtknchhnibjfocaaDoorActs
namespace Go.Proofs.YtknchhnibjfocaaDoor.Abs
open Go Go.Proofs
noncomputable section
variable {call : Abs.Callee}
set_option maxRecDepth 10000
theorem ft35 : T0.ft.get 35 = some Tryd.f35 := by kernel_rfl
theorem ft15 : T0.ft.get 15 = some Tryd.f15 := by kernel_rfl
theorem ft16 : T0.ft.get 16 = some Tryd.f16 := by kernel_rfl
theorem ft17 : T0.ft.get 17 = some Tryd.f17 := by kernel_rfl
theorem ft18 : T0.ft.get 18 = some Tryd.f18 := by kernel_rfl
abbrev AL := List (ActD × Value)
def flatA (L : AL) : List Value := L.flatMap fun x => cellsA x.1 x.2
theorem flatA_cons (x : ActD × Value) (L : AL) : flatA (x :: L) = cellsA x.1 x.2 ++ flatA L := rfl
theorem flatA_app (L M : AL) : flatA (L ++ M) = flatA L ++ flatA M := by unfold flatA; simp
theorem flatA_len (L : AL) : (flatA L).length = L.length * 6 := by
  induction L with
  | nil => rfl
  | cons x L ih => rw [flatA_cons, List.length_append, ih, cellsA_len, List.length_cons]; omega
theorem flatA_get : ∀ {L : AL} {i : Nat} {x : ActD × Value}, L[i]? = some x → ∀ (j : Nat) (y : Value), (cellsA x.1 x.2)[j]? = some y → (flatA L)[i * 6 + j]? = some y := by
  intro L
  induction L with
  | nil => intro i x h; simp at h
  | cons z L ih =>
    intro i x h j y hy
    have hj : j < 6 := by have := (List.getElem?_eq_some_iff.1 hy).1; rwa [cellsA_len] at this
    cases i with
    | zero =>
      simp only [List.getElem?_cons_zero, Option.some.injEq] at h
      subst h
      rw [flatA_cons, List.getElem?_append_left (by rw [cellsA_len]; omega), Nat.zero_mul, Nat.zero_add]; exact hy
    | succ i =>
      rw [List.getElem?_cons_succ] at h
      rw [flatA_cons, List.getElem?_append_right (by rw [cellsA_len]; omega), cellsA_len, show (i + 1) * 6 + j - 6 = i * 6 + j by omega]
      exact ih h j y hy
def ActsR (n : Nat) (h : AH) (v : Value) (L : AL) : Prop :=
  (v = nilV ∧ L = []) ∨ ∃ b o cap c m lo hi kd el, v = .slice (some ⟨b, o, none⟩) L.length cap ∧ b < n ∧ h.get b = some (.cells c m el lo hi kd) ∧ o + L.length * 6 ≤ m ∧ ∀ (i : Nat) (y : Value), (flatA L)[i]? = some y → c.get (o + i) = some y
theorem ActsR.grow {n m : Nat} {h h' : AH} {v : Value} {L : AL} (hr : ActsR n h v L) (g : Grow m h h') (hn : n ≤ m) : ActsR n h' v L := by
  rcases hr with h1 | ⟨b, o, cap, c, k, lo, hi, kd, el, h1, h2, h3, h4⟩
  · exact .inl h1
  · exact .inr ⟨b, o, cap, c, k, lo, hi, kd, el, h1, h2, (g.keep b (by omega)).trans h3, h4⟩
theorem ActsR.wide {n m : Nat} {h : AH} {v : Value} {L : AL} (hr : ActsR n h v L) (hn : n ≤ m) : ActsR m h v L := by
  rcases hr with h1 | ⟨b, o, cap, c, k, lo, hi, kd, el, h1, h2, h3⟩
  · exact .inl h1
  · exact .inr ⟨b, o, cap, c, k, lo, hi, kd, el, h1, Nat.lt_of_lt_of_le h2 hn, h3⟩
theorem ActsR.len {n : Nat} {h h' : AH} {v : Value} {L : AL} (hr : ActsR n h v L) (ty : TypeId) : evBuiltin T0 .len #[34] ty [v] h' = some (.value (iv L.length), h') := by
  rcases hr with ⟨rfl, rfl⟩ | ⟨b, o, cap, c, k, lo, hi, kd, el, rfl, _⟩ <;> exact len_slice und_acts
theorem ActsR.at {n : Nat} {h : AH} {v : Value} {L : AL} (hr : ActsR n h v L) {i : Nat} {x : ActD × Value} (hi : L[i]? = some x) :
    ∃ p, evIndexAddr T0 34 v (iv (i : Nat)) = some p ∧ evLoad T0 24 p h = some (actV x.1 x.2) ∧ eqV p p = true := by
  have hl := (List.getElem?_eq_some_iff.1 hi).1
  rcases hr with ⟨rfl, rfl⟩ | ⟨b, o, cap, c, m, lo, hi2, kd, el, rfl, h2, h3, h4, h5⟩
  · simp at hi
  · refine ⟨.pointer (some ⟨b, o + i * 6, none⟩), idx_slice und_acts sz_act hl, ?_, eqV_ptr⟩
    simp only [evLoad, loadVarA, agg_act, sz_act]
    have : loadRow h b (o + i * 6) (cellsA x.1 x.2).length = some (cellsA x.1 x.2) := loadRow_of h3 (by rw [cellsA_len]; omega) (fun j y hy => by
      rw [Nat.add_assoc]; exact h5 _ _ (flatA_get hi j y hy))
    rw [cellsA_len] at this
    rw [this]; rfl
theorem OwnC.acts {n : Nat} {h : AH} {v : Value} {L : AL} (ho : OwnC 6 n h v L.length (flatA L) 24) : ActsR h.next h v L := by
  rcases ho with ⟨rfl, hk, _⟩ | ⟨b, c, kd, cap, h1, h2, rfl, h4, h5, h6, h7⟩
  · exact .inl ⟨rfl, List.length_eq_zero_iff.1 hk⟩
  · exact .inr ⟨b, 0, cap, c, _, 0, 0, kd, 24, rfl, h2, h4, by omega, fun i y hy => by rw [Nat.zero_add]; exact h6 i y hy⟩
theorem tt_act : T0.tt.get 24 = some (infoOf 24) := by kernel_rfl
theorem ti_act : (infoOf 24).zero = some (.agg (cellsA zeroA nilV).toArray) ∧ (infoOf 24).size = 6 ∧ (infoOf 24).bytes ≤ 100 := ⟨by kernel_rfl, by kernel_rfl, Nat.le_of_ble_eq_true (by kernel_rfl)⟩
theorem zero_act : zeroOf T0 24 = some (.agg (cellsA zeroA nilV).toArray) := by kernel_rfl
theorem bs_act0 {h : AH} : evBuildSlice T0 34 0 [] h = some (.slice (some ⟨h.next, 0, none⟩) 0 0, h.new (.cells (PM.ofList []) 0 24 0 0 .ex)) := bs_zero und_acts sz_act zero_act
theorem bs_act {a : ActD} {d : Value} {h : AH} : evBuildSlice T0 34 1 [(0, actV a d)] h = some (.slice (some ⟨h.next, 0, none⟩) 1 1, h.new (.cells (PM.ofList (cellsA a d)) 6 24 0 0 .ex)) := by
  unfold evBuildSlice
  simp only [und_acts, sz_act, zero_act]
  have h1 : fillA (fun i => some (i * 6, 6)) (zeros (.agg (cellsA zeroA nilV).toArray) (1 * 6)) [(0, actV a d)] = some (cellsA a d) := rfl
  rw [h1]
  rfl
theorem put_act {n : Nat} {h : AH} {v : Value} {L : AL} (a : ActD) (d : Value) (ho : OwnC 6 n h v L.length (flatA L) 24) (hd : oneCell d = true) (hl : L.length + 1 < 100000000000) (hn : n ≤ h.next) (ty : TypeId) :
    ∃ v' h', evBuiltin T0 .append #[34, 34] ty [v, .slice (some ⟨h.next, 0, none⟩) 1 1] (h.new (.cells (PM.ofList (cellsA a d)) 6 24 0 0 .ex)) = some (.value v', h') ∧ OwnC 6 n h' v' (L ++ [(a, d)]).length (flatA (L ++ [(a, d)])) 24 ∧ Grow n h h' ∧
      ∀ k, k < h.next → Off v k → h'.get k = h.get k := by
  obtain ⟨t1, t2, t3⟩ := ti_act
  have g := Grow.new h (.cells (PM.ofList (cellsA a d)) 6 24 0 0 .ex)
  have hall : (cellsA a d).all oneCell = true := by show (true && (true && (true && (true && (true && (oneCell d && true)))))) = true; rw [hd]; rfl
  have happ : appendedA T0 34 (infoOf 24) (.agg (cellsA zeroA nilV).toArray) (.slice (some ⟨h.next, 0, none⟩) 1 1) (h.new (.cells (PM.ofList (cellsA a d)) 6 24 0 0 .ex)) = some (1, cellsA a d) := by
    refine appended_slice und_acts (get_new_same _ _) (by rw [t2]; rfl) (by rw [t2]; decide) ?_
    intro j y hj; rw [PM.get_ofList]; exact hj
  obtain ⟨v', h', a1, a2, a3, a4, _⟩ := append_gen und_acts tt_act t1 t2 t3 (ho.grow g) happ rfl hall hl (Nat.le_trans hn g.next) ty
  refine ⟨v', h', a1, ?_, (g.less hn).trans a3 (Nat.le_refl _), fun k hk ho => (a4 k (Nat.lt_of_lt_of_le hk g.next) ho).trans (g.keep k hk)⟩
  rw [List.length_append, List.length_cons, List.length_nil, flatA_app]
  rw [show flatA [(a, d)] = cellsA a d from by unfold flatA; simp]
  exact a2
/-- What a list's acts hold is in memory too. -/
def DatsR (n : Nat) (h : AH) (L : AL) : Prop := ∀ x ∈ L, Row n h x.2 (byteVals x.1.data) 5
theorem DatsR.grow {n m : Nat} {h h' : AH} {L : AL} (hr : DatsR n h L) (g : Grow m h h') (hn : n ≤ m) : DatsR n h' L := fun x hx => (hr x hx).grow g hn
theorem DatsR.wide {n m : Nat} {h : AH} {L : AL} (hr : DatsR n h L) (hn : n ≤ m) : DatsR m h L := fun x hx => (hr x hx).wide hn
end
end Go.Proofs.YtknchhnibjfocaaDoor.Abs
namespace Go.Proofs.YtknchhnibjfocaaDoor.Abs
open Go Go.Proofs
noncomputable section
variable {call : Abs.Callee}
set_option maxRecDepth 10000
/-- The lines of acts, one behind the other. -/
def linesL : List ActD → List UInt8 → Option (List UInt8)
  | [], acc => some acc
  | a :: L, acc => match lineA a with
    | none => none
    | some s => linesL L (acc ++ s ++ [10])
def scriptL (L : List ActD) : List UInt8 × Int := match linesL L [] with
  | none => ([], 1)
  | some t => if 65536 < t.length then ([], 11) else (t, 0)
theorem linesL_none {a : ActD} {L : List ActD} {acc : List UInt8} (h : lineA a = none) : linesL (a :: L) acc = none := by rw [linesL, h]
theorem linesL_some {a : ActD} {L : List ActD} {acc s : List UInt8} (h : lineA a = some s) : linesL (a :: L) acc = linesL L (acc ++ s ++ [10]) := by rw [linesL, h]
theorem line_len {M : Nat} {a : ActD} {s : List UInt8} (ha : SmallA M a) (h : lineA a = some s) : s.length ≤ 10 + 10 * (3 * M + 21) := by
  unfold lineA at h
  cases hp : partsOf a.verb with
  | none => rw [hp] at h; cases h
  | some P =>
    rw [hp] at h
    simp only at h
    split at h
    · cases h
      obtain ⟨hg, hv⟩ := parts_good hp
      obtain ⟨hP, _, _⟩ := goodP_iff hg
      have := spaced_len (3 * M + 20) (P.map (fwA a)) a.verb (fun x hx => by rw [List.mem_map] at hx; obtain ⟨c, _, rfl⟩ := hx; exact fwA_len ha c)
      rw [List.length_map] at this
      have hb : P.length * (3 * M + 20 + 1) ≤ 10 * (3 * M + 20 + 1) := Nat.mul_le_mul_right _ hP
      omega
    · cases h
abbrev BLenC (call : Abs.Callee) : Prop := ∀ (n b : Nat) (l : List UInt8) (h : AH), BldA n h b l → call 32 [ptr b] h = some (iv l.length, h)
abbrev BStrC (call : Abs.Callee) : Prop := ∀ (n b : Nat) (l : List UInt8) (h : AH), BldA n h b l → l.length < 100000000000 → ∃ h', call 34 [ptr b] h = some (sv l, h') ∧ Grow n h h'
noncomputable def bodySc : Code := part Tryd.f15 [1, 1, 1, 0, 1, 0, 0]
abbrev ESc : Env := ⟨15, 40, none⟩
/-- What a list in memory keeps. -/
structure ListI (n : Nat) (h : AH) (v : Value) (L : AL) : Prop where
  n4 : 4 ≤ n
  nn : n ≤ h.next
  gl : Glob h
  row : ActsR n h v L
  dat : DatsR n h L
theorem ListI.grow {n : Nat} {h h' : AH} {v : Value} {L : AL} (x : ListI n h v L) (g : Grow n h h') : ListI n h' v L :=
  ⟨x.n4, Nat.le_trans x.nn g.next, x.gl.grow g x.n4, x.row.grow g (Nat.le_refl _), x.dat.grow g (Nat.le_refl _)⟩
theorem dropAt {α : Type} {L l : List α} {i : Nat} {b : α} (h : L.drop i = b :: l) : L[i]? = some b := by
  have := congrArg (fun l => l[0]?) h; simpa using this
theorem scriptLp (M : Nat) (hM : M < 1000000000) (hLn : LineC call 9 M) (hS : WStrC call) (hBl : BLenC call) (n b : Nat) (hnb : n ≤ b) (v : Value) (L : AL) (hL : L.length < 10000000000) (hsm : ∀ x ∈ L, SmallA M x.1) :
    ∀ (l : AL) (i : Nat) (acc : List UInt8) (tm : PM Value) (h : AH) (N : Nat), L.drop i = l → i + l.length = L.length → l.length + 60 ≤ N → tm.get 4 = some (ptr b) → tm.get 5 = some (.bool (decide (65536 < acc.length))) → tm.get 10 = some v → tm.get 11 = some (iv L.length) → tm.get 12 = some (iv i) →
      ListI n h v L → (¬ 65536 < acc.length → BldA n h b acc) →
      ∃ tm' h', ((∃ t, linesL (l.map (·.1)) acc = some t ∧ codeB T0 X0 call N ESc (.loop bodySc) tm h [] = .jump (.exit 0) tm' h' [] ∧ tm'.get 4 = some (ptr b) ∧ tm'.get 5 = some (.bool (decide (65536 < t.length))) ∧ (¬ 65536 < t.length → BldA n h' b t)) ∨
        (linesL (l.map (·.1)) acc = none ∧ codeB T0 X0 call N ESc (.loop bodySc) tm h [] = .jump .ret tm' h' [] ∧ tm'.get 2 = some (sv []) ∧ tm'.get 3 = some (iv 1))) ∧ Grow n h h' := by
  intro l
  induction l with
  | nil =>
    intro i acc tm h N hd hi hN g4 g5 g10 g11 g12 x hb
    obtain ⟨N, rfl⟩ : ∃ a, N = a + 60 := ⟨N - 60, by omega⟩
    have hiL : i = L.length := by simpa using hi
    subst hiL
    apply Exists.intro; apply Exists.intro
    refine ⟨.inl ⟨acc, rfl, ?_, ?_, ?_, hb⟩, Grow.refl _ _⟩
    · rw [codeB_loop]
      simp only [bodySc, part, Tryd.f15, sub, symM, opFn, Nat.reduceLT, g11, g12, bin_lss, decide_eq_false (show ¬ ((L.length : Nat) : Int) < (L.length : Nat) by omega)]
      rfl
    · simp only [symM, Nat.reduceBEq, g4]
    · simp only [symM, Nat.reduceBEq, g5]
  | cons z l ih =>
    intro i acc tm h N hd hi hN g4 g5 g10 g11 g12 x hb
    obtain ⟨N, rfl⟩ : ∃ a, N = a + 60 := ⟨N - 60, by omega⟩
    simp only [List.length_cons] at hi hN
    have hz := dropAt hd
    have hzm : z ∈ L := List.mem_of_getElem? hz
    have hnext : L.drop (i + 1) = l := by rw [← List.drop_drop, hd]; rfl
    have hlt : decide ((i : Int) < (L.length : Nat)) = true := decide_eq_true (by omega)
    have hw1 := wadd1 (a := i) (by omega)
    obtain ⟨q, e1, e2, _⟩ := x.row.at hz
    generalize hh1 : h.new (.cells (PM.ofList (cellsA zeroA nilV)) 6 24 0 0 .ex) = h1
    have n1 : h1.next = h.next + 1 := by rw [← hh1]; rfl
    have g1 : Grow h.next h h1 := by rw [← hh1]; exact Grow.new _ _
    have hal : evAlloc T0 24 h = some (ptr h.next, h1) := by rw [← hh1]; exact alloc_A
    have b1 : BoxL h1 h.next 24 (cellsA zeroA nilV) := by rw [← hh1]; exact BoxL.new h _ _
    have hdr := x.dat z hzm
    obtain ⟨h2, s1, s2, s3, s4, _⟩ := b1.storeA (n := h.next) (a := z.1) (d := z.2) (cellsA_len _ _) hdr.one.1 (Nat.le_refl _)
    have g2 : Grow h.next h h2 := g1.trans s3 (Nat.le_refl _)
    have lw := loadW_A s2
    have x2 := x.grow (g2.less x.nn)
    obtain ⟨h3, c1, g3⟩ := hLn z.1 z.2 h2 ((x2.dat z hzm).wide x2.nn) x2.gl (Nat.le_trans x2.n4 x2.nn) (hsm z hzm)
    have g23 : Grow h.next h h3 := g2.trans g3 (by rw [s4, n1]; omega)
    have x3 := x.grow (g23.less x.nn)
    rw [List.map_cons]
    rw [show N + 60 = (N + 59) + 1 from rfl, codeB_loop]
    cases hln : lineA z.1 with
    | none =>
      rw [hln] at c1
      simp only [Option.getD_none, Option.isSome_none, Bool.false_eq_true, if_false] at c1
      apply Exists.intro; apply Exists.intro
      refine ⟨.inr ⟨linesL_none hln, ?_, ?_, ?_⟩, g23.less x.nn⟩
      · simp only [bodySc, part, Tryd.f15, sub, symM, opFn, Nat.reduceLT, Nat.reduceBEq, g10, g11, g12, bin_lss, hlt, e1, e2, hal, s1, lw, evCall_fn ft9 rfl, c1, bin_neq, show (!((1 : Int) == 0)) = true from rfl]
        rfl
      · simp only [symM, Nat.reduceBEq]
      · simp only [symM]
    | some s =>
      rw [hln] at c1
      simp only [Option.getD_some, Option.isSome_some, if_true] at c1
      rw [linesL_some hln]
      have hsl := line_len (hsm z hzm) hln
      by_cases hf : 65536 < acc.length
      · have hf' : 65536 < (acc ++ s ++ [10]).length := by rw [List.length_append, List.length_append]; omega
        have hdt : decide (65536 < acc.length) = true := decide_eq_true hf
        rw [hdt] at g5
        simp only [bodySc, part, Tryd.f15, sub, symM, opFn, Nat.reduceLT, Nat.reduceBEq, g5, g10, g11, g12, bin_lss, hlt, e1, e2, hal, s1, lw, evCall_fn ft9 rfl, c1, bin_neq, show (!((0 : Int) == 0)) = false from rfl, bin_add, hw1]
        exact growOr2 (g23.less x.nn) (ih (i + 1) (acc ++ s ++ [10]) _ h3 (N + 59) hnext (by omega) (by omega) (by simp only [symM, Nat.reduceBEq, g4]) (by rw [decide_eq_true hf']; simp only [symM, Nat.reduceBEq]) (by simp only [symM, Nat.reduceBEq, g10]) (by simp only [symM, Nat.reduceBEq, g11]) get_same x3 (fun q => absurd hf' q))
      · have hb3 : BldA n h3 b acc := (hb hf).grow g23
        have c2 := hBl n b acc h3 hb3
        have hdf : decide (65536 < acc.length) = false := decide_eq_false hf
        rw [hdf] at g5
        have wsum : IntKind.i64.wrap ((acc.length : Int) + (s.length : Int)) = ((acc.length + s.length : Nat) : Int) := by rw [w64 (by omega)]; omega
        by_cases hg : 65536 ≤ acc.length + s.length
        · have hf' : 65536 < (acc ++ s ++ [10]).length := by rw [List.length_append, List.length_append]; simp only [List.length_cons, List.length_nil]; omega
          simp only [bodySc, part, Tryd.f15, sub, symM, opFn, Nat.reduceLT, Nat.reduceBEq, g4, g5, g10, g11, g12, bin_lss, hlt, e1, e2, hal, s1, lw, evCall_fn ft9 rfl, c1, bin_neq, show (!((0 : Int) == 0)) = false from rfl, evCall_fn ft32 rfl, c2, len_str, bin_add, wsum, bin_geq, decide_eq_true (show (65536 : Int) ≤ ((acc.length + s.length : Nat) : Int) by omega), hw1]
          exact growOr2 (g23.less x.nn) (ih (i + 1) (acc ++ s ++ [10]) _ h3 (N + 59) hnext (by omega) (by omega) (by simp only [symM, Nat.reduceBEq, g4]) (by rw [decide_eq_true hf']; simp only [symM, Nat.reduceBEq]) (by simp only [symM, Nat.reduceBEq, g10]) (by simp only [symM, Nat.reduceBEq, g11]) get_same x3 (fun q => absurd hf' q))
        · have hf' : ¬ 65536 < (acc ++ s ++ [10]).length := by rw [List.length_append, List.length_append]; simp only [List.length_cons, List.length_nil]; omega
          have sa : ∀ t p q hh, evBin T0 .add t p q (sv s) (sv [10]) hh = some (sv (s ++ [10])) := fun t p q hh => bin_sadd (by simp; omega)
          obtain ⟨h4, c3, bl4, g4'⟩ := hS n b acc h3 (s ++ [10]) hb3 (by simp) (by simp; omega)
          rw [← List.append_assoc] at bl4
          have g34 : Grow n h3 h4 := g4'.low hnb (Nat.le_refl _)
          simp only [bodySc, part, Tryd.f15, sub, symM, opFn, Nat.reduceLT, Nat.reduceBEq, g4, g5, g10, g11, g12, bin_lss, hlt, e1, e2, hal, s1, lw, evCall_fn ft9 rfl, c1, bin_neq, show (!((0 : Int) == 0)) = false from rfl, evCall_fn ft32 rfl, c2, len_str, bin_add, wsum, bin_geq, decide_eq_false (show ¬ (65536 : Int) ≤ ((acc.length + s.length : Nat) : Int) by omega), hw1, sa, evCall_fn ft33 rfl, c3]
          exact growOr2 ((g23.less x.nn).trans g34 (Nat.le_refl _)) (ih (i + 1) (acc ++ s ++ [10]) _ h4 (N + 59) hnext (by omega) (by omega) (by simp only [symM, Nat.reduceBEq, g4]) (by rw [decide_eq_false hf']; simp only [symM, Nat.reduceBEq]) (by simp only [symM, Nat.reduceBEq, g10]) (by simp only [symM, Nat.reduceBEq, g11]) get_same (x3.grow g34) (fun _ => bl4))
theorem Script_S (M : Nat) (hM : M < 1000000000) (hLn : LineC call 9 M) (hS : WStrC call) (hBl : BLenC call) (hBs : BStrC call) (v : Value) (L : AL) (h : AH) (hL : L.length ≤ M) (hsm : ∀ x ∈ L, SmallA M x.1) (x : ListI h.next h v L) :
    ∃ h', frameB T0 X0 call (M + 3000) 15 [v] h = some (.tuple #[sv (scriptL (L.map (·.1))).1, iv (scriptL (L.map (·.1))).2], h') ∧ Grow h.next h h' := by
  generalize hh1 : h.new (.cells (PM.ofList [.pointer none, nilV]) 2 BT 0 0 .ex) = h1
  have g1 : Grow h.next h h1 := by rw [← hh1]; exact Grow.new _ _
  have n1 : h1.next = h.next + 1 := by rw [← hh1]; rfl
  have hal : evAlloc T0 BT h = some (ptr h.next, h1) := by rw [← hh1]; exact alloc_B
  have hb1 : BoxL h1 h.next BT [.pointer none, nilV] := by rw [← hh1]; exact BoxL.new h BT [.pointer none, nilV]
  have hbld : BldA h.next h1 h.next [] := ⟨by omega, by omega, .pointer none, nilV, hb1, .inl rfl, .inl ⟨rfl, rfl, rfl⟩, fun _ => rfl⟩
  have x1 := x.grow g1
  have hlen := fun ty => x.row.len (h' := h1) ty
  rw [frameB_eq ft15 rfl rfl]
  simp only [Tryd.f15, symM, opFn, Nat.reduceLT, Nat.reduceBEq, hal, hlen]
  refine bind_loopJ (b := bodySc) (Q := fun co => ∃ tm' h', ((∃ t, linesL (L.map (·.1)) [] = some t ∧ co = .jump (.exit 0) tm' h' [] ∧ tm'.get 4 = some (ptr h.next) ∧ tm'.get 5 = some (.bool (decide (65536 < t.length))) ∧ (¬ 65536 < t.length → BldA h.next h' h.next t)) ∨
        (linesL (L.map (·.1)) [] = none ∧ co = .jump .ret tm' h' [] ∧ tm'.get 2 = some (sv []) ∧ tm'.get 3 = some (iv 1))) ∧ Grow h.next h1 h')
      (P := fun co => ∃ h', endF T0 15 co = some (.tuple #[sv (scriptL (L.map (·.1))).1, iv (scriptL (L.map (·.1))).2], h') ∧ Grow h.next h h') ?_ ?_
  · exact scriptLp M hM hLn hS hBl h.next h.next (Nat.le_refl _) v L (by omega) hsm L 0 [] _ h1 _ rfl (Nat.zero_add _) (by omega) (by simp only [symM, Nat.reduceBEq]) (by simp only [symM, Nat.reduceBEq]; rfl) (by simp only [symM, Nat.reduceBEq]) (by simp only [symM, Nat.reduceBEq]) get_same x1 (fun _ => hbld)
  · rintro co ⟨tm', h2, ho, g⟩
    have g2 := g1.trans g (Nat.le_refl _)
    unfold scriptL
    rcases ho with ⟨t, ht, rfl, t4, t5, hb⟩ | ⟨ht, rfl, t2, t3⟩
    · rw [ht]
      simp only
      by_cases hf : 65536 < t.length
      · rw [if_pos hf]
        rw [decide_eq_true hf] at t5
        refine ⟨h2, ?_, g2⟩
        simp only [symM, opFn, Nat.reduceLT, symL, t5]
        exact retB_two ft15 rfl (by simp only [symM, Nat.reduceBEq]) (by simp only [symM])
      · rw [if_neg hf]
        rw [decide_eq_false hf] at t5
        obtain ⟨h3, c1, g3⟩ := hBs _ _ t h2 (hb hf) (by omega)
        refine ⟨h3, ?_, g2.trans g3 (Nat.le_refl _)⟩
        simp only [symM, opFn, Nat.reduceLT, Nat.reduceBEq, symL, t4, t5, evCall_fn ft34 rfl, c1]
        exact retB_two ft15 rfl (by simp only [symM, Nat.reduceBEq]) (by simp only [symM])
    · rw [ht]
      refine ⟨h2, ?_, g2⟩
      simp only [symM]
      exact retB_two ft15 rfl t2 t3
end
end Go.Proofs.YtknchhnibjfocaaDoor.Abs
namespace Go.Proofs.YtknchhnibjfocaaDoor.Abs
open Go Go.Proofs
noncomputable section
variable {call : Abs.Callee}
set_option maxRecDepth 10000
theorem put_text {n : Nat} {h : AH} {v : Value} {out : List UInt8} (s : List UInt8) (ho : OwnC 1 n h v out.length (byteVals out) 5) (hl : out.length + s.length < 100000000000) (hn : n ≤ h.next) (ty : TypeId) :
    ∃ v' h', evBuiltin T0 .append #[22, 9] ty [v, sv s] h = some (.value v', h') ∧ OwnC 1 n h' v' (out ++ s).length (byteVals (out ++ s)) 5 ∧ Grow n h h' := by
  obtain ⟨t1, t2, t3⟩ := ti_u8
  obtain ⟨v', h', a1, a2, a3, _⟩ := append_gen und_bytes tt_u8 t1 t2 t3 ho app_str (by rw [byteVals_len, Nat.mul_one]) (byteVals_one s) hl hn ty
  exact ⟨v', h', a1, by rw [List.length_append, byteVals_app]; exact a2, a3⟩
theorem bytes_len {n : Nat} {h h' : AH} {v : Value} {out : List UInt8} (ho : OwnC 1 n h v out.length (byteVals out) 5) (ty : TypeId) : evBuiltin T0 .len #[22] ty [v] h' = some (.value (iv out.length), h') := by
  have := ho.own.row.len (ty := ty) (h' := h') und_bytes
  rwa [byteVals_len] at this
noncomputable def bodyRS : Code := part Tryd.f16 [1, 1, 0, 1, 0, 0]
abbrev ERS : Env := ⟨16, 39, none⟩
theorem rscriptLp (M : Nat) (hM : M < 1000000000) (hLn : LineC call 10 M) (n : Nat) (v : Value) (L : AL) (hL : L.length < 10000000000) (hsm : ∀ x ∈ L, SmallA M x.1) :
    ∀ (l : AL) (i : Nat) (acc out : List UInt8) (vo : Value) (tm : PM Value) (h : AH) (N : Nat), L.drop i = l → i + l.length = L.length → l.length + 60 ≤ N → tm.get 0 = some v → tm.get 4 = some vo → tm.get 5 = some (iv i) →
      ListI n h v L → OwnC 1 n h vo out.length (byteVals out) 5 → (acc.length ≤ 65536 → out = acc) → (65536 < acc.length → 65536 < out.length) →
      ∃ tm' h', ((∃ t out' vo', linesL (l.map (·.1)) acc = some t ∧ codeB T0 X0 call N ERS (.loop bodyRS) tm h [] = .jump (.exit 0) tm' h' [] ∧ tm'.get 4 = some vo' ∧ OwnC 1 n h' vo' out'.length (byteVals out') 5 ∧ (t.length ≤ 65536 → out' = t) ∧ (65536 < t.length → 65536 < out'.length)) ∨
        (linesL (l.map (·.1)) acc = none ∧ codeB T0 X0 call N ERS (.loop bodyRS) tm h [] = .jump .ret tm' h' [] ∧ tm'.get 2 = some (sv []) ∧ tm'.get 3 = some (iv 1))) ∧ Grow n h h' := by
  intro l
  induction l with
  | nil =>
    intro i acc out vo tm h N hd hi hN g0 g4 g5 x ho ha hb
    obtain ⟨N, rfl⟩ : ∃ a, N = a + 60 := ⟨N - 60, by omega⟩
    have hiL : i = L.length := by simpa using hi
    subst hiL
    have hlen := fun ty => x.row.len (h' := h) ty
    apply Exists.intro; apply Exists.intro
    refine ⟨.inl ⟨acc, out, vo, rfl, ?_, ?_, ho, ha, hb⟩, Grow.refl _ _⟩
    · rw [codeB_loop]
      simp only [bodyRS, part, Tryd.f16, sub, symM, opFn, Nat.reduceLT, Nat.reduceBEq, g0, g5, hlen, bin_lss, decide_eq_false (show ¬ ((L.length : Nat) : Int) < (L.length : Nat) by omega)]
      rfl
    · simp only [symM, Nat.reduceBEq, g4]
  | cons z l ih =>
    intro i acc out vo tm h N hd hi hN g0 g4 g5 x ho ha hb
    obtain ⟨N, rfl⟩ : ∃ a, N = a + 60 := ⟨N - 60, by omega⟩
    simp only [List.length_cons] at hi hN
    have hz := dropAt hd
    have hzm : z ∈ L := List.mem_of_getElem? hz
    have hnext : L.drop (i + 1) = l := by rw [← List.drop_drop, hd]; rfl
    have hlt : decide ((i : Int) < (L.length : Nat)) = true := decide_eq_true (by omega)
    have hw1 := wadd1 (a := i) (by omega)
    have hlen := fun ty => x.row.len (h' := h) ty
    obtain ⟨q, e1, e2, _⟩ := x.row.at hz
    obtain ⟨h3, c1, g3⟩ := hLn z.1 z.2 h ((x.dat z hzm).wide x.nn) x.gl (Nat.le_trans x.n4 x.nn) (hsm z hzm)
    have x3 := x.grow (g3.less x.nn)
    have ho3 := ho.grow g3
    rw [List.map_cons]
    rw [show N + 60 = (N + 59) + 1 from rfl, codeB_loop]
    cases hln : lineA z.1 with
    | none =>
      rw [hln] at c1
      simp only [Option.getD_none, Option.isSome_none, Bool.false_eq_true, if_false] at c1
      apply Exists.intro; apply Exists.intro
      refine ⟨.inr ⟨linesL_none hln, ?_, ?_, ?_⟩, g3.less x.nn⟩
      · simp only [bodyRS, part, Tryd.f16, sub, symM, opFn, Nat.reduceLT, Nat.reduceBEq, g0, g5, hlen, bin_lss, hlt, e1, e2, evCall_fn ft10 rfl, c1, bin_neq, show (!((1 : Int) == 0)) = true from rfl]
        rfl
      · simp only [symM, Nat.reduceBEq]
      · simp only [symM]
    | some s =>
      rw [hln] at c1
      simp only [Option.getD_some, Option.isSome_some, if_true] at c1
      rw [linesL_some hln]
      have hsl := line_len (hsm z hzm) hln
      have lo := fun ty => bytes_len (h' := h3) ho3 ty
      by_cases hf : out.length ≤ 65536
      · have hacc : out = acc := by
          rcases Nat.lt_or_ge 65536 acc.length with q | q
          · exact absurd (hb q) (by omega)
          · exact ha q
        subst hacc
        obtain ⟨v1, h4, a1, a2, a3⟩ := put_text s ho3 (by omega) x3.nn 22
        obtain ⟨v2, h5, b1, b2, b3⟩ := put_bytes (new := [10]) (k := 1) a2 rfl (by rw [List.length_append]; simp only [List.length_cons, List.length_nil]; omega) (Nat.le_trans x3.nn a3.next) 22
        have b1 : evBuiltin T0 .append #[22, 22] 22 [v1, .slice (some ⟨h4.next, 0, none⟩) 1 1] (h4.new (.cells (PM.ofList [bv 10]) 1 5 0 0 .ex)) = some (.value v2, h5) := b1
        have b10 : evBuildSlice T0 22 1 [(0, .int .u8 10)] h4 = some (.slice (some ⟨h4.next, 0, none⟩) 1 1, h4.new (.cells (PM.ofList [bv 10]) 1 5 0 0 .ex)) := bs_u8 (x := 10)
        simp only [bodyRS, part, Tryd.f16, sub, symM, opFn, Nat.reduceLT, Nat.reduceBEq, g0, g4, g5, hlen, bin_lss, hlt, e1, e2, evCall_fn ft10 rfl, c1, bin_neq, show (!((0 : Int) == 0)) = false from rfl, lo, bin_leq, decide_eq_true (show ((out.length : Nat) : Int) ≤ 65536 by omega), a1, b10, b1, bin_add, hw1]
        have g45 := a3.trans b3 (Nat.le_refl _)
        exact growOr2 ((g3.less x.nn).trans g45 (Nat.le_refl _)) (ih (i + 1) (out ++ s ++ [10]) (out ++ s ++ [10]) v2 _ h5 (N + 59) hnext (by omega) (by omega) (by simp only [symM, Nat.reduceBEq, g0]) (by simp only [symM, Nat.reduceBEq]) get_same (x3.grow g45) b2 (fun _ => rfl) (fun q => q))
      · have hacc : 65536 < acc.length := by
          rcases Nat.lt_or_ge 65536 acc.length with q | q
          · exact q
          · exact absurd (ha q ▸ q) (by omega)
        have hf' : 65536 < (acc ++ s ++ [10]).length := by rw [List.length_append, List.length_append]; omega
        simp only [bodyRS, part, Tryd.f16, sub, symM, opFn, Nat.reduceLT, Nat.reduceBEq, g0, g4, g5, hlen, bin_lss, hlt, e1, e2, evCall_fn ft10 rfl, c1, bin_neq, show (!((0 : Int) == 0)) = false from rfl, lo, bin_leq, decide_eq_false (show ¬ ((out.length : Nat) : Int) ≤ 65536 by omega), bin_add, hw1]
        exact growOr2 (g3.less x.nn) (ih (i + 1) (acc ++ s ++ [10]) out vo _ h3 (N + 59) hnext (by omega) (by omega) (by simp only [symM, Nat.reduceBEq, g0]) (by simp only [symM, Nat.reduceBEq, g4]) get_same x3 ho3 (fun q => absurd hf' (by omega)) (fun _ => by omega))
theorem rScript_S (M : Nat) (hM : M < 1000000000) (hLn : LineC call 10 M) (v : Value) (L : AL) (h : AH) (hL : L.length ≤ M) (hsm : ∀ x ∈ L, SmallA M x.1) (x : ListI h.next h v L) :
    ∃ h', frameB T0 X0 call (M + 3000) 16 [v] h = some (.tuple #[sv (scriptL (L.map (·.1))).1, iv (scriptL (L.map (·.1))).2], h') ∧ Grow h.next h h' := by
  generalize hh1 : h.new (.cells (PM.ofList []) 0 5 0 0 .ex) = h1
  have g1 : Grow h.next h h1 := by rw [← hh1]; exact Grow.new _ _
  have hbs : evBuildSlice T0 22 0 [] h = some (.slice (some ⟨h.next, 0, none⟩) 0 0, h1) := by rw [← hh1]; exact bs_u80
  have ho : OwnC 1 h.next h1 (.slice (some ⟨h.next, 0, none⟩) 0 0) ([] : List UInt8).length (byteVals []) 5 := by
    rw [← hh1]
    exact .inr ⟨h.next, _, .ex, 0, Nat.le_refl _, Nat.lt_succ_self _, rfl, get_new_same _ _, rfl, fun i x hi => by simp [byteVals] at hi, .inl ⟨rfl, rfl⟩⟩
  rw [frameB_eq ft16 rfl rfl]
  simp only [Tryd.f16, symM, opFn, Nat.reduceLT, hbs]
  refine bind_loopJ (b := bodyRS) (Q := fun co => ∃ tm' h', ((∃ t out' vo', linesL (L.map (·.1)) [] = some t ∧ co = .jump (.exit 0) tm' h' [] ∧ tm'.get 4 = some vo' ∧ OwnC 1 h.next h' vo' out'.length (byteVals out') 5 ∧ (t.length ≤ 65536 → out' = t) ∧ (65536 < t.length → 65536 < out'.length)) ∨
        (linesL (L.map (·.1)) [] = none ∧ co = .jump .ret tm' h' [] ∧ tm'.get 2 = some (sv []) ∧ tm'.get 3 = some (iv 1))) ∧ Grow h.next h1 h')
      (P := fun co => ∃ h', endF T0 16 co = some (.tuple #[sv (scriptL (L.map (·.1))).1, iv (scriptL (L.map (·.1))).2], h') ∧ Grow h.next h h') ?_ ?_
  · exact rscriptLp M hM hLn h.next v L (by omega) hsm L 0 [] [] _ _ h1 _ rfl (Nat.zero_add _) (by omega) (by simp only [symM, Nat.reduceBEq]) (by simp only [symM, Nat.reduceBEq]) get_same (x.grow g1) ho (fun _ => rfl) (fun q => q)
  · rintro co ⟨tm', h2, ho, g⟩
    have g2 := g1.trans g (Nat.le_refl _)
    refine ⟨h2, ?_, g2⟩
    unfold scriptL
    rcases ho with ⟨t, out', vo', ht, rfl, t4, ow, ha, hb⟩ | ⟨ht, rfl, t2, t3⟩
    · rw [ht]
      have lo := fun ty => bytes_len (h' := h2) ow ty
      by_cases hf : 65536 < t.length
      · simp only [if_pos hf]
        have := hb hf
        simp only [symM, opFn, Nat.reduceLT, symL, t4, lo, bin_gtr, decide_eq_true (show (65536 : Int) < ((out'.length : Nat) : Int) by omega)]
        exact retB_two ft16 rfl (by simp only [symM, Nat.reduceBEq]) (by simp only [symM])
      · simp only [if_neg hf]
        obtain rfl := ha (by omega)
        simp only [symM, opFn, Nat.reduceLT, Nat.reduceBEq, symL, t4, lo, bin_gtr, decide_eq_false (show ¬ (65536 : Int) < ((out'.length : Nat) : Int) by omega), conv_bytes ow.row1]
        exact retB_two ft16 rfl (by simp only [symM, Nat.reduceBEq]) (by simp only [symM])
    · rw [ht]
      simp only [symM]
      exact retB_two ft16 rfl t2 t3
end
end Go.Proofs.YtknchhnibjfocaaDoor.Abs
namespace Go.Proofs.YtknchhnibjfocaaDoor.Abs
open Go Go.Proofs
noncomputable section
variable {call : Abs.Callee}
set_option maxRecDepth 10000
/-- The acts that lines are, or the number of the first that is none. -/
def readN : List (List UInt8) → List ActD → List ActD ⊕ Nat
  | [], acc => .inl acc
  | w :: ls, acc => match actA w with
    | none => .inr (acc.length + 1)
    | some a => readN ls (acc ++ [a])
theorem readN_none {w : List UInt8} {ls : List (List UInt8)} {acc : List ActD} (h : actA w = none) : readN (w :: ls) acc = .inr (acc.length + 1) := by rw [readN, h]
theorem readN_some {w : List UInt8} {ls : List (List UInt8)} {acc : List ActD} {a : ActD} (h : actA w = some a) : readN (w :: ls) acc = readN ls (acc ++ [a]) := by rw [readN, h]
def actsL (s : List UInt8) : List ActD × Int × Int := if 65536 < s.length then ([], 0, 11) else
  match readN (splitA 10 [] s).dropLast [] with
  | .inr k => ([], k, 14)
  | .inl l => if (splitA 10 [] s).getLast?.getD [] = [] then (l, 0, 0) else ([], l.length + 1, 14)
theorem DatA.put {h h' : AH} {d v : Value} {l : List UInt8} {n k : Nat} {cs : List Value} (hd : DatA h d l) (ho : OwnC 6 n h v k cs 24) (hk : ∀ k, k < h.next → Off v k → h'.get k = h.get k) (hn : h.next ≤ h'.next) : DatA h' d l := by
  rcases hd with h1 | ⟨b2, c, cap, lo, hi, kd, h1, h2, h3, h4⟩
  · exact .inl h1
  · exact .inr ⟨b2, c, cap, lo, hi, kd, Nat.lt_of_lt_of_le h1 hn, h2, (hk b2 h1 (ho.off h3 (by decide))).trans h3, h4⟩
structure ListO (n : Nat) (h : AH) (v : Value) (LL : AL) : Prop where
  n4 : 4 ≤ n
  nn : n ≤ h.next
  gl : Glob h
  own : OwnC 6 n h v LL.length (flatA LL) 24
  dat : ∀ x ∈ LL, DatA h x.2 x.1.data
theorem ListO.grow {n : Nat} {h h' : AH} {v : Value} {LL : AL} (x : ListO n h v LL) (g : Grow h.next h h') : ListO n h' v LL :=
  ⟨x.n4, Nat.le_trans x.nn g.next, x.gl.grow g (Nat.le_trans x.n4 x.nn), x.own.grow g, fun y hy => (x.dat y hy).grow g⟩
theorem ListO.put {n : Nat} {h : AH} {v : Value} {LL : AL} (x : ListO n h v LL) (a : ActD) (d : Value) (hd : DatA h d a.data) (hl : LL.length + 1 < 100000000000) (ty : TypeId) :
    ∃ v' h', evBuiltin T0 .append #[34, 34] ty [v, .slice (some ⟨h.next, 0, none⟩) 1 1] (h.new (.cells (PM.ofList (cellsA a d)) 6 24 0 0 .ex)) = some (.value v', h') ∧ ListO n h' v' (LL ++ [(a, d)]) ∧ Grow n h h' := by
  obtain ⟨v', h', a1, a2, a3, a4⟩ := put_act a d x.own hd.row.one.1 hl x.nn ty
  have hnx : h.next ≤ h'.next := a3.next
  refine ⟨v', h', a1, ⟨x.n4, Nat.le_trans x.nn hnx, x.gl.grow a3 x.n4, a2, ?_⟩, a3⟩
  intro y hy
  rw [List.mem_append, List.mem_singleton] at hy
  rcases hy with hy | rfl
  · exact (x.dat y hy).put x.own a4 hnx
  · exact hd.put x.own a4 hnx
theorem ListO.row {n : Nat} {h : AH} {v : Value} {LL : AL} (x : ListO n h v LL) : ActsR h.next h v LL ∧ DatsR h.next h LL := ⟨x.own.acts, fun y hy => (x.dat y hy).row⟩
abbrev ClipC (call : Abs.Callee) : Prop := ∀ (n : Nat) (h : AH) (v : Value) (LL : AL), OwnC 6 n h v LL.length (flatA LL) 24 → (LL = [] → v = nilV) → LL.length < 10000000000 → ∃ v', call 35 [v] h = some (v', h) ∧ ActsR h.next h v' LL
theorem Clip_S (n : Nat) (h : AH) (v : Value) (LL : AL) (ho : OwnC 6 n h v LL.length (flatA LL) 24) (h0 : LL = [] → v = nilV) (hl : LL.length < 10000000000) : ∃ v', frameB T0 X0 call 3000 35 [v] h = some (v', h) ∧ ActsR h.next h v' LL := by
  have hlen := fun ty => ho.acts.len (h' := h) ty
  have key : ∃ v', evSliceX T0 34 v none (some (iv LL.length)) (some (iv LL.length)) h = some (v', h) ∧ ActsR h.next h v' LL := by
    rcases ho with ⟨rfl, hk, _⟩ | ⟨b, c, kd, cap, h1, h2, rfl, h4, h5, h6, h7⟩
    · have : LL = [] := List.length_eq_zero_iff.1 hk
      subst this
      refine ⟨nilV, ?_, .inl ⟨rfl, rfl⟩⟩
      show (match evSlice T0 34 nilV none (some (iv (0 : Nat))) (some (iv (0 : Nat))) h with
        | some v => some (v, h)
        | none => none) = _
      unfold evSlice
      simp only [und_acts, sz_act]
      rfl
    · have hne : LL ≠ [] := fun q => by have := h0 q; cases this
      have hpos : 0 < LL.length := List.length_pos_iff.2 hne
      refine ⟨.slice (some ⟨b, 0, none⟩) LL.length LL.length, ?_, .inr ⟨b, 0, LL.length, c, _, 0, 0, kd, 24, rfl, h2, h4, by omega, fun i y hy => by rw [Nat.zero_add]; exact h6 i y hy⟩⟩
      show (match evSlice T0 34 (.slice (some ⟨b, 0, none⟩) LL.length cap) none (some (iv LL.length)) (some (iv LL.length)) h with
        | some v => some (v, h)
        | none => none) = _
      have hcap : capOf cap = LL.length := by
        rcases h7 with ⟨_, rfl⟩ | ⟨_, rfl⟩
        · unfold capOf; rw [ble_no (by rw [XB_val]; omega)]; rfl
        · exact capOf_ge _
      have hn : natOf (iv (LL.length : Nat)) = some LL.length := rfl
      have hbd : boundsA LL.length (capOf cap) none (some (iv LL.length)) (some (iv LL.length)) = some (0, LL.length, LL.length) := by
        unfold boundsA boundA
        simp only [hn, hcap, Nat.ble_eq_true_of_le (Nat.le_refl LL.length), ifB_true]
      unfold evSlice
      simp only [und_acts, sz_act]
      unfold evSliceS
      simp only [hbd]
      rw [Nat.ble_eq_true_of_le (Nat.le_refl _), ifB_true]
      have hb0 : Nat.beq LL.length 0 = false := by cases hh : LL.length with | zero => omega | succ k => rfl
      rw [hb0]
      rcases h7 with ⟨rfl, rfl⟩ | ⟨rfl, rfl⟩
      · rw [ble_no (by rw [XB_val]; omega), ifB_false]
        rfl
      · rw [Nat.ble_eq_true_of_le (by omega), ifB_true]
        have hls : looseSz T0 h b 6 = true := by
          unfold looseSz
          rw [h4]
          simp only [sz_act]
          rfl
        rw [hls, ifB_true]
        rw [show XB + LL.length - XB = LL.length by omega, show Nat.blt 0 LL.length = true from Nat.ble_eq_true_of_le hpos, show Nat.blt LL.length XB = true from Nat.ble_eq_true_of_le (by rw [XB_val]; omega)]
        rfl
  obtain ⟨v', e1, e2⟩ := key
  refine ⟨v', ?_, e2⟩
  rw [frameB_eq ft35 rfl rfl]
  simp only [Tryd.f35, symM, opFn, Nat.reduceLT, Nat.reduceBEq, hlen, ev3, evOpt, e1]
  exact retB_one ft35 rfl get_same
end
end Go.Proofs.YtknchhnibjfocaaDoor.Abs
namespace Go.Proofs.YtknchhnibjfocaaDoor.Abs
open Go Go.Proofs
noncomputable section
variable {call : Abs.Callee}
set_option maxRecDepth 10000
theorem cut_strs {b cap j : Nat} (hc : cap < XB) (hj : j ≤ cap) {h : AH} : evSliceX T0 46 (.slice (some ⟨b, 0, none⟩) cap cap) none (some (iv j)) none h = some (.slice (some ⟨b, 0, none⟩) j cap, h) := by
  have hbnd : boundsA cap cap none (some (iv (j : Int))) none = some (0, j, cap) := by
    simp only [boundsA, boundA, show natOf (iv (j : Int)) = some j from rfl, Nat.ble_eq_true_of_le hj, ifB_true]
  have ho : offS b 0 0 1 (Nat.beq cap 0) = ⟨b, 0, none⟩ := by
    unfold offS
    cases Nat.beq cap 0 <;> rfl
  have hx : Nat.ble XB cap = false := ble_no hc
  simp only [evSliceX, evSlice, und_strs, sz_str, evSliceS, capOf_lt hc, hbnd, Nat.ble_eq_true_of_le hj, ifB_true, hx, ifB_false, ho, Nat.sub_zero]
noncomputable def bodyAs : Code := part Tryd.f17 [1, 1, 1, 1, 1, 0, 1, 0, 0]
abbrev EAs : Env := ⟨17, 53, none⟩
theorem actsLp (M : Nat) (hA : ActC call 12 M) (n : Nat) (vS vC : Value) (LN : List (List UInt8)) (hLN : LN.length < 10000000000) (hLm : ∀ w ∈ LN, w.length ≤ M) :
    ∀ (l : List (List UInt8)) (i : Nat) (LL : AL) (v : Value) (tm : PM Value) (h : AH) (N : Nat), LN.drop i = l → i + l.length = LN.length → l.length + 60 ≤ N → LL.length = i → tm.get 5 = some vS → tm.get 6 = some (iv LN.length) → tm.get 7 = some v → tm.get 22 = some vC → tm.get 23 = some (iv LN.length) → tm.get 24 = some (iv i) →
      Row n h vC (strsV LN) 9 → ListO n h v LL → (LL = [] → v = nilV) →
      ∃ tm' h', ((∃ LL' v', readN l (LL.map (·.1)) = .inl (LL'.map (·.1)) ∧ codeB T0 X0 call N EAs (.loop bodyAs) tm h [] = .jump (.exit 0) tm' h' [] ∧ tm'.get 5 = some vS ∧ tm'.get 6 = some (iv LN.length) ∧ tm'.get 7 = some v' ∧ ListO n h' v' LL' ∧ (LL' = [] → v' = nilV) ∧ LL'.length = LN.length) ∨
        (∃ k : Nat, readN l (LL.map (·.1)) = .inr k ∧ codeB T0 X0 call N EAs (.loop bodyAs) tm h [] = .jump .ret tm' h' [] ∧ tm'.get 2 = some nilV ∧ tm'.get 3 = some (iv k) ∧ tm'.get 4 = some (iv 14))) ∧ Grow n h h' := by
  intro l
  induction l with
  | nil =>
    intro i LL v tm h N hd hi hN hLL g5 g6 g7 g22 g23 g24 hr x h0
    obtain ⟨N, rfl⟩ : ∃ a, N = a + 60 := ⟨N - 60, by omega⟩
    have hiL : i = LN.length := by simpa using hi
    apply Exists.intro; apply Exists.intro
    refine ⟨.inl ⟨LL, v, rfl, ?_, ?_, ?_, ?_, x, h0, by omega⟩, Grow.refl _ _⟩
    · rw [codeB_loop]
      simp only [bodyAs, part, Tryd.f17, sub, symM, opFn, Nat.reduceLT, g23, g24, bin_lss, decide_eq_false (show ¬ ((i : Nat) : Int) < (LN.length : Nat) by omega)]
      rfl
    · simp only [symM, Nat.reduceBEq, g5]
    · simp only [symM, Nat.reduceBEq, g6]
    · simp only [symM, Nat.reduceBEq, g7]
  | cons w l ih =>
    intro i LL v tm h N hd hi hN hLL g5 g6 g7 g22 g23 g24 hr x h0
    obtain ⟨N, rfl⟩ : ∃ a, N = a + 60 := ⟨N - 60, by omega⟩
    simp only [List.length_cons] at hi hN
    have hz := dropAt hd
    have hwm := hLm w (List.mem_of_getElem? hz)
    have hnext : LN.drop (i + 1) = l := by rw [← List.drop_drop, hd]; rfl
    have hlt : decide ((i : Int) < (LN.length : Nat)) = true := decide_eq_true (by omega)
    have hw1 := wadd1 (a := i) (by omega)
    obtain ⟨q, e1, e2⟩ := strs_at hr hz
    obtain ⟨d, h1, c1, g1, da⟩ := hA w h hwm x.gl (Nat.le_trans x.n4 x.nn)
    generalize hh2 : h1.new (.cells (PM.ofList (cellsA zeroA nilV)) 6 24 0 0 .ex) = h2
    have n2 : h2.next = h1.next + 1 := by rw [← hh2]; rfl
    have g2 : Grow h1.next h1 h2 := by rw [← hh2]; exact Grow.new _ _
    have hal : evAlloc T0 24 h1 = some (ptr h1.next, h2) := by rw [← hh2]; exact alloc_A
    have b2 : BoxL h2 h1.next 24 (cellsA zeroA nilV) := by rw [← hh2]; exact BoxL.new h1 _ _
    obtain ⟨h3, s1, s2, s3, s4, _⟩ := b2.storeA (n := h1.next) (a := (actA w).getD zeroA) (d := d) (cellsA_len _ _) da.row.one.1 (Nat.le_refl _)
    have g23' : Grow h1.next h1 h3 := g2.trans s3 (Nat.le_refl _)
    have g03 : Grow h.next h h3 := g1.trans g23' g1.next
    have lw := loadW_A s2
    rw [show N + 60 = (N + 59) + 1 from rfl, codeB_loop]
    cases hac : actA w with
    | none =>
      rw [hac] at c1 s1
      simp only [Option.getD_none, Option.isSome_none, Bool.false_eq_true, if_false] at c1 s1
      have hk : (LL.map (·.1)).length + 1 = i + 1 := by rw [List.length_map, hLL]
      apply Exists.intro; apply Exists.intro
      refine ⟨.inr ⟨i + 1, by rw [readN_none hac, hk], ?_, ?_, ?_, ?_⟩, g03.less x.nn⟩
      · simp only [bodyAs, part, Tryd.f17, sub, symM, opFn, Nat.reduceLT, Nat.reduceBEq, g22, g23, g24, bin_lss, hlt, e1, e2, evCall_fn ft12 rfl, c1, hal, s1, bin_neq, show (!((14 : Int) == 0)) = true from rfl, bin_add, hw1]
        rfl
      · simp only [symM, Nat.reduceBEq]
      · simp only [symM, Nat.reduceBEq]
      · simp only [symM]
    | some a =>
      rw [hac] at c1 s1 lw da
      simp only [Option.getD_some, Option.isSome_some, if_true] at c1 s1 lw da
      have x3 := x.grow g03
      obtain ⟨v4, h4, a1, x4, g4⟩ := x3.put a d (da.grow g23') (by omega) 34
      have gg : Grow n h h4 := (g03.less x.nn).trans g4 (Nat.le_refl _)
      rw [readN_some hac]
      simp only [bodyAs, part, Tryd.f17, sub, symM, opFn, Nat.reduceLT, Nat.reduceBEq, g7, g22, g23, g24, bin_lss, hlt, e1, e2, evCall_fn ft12 rfl, c1, hal, s1, bin_neq, show (!((0 : Int) == 0)) = false from rfl, lw, bs_act, a1, bin_add, hw1]
      have hm : LL.map (·.1) ++ [a] = (LL ++ [(a, d)]).map (·.1) := by rw [List.map_append]; rfl
      rw [hm]
      exact growOr2 gg (ih (i + 1) (LL ++ [(a, d)]) v4 _ h4 (N + 59) hnext (by omega) (by omega) (by rw [List.length_append, hLL]; rfl) (by simp only [symM, Nat.reduceBEq, g5]) (by simp only [symM, Nat.reduceBEq, g6]) (by simp only [symM, Nat.reduceBEq]) (by simp only [symM, Nat.reduceBEq, g22]) (by simp only [symM, Nat.reduceBEq, g23]) get_same (hr.grow gg (Nat.le_refl _)) x4 (fun q => absurd q (by simp)))
abbrev ActsC (call : Abs.Callee) (f M : Nat) : Prop := ∀ (s : List UInt8) (h : AH), s.length ≤ M → Glob h → 4 ≤ h.next → ∃ (v : Value) (LL : AL) (h' : AH), call f [sv s] h = some (.tuple #[v, iv (actsL s).2.1, iv (actsL s).2.2], h') ∧ Grow h.next h h' ∧ LL.map (·.1) = (actsL s).1 ∧ ActsR h'.next h' v LL ∧ DatsR h'.next h' LL
theorem concat_of {α : Type} : ∀ (l : List α), l ≠ [] → ∃ ini la, l = ini ++ [la] := by
  intro l h
  exact ⟨l.dropLast, l.getLast h, (List.dropLast_concat_getLast h).symm⟩
theorem Acts_S (hL : LibC call) (M : Nat) (hM : M < 1000000000) (hA : ActC call 12 M) (hC : ClipC call) (s : List UInt8) (h : AH) (hs : s.length ≤ M) (hg : Glob h) (h4 : 4 ≤ h.next) :
    ∃ (v : Value) (LL : AL) (h' : AH), frameB T0 X0 call (M + 3000) 17 [sv s] h = some (.tuple #[v, iv (actsL s).2.1, iv (actsL s).2.2], h') ∧ Grow h.next h h' ∧ LL.map (·.1) = (actsL s).1 ∧ ActsR h'.next h' v LL ∧ DatsR h'.next h' LL := by
  by_cases hbig : 65536 < s.length
  · have hR : actsL s = ([], 0, 11) := by unfold actsL; rw [if_pos hbig]
    rw [hR]
    refine ⟨nilV, [], h, ?_, Grow.refl _ _, rfl, .inl ⟨rfl, rfl⟩, fun x hx => by cases hx⟩
    rw [frameB_eq ft17 rfl rfl]
    simp only [Tryd.f17, symM, opFn, Nat.reduceLT, Nat.reduceBEq, len_str, bin_gtr, decide_eq_true (show (65536 : Int) < ((s.length : Nat) : Int) by omega)]
    exact retB_three ft17 rfl (by simp only [symM, Nat.reduceBEq]) (by simp only [symM, Nat.reduceBEq]) (by simp only [symM])
  · have hsp := Split_S hL 10 s h hg (by omega)
    have hrw := split_row (splitA 10 [] s) h
    have g1 : Grow h.next h (h.new (.cells (PM.ofList (strsV (splitA 10 [] s))) (splitA 10 [] s).length 9 0 0 .ex)) := Grow.new _ _
    have n1 : (h.new (.cells (PM.ofList (strsV (splitA 10 [] s))) (splitA 10 [] s).length 9 0 0 .ex)).next = h.next + 1 := rfl
    have hget : (h.new (.cells (PM.ofList (strsV (splitA 10 [] s))) (splitA 10 [] s).length 9 0 0 .ex)).get h.next = some (.cells (PM.ofList (strsV (splitA 10 [] s))) (splitA 10 [] s).length 9 0 0 .ex) := get_new_same _ _
    generalize h.new (.cells (PM.ofList (strsV (splitA 10 [] s))) (splitA 10 [] s).length 9 0 0 .ex) = h1 at hsp hrw g1 n1 hget
    have hwl : ∀ w ∈ splitA 10 [] s, w.length ≤ M := fun w hw => Nat.le_trans (splitA_mem 10 s [] w hw) (by simpa using hs)
    have hWn := splitA_len 10 s []
    have hcn : s.count 10 ≤ s.length := List.count_le_length
    obtain ⟨ini, la, e⟩ := concat_of (splitA 10 [] s) (splitA_ne 10 s [])
    have hR : actsL s = match readN ini [] with
        | .inr k => ([], k, 14)
        | .inl l => if la = [] then (l, 0, 0) else ([], l.length + 1, 14) := by
      unfold actsL
      rw [if_neg hbig, e, List.dropLast_concat, List.getLast?_concat]
      rfl
    have hKl : (splitA 10 [] s).length = ini.length + 1 := by rw [e, List.length_append]; rfl
    have hrwI : Row h1.next h1 (.slice (some ⟨h.next, 0, none⟩) ini.length (splitA 10 [] s).length) (strsV ini) 9 :=
      .inr ⟨h.next, 0, (splitA 10 [] s).length, _, (splitA 10 [] s).length, _, _, .ex, 9, by rw [List.length_map], by omega, hget, by rw [List.length_map]; omega, fun i x hi => by
        rw [Nat.zero_add, PM.get_ofList, e]
        have hlt := (List.getElem?_eq_some_iff.1 hi).1
        rw [show strsV (ini ++ [la]) = strsV ini ++ [sv la] from by unfold strsV; simp, List.getElem?_append_left hlt]; exact hi⟩
    have hcut := cut_strs (b := h.next) (cap := (splitA 10 [] s).length) (j := ini.length) (by rw [XB_val]; omega) (by omega) (h := h1)
    have hln1 := fun ty => strs_len (h' := h1) hrw ty
    have hln2 := fun ty => strs_len (h' := h1) hrwI ty
    generalize (Value.slice (some ⟨h.next, 0, none⟩) ini.length (splitA 10 [] s).length) = vC at hrwI hcut hln2
    generalize (Value.slice (some ⟨h.next, 0, none⟩) (splitA 10 [] s).length (splitA 10 [] s).length) = vS at hsp hrw hcut hln1
    rw [e] at hrw hwl
    have hsub : IntKind.i64.wrap (((splitA 10 [] s).length : Int) - 1) = ((ini.length : Nat) : Int) := by rw [hKl, w64 (by omega)]; omega
    have hrw1 : Row h1.next h1 vS (strsV (ini ++ [la])) 9 := hrw.wide (by omega)
    have x1 : ListO h1.next h1 nilV [] := ⟨by omega, Nat.le_refl _, hg.grow g1 h4, .inl ⟨rfl, rfl, rfl⟩, fun x hx => by cases hx⟩
    have hw1 := wadd1 (a := ini.length) (by omega)
    rw [frameB_eq ft17 rfl rfl]
    simp only [Tryd.f17, symM, opFn, Nat.reduceLT, Nat.reduceBEq, len_str, bin_gtr, decide_eq_false (show ¬ (65536 : Int) < ((s.length : Nat) : Int) by omega), evCall_fn ft26 rfl, hsp, hln1, bin_sub, hsub, ev3, evOpt, hcut, hln2]
    refine bind_loopJ (b := bodyAs) (Q := fun co => ∃ tm' h', ((∃ LL' v', readN ini [] = .inl (LL'.map (·.1)) ∧ co = .jump (.exit 0) tm' h' [] ∧ tm'.get 5 = some vS ∧ tm'.get 6 = some (iv ini.length) ∧ tm'.get 7 = some v' ∧ ListO h1.next h' v' LL' ∧ (LL' = [] → v' = nilV) ∧ LL'.length = ini.length) ∨
        (∃ k : Nat, readN ini [] = .inr k ∧ co = .jump .ret tm' h' [] ∧ tm'.get 2 = some nilV ∧ tm'.get 3 = some (iv k) ∧ tm'.get 4 = some (iv 14))) ∧ Grow h1.next h1 h')
      (P := fun co => ∃ (v : Value) (LL : AL) (h' : AH), endF T0 17 co = some (.tuple #[v, iv (actsL s).2.1, iv (actsL s).2.2], h') ∧ Grow h.next h h' ∧ LL.map (·.1) = (actsL s).1 ∧ ActsR h'.next h' v LL ∧ DatsR h'.next h' LL) ?_ ?_
    · exact actsLp M hA h1.next vS vC ini (by omega) (fun w hw => hwl w (List.mem_append_left _ hw)) ini 0 [] nilV _ h1 _ rfl (Nat.zero_add _) (by omega) rfl (by simp only [symM, Nat.reduceBEq]) (by simp only [symM, Nat.reduceBEq]) (by simp only [symM, Nat.reduceBEq]) (by simp only [symM, Nat.reduceBEq]) (by simp only [symM, Nat.reduceBEq]) get_same hrwI x1 (fun _ => rfl)
    · rintro co ⟨tm', h2, ho, g⟩
      have g2 : Grow h.next h h2 := g1.trans (g.less (by omega)) (Nat.le_refl _)
      rw [hR]
      rcases ho with ⟨LL', v', hrd, rfl, t5, t6, t7, x, h0, hll⟩ | ⟨k, hrd, rfl, t2, t3, t4⟩
      · rw [hrd]
        obtain ⟨q, e1, e2⟩ := strs_at (hrw1.grow g (Nat.le_refl _)) (i := ini.length) (w := la) (by simp)
        by_cases hla : la = []
        · simp only [if_pos hla]
          have hb : (la == []) = true := by simp [hla]
          obtain ⟨v2, c1, c2⟩ := hC _ h2 v' LL' x.own h0 (by omega)
          refine ⟨v2, LL', h2, ?_, g2, rfl, c2, x.row.2⟩
          simp only [symM, opFn, Nat.reduceLT, Nat.reduceBEq, symL, t5, t6, t7, e1, e2, bin_sneq, hb, evCall_fn ft35 rfl, c1]
          exact retB_three ft17 rfl (by simp only [symM, Nat.reduceBEq]) (by simp only [symM, Nat.reduceBEq]) (by simp only [symM])
        · simp only [if_neg hla]
          have hb : (la == []) = false := by simpa using hla
          refine ⟨nilV, [], h2, ?_, g2, rfl, .inl ⟨rfl, rfl⟩, fun x hx => by cases hx⟩
          rw [List.length_map, hll]
          simp only [symM, opFn, Nat.reduceLT, Nat.reduceBEq, symL, t5, t6, e1, e2, bin_sneq, hb, bin_add, hw1]
          exact retB_three ft17 rfl (by simp only [symM, Nat.reduceBEq]) (by simp only [symM, Nat.reduceBEq]; rfl) (by simp only [symM])
      · rw [hrd]
        refine ⟨nilV, [], h2, ?_, g2, rfl, .inl ⟨rfl, rfl⟩, fun x hx => by cases hx⟩
        simp only [symM]
        exact retB_three ft17 rfl t2 t3 t4
end
end Go.Proofs.YtknchhnibjfocaaDoor.Abs
namespace Go.Proofs.YtknchhnibjfocaaDoor.Abs
open Go Go.Proofs
noncomputable section
variable {call : Abs.Callee}
set_option maxRecDepth 10000
theorem splitA_nil (c : UInt8) (cur : List UInt8) : splitA c cur [] = [cur] := rfl
theorem splitA_hit (c : UInt8) (cur l : List UInt8) : splitA c cur (c :: l) = cur :: splitA c [] l := by rw [splitA, if_pos rfl]
theorem splitA_miss {c x : UInt8} (cur l : List UInt8) (h : x ≠ c) : splitA c cur (x :: l) = splitA c (cur ++ [x]) l := by rw [splitA, if_neg h]
theorem dropLast_cons {α : Type} {a : α} {l : List α} (h : l ≠ []) : (a :: l).dropLast = a :: l.dropLast := by
  cases l with
  | nil => exact absurd rfl h
  | cons b l => rfl
noncomputable def bodyRQ : Code := part Tryd.f18 [1, 1, 1, 1, 0, 1, 0, 0]
abbrev ERQ : Env := ⟨18, 52, none⟩
theorem ractsLp (M : Nat) (hA : ActC call 13 M) (n : Nat) (S : List UInt8) (hS : S.length ≤ M) (hM : M < 1000000000) :
    ∀ (l cur : List UInt8) (i fr : Nat) (LL : AL) (v : Value) (tm : PM Value) (h : AH) (N : Nat), S.drop i = l → i + l.length = S.length → l.length + 60 ≤ N → fr ≤ i → (S.take i).drop fr = cur → LL.length ≤ i → tm.get 0 = some (sv S) → tm.get 5 = some v → tm.get 6 = some (iv fr) → tm.get 7 = some (iv i) →
      ListO n h v LL →
      ∃ tm' h', ((∃ LL' v' fr', readN (splitA 10 cur l).dropLast (LL.map (·.1)) = .inl (LL'.map (·.1)) ∧ codeB T0 X0 call N ERQ (.loop bodyRQ) tm h [] = .jump (.exit 0) tm' h' [] ∧ tm'.get 0 = some (sv S) ∧ tm'.get 5 = some v' ∧ tm'.get 6 = some (iv (fr' : Nat)) ∧ ListO n h' v' LL' ∧ (fr' < S.length ↔ (splitA 10 cur l).getLast?.getD [] ≠ []) ∧ LL'.length ≤ S.length) ∨
        (∃ k : Nat, readN (splitA 10 cur l).dropLast (LL.map (·.1)) = .inr k ∧ codeB T0 X0 call N ERQ (.loop bodyRQ) tm h [] = .jump .ret tm' h' [] ∧ tm'.get 2 = some nilV ∧ tm'.get 3 = some (iv k) ∧ tm'.get 4 = some (iv 14))) ∧ Grow n h h' := by
  intro l
  induction l with
  | nil =>
    intro cur i fr LL v tm h N hd hi hN hf hc hLL g0 g5 g6 g7 x
    obtain ⟨N, rfl⟩ : ∃ a, N = a + 60 := ⟨N - 60, by omega⟩
    have hiL : i = S.length := by simpa using hi
    have hcl : cur.length = i - fr := by rw [← hc, List.length_drop, List.length_take]; omega
    rw [splitA_nil]
    apply Exists.intro; apply Exists.intro
    refine ⟨.inl ⟨LL, v, fr, rfl, ?_, ?_, ?_, ?_, x, ?_, by omega⟩, Grow.refl _ _⟩
    · rw [codeB_loop]
      simp only [bodyRQ, part, Tryd.f18, sub, symM, opFn, Nat.reduceLT, Nat.reduceBEq, g0, g7, len_str, bin_lss, decide_eq_false (show ¬ ((i : Nat) : Int) < (S.length : Nat) by omega)]
      rfl
    · simp only [symM, Nat.reduceBEq, g0]
    · simp only [symM, Nat.reduceBEq, g5]
    · simp only [symM, Nat.reduceBEq, g6]
    · show fr < S.length ↔ cur ≠ []
      rw [← List.length_pos_iff, hcl]; omega
  | cons b l ih =>
    intro cur i fr LL v tm h N hd hi hN hf hc hLL g0 g5 g6 g7 x
    obtain ⟨N, rfl⟩ : ∃ a, N = a + 60 := ⟨N - 60, by omega⟩
    simp only [List.length_cons] at hi hN
    have hlt : decide ((i : Int) < (S.length : Nat)) = true := decide_eq_true (by omega)
    have ix := idx_str (byteAt hd)
    have hw1 := wadd1 (a := i) (by omega)
    have hnext : S.drop (i + 1) = l := by rw [← List.drop_drop, hd]; rfl
    have h10 : ((b.toNat : Int) == 10) = decide (b = 10) := beq_u8 (k := 10) (by decide)
    have htk := takeSucc hd
    rw [show N + 60 = (N + 59) + 1 from rfl, codeB_loop]
    by_cases hb : b = 10
    · subst hb
      have h10 : (((10 : UInt8).toNat : Int) == 10) = true := rfl
      rw [splitA_hit, dropLast_cons (splitA_ne 10 l [])]
      have hlast : (cur :: splitA 10 [] l).getLast?.getD [] = (splitA 10 [] l).getLast?.getD [] := by
        cases hq : splitA 10 [] l with
        | nil => exact absurd hq (splitA_ne 10 l [])
        | cons y z => rfl
      rw [hlast]
      have hsl := slice_str (l := S) (a := fr) (b := i) (h := h) hf (by omega)
      rw [hc] at hsl
      have hcl : cur.length ≤ M := by rw [← hc, List.length_drop, List.length_take]; omega
      obtain ⟨d, h1, c1, g1, da⟩ := hA cur h hcl x.gl (Nat.le_trans x.n4 x.nn)
      generalize hh2 : h1.new (.cells (PM.ofList (cellsA zeroA nilV)) 6 24 0 0 .ex) = h2
      have n2 : h2.next = h1.next + 1 := by rw [← hh2]; rfl
      have g2 : Grow h1.next h1 h2 := by rw [← hh2]; exact Grow.new _ _
      have hal : evAlloc T0 24 h1 = some (ptr h1.next, h2) := by rw [← hh2]; exact alloc_A
      have b2 : BoxL h2 h1.next 24 (cellsA zeroA nilV) := by rw [← hh2]; exact BoxL.new h1 _ _
      obtain ⟨h3, s1, s2, s3, s4, _⟩ := b2.storeA (n := h1.next) (a := (actA cur).getD zeroA) (d := d) (cellsA_len _ _) da.row.one.1 (Nat.le_refl _)
      have g23' : Grow h1.next h1 h3 := g2.trans s3 (Nat.le_refl _)
      have g03 : Grow h.next h h3 := g1.trans g23' g1.next
      have lw := loadW_A s2
      have x3 := x.grow g03
      have hln := fun ty => x3.own.acts.len (h' := h3) ty
      cases hac : actA cur with
      | none =>
        rw [hac] at c1 s1
        simp only [Option.getD_none, Option.isSome_none, Bool.false_eq_true, if_false] at c1 s1
        have hk : (LL.map (·.1)).length + 1 = LL.length + 1 := by rw [List.length_map]
        have hw2 := wadd1 (a := LL.length) (by omega)
        apply Exists.intro; apply Exists.intro
        refine ⟨.inr ⟨LL.length + 1, by rw [readN_none hac, hk], ?_, ?_, ?_, ?_⟩, g03.less x.nn⟩
        · simp only [bodyRQ, part, Tryd.f18, sub, symM, opFn, Nat.reduceLT, Nat.reduceBEq, g0, g5, g6, g7, len_str, bin_lss, hlt, ix, bin_neq, h10, ev3, evOpt, hsl, evCall_fn ft13 rfl, c1, hal, s1, show (!((14 : Int) == 0)) = true from rfl, hln, bin_add, hw2]
          rfl
        · simp only [symM, Nat.reduceBEq]
        · simp only [symM, Nat.reduceBEq]
        · simp only [symM]
      | some a =>
        rw [hac] at c1 s1 lw da
        simp only [Option.getD_some, Option.isSome_some, if_true] at c1 s1 lw da
        obtain ⟨v4, h4, a1, x4, g4⟩ := x3.put a d (da.grow g23') (by omega) 34
        have gg : Grow n h h4 := (g03.less x.nn).trans g4 (Nat.le_refl _)
        rw [readN_some hac]
        have hm : LL.map (·.1) ++ [a] = (LL ++ [(a, d)]).map (·.1) := by rw [List.map_append]; rfl
        rw [hm]
        simp only [bodyRQ, part, Tryd.f18, sub, symM, opFn, Nat.reduceLT, Nat.reduceBEq, g0, g5, g6, g7, len_str, bin_lss, hlt, ix, bin_neq, h10, ev3, evOpt, hsl, evCall_fn ft13 rfl, c1, hal, s1, show (!((0 : Int) == 0)) = false from rfl, lw, bs_act, a1, bin_add, hw1]
        exact growOr2 gg (ih [] (i + 1) (i + 1) (LL ++ [(a, d)]) v4 _ h4 (N + 59) hnext (by omega) (by omega) (Nat.le_refl _) (by simp) (by rw [List.length_append]; simp only [List.length_cons, List.length_nil]; omega) (by simp only [symM, Nat.reduceBEq, g0]) (by simp only [symM, Nat.reduceBEq]) (by simp only [symM, Nat.reduceBEq]) get_same x4)
    · rw [decide_eq_false hb] at h10
      rw [splitA_miss cur l hb]
      simp only [bodyRQ, part, Tryd.f18, sub, symM, opFn, Nat.reduceLT, Nat.reduceBEq, symL, g0, g7, len_str, bin_lss, hlt, ix, bin_neq, h10, bin_add, hw1]
      exact ih (cur ++ [b]) (i + 1) fr LL v _ h (N + 59) hnext (by omega) (by omega) (by omega) (by rw [htk, List.drop_append_of_le_length (by rw [List.length_take]; omega), hc]) (by omega) (by simp only [symM, Nat.reduceBEq, g0]) (by simp only [symM, Nat.reduceBEq, g5]) (by simp only [symM, Nat.reduceBEq, g6]) get_same x
theorem rActs_S (M : Nat) (hM : M < 1000000000) (hA : ActC call 13 M) (s : List UInt8) (h : AH) (hs : s.length ≤ M) (hg : Glob h) (h4 : 4 ≤ h.next) :
    ∃ (v : Value) (LL : AL) (h' : AH), frameB T0 X0 call (M + 3000) 18 [sv s] h = some (.tuple #[v, iv (actsL s).2.1, iv (actsL s).2.2], h') ∧ Grow h.next h h' ∧ LL.map (·.1) = (actsL s).1 ∧ ActsR h'.next h' v LL ∧ DatsR h'.next h' LL := by
  by_cases hbig : 65536 < s.length
  · have hR : actsL s = ([], 0, 11) := by unfold actsL; rw [if_pos hbig]
    rw [hR]
    refine ⟨nilV, [], h, ?_, Grow.refl _ _, rfl, .inl ⟨rfl, rfl⟩, fun x hx => by cases hx⟩
    rw [frameB_eq ft18 rfl rfl]
    simp only [Tryd.f18, symM, opFn, Nat.reduceLT, Nat.reduceBEq, len_str, bin_gtr, decide_eq_true (show (65536 : Int) < ((s.length : Nat) : Int) by omega)]
    exact retB_three ft18 rfl (by simp only [symM, Nat.reduceBEq]) (by simp only [symM, Nat.reduceBEq]) (by simp only [symM])
  · have hR : actsL s = match readN (splitA 10 [] s).dropLast [] with
        | .inr k => ([], k, 14)
        | .inl l => if (splitA 10 [] s).getLast?.getD [] = [] then (l, 0, 0) else ([], l.length + 1, 14) := by
      unfold actsL
      rw [if_neg hbig]
      all_goals rfl
    generalize hh1 : h.new (.cells (PM.ofList []) 0 24 0 0 .ex) = h1
    have g1 : Grow h.next h h1 := by rw [← hh1]; exact Grow.new _ _
    have n1 : h1.next = h.next + 1 := by rw [← hh1]; rfl
    have hbs : evBuildSlice T0 34 0 [] h = some (.slice (some ⟨h.next, 0, none⟩) 0 0, h1) := by rw [← hh1]; exact bs_act0
    have ho : OwnC 6 h.next h1 (.slice (some ⟨h.next, 0, none⟩) 0 0) ([] : AL).length (flatA []) 24 := by
      rw [← hh1]
      exact .inr ⟨h.next, _, .ex, 0, Nat.le_refl _, Nat.lt_succ_self _, rfl, get_new_same _ _, rfl, fun i x hi => by simp [flatA] at hi, .inl ⟨rfl, rfl⟩⟩
    have x1 : ListO h.next h1 (.slice (some ⟨h.next, 0, none⟩) 0 0) [] := ⟨h4, by omega, hg.grow g1 h4, ho, fun x hx => by cases hx⟩
    rw [frameB_eq ft18 rfl rfl]
    simp only [Tryd.f18, symM, opFn, Nat.reduceLT, Nat.reduceBEq, len_str, bin_gtr, decide_eq_false (show ¬ (65536 : Int) < ((s.length : Nat) : Int) by omega), hbs]
    refine bind_loopJ (b := bodyRQ) (Q := fun co => ∃ tm' h', ((∃ LL' v' fr', readN (splitA 10 [] s).dropLast [] = .inl (LL'.map (·.1)) ∧ co = .jump (.exit 0) tm' h' [] ∧ tm'.get 0 = some (sv s) ∧ tm'.get 5 = some v' ∧ tm'.get 6 = some (iv (fr' : Nat)) ∧ ListO h.next h' v' LL' ∧ (fr' < s.length ↔ (splitA 10 [] s).getLast?.getD [] ≠ []) ∧ LL'.length ≤ s.length) ∨
        (∃ k : Nat, readN (splitA 10 [] s).dropLast [] = .inr k ∧ co = .jump .ret tm' h' [] ∧ tm'.get 2 = some nilV ∧ tm'.get 3 = some (iv k) ∧ tm'.get 4 = some (iv 14))) ∧ Grow h.next h1 h')
      (P := fun co => ∃ (v : Value) (LL : AL) (h' : AH), endF T0 18 co = some (.tuple #[v, iv (actsL s).2.1, iv (actsL s).2.2], h') ∧ Grow h.next h h' ∧ LL.map (·.1) = (actsL s).1 ∧ ActsR h'.next h' v LL ∧ DatsR h'.next h' LL) ?_ ?_
    · exact ractsLp M hA h.next s hs hM s [] 0 0 [] _ _ h1 _ rfl (Nat.zero_add _) (by omega) (Nat.le_refl _) rfl (Nat.le_refl _) (by simp only [symM, Nat.reduceBEq]) (by simp only [symM, Nat.reduceBEq]) (by simp only [symM, Nat.reduceBEq]; rfl) get_same x1
    · rintro co ⟨tm', h2, ho, g⟩
      have g2 : Grow h.next h h2 := g1.trans g (Nat.le_refl _)
      rw [hR]
      rcases ho with ⟨LL', v', fr', hrd, rfl, t0, t5, t6, x, hfr, hll⟩ | ⟨k, hrd, rfl, t2, t3, t4⟩
      · rw [hrd]
        by_cases hla : (splitA 10 [] s).getLast?.getD [] = []
        · simp only [if_pos hla]
          have hnf : ¬ fr' < s.length := fun q => (hfr.1 q) hla
          refine ⟨v', LL', h2, ?_, g2, rfl, x.row.1, x.row.2⟩
          simp only [symM, opFn, Nat.reduceLT, Nat.reduceBEq, symL, t0, t5, t6, len_str, bin_lss, decide_eq_false (show ¬ ((fr' : Nat) : Int) < ((s.length : Nat) : Int) by omega)]
          exact retB_three ft18 rfl (by simp only [symM, Nat.reduceBEq]) (by simp only [symM, Nat.reduceBEq]) (by simp only [symM])
        · simp only [if_neg hla]
          have hnf : fr' < s.length := hfr.2 hla
          have hln := fun ty => x.own.acts.len (h' := h2) ty
          have hw1 := wadd1 (a := LL'.length) (by omega)
          refine ⟨nilV, [], h2, ?_, g2, rfl, .inl ⟨rfl, rfl⟩, fun x hx => by cases hx⟩
          rw [List.length_map]
          simp only [symM, opFn, Nat.reduceLT, Nat.reduceBEq, symL, t0, t5, t6, len_str, bin_lss, decide_eq_true (show ((fr' : Nat) : Int) < ((s.length : Nat) : Int) by omega), hln, bin_add, hw1]
          exact retB_three ft18 rfl (by simp only [symM, Nat.reduceBEq]) (by simp only [symM, Nat.reduceBEq]; rfl) (by simp only [symM])
      · rw [hrd]
        refine ⟨nilV, [], h2, ?_, g2, rfl, .inl ⟨rfl, rfl⟩, fun x hx => by cases hx⟩
        simp only [symM]
        exact retB_three ft18 rfl t2 t3 t4
end
end Go.Proofs.YtknchhnibjfocaaDoor.Abs
