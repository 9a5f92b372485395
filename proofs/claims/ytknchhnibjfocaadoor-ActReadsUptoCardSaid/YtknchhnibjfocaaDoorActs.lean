/- Acts: what a line says. -/
import Derived.Test.YtknchhnibjfocaaDoorLines
namespace Go.Proofs.YtknchhnibjfocaaDoor.Abs
open Go Go.Proofs
noncomputable section
variable {call : Abs.Callee}
set_option maxRecDepth 10000

theorem ft12 : T0.ft.get 12 = some Tryd.f12 := by kernel_rfl
theorem ft13 : T0.ft.get 13 = some Tryd.f13 := by kernel_rfl
def zeroA : ActD := ⟨[], [], [], 0, 0, []⟩
def numL (w : List UInt8) : Option Int := match Lib.atoiAll w with
  | .ok v => if Lib.itoa v = w then some v else none
  | _ => none
theorem numL_some {w : List UInt8} {v : Int} (h : numL w = some v) : I64 v ∧ Lib.itoa v = w := by
  unfold numL at h
  split at h
  · rename_i v' e
    split at h
    · rename_i e2; cases h; exact ⟨atoi_rng e, e2⟩
    · cases h
  · cases h
theorem numL_itoa {v : Int} (hv : I64 v) : numL (Lib.itoa v) = some v := by
  unfold numL
  rw [atoi_itoa hv.1 hv.2]
  simp
theorem numL_of {w : List UInt8} {v : Int} {b : Bool} (hv : I64 v) (h1 : b = true → Lib.itoa v = w) (h2 : isNum w → b = true) : (b = true ∧ numL w = some v) ∨ (b = false ∧ numL w = none) := by
  cases b with
  | true => exact .inl ⟨rfl, by rw [← h1 rfl]; exact numL_itoa hv⟩
  | false =>
    refine .inr ⟨rfl, ?_⟩
    cases e : numL w with
    | none => rfl
    | some u => exact absurd (h2 ⟨u, (numL_some e).1, (numL_some e).2⟩) (by simp)
def wordOf (w : List UInt8) : Option (List UInt8) := if (textL w).2 = true then some (textL w).1 else none
def setA (c : UInt8) (w : List UInt8) (r : ActD) : Option ActD := if c = 112 then (wordOf w).map fun s => { r with path := s } else if c = 111 then (wordOf w).map fun s => { r with other := s } else if c = 110 then (numL w).map fun v => { r with n := v } else if c = 109 then (numL w).map fun v => { r with m := v } else (wordOf w).map fun s => { r with data := s }
def readA : List UInt8 → List (List UInt8) → Option ActD → Option ActD
  | c :: P, w :: W, o => readA P W (o.bind (setA c w))
  | _, _, o => o
def actR (w0 : List UInt8) (ws : List (List UInt8)) : Option ActD := match partsOf w0 with
  | none => none
  | some P => if ws.length = P.length then readA P ws (some { zeroA with verb := w0 }) else none
def actA (line : List UInt8) : Option ActD := match splitA 32 [] line with
  | [] => none
  | w0 :: ws => actR w0 ws
/-- The bytes of an act. -/
def DatA (h : AH) (d : Value) (l : List UInt8) : Prop := (d = nilV ∧ l = []) ∨ ∃ b c cap lo hi kd, b < h.next ∧ d = .slice (some ⟨b, 0, none⟩) l.length cap ∧ h.get b = some (.cells c l.length 5 lo hi kd) ∧ ∀ (i : Nat) (x : Value), (byteVals l)[i]? = some x → c.get i = some x
theorem DatA.row {h : AH} {d : Value} {l : List UInt8} (hd : DatA h d l) : Row h.next h d (byteVals l) 5 := by
  rcases hd with ⟨rfl, rfl⟩ | ⟨b, c, cap, lo, hi, kd, h1, rfl, h3, h4⟩
  · exact .inl ⟨rfl, rfl⟩
  · exact .inr ⟨b, 0, cap, c, l.length, lo, hi, kd, 5, by rw [byteVals_len], h1, h3, by rw [byteVals_len]; omega, fun i x hx => by rw [Nat.zero_add]; exact h4 i x hx⟩
theorem DatA.grow {h h' : AH} {d : Value} {l : List UInt8} (hd : DatA h d l) (g : Grow h.next h h') : DatA h' d l := by
  rcases hd with h1 | ⟨b, c, cap, lo, hi, kd, h1, h2, h3, h4⟩
  · exact .inl h1
  · exact .inr ⟨b, c, cap, lo, hi, kd, Nat.lt_of_lt_of_le h1 g.next, h2, (g.keep b h1).trans h3, h4⟩
theorem DatA.away {h h' : AH} {d : Value} {l : List UInt8} {b : Nat} (hd : DatA h d l) (hb : ∀ c m lo hi kd, h.get b ≠ some (.cells c m 5 lo hi kd)) (hn : h.next ≤ h'.next) (hg : ∀ k, k ≠ b → h'.get k = h.get k) : DatA h' d l := by
  rcases hd with h1 | ⟨b2, c, cap, lo, hi, kd, h1, h2, h3, h4⟩
  · exact .inl h1
  · have hne : b2 ≠ b := by intro e; subst e; exact hb _ _ _ _ _ h3
    exact .inr ⟨b2, c, cap, lo, hi, kd, Nat.lt_of_lt_of_le h1 hn, h2, (hg b2 hne).trans h3, h4⟩
theorem DatA.nil {h : AH} : DatA h nilV [] := .inl ⟨rfl, rfl⟩
theorem DatA.bytes (l : List UInt8) (h : AH) : DatA (h.new (.cells (PM.ofList (byteVals l)) l.length 5 l.length (l.length + 1) .loose)) (.slice (some ⟨h.next, 0, none⟩) l.length (XB + l.length)) l :=
  .inr ⟨h.next, _, _, _, _, _, Nat.lt_succ_self _, rfl, get_new_same _ _, fun i x hi => by rw [PM.get_ofList]; exact hi⟩
theorem build_A0 {h : AH} : evBuild T0 24 [] h = some (actV zeroA nilV, h) := by
  kernel_rfl
theorem build_A1 {w : List UInt8} {h : AH} : evBuild T0 24 [(0, sv w)] h = some (actV { zeroA with verb := w } nilV, h) := by
  kernel_rfl
abbrev TextC (call : Abs.Callee) (f M : Nat) : Prop := ∀ (l : List UInt8) (h : AH), l.length ≤ M → ∃ h', call f [sv l] h = some (.tuple #[sv (textL l).1, .bool (textL l).2], h') ∧ Grow h.next h h'
abbrev ActC (call : Abs.Callee) (f M : Nat) : Prop := ∀ (l : List UInt8) (h : AH), l.length ≤ M → Glob h → 4 ≤ h.next → ∃ d h', call f [sv l] h = some (.tuple #[actV ((actA l).getD zeroA) d, iv (if (actA l).isSome then 0 else 14)], h') ∧ Grow h.next h h' ∧ DatA h' d ((actA l).getD zeroA).data
end
end Go.Proofs.YtknchhnibjfocaaDoor.Abs
namespace Go.Proofs.YtknchhnibjfocaaDoor.Abs
open Go Go.Proofs
noncomputable section
variable {call : Abs.Callee}
set_option maxRecDepth 10000

theorem BoxL.storeA {n : Nat} {h : AH} {b : Nat} {l : List Value} {a : ActD} {d : Value} (hb : BoxL h b 24 l) (hl : l.length = 6) (hd : oneCell d = true) (hn : n ≤ b) :
    ∃ h', evStore T0 24 (ptr b) (actV a d) h = some h' ∧ BoxL h' b 24 (cellsA a d) ∧ Grow n h h' ∧ h'.next = h.next ∧ ∀ k, k ≠ b → h'.get k = h.get k := by
  have hall : (cellsA a d).all oneCell = true := by show (true && (true && (true && (true && (true && (oneCell d && true)))))) = true; rw [hd]; rfl
  obtain ⟨h', e1, e2, e3, e4⟩ := hb.store (n := n) (t := 24) (o := 0) (ws := cellsA a d) (v := actV a d) sz_act (by unfold actV; rfl) (by simp [cellsA]) hall (by rw [cellsA_len, hl]; decide) hn
  have e2 : BoxL h' b 24 (cellsA a d) := by
    have : l.take 0 ++ cellsA a d ++ l.drop (0 + (cellsA a d).length) = cellsA a d := by rw [cellsA_len, List.drop_of_length_le (by omega)]; simp
    rwa [this] at e2
  refine ⟨h', e1, e2, e3, e4, ?_⟩
  intro k hk
  obtain ⟨c, q1, q2⟩ := hb
  have hcl : (actV a d).cells.toList = cellsA a d := by unfold actV; rfl
  simp only [evStore, storeVarA, sz_act, hcl] at e1
  rw [cellsA_len, show Nat.beq 6 6 = true from rfl, ifB_true] at e1
  rw [show cellsA a d = sv a.verb :: [sv a.path, sv a.other, iv a.n, iv a.m, d] from rfl] at e1
  simp only [storeRow, q1] at e1
  obtain ⟨_, e5⟩ := ifB_some e1
  rw [← Option.some.inj e5, AH.get_set, if_neg hk]
structure ActJ (n : Nat) (h : AH) (b7 : Nat) (vW : Value) (W : List (List UInt8)) (r : ActD) (dv : Value) : Prop where
  n4 : 4 ≤ n
  l7 : n ≤ b7 ∧ b7 < h.next
  nn : n ≤ h.next
  gl : Glob h
  rx : BoxL h b7 24 (cellsA r dv)
  row : Row n h vW (strsV W) 9
  dat : DatA h dv r.data
theorem ActJ.grow {n : Nat} {h h' : AH} {b7 : Nat} {vW dv : Value} {W : List (List UInt8)} {r : ActD} (x : ActJ n h b7 vW W r dv) (g : Grow h.next h h') : ActJ n h' b7 vW W r dv :=
  ⟨x.n4, ⟨x.l7.1, Nat.lt_of_lt_of_le x.l7.2 g.next⟩, Nat.le_trans x.nn g.next, x.gl.grow g (Nat.le_trans x.n4 x.nn), x.rx.grow g x.l7.2, x.row.grow g x.nn, x.dat.grow g⟩
theorem ActJ.step {n : Nat} {h : AH} {b7 bi : Nat} {vW dv : Value} {W : List (List UInt8)} {r : ActD} {P : ByteArray} {i : Nat} (x : ActJ n h b7 vW W r dv) (hb : n ≤ bi) (it : h.get bi = some (.str P i)) (j : Nat) : ActJ n (h.set bi (.str P j)) b7 vW W r dv ∧ Grow n h (h.set bi (.str P j)) := by
  have g : Grow n h (h.set bi (.str P j)) := Grow.set h _ hb
  have h7 : b7 ≠ bi := by
    intro e
    obtain ⟨c, q1, q2⟩ := x.rx
    rw [e, it] at q1; cases q1
  exact ⟨⟨x.n4, x.l7, x.nn, x.gl.grow g x.n4, x.rx.away (by rw [AH.get_set, if_neg h7]), x.row.grow g (Nat.le_refl _), x.dat.away (b := bi) (fun c m lo hi kd q => by rw [it] at q; cases q) (Nat.le_refl _) (fun k hk => by rw [AH.get_set, if_neg hk])⟩, g⟩
theorem ActJ.put {n : Nat} {h : AH} {b7 : Nat} {vW dv : Value} {W : List (List UInt8)} {r : ActD} (x : ActJ n h b7 vW W r dv) (o t : Nat) (z : Value) (r' : ActD) (dv' : Value) (ho : o < 6) (hs : szOf T0 t = some 1) (hz : oneCell z = true) (e : (cellsA r dv).take o ++ [z] ++ (cellsA r dv).drop (o + 1) = cellsA r' dv') (hd : DatA h dv' r'.data) :
    ∃ h2, evStore T0 t (.pointer (some ⟨b7, o, none⟩)) z h = some h2 ∧ ActJ n h2 b7 vW W r' dv' ∧ Grow n h h2 ∧ h2.next = h.next ∧ ∀ k, k ≠ b7 → h2.get k = h.get k := by
  obtain ⟨h2, b1, b2, b3, b4, b5⟩ := x.rx.put (n := n) hs hz (by rw [cellsA_len]; exact ho) x.l7.1
  obtain ⟨c7, q7, _⟩ := id x.rx
  rw [e] at b2
  exact ⟨h2, b1, ⟨x.n4, by rw [b4]; exact x.l7, by rw [b4]; exact x.nn, x.gl.grow b3 x.n4, b2, x.row.grow b3 (Nat.le_refl _), hd.away (b := b7) (fun c m lo hi kd q => by rw [q7] at q; cases q) (by rw [b4]; exact Nat.le_refl _) b5⟩, b3, b4, b5⟩
theorem set_text {c : UInt8} {w : List UInt8} {o : Option ActD} {r : ActD} (f : List UInt8 → ActD → ActD) (e : ∀ r, setA c w r = (wordOf w).map fun s => f s r) (hr : ∀ s, o = some s → r = s) :
    (o.bind (setA c w)).isSome = (o.isSome && (textL w).2) ∧ ∀ s, o.bind (setA c w) = some s → f (textL w).1 r = s := by
  cases o with
  | none => exact ⟨rfl, fun s q => by cases q⟩
  | some q =>
    obtain rfl := hr q rfl
    rw [Option.bind_some, e]
    unfold wordOf
    cases (textL w).2 with
    | false => exact ⟨rfl, fun s q => by cases q⟩
    | true => exact ⟨rfl, fun s q => by cases q; rfl⟩
theorem set_num {c : UInt8} {w : List UInt8} {o : Option ActD} {r : ActD} {v : Int} {b : Bool} (f : Int → ActD → ActD) (e : ∀ r, setA c w r = (numL w).map fun s => f s r) (hr : ∀ s, o = some s → r = s) (hv : I64 v) (h1 : b = true → Lib.itoa v = w) (h2 : isNum w → b = true) :
    (o.bind (setA c w)).isSome = (o.isSome && b) ∧ ∀ s, o.bind (setA c w) = some s → f v r = s := by
  cases o with
  | none => exact ⟨rfl, fun s q => by cases q⟩
  | some q =>
    obtain rfl := hr q rfl
    rw [Option.bind_some, e]
    rcases numL_of hv h1 h2 with ⟨rfl, q⟩ | ⟨rfl, q⟩
    · rw [q]; exact ⟨rfl, fun s q => by cases q; rfl⟩
    · rw [q]; exact ⟨rfl, fun s q => by cases q⟩
theorem readA_cons {c : UInt8} {P : List UInt8} {w : List UInt8} {W : List (List UInt8)} {o : Option ActD} : readA (c :: P) (w :: W) o = readA P W (o.bind (setA c w)) := rfl
theorem readA_nil {W : List (List UInt8)} {o : Option ActD} : readA [] W o = o := by cases W <;> rfl
noncomputable def bodyAc : Code := part Tryd.f12 [1, 1, 1, 1, 1, 0, 1, 0, 0]
abbrev EAc : Env := ⟨12, 98, none⟩
theorem actLp (M : Nat) (hT : TextC call 27 M) (hNu : NumC call 28 M) (n b7 bi : Nat) (hbi : n ≤ bi) (vW v2 : Value) (w0 : List UInt8) (ws : List (List UInt8)) (P : List UInt8) (hlen : ws.length = P.length) (hWl : ∀ w ∈ ws, w.length ≤ M) (hP : P.length ≤ 10) :
    ∀ (l : List UInt8) (i : Nat) (o : Option ActD) (r : ActD) (dv : Value) (tm : PM Value) (h : AH) (N : Nat), P.drop i = l → i + l.length = P.length → (∀ c ∈ l, KindP c) → l.length + 90 ≤ N → tm.get 2 = some v2 → tm.get 4 = some vW → tm.get 6 = some (.bool o.isSome) → tm.get 7 = some (ptr b7) → tm.get 38 = some (ptr bi) →
      ActJ n h b7 vW (w0 :: ws) r dv → h.get bi = some (.str ⟨P.toArray⟩ i) → bi < h.next → (∀ s, o = some s → r = s) →
      ∃ tm' h', codeB T0 X0 call N EAc (.loop bodyAc) tm h [] = .jump (.exit 0) tm' h' [] ∧ (∃ r' dv', tm'.get 2 = some v2 ∧ tm'.get 6 = some (.bool (readA l (ws.drop i) o).isSome) ∧ tm'.get 7 = some (ptr b7) ∧ ActJ n h' b7 vW (w0 :: ws) r' dv' ∧ ∀ s, readA l (ws.drop i) o = some s → r' = s) ∧ Grow n h h' := by
  intro l
  induction l with
  | nil =>
    intro i o r dv tm h N hd hi hk hN g2 g4 g6 g7 g38 x it hlt hr
    obtain ⟨N, rfl⟩ : ∃ a, N = a + 90 := ⟨N - 90, by omega⟩
    have hiL : i = P.length := by simpa using hi
    subst hiL
    rw [readA_nil]
    apply Exists.intro; apply Exists.intro
    refine ⟨?_, ⟨r, dv, ?_, ?_, ?_, x, hr⟩, Grow.refl _ _⟩
    · rw [codeB_loop]
      simp only [bodyAc, part, Tryd.f12, sub, symM, opFn, Nat.reduceLT, g38, next_e it]
      rfl
    · simp only [symM, Nat.reduceBEq, g2]
    · simp only [symM, Nat.reduceBEq, g6]
    · simp only [symM, Nat.reduceBEq, g7]
  | cons c l ih =>
    intro i o r dv tm h N hd hi hk hN g2 g4 g6 g7 g38 x it hlt hr
    obtain ⟨N, rfl⟩ : ∃ a, N = a + 90 := ⟨N - 90, by omega⟩
    simp only [List.length_cons] at hi hN
    have hkc := hk c List.mem_cons_self
    have hkl : ∀ c ∈ l, KindP c := fun c hc => hk c (List.mem_cons_of_mem _ hc)
    have hnx := next_c it (byteAt hd) hkc.low
    obtain ⟨x1, g1'⟩ := x.step hbi it (i + 1)
    have it1 : (h.set bi (.str ⟨P.toArray⟩ (i + 1))).get bi = some (.str ⟨P.toArray⟩ (i + 1)) := by rw [AH.get_set, if_pos rfl]
    have hlt1 : bi < (h.set bi (.str ⟨P.toArray⟩ (i + 1))).next := hlt
    generalize h.set bi (.str ⟨P.toArray⟩ (i + 1)) = h1 at hnx x1 g1' it1 hlt1
    have hnext : P.drop (i + 1) = l := by rw [← List.drop_drop, hd]; rfl
    have hiw : i < ws.length := by omega
    obtain ⟨w, hw⟩ : ∃ w, ws[i]? = some w := ⟨_, List.getElem?_eq_getElem hiw⟩
    have hdw : ws.drop i = w :: ws.drop (i + 1) := by
      rw [List.drop_eq_getElem_cons hiw]
      rw [List.getElem?_eq_getElem hiw] at hw
      rw [Option.some.inj hw]
    have hwl := hWl w (List.mem_of_getElem? hw)
    obtain ⟨q, e1, e2⟩ := strs_at x1.row (i := i + 1) (w := w) (by rw [List.getElem?_cons_succ]; exact hw)
    have hw1 := wadd1 (a := i) (by omega)
    obtain ⟨h2, c1, c2⟩ := hT w h1 hwl
    have x2 := x1.grow c2
    have it2 : h2.get bi = some (.str ⟨P.toArray⟩ (i + 1)) := (c2.keep bi hlt1).trans it1
    have hlt2 : bi < h2.next := Nat.lt_of_lt_of_le hlt1 c2.next
    have g12 : Grow n h h2 := g1'.trans (c2.less x1.nn) (Nat.le_refl _)
    have hb7 : bi ≠ b7 := by
      intro e
      obtain ⟨c, q1, q2⟩ := x.rx
      rw [← e, it] at q1; cases q1
    rw [hdw, readA_cons]
    rw [show N + 90 = (N + 89) + 1 from rfl, codeB_loop]
    rcases hkc with rfl | rfl | rfl | rfl | rfl
    · -- path
      obtain ⟨hst, hrs⟩ := set_text (c := 112) (fun s r => { r with path := s }) (fun r => by unfold setA; rfl) hr
      obtain ⟨h4, e3, x4, g4', n4', k4⟩ := x2.put 1 9 (sv (textL w).1) { r with path := (textL w).1 } dv (by decide) sz_str rfl rfl x2.dat
      have it4 : h4.get bi = some (.str ⟨P.toArray⟩ (i + 1)) := (k4 bi hb7).trans it2
      have hlt4 : bi < h4.next := by rw [n4']; exact hlt2
      have gg : Grow n h h4 := g12.trans g4' (Nat.le_refl _)
      obtain ⟨f0, f1, f2, f3, f4, f5⟩ := field_A (b := b7)
      cases hok : o.isSome with
      | false =>
        simp only [bodyAc, part, Tryd.f12, sub, symM, opFn, Nat.reduceLT, Nat.reduceBEq, g4, g6, g7, g38, hok, hnx, bin_add, hw1, e1, e2, evCall_fn ft27 rfl, c1, bin_eql, show ((((112 : UInt8).toNat : Int)) == 112) = true from rfl, f1, e3]
        exact wrapG gg (ih (i + 1) (o.bind (setA 112 w)) { r with path := (textL w).1 } dv _ h4 (N + 89) hnext (by omega) hkl (by omega) (by simp only [symM, Nat.reduceBEq, g2]) (by simp only [symM, Nat.reduceBEq, g4]) (by rw [hst, hok]; exact get_same) (by simp only [symM, Nat.reduceBEq, g7]) (by simp only [symM, Nat.reduceBEq, g38]) x4 it4 hlt4 hrs)
      | true =>
        simp only [bodyAc, part, Tryd.f12, sub, symM, opFn, Nat.reduceLT, Nat.reduceBEq, g4, g6, g7, g38, hok, hnx, bin_add, hw1, e1, e2, evCall_fn ft27 rfl, c1, bin_eql, show ((((112 : UInt8).toNat : Int)) == 112) = true from rfl, f1, e3]
        exact wrapG gg (ih (i + 1) (o.bind (setA 112 w)) { r with path := (textL w).1 } dv _ h4 (N + 89) hnext (by omega) hkl (by omega) (by simp only [symM, Nat.reduceBEq, g2]) (by simp only [symM, Nat.reduceBEq, g4]) (by rw [hst, hok]; exact get_same) (by simp only [symM, Nat.reduceBEq, g7]) (by simp only [symM, Nat.reduceBEq, g38]) x4 it4 hlt4 hrs)
    · -- other
      obtain ⟨hst, hrs⟩ := set_text (c := 111) (fun s r => { r with other := s }) (fun r => by unfold setA; rfl) hr
      obtain ⟨h4, e3, x4, g4', n4', k4⟩ := x2.put 2 9 (sv (textL w).1) { r with other := (textL w).1 } dv (by decide) sz_str rfl rfl x2.dat
      have it4 : h4.get bi = some (.str ⟨P.toArray⟩ (i + 1)) := (k4 bi hb7).trans it2
      have hlt4 : bi < h4.next := by rw [n4']; exact hlt2
      have gg : Grow n h h4 := g12.trans g4' (Nat.le_refl _)
      obtain ⟨f0, f1, f2, f3, f4, f5⟩ := field_A (b := b7)
      cases hok : o.isSome with
      | false =>
        simp only [bodyAc, part, Tryd.f12, sub, symM, opFn, Nat.reduceLT, Nat.reduceBEq, g4, g6, g7, g38, hok, hnx, bin_add, hw1, e1, e2, evCall_fn ft27 rfl, c1, bin_eql, show ((((111 : UInt8).toNat : Int)) == 112) = false from rfl, show ((((111 : UInt8).toNat : Int)) == 111) = true from rfl, f2, e3]
        exact wrapG gg (ih (i + 1) (o.bind (setA 111 w)) { r with other := (textL w).1 } dv _ h4 (N + 89) hnext (by omega) hkl (by omega) (by simp only [symM, Nat.reduceBEq, g2]) (by simp only [symM, Nat.reduceBEq, g4]) (by rw [hst, hok]; exact get_same) (by simp only [symM, Nat.reduceBEq, g7]) (by simp only [symM, Nat.reduceBEq, g38]) x4 it4 hlt4 hrs)
      | true =>
        simp only [bodyAc, part, Tryd.f12, sub, symM, opFn, Nat.reduceLT, Nat.reduceBEq, g4, g6, g7, g38, hok, hnx, bin_add, hw1, e1, e2, evCall_fn ft27 rfl, c1, bin_eql, show ((((111 : UInt8).toNat : Int)) == 112) = false from rfl, show ((((111 : UInt8).toNat : Int)) == 111) = true from rfl, f2, e3]
        exact wrapG gg (ih (i + 1) (o.bind (setA 111 w)) { r with other := (textL w).1 } dv _ h4 (N + 89) hnext (by omega) hkl (by omega) (by simp only [symM, Nat.reduceBEq, g2]) (by simp only [symM, Nat.reduceBEq, g4]) (by rw [hst, hok]; exact get_same) (by simp only [symM, Nat.reduceBEq, g7]) (by simp only [symM, Nat.reduceBEq, g38]) x4 it4 hlt4 hrs)
    · -- n
      obtain ⟨v, b, h3, c3, c4, hv, hb1, hb2⟩ := hNu w h2 hwl x2.gl
      obtain ⟨q', e1', e2'⟩ := strs_at x2.row (i := i + 1) (w := w) (by rw [List.getElem?_cons_succ]; exact hw)
      rw [e1] at e1'
      cases e1'
      obtain ⟨hst, hrs⟩ := set_num (c := 110) (fun v r => { r with n := v }) (fun r => by unfold setA; rfl) hr hv hb1 hb2
      obtain ⟨h4, e3, x4, g4', n4', k4⟩ := (x2.grow c4).put 3 3 (iv v) { r with n := v } dv (by decide) sz_int rfl rfl (x2.grow c4).dat
      have it4 : h4.get bi = some (.str ⟨P.toArray⟩ (i + 1)) := (k4 bi hb7).trans ((c4.keep bi hlt2).trans it2)
      have hlt4 : bi < h4.next := by rw [n4']; exact Nat.lt_of_lt_of_le hlt2 c4.next
      have gg : Grow n h h4 := (g12.trans (c4.less x2.nn) (Nat.le_refl _)).trans g4' (Nat.le_refl _)
      obtain ⟨f0, f1, f2, f3, f4, f5⟩ := field_A (b := b7)
      cases hok : o.isSome with
      | false =>
        simp only [bodyAc, part, Tryd.f12, sub, symM, opFn, Nat.reduceLT, Nat.reduceBEq, g4, g6, g7, g38, hok, hnx, bin_add, hw1, e1, e2, evCall_fn ft27 rfl, c1, bin_eql, show ((((110 : UInt8).toNat : Int)) == 112) = false from rfl, show ((((110 : UInt8).toNat : Int)) == 111) = false from rfl, show ((((110 : UInt8).toNat : Int)) == 110) = true from rfl, e2', evCall_fn ft28 rfl, c3, f3, e3]
        exact wrapG gg (ih (i + 1) (o.bind (setA 110 w)) { r with n := v } dv _ h4 (N + 89) hnext (by omega) hkl (by omega) (by simp only [symM, Nat.reduceBEq, g2]) (by simp only [symM, Nat.reduceBEq, g4]) (by rw [hst, hok]; exact get_same) (by simp only [symM, Nat.reduceBEq, g7]) (by simp only [symM, Nat.reduceBEq, g38]) x4 it4 hlt4 hrs)
      | true =>
        simp only [bodyAc, part, Tryd.f12, sub, symM, opFn, Nat.reduceLT, Nat.reduceBEq, g4, g6, g7, g38, hok, hnx, bin_add, hw1, e1, e2, evCall_fn ft27 rfl, c1, bin_eql, show ((((110 : UInt8).toNat : Int)) == 112) = false from rfl, show ((((110 : UInt8).toNat : Int)) == 111) = false from rfl, show ((((110 : UInt8).toNat : Int)) == 110) = true from rfl, e2', evCall_fn ft28 rfl, c3, f3, e3]
        exact wrapG gg (ih (i + 1) (o.bind (setA 110 w)) { r with n := v } dv _ h4 (N + 89) hnext (by omega) hkl (by omega) (by simp only [symM, Nat.reduceBEq, g2]) (by simp only [symM, Nat.reduceBEq, g4]) (by rw [hst, hok]; exact get_same) (by simp only [symM, Nat.reduceBEq, g7]) (by simp only [symM, Nat.reduceBEq, g38]) x4 it4 hlt4 hrs)
    · -- m
      obtain ⟨v, b, h3, c3, c4, hv, hb1, hb2⟩ := hNu w h2 hwl x2.gl
      obtain ⟨q', e1', e2'⟩ := strs_at x2.row (i := i + 1) (w := w) (by rw [List.getElem?_cons_succ]; exact hw)
      rw [e1] at e1'
      cases e1'
      obtain ⟨hst, hrs⟩ := set_num (c := 109) (fun v r => { r with m := v }) (fun r => by unfold setA; rfl) hr hv hb1 hb2
      obtain ⟨h4, e3, x4, g4', n4', k4⟩ := (x2.grow c4).put 4 3 (iv v) { r with m := v } dv (by decide) sz_int rfl rfl (x2.grow c4).dat
      have it4 : h4.get bi = some (.str ⟨P.toArray⟩ (i + 1)) := (k4 bi hb7).trans ((c4.keep bi hlt2).trans it2)
      have hlt4 : bi < h4.next := by rw [n4']; exact Nat.lt_of_lt_of_le hlt2 c4.next
      have gg : Grow n h h4 := (g12.trans (c4.less x2.nn) (Nat.le_refl _)).trans g4' (Nat.le_refl _)
      obtain ⟨f0, f1, f2, f3, f4, f5⟩ := field_A (b := b7)
      cases hok : o.isSome with
      | false =>
        simp only [bodyAc, part, Tryd.f12, sub, symM, opFn, Nat.reduceLT, Nat.reduceBEq, g4, g6, g7, g38, hok, hnx, bin_add, hw1, e1, e2, evCall_fn ft27 rfl, c1, bin_eql, show ((((109 : UInt8).toNat : Int)) == 112) = false from rfl, show ((((109 : UInt8).toNat : Int)) == 111) = false from rfl, show ((((109 : UInt8).toNat : Int)) == 110) = false from rfl, show ((((109 : UInt8).toNat : Int)) == 109) = true from rfl, e2', evCall_fn ft28 rfl, c3, f4, e3]
        exact wrapG gg (ih (i + 1) (o.bind (setA 109 w)) { r with m := v } dv _ h4 (N + 89) hnext (by omega) hkl (by omega) (by simp only [symM, Nat.reduceBEq, g2]) (by simp only [symM, Nat.reduceBEq, g4]) (by rw [hst, hok]; exact get_same) (by simp only [symM, Nat.reduceBEq, g7]) (by simp only [symM, Nat.reduceBEq, g38]) x4 it4 hlt4 hrs)
      | true =>
        simp only [bodyAc, part, Tryd.f12, sub, symM, opFn, Nat.reduceLT, Nat.reduceBEq, g4, g6, g7, g38, hok, hnx, bin_add, hw1, e1, e2, evCall_fn ft27 rfl, c1, bin_eql, show ((((109 : UInt8).toNat : Int)) == 112) = false from rfl, show ((((109 : UInt8).toNat : Int)) == 111) = false from rfl, show ((((109 : UInt8).toNat : Int)) == 110) = false from rfl, show ((((109 : UInt8).toNat : Int)) == 109) = true from rfl, e2', evCall_fn ft28 rfl, c3, f4, e3]
        exact wrapG gg (ih (i + 1) (o.bind (setA 109 w)) { r with m := v } dv _ h4 (N + 89) hnext (by omega) hkl (by omega) (by simp only [symM, Nat.reduceBEq, g2]) (by simp only [symM, Nat.reduceBEq, g4]) (by rw [hst, hok]; exact get_same) (by simp only [symM, Nat.reduceBEq, g7]) (by simp only [symM, Nat.reduceBEq, g38]) x4 it4 hlt4 hrs)
    · -- data
      obtain ⟨hst, hrs⟩ := set_text (c := 100) (fun s r => { r with data := s }) (fun r => by unfold setA; rfl) hr
      generalize hh3 : h2.new (.cells (PM.ofList (byteVals (textL w).1)) (textL w).1.length 5 (textL w).1.length ((textL w).1.length + 1) .loose) = h3
      have g3 : Grow h2.next h2 h3 := by rw [← hh3]; exact Grow.new _ _
      have hcv : evConvert T0 9 22 (sv (textL w).1) h2 = some (.slice (some ⟨h2.next, 0, none⟩) (textL w).1.length (XB + (textL w).1.length), h3) := by rw [conv_toBytes, hh3]
      have hda : DatA h3 (.slice (some ⟨h2.next, 0, none⟩) (textL w).1.length (XB + (textL w).1.length)) (textL w).1 := by rw [← hh3]; exact DatA.bytes _ _
      obtain ⟨h4, e3, x4, g4', n4', k4⟩ := (x2.grow g3).put 5 22 (.slice (some ⟨h2.next, 0, none⟩) (textL w).1.length (XB + (textL w).1.length)) { r with data := (textL w).1 } (.slice (some ⟨h2.next, 0, none⟩) (textL w).1.length (XB + (textL w).1.length)) (by decide) sz_bytes rfl rfl hda
      have it4 : h4.get bi = some (.str ⟨P.toArray⟩ (i + 1)) := (k4 bi hb7).trans ((g3.keep bi hlt2).trans it2)
      have hlt4 : bi < h4.next := by rw [n4']; exact Nat.lt_of_lt_of_le hlt2 g3.next
      have gg : Grow n h h4 := (g12.trans (g3.less x2.nn) (Nat.le_refl _)).trans g4' (Nat.le_refl _)
      obtain ⟨f0, f1, f2, f3, f4, f5⟩ := field_A (b := b7)
      cases hok : o.isSome with
      | false =>
        simp only [bodyAc, part, Tryd.f12, sub, symM, opFn, Nat.reduceLT, Nat.reduceBEq, g4, g6, g7, g38, hok, hnx, bin_add, hw1, e1, e2, evCall_fn ft27 rfl, c1, bin_eql, show ((((100 : UInt8).toNat : Int)) == 112) = false from rfl, show ((((100 : UInt8).toNat : Int)) == 111) = false from rfl, show ((((100 : UInt8).toNat : Int)) == 110) = false from rfl, show ((((100 : UInt8).toNat : Int)) == 109) = false from rfl, show ((((100 : UInt8).toNat : Int)) == 100) = true from rfl, hcv, f5, e3]
        exact wrapG gg (ih (i + 1) (o.bind (setA 100 w)) { r with data := (textL w).1 } _ _ h4 (N + 89) hnext (by omega) hkl (by omega) (by simp only [symM, Nat.reduceBEq, g2]) (by simp only [symM, Nat.reduceBEq, g4]) (by rw [hst, hok]; exact get_same) (by simp only [symM, Nat.reduceBEq, g7]) (by simp only [symM, Nat.reduceBEq, g38]) x4 it4 hlt4 hrs)
      | true =>
        simp only [bodyAc, part, Tryd.f12, sub, symM, opFn, Nat.reduceLT, Nat.reduceBEq, g4, g6, g7, g38, hok, hnx, bin_add, hw1, e1, e2, evCall_fn ft27 rfl, c1, bin_eql, show ((((100 : UInt8).toNat : Int)) == 112) = false from rfl, show ((((100 : UInt8).toNat : Int)) == 111) = false from rfl, show ((((100 : UInt8).toNat : Int)) == 110) = false from rfl, show ((((100 : UInt8).toNat : Int)) == 109) = false from rfl, show ((((100 : UInt8).toNat : Int)) == 100) = true from rfl, hcv, f5, e3]
        exact wrapG gg (ih (i + 1) (o.bind (setA 100 w)) { r with data := (textL w).1 } _ _ h4 (N + 89) hnext (by omega) hkl (by omega) (by simp only [symM, Nat.reduceBEq, g2]) (by simp only [symM, Nat.reduceBEq, g4]) (by rw [hst, hok]; exact get_same) (by simp only [symM, Nat.reduceBEq, g7]) (by simp only [symM, Nat.reduceBEq, g38]) x4 it4 hlt4 hrs)
end
end Go.Proofs.YtknchhnibjfocaaDoor.Abs
namespace Go.Proofs.YtknchhnibjfocaaDoor.Abs
open Go Go.Proofs
noncomputable section
variable {call : Abs.Callee}
set_option maxRecDepth 10000
theorem plan_Act2 : planB (regOps Tryd.f12 [1, 1, 0]) 98 = some ([.one 1, .one 2, .one 3, .eff [] 0 [1, 2, 3], .one 4, .one 5, .one 6, .one 7, .one 8, .one 9], []) := by kernel_rfl
theorem Act_S (hL : LibC call) (hV : VerbsC call) (M : Nat) (hM : M < 4294967281) (hT : TextC call 27 M) (hNu : NumC call 28 M) (line : List UInt8) (h : AH) (hl : line.length ≤ M) (hg : Glob h) (h4 : 4 ≤ h.next) :
    ∃ d h', frameB T0 X0 call 3000 12 [sv line] h = some (.tuple #[actV ((actA line).getD zeroA) d, iv (if (actA line).isSome then 0 else 14)], h') ∧ Grow h.next h h' ∧ DatA h' d ((actA line).getD zeroA).data := by
  generalize hh1 : h.new (.cells (PM.ofList (cellsA zeroA nilV)) 6 24 0 0 .ex) = h1
  have n1 : h1.next = h.next + 1 := by rw [← hh1]; rfl
  have g1 : Grow h.next h h1 := by rw [← hh1]; exact Grow.new _ _
  have hal : evAlloc T0 24 h = some (ptr h.next, h1) := by rw [← hh1]; exact alloc_A
  have b1 : BoxL h1 h.next 24 (cellsA zeroA nilV) := by rw [← hh1]; exact BoxL.new h _ _
  have hgl1 : Glob h1 := hg.grow g1 h4
  have hsp := Split_S hL 32 line h1 hgl1 (by omega)
  have hrw := split_row (splitA 32 [] line) h1
  have g2 : Grow h1.next h1 (h1.new (.cells (PM.ofList (strsV (splitA 32 [] line))) (splitA 32 [] line).length 9 0 0 .ex)) := Grow.new _ _
  have n2 : (h1.new (.cells (PM.ofList (strsV (splitA 32 [] line))) (splitA 32 [] line).length 9 0 0 .ex)).next = h1.next + 1 := rfl
  generalize h1.new (.cells (PM.ofList (strsV (splitA 32 [] line))) (splitA 32 [] line).length 9 0 0 .ex) = h2 at hsp hrw g2 n2
  generalize (Value.slice (some ⟨h1.next, 0, none⟩) (splitA 32 [] line).length (splitA 32 [] line).length) = vW at hsp hrw
  have hwl : ∀ w ∈ splitA 32 [] line, w.length ≤ M := fun w hw => Nat.le_trans (splitA_mem 32 line [] w hw) (by simpa using hl)
  have hWn := splitA_len 32 line []
  have hcn : line.count 32 ≤ line.length := List.count_le_length
  have hv1 := hV h2
  have g3 := mapAt_grow h2 21
  have hm := mapAt_get h2 21
  rw [show VT.take 21 = VT from rfl] at hm
  generalize mapAt h2 21 = h3 at hv1 g3 hm
  have n3 := g3.next
  have g13 : Grow h1.next h1 h3 := g2.trans g3 (by omega)
  have g03 : Grow h.next h h3 := g1.trans g13 (by omega)
  have hrw3 : Row h3.next h3 vW (strsV (splitA 32 [] line)) 9 := (hrw.grow g3 (by omega)).wide (by omega)
  have b3 := b1.grow g13 (by omega)
  have hp2 := plan_Act2
  simp only [regOps, part, Tryd.f12, sub] at hp2
  cases e : splitA 32 [] line with
  | nil => exact absurd e (splitA_ne 32 line [])
  | cons w0 ws =>
    rw [e] at hrw hrw3 hwl hWn
    have hA : actA line = actR w0 ws := by unfold actA; rw [e]
    rw [hA]
    have hW2 : ws.length < 4294967281 := by simp only [List.length_cons] at hWn; omega
    obtain ⟨q, e1, e2, hqv⟩ := hrw.at3 (i := 0) (x := sv w0) und_strs sz_str agg_str rfl
    obtain ⟨q', e1', e3⟩ := strs_at hrw3 (i := 0) (w := w0) rfl
    rw [e1] at e1'
    cases e1'
    have e1 : evIndexAddr T0 46 vW (iv 0) = some q := e1
    have hlk := look_S (k := w0) hm
    have hln := fun ty => strs_len (h' := h3) hrw3 ty
    have hvv : eqV vW vW = true := by
      rcases hrw with ⟨rfl, hh⟩ | ⟨b, o, cap, c, m, lo, hi, kd, el, rfl, _⟩
      · rfl
      · exact eqV_slice
    obtain ⟨h4', s1, s2, s3, s4, _⟩ := b3.storeA (n := h.next) (a := zeroA) (d := nilV) (cellsA_len _ _) rfl (Nat.le_refl _)
    cases hp : partsOf w0 with
    | none =>
      rw [hp] at hlk
      simp only [Option.getD_none, Option.isSome_none] at hlk
      have hR : actR w0 ws = none := by unfold actR; rw [hp]
      rw [hR]
      refine ⟨nilV, h4', ?_, g03.trans s3 (Nat.le_refl _), DatA.nil⟩
      rw [frameB_eq ft12 rfl rfl]
      simp only [Tryd.f12, symM, opFn, Nat.reduceLT, Nat.reduceBEq, hal, evCall_fn ft26 rfl, hsp, codeB_draw]
      rw [draw_plan hp2 rfl]
      simp only [drawAll, opFn, Nat.reduceLT, Nat.reduceBEq, effE_cons, eqV_str, hqv, hvv, e1, e2, e3, evCall_fn ft19 rfl, hv1, hlk, build_A0, s1]
      exact retB_cell1 ft12 rfl (by simp only [symM, Nat.reduceBEq]) (loadW_A s2) (by simp only [symM]; rfl)
    | some P =>
      rw [hp] at hlk
      simp only [Option.getD_some, Option.isSome_some] at hlk
      obtain ⟨hgp, hvl⟩ := parts_good hp
      obtain ⟨hP, hnd, hk⟩ := goodP_iff hgp
      have hw1 : IntKind.i64.wrap ((P.length : Int) + 1) = ((P.length + 1 : Nat) : Int) := wadd1 (by omega)
      by_cases hlen : ws.length = P.length
      · have hne : ((((w0 :: ws).length : Nat) : Int) == ((P.length + 1 : Nat) : Int)) = true := by rw [List.length_cons, hlen]; simp
        have hR : actR w0 ws = readA P ws (some { zeroA with verb := w0 }) := by unfold actR; rw [hp]; simp only [hlen, if_true]
        rw [hR]
        generalize hh4 : h3.new (.cells (PM.ofList (cellsA zeroA nilV)) 6 24 0 0 .ex) = h5
        have n5 : h5.next = h3.next + 1 := by rw [← hh4]; rfl
        have g5 : Grow h3.next h3 h5 := by rw [← hh4]; exact Grow.new _ _
        have hal2 : evAlloc T0 24 h3 = some (ptr h3.next, h5) := by rw [← hh4]; exact alloc_A
        have b5 : BoxL h5 h3.next 24 (cellsA zeroA nilV) := by rw [← hh4]; exact BoxL.new h3 _ _
        obtain ⟨h6, u1, u2, u3, u4, _⟩ := b5.storeA (n := h3.next) (a := { zeroA with verb := w0 }) (d := nilV) (cellsA_len _ _) rfl (Nat.le_refl _)
        generalize hh7 : h6.new (.str ⟨P.toArray⟩ 0) = h7
        have n7 : h7.next = h6.next + 1 := by rw [← hh7]; rfl
        have g7 : Grow h6.next h6 h7 := by rw [← hh7]; exact Grow.new _ _
        have hrg : evRange T0 9 (sv P) h6 = some (ptr h6.next, h7) := by rw [und_strR, hh7]
        have g37 : Grow h3.next h3 h7 := (g5.trans u3 (Nat.le_refl _)).trans g7 (by omega)
        have it : h7.get h6.next = some (.str ⟨P.toArray⟩ 0) := by rw [← hh7]; exact get_new_same _ _
        have x0 : ActJ h3.next h7 h3.next vW (w0 :: ws) { zeroA with verb := w0 } nilV :=
          ⟨by omega, ⟨Nat.le_refl _, by omega⟩, by omega, (hg.grow g03 h4).grow g37 (by omega), u2.grow g7 (by omega), hrw3.grow g37 (Nat.le_refl _), DatA.nil⟩
        have loop := fun (tm : PM Value) (N : Nat) (hN : P.length + 90 ≤ N) (q2 : tm.get 2 = some (ptr h.next)) (q4 : tm.get 4 = some vW) (q6 : tm.get 6 = some (.bool true)) (q7 : tm.get 7 = some (ptr h3.next)) (q38 : tm.get 38 = some (ptr h6.next)) =>
          actLp M hT hNu h3.next h3.next h6.next (by omega) vW (ptr h.next) w0 ws P hlen (fun w hw => hwl w (List.mem_cons_of_mem _ hw)) hP P 0 (some { zeroA with verb := w0 }) { zeroA with verb := w0 } nilV tm h7 N rfl (Nat.zero_add _) hk hN q2 q4 q6 q7 q38 x0 it (by omega) (fun s q => by cases q; rfl)
        rw [frameB_eq ft12 rfl rfl]
        simp only [Tryd.f12, symM, opFn, Nat.reduceLT, Nat.reduceBEq, hal, evCall_fn ft26 rfl, hsp, codeB_draw]
        rw [draw_plan hp2 rfl]
        simp only [drawAll, opFn, Nat.reduceLT, Nat.reduceBEq, effE_cons, eqV_str, hqv, hvv, e1, e2, e3, evCall_fn ft19 rfl, hv1, hlk, hln, len_str, bin_add, hw1, bin_neq, hne, build_A1, hal2, u1, hrg]
        refine bind_loop (b := bodyAc) (Q := fun tm' h' => (∃ r' dv', tm'.get 2 = some (ptr h.next) ∧ tm'.get 6 = some (.bool (readA P (ws.drop 0) (some { zeroA with verb := w0 })).isSome) ∧ tm'.get 7 = some (ptr h3.next) ∧ ActJ h3.next h' h3.next vW (w0 :: ws) r' dv' ∧ ∀ s, readA P (ws.drop 0) (some { zeroA with verb := w0 }) = some s → r' = s) ∧ Grow h3.next h7 h')
          (P := fun co => ∃ d h', endF T0 12 co = some (.tuple #[actV ((readA P ws (some { zeroA with verb := w0 })).getD zeroA) d, iv (if (readA P ws (some { zeroA with verb := w0 })).isSome then 0 else 14)], h') ∧ Grow h.next h h' ∧ DatA h' d ((readA P ws (some { zeroA with verb := w0 })).getD zeroA).data) ?_ ?_
        · exact loop _ _ (by omega) (by simp only [symM, Nat.reduceBEq]) (by simp only [symM, Nat.reduceBEq]) (by simp only [symM, Nat.reduceBEq]) (by simp only [symM, Nat.reduceBEq]) get_same
        · rintro tm' h8 ⟨⟨r', dv', t2, t6, t7, x, hs⟩, g⟩
          rw [List.drop_zero] at t6 hs
          have b8 : BoxL h8 h.next 24 (cellsA zeroA nilV) := b3.grow (g37.trans g (Nat.le_refl _)) (by omega)
          have g08 : Grow h.next h h8 := g03.trans ((g37.trans g (Nat.le_refl _)).less (by omega)) (Nat.le_refl _)
          cases hres : readA P ws (some { zeroA with verb := w0 }) with
          | none =>
            rw [hres] at t6
            simp only [Option.isSome_none] at t6
            obtain ⟨h9, v1, v2, v3, v4, _⟩ := b8.storeA (n := h.next) (a := zeroA) (d := nilV) (cellsA_len _ _) rfl (Nat.le_refl _)
            refine ⟨nilV, h9, ?_, g08.trans v3 (Nat.le_refl _), DatA.nil⟩
            simp only [symM, opFn, Nat.reduceLT, Nat.reduceBEq, t2, t6, build_A0, v1]
            exact retB_cell1 ft12 rfl (by simp only [symM, Nat.reduceBEq, t2]) (loadW_A v2) (by simp only [symM]; rfl)
          | some s =>
            rw [hres] at t6
            simp only [Option.isSome_some] at t6
            obtain rfl := hs s hres
            obtain ⟨h9, v1, v2, v3, v4, v5⟩ := b8.storeA (n := h.next) (a := r') (d := dv') (cellsA_len _ _) x.dat.row.one.1 (Nat.le_refl _)
            refine ⟨dv', h9, ?_, g08.trans v3 (Nat.le_refl _), x.dat.away (b := h.next) (fun c m lo hi kd q => by obtain ⟨c8, q8, _⟩ := b8; rw [q8] at q; cases q) (by rw [v4]; exact Nat.le_refl _) v5⟩
            simp only [symM, opFn, Nat.reduceLT, Nat.reduceBEq, t2, t6, t7, loadW_A x.rx, v1]
            exact retB_cell1 ft12 rfl (by simp only [symM, Nat.reduceBEq, t2]) (loadW_A v2) (by simp only [symM]; rfl)
      · have hne : ((((w0 :: ws).length : Nat) : Int) == ((P.length + 1 : Nat) : Int)) = false := by
          rw [beq_eq_false_iff_ne, List.length_cons]; intro q; omega
        have hR : actR w0 ws = none := by unfold actR; rw [hp]; simp only [hlen, if_false]
        rw [hR]
        refine ⟨nilV, h4', ?_, g03.trans s3 (Nat.le_refl _), DatA.nil⟩
        rw [frameB_eq ft12 rfl rfl]
        simp only [Tryd.f12, symM, opFn, Nat.reduceLT, Nat.reduceBEq, hal, evCall_fn ft26 rfl, hsp, codeB_draw]
        rw [draw_plan hp2 rfl]
        simp only [drawAll, opFn, Nat.reduceLT, Nat.reduceBEq, effE_cons, eqV_str, hqv, hvv, e1, e2, e3, evCall_fn ft19 rfl, hv1, hlk, hln, len_str, bin_add, hw1, bin_neq, hne, build_A0, s1]
        exact retB_cell1 ft12 rfl (by simp only [symM, Nat.reduceBEq]) (loadW_A s2) (by simp only [symM]; rfl)
end
end Go.Proofs.YtknchhnibjfocaaDoor.Abs
namespace Go.Proofs.YtknchhnibjfocaaDoor.Abs
open Go Go.Proofs
noncomputable section
variable {call : Abs.Callee}
set_option maxRecDepth 10000

theorem growOr2 {A B : PM Value → AH → Prop} {n : Nat} {h h1 : AH} (g : Grow n h h1) (H : ∃ tm' h', (A tm' h' ∨ B tm' h') ∧ Grow n h1 h') : ∃ tm' h', (A tm' h' ∨ B tm' h') ∧ Grow n h h' := by
  obtain ⟨tm', h', q, g2⟩ := H
  exact ⟨tm', h', q, g.trans g2 (Nat.le_refl _)⟩
theorem readA_none : ∀ (P : List UInt8) (W : List (List UInt8)), readA P W none = none := by
  intro P
  induction P with
  | nil => intro W; exact readA_nil
  | cons c P ih =>
    intro W
    cases W with
    | nil => rfl
    | cons w W => rw [readA_cons]; exact ih W
theorem set_text2 {c : UInt8} {w : List UInt8} {r : ActD} (f : List UInt8 → ActD → ActD) (e : setA c w r = (wordOf w).map fun s => f s r) : ((textL w).2 = true ∧ setA c w r = some (f (textL w).1 r)) ∨ ((textL w).2 = false ∧ setA c w r = none) := by
  rw [e]
  unfold wordOf
  cases (textL w).2 with
  | false => exact .inr ⟨rfl, rfl⟩
  | true => exact .inl ⟨rfl, rfl⟩
theorem set_num2 {c : UInt8} {w : List UInt8} {r : ActD} {v : Int} {b : Bool} (f : Int → ActD → ActD) (e : setA c w r = (numL w).map fun s => f s r) (hv : I64 v) (h1 : b = true → Lib.itoa v = w) (h2 : isNum w → b = true) : (b = true ∧ setA c w r = some (f v r)) ∨ (b = false ∧ setA c w r = none) := by
  rw [e]
  rcases numL_of hv h1 h2 with ⟨rfl, q⟩ | ⟨rfl, q⟩
  · rw [q]; exact .inl ⟨rfl, rfl⟩
  · rw [q]; exact .inr ⟨rfl, rfl⟩
noncomputable def bodyRA : Code := part Tryd.f13 [1, 1, 1, 1, 1, 0, 1, 0, 0]
abbrev ERA : Env := ⟨13, 92, none⟩
theorem ractLp (M : Nat) (hT : TextC call 30 M) (hNu : NumC call 31 M) (m n b2 b7 : Nat) (hmb : m ≤ b2) (hb2n : b2 < n) (vW : Value) (w0 : List UInt8) (ws : List (List UInt8)) (P : List UInt8) (hlen : ws.length = P.length) (hWl : ∀ w ∈ ws, w.length ≤ M) (hP : P.length ≤ 10) :
    ∀ (l : List UInt8) (i : Nat) (r : ActD) (dv : Value) (tm : PM Value) (h : AH) (N : Nat), P.drop i = l → i + l.length = P.length → (∀ c ∈ l, KindP c) → l.length + 90 ≤ N → tm.get 2 = some (ptr b2) → tm.get 4 = some vW → tm.get 5 = some (sv P) → tm.get 7 = some (ptr b7) → tm.get 8 = some (iv i) →
      ActJ n h b7 vW (w0 :: ws) r dv → BoxL h b2 24 (cellsA zeroA nilV) →
      ∃ tm' h', ((∃ r' dv', codeB T0 X0 call N ERA (.loop bodyRA) tm h [] = .jump (.exit 0) tm' h' [] ∧ tm'.get 2 = some (ptr b2) ∧ tm'.get 7 = some (ptr b7) ∧ ActJ n h' b7 vW (w0 :: ws) r' dv' ∧ readA l (ws.drop i) (some r) = some r' ∧ BoxL h' b2 24 (cellsA zeroA nilV)) ∨
        (codeB T0 X0 call N ERA (.loop bodyRA) tm h [] = .jump .ret tm' h' [] ∧ tm'.get 2 = some (ptr b2) ∧ tm'.get 3 = some (iv 14) ∧ readA l (ws.drop i) (some r) = none ∧ BoxL h' b2 24 (cellsA zeroA nilV))) ∧ Grow m h h' := by
  intro l
  induction l with
  | nil =>
    intro i r dv tm h N hd hi hk hN g2 g4 g5 g7 g8 x bz
    obtain ⟨N, rfl⟩ : ∃ a, N = a + 90 := ⟨N - 90, by omega⟩
    have hiL : i = P.length := by simpa using hi
    subst hiL
    rw [readA_nil]
    apply Exists.intro; apply Exists.intro
    refine ⟨.inl ⟨r, dv, ?_, ?_, ?_, x, rfl, bz⟩, Grow.refl _ _⟩
    · rw [codeB_loop]
      simp only [bodyRA, part, Tryd.f13, sub, symM, opFn, Nat.reduceLT, Nat.reduceBEq, g5, g8, len_str, bin_lss, decide_eq_false (show ¬ ((P.length : Nat) : Int) < (P.length : Nat) by omega)]
      rfl
    · simp only [symM, Nat.reduceBEq, g2]
    · simp only [symM, Nat.reduceBEq, g7]
  | cons c l ih =>
    intro i r dv tm h N hd hi hk hN g2 g4 g5 g7 g8 x bz
    obtain ⟨N, rfl⟩ : ∃ a, N = a + 90 := ⟨N - 90, by omega⟩
    simp only [List.length_cons] at hi hN
    have hkc := hk c List.mem_cons_self
    have hkl : ∀ c ∈ l, KindP c := fun c hc => hk c (List.mem_cons_of_mem _ hc)
    have hnext : P.drop (i + 1) = l := by rw [← List.drop_drop, hd]; rfl
    have hiw : i < ws.length := by omega
    obtain ⟨w, hw⟩ : ∃ w, ws[i]? = some w := ⟨_, List.getElem?_eq_getElem hiw⟩
    have hdw : ws.drop i = w :: ws.drop (i + 1) := by
      rw [List.drop_eq_getElem_cons hiw]
      rw [List.getElem?_eq_getElem hiw] at hw
      rw [Option.some.inj hw]
    have hwl := hWl w (List.mem_of_getElem? hw)
    obtain ⟨q, e1, e2⟩ := strs_at x.row (i := i + 1) (w := w) (by rw [List.getElem?_cons_succ]; exact hw)
    have hw1 := wadd1 (a := i) (by omega)
    have hlt : decide ((i : Int) < (P.length : Nat)) = true := decide_eq_true (by omega)
    have ix := idx_str (byteAt hd)
    obtain ⟨h2, c1, c2⟩ := hT w h hwl
    have x2 := x.grow c2
    have hmn : m ≤ n := by omega
    have hbh : b2 < h.next := Nat.lt_of_lt_of_le hb2n x.nn
    have g12 : Grow m h h2 := c2.less (Nat.le_trans hmn x.nn)
    have bz2 := bz.grow c2 hbh
    obtain ⟨f0, f1, f2, f3, f4, f5⟩ := field_A (b := b7)
    rw [hdw, readA_cons, Option.bind_some]
    rw [show N + 90 = (N + 89) + 1 from rfl, codeB_loop]
    rcases hkc with rfl | rfl | rfl | rfl | rfl
    · -- path
      have hset := set_text2 (c := 112) (w := w) (r := r) (fun s r => { r with path := s }) (by unfold setA; rfl)
      obtain ⟨h4, e3, x4, g4', n4', k4⟩ := x2.put 1 9 (sv (textL w).1) { r with path := (textL w).1 } dv (by decide) sz_str rfl rfl x2.dat
      have gg : Grow m h h4 := g12.trans (g4'.less hmn) (Nat.le_refl _)
      have bz4 := bz2.grow g4' hb2n
      rcases hset with ⟨hf, hset⟩ | ⟨hf, hset⟩
      · skip
        rw [hset]
        simp only [bodyRA, part, Tryd.f13, sub, symM, opFn, Nat.reduceLT, Nat.reduceBEq, g4, g5, g7, g8, len_str, bin_lss, hlt, bin_add, hw1, e1, e2, evCall_fn ft30 rfl, c1, ix, bin_eql, show ((((112 : UInt8).toNat : Int)) == 112) = true from rfl, f1, e3, hf]
        exact growOr2 gg (ih (i + 1) { r with path := (textL w).1 } dv _ h4 (N + 89) hnext (by omega) hkl (by omega) (by simp only [symM, Nat.reduceBEq, g2]) (by simp only [symM, Nat.reduceBEq, g4]) (by simp only [symM, Nat.reduceBEq, g5]) (by simp only [symM, Nat.reduceBEq, g7]) get_same x4 bz4)
      · skip
        rw [hset, readA_none]
        obtain ⟨h5, s1, s2, s3, s4, _⟩ := bz4.storeA (n := m) (a := zeroA) (d := nilV) (cellsA_len _ _) rfl hmb
        apply Exists.intro; apply Exists.intro
        refine ⟨.inr ⟨?_, ?_, ?_, rfl, s2⟩, gg.trans s3 (Nat.le_refl _)⟩
        · simp only [bodyRA, part, Tryd.f13, sub, symM, opFn, Nat.reduceLT, Nat.reduceBEq, g2, g4, g5, g7, g8, len_str, bin_lss, hlt, bin_add, hw1, e1, e2, evCall_fn ft30 rfl, c1, ix, bin_eql, show ((((112 : UInt8).toNat : Int)) == 112) = true from rfl, f1, e3, hf, build_A0, s1]
          rfl
        · simp only [symM, Nat.reduceBEq, g2]
        · simp only [symM]
    · -- other
      have hset := set_text2 (c := 111) (w := w) (r := r) (fun s r => { r with other := s }) (by unfold setA; rfl)
      obtain ⟨h4, e3, x4, g4', n4', k4⟩ := x2.put 2 9 (sv (textL w).1) { r with other := (textL w).1 } dv (by decide) sz_str rfl rfl x2.dat
      have gg : Grow m h h4 := g12.trans (g4'.less hmn) (Nat.le_refl _)
      have bz4 := bz2.grow g4' hb2n
      rcases hset with ⟨hf, hset⟩ | ⟨hf, hset⟩
      · skip
        rw [hset]
        simp only [bodyRA, part, Tryd.f13, sub, symM, opFn, Nat.reduceLT, Nat.reduceBEq, g4, g5, g7, g8, len_str, bin_lss, hlt, bin_add, hw1, e1, e2, evCall_fn ft30 rfl, c1, ix, bin_eql, show ((((111 : UInt8).toNat : Int)) == 112) = false from rfl, show ((((111 : UInt8).toNat : Int)) == 111) = true from rfl, f2, e3, hf]
        exact growOr2 gg (ih (i + 1) { r with other := (textL w).1 } dv _ h4 (N + 89) hnext (by omega) hkl (by omega) (by simp only [symM, Nat.reduceBEq, g2]) (by simp only [symM, Nat.reduceBEq, g4]) (by simp only [symM, Nat.reduceBEq, g5]) (by simp only [symM, Nat.reduceBEq, g7]) get_same x4 bz4)
      · skip
        rw [hset, readA_none]
        obtain ⟨h5, s1, s2, s3, s4, _⟩ := bz4.storeA (n := m) (a := zeroA) (d := nilV) (cellsA_len _ _) rfl hmb
        apply Exists.intro; apply Exists.intro
        refine ⟨.inr ⟨?_, ?_, ?_, rfl, s2⟩, gg.trans s3 (Nat.le_refl _)⟩
        · simp only [bodyRA, part, Tryd.f13, sub, symM, opFn, Nat.reduceLT, Nat.reduceBEq, g2, g4, g5, g7, g8, len_str, bin_lss, hlt, bin_add, hw1, e1, e2, evCall_fn ft30 rfl, c1, ix, bin_eql, show ((((111 : UInt8).toNat : Int)) == 112) = false from rfl, show ((((111 : UInt8).toNat : Int)) == 111) = true from rfl, f2, e3, hf, build_A0, s1]
          rfl
        · simp only [symM, Nat.reduceBEq, g2]
        · simp only [symM]
    · -- n
      obtain ⟨q', e1', e2'⟩ := strs_at x2.row (i := i + 1) (w := w) (by rw [List.getElem?_cons_succ]; exact hw)
      rw [e1] at e1'
      cases e1'
      obtain ⟨v, b, h3, c3, c4, hv, hb1, hb2⟩ := hNu w h2 hwl x2.gl
      have hset := set_num2 (c := 110) (r := r) (fun v r => { r with n := v }) (by unfold setA; rfl) hv hb1 hb2
      obtain ⟨h4, e3, x4, g4', n4', k4⟩ := (x2.grow c4).put 3 3 (iv v) { r with n := v } dv (by decide) sz_int rfl rfl (x2.grow c4).dat
      have gg : Grow m h h4 := (g12.trans (c4.less (Nat.le_trans hmn x2.nn)) (Nat.le_refl _)).trans (g4'.less hmn) (Nat.le_refl _)
      have bz4 := (bz2.grow c4 (Nat.lt_of_lt_of_le hbh c2.next)).grow g4' hb2n
      rcases hset with ⟨hf, hset⟩ | ⟨hf, hset⟩
      · subst hf
        rw [hset]
        simp only [bodyRA, part, Tryd.f13, sub, symM, opFn, Nat.reduceLT, Nat.reduceBEq, g4, g5, g7, g8, len_str, bin_lss, hlt, bin_add, hw1, e1, e2, evCall_fn ft30 rfl, c1, ix, bin_eql, show ((((110 : UInt8).toNat : Int)) == 112) = false from rfl, show ((((110 : UInt8).toNat : Int)) == 111) = false from rfl, show ((((110 : UInt8).toNat : Int)) == 110) = true from rfl, e2', evCall_fn ft31 rfl, c3, f3, e3]
        exact growOr2 gg (ih (i + 1) { r with n := v } dv _ h4 (N + 89) hnext (by omega) hkl (by omega) (by simp only [symM, Nat.reduceBEq, g2]) (by simp only [symM, Nat.reduceBEq, g4]) (by simp only [symM, Nat.reduceBEq, g5]) (by simp only [symM, Nat.reduceBEq, g7]) get_same x4 bz4)
      · subst hf
        rw [hset, readA_none]
        obtain ⟨h5, s1, s2, s3, s4, _⟩ := bz4.storeA (n := m) (a := zeroA) (d := nilV) (cellsA_len _ _) rfl hmb
        apply Exists.intro; apply Exists.intro
        refine ⟨.inr ⟨?_, ?_, ?_, rfl, s2⟩, gg.trans s3 (Nat.le_refl _)⟩
        · simp only [bodyRA, part, Tryd.f13, sub, symM, opFn, Nat.reduceLT, Nat.reduceBEq, g2, g4, g5, g7, g8, len_str, bin_lss, hlt, bin_add, hw1, e1, e2, evCall_fn ft30 rfl, c1, ix, bin_eql, show ((((110 : UInt8).toNat : Int)) == 112) = false from rfl, show ((((110 : UInt8).toNat : Int)) == 111) = false from rfl, show ((((110 : UInt8).toNat : Int)) == 110) = true from rfl, e2', evCall_fn ft31 rfl, c3, f3, e3, build_A0, s1]
          rfl
        · simp only [symM, Nat.reduceBEq, g2]
        · simp only [symM]
    · -- m
      obtain ⟨q', e1', e2'⟩ := strs_at x2.row (i := i + 1) (w := w) (by rw [List.getElem?_cons_succ]; exact hw)
      rw [e1] at e1'
      cases e1'
      obtain ⟨v, b, h3, c3, c4, hv, hb1, hb2⟩ := hNu w h2 hwl x2.gl
      have hset := set_num2 (c := 109) (r := r) (fun v r => { r with m := v }) (by unfold setA; rfl) hv hb1 hb2
      obtain ⟨h4, e3, x4, g4', n4', k4⟩ := (x2.grow c4).put 4 3 (iv v) { r with m := v } dv (by decide) sz_int rfl rfl (x2.grow c4).dat
      have gg : Grow m h h4 := (g12.trans (c4.less (Nat.le_trans hmn x2.nn)) (Nat.le_refl _)).trans (g4'.less hmn) (Nat.le_refl _)
      have bz4 := (bz2.grow c4 (Nat.lt_of_lt_of_le hbh c2.next)).grow g4' hb2n
      rcases hset with ⟨hf, hset⟩ | ⟨hf, hset⟩
      · subst hf
        rw [hset]
        simp only [bodyRA, part, Tryd.f13, sub, symM, opFn, Nat.reduceLT, Nat.reduceBEq, g4, g5, g7, g8, len_str, bin_lss, hlt, bin_add, hw1, e1, e2, evCall_fn ft30 rfl, c1, ix, bin_eql, show ((((109 : UInt8).toNat : Int)) == 112) = false from rfl, show ((((109 : UInt8).toNat : Int)) == 111) = false from rfl, show ((((109 : UInt8).toNat : Int)) == 110) = false from rfl, show ((((109 : UInt8).toNat : Int)) == 109) = true from rfl, e2', evCall_fn ft31 rfl, c3, f4, e3]
        exact growOr2 gg (ih (i + 1) { r with m := v } dv _ h4 (N + 89) hnext (by omega) hkl (by omega) (by simp only [symM, Nat.reduceBEq, g2]) (by simp only [symM, Nat.reduceBEq, g4]) (by simp only [symM, Nat.reduceBEq, g5]) (by simp only [symM, Nat.reduceBEq, g7]) get_same x4 bz4)
      · subst hf
        rw [hset, readA_none]
        obtain ⟨h5, s1, s2, s3, s4, _⟩ := bz4.storeA (n := m) (a := zeroA) (d := nilV) (cellsA_len _ _) rfl hmb
        apply Exists.intro; apply Exists.intro
        refine ⟨.inr ⟨?_, ?_, ?_, rfl, s2⟩, gg.trans s3 (Nat.le_refl _)⟩
        · simp only [bodyRA, part, Tryd.f13, sub, symM, opFn, Nat.reduceLT, Nat.reduceBEq, g2, g4, g5, g7, g8, len_str, bin_lss, hlt, bin_add, hw1, e1, e2, evCall_fn ft30 rfl, c1, ix, bin_eql, show ((((109 : UInt8).toNat : Int)) == 112) = false from rfl, show ((((109 : UInt8).toNat : Int)) == 111) = false from rfl, show ((((109 : UInt8).toNat : Int)) == 110) = false from rfl, show ((((109 : UInt8).toNat : Int)) == 109) = true from rfl, e2', evCall_fn ft31 rfl, c3, f4, e3, build_A0, s1]
          rfl
        · simp only [symM, Nat.reduceBEq, g2]
        · simp only [symM]
    · -- data
      have hset := set_text2 (c := 100) (w := w) (r := r) (fun s r => { r with data := s }) (by unfold setA; rfl)
      generalize hh3 : h2.new (.cells (PM.ofList (byteVals (textL w).1)) (textL w).1.length 5 (textL w).1.length ((textL w).1.length + 1) .loose) = h3
      have g3 : Grow h2.next h2 h3 := by rw [← hh3]; exact Grow.new _ _
      have hcv : evConvert T0 9 22 (sv (textL w).1) h2 = some (.slice (some ⟨h2.next, 0, none⟩) (textL w).1.length (XB + (textL w).1.length), h3) := by rw [conv_toBytes, hh3]
      have hda : DatA h3 (.slice (some ⟨h2.next, 0, none⟩) (textL w).1.length (XB + (textL w).1.length)) (textL w).1 := by rw [← hh3]; exact DatA.bytes _ _
      obtain ⟨h4, e3, x4, g4', n4', k4⟩ := (x2.grow g3).put 5 22 (.slice (some ⟨h2.next, 0, none⟩) (textL w).1.length (XB + (textL w).1.length)) { r with data := (textL w).1 } (.slice (some ⟨h2.next, 0, none⟩) (textL w).1.length (XB + (textL w).1.length)) (by decide) sz_bytes rfl rfl hda
      have gg : Grow m h h4 := (g12.trans (g3.less (Nat.le_trans hmn x2.nn)) (Nat.le_refl _)).trans (g4'.less hmn) (Nat.le_refl _)
      have bz4 := (bz2.grow g3 (Nat.lt_of_lt_of_le hbh c2.next)).grow g4' hb2n
      rcases hset with ⟨hf, hset⟩ | ⟨hf, hset⟩
      · skip
        rw [hset]
        simp only [bodyRA, part, Tryd.f13, sub, symM, opFn, Nat.reduceLT, Nat.reduceBEq, g4, g5, g7, g8, len_str, bin_lss, hlt, bin_add, hw1, e1, e2, evCall_fn ft30 rfl, c1, ix, bin_eql, show ((((100 : UInt8).toNat : Int)) == 112) = false from rfl, show ((((100 : UInt8).toNat : Int)) == 111) = false from rfl, show ((((100 : UInt8).toNat : Int)) == 110) = false from rfl, show ((((100 : UInt8).toNat : Int)) == 109) = false from rfl, hcv, f5, e3, hf]
        exact growOr2 gg (ih (i + 1) { r with data := (textL w).1 } _ _ h4 (N + 89) hnext (by omega) hkl (by omega) (by simp only [symM, Nat.reduceBEq, g2]) (by simp only [symM, Nat.reduceBEq, g4]) (by simp only [symM, Nat.reduceBEq, g5]) (by simp only [symM, Nat.reduceBEq, g7]) get_same x4 bz4)
      · skip
        rw [hset, readA_none]
        obtain ⟨h5, s1, s2, s3, s4, _⟩ := bz4.storeA (n := m) (a := zeroA) (d := nilV) (cellsA_len _ _) rfl hmb
        apply Exists.intro; apply Exists.intro
        refine ⟨.inr ⟨?_, ?_, ?_, rfl, s2⟩, gg.trans s3 (Nat.le_refl _)⟩
        · simp only [bodyRA, part, Tryd.f13, sub, symM, opFn, Nat.reduceLT, Nat.reduceBEq, g2, g4, g5, g7, g8, len_str, bin_lss, hlt, bin_add, hw1, e1, e2, evCall_fn ft30 rfl, c1, ix, bin_eql, show ((((100 : UInt8).toNat : Int)) == 112) = false from rfl, show ((((100 : UInt8).toNat : Int)) == 111) = false from rfl, show ((((100 : UInt8).toNat : Int)) == 110) = false from rfl, show ((((100 : UInt8).toNat : Int)) == 109) = false from rfl, hcv, f5, e3, hf, build_A0, s1]
          rfl
        · simp only [symM, Nat.reduceBEq, g2]
        · simp only [symM]
end
end Go.Proofs.YtknchhnibjfocaaDoor.Abs
namespace Go.Proofs.YtknchhnibjfocaaDoor.Abs
open Go Go.Proofs
noncomputable section
variable {call : Abs.Callee}
set_option maxRecDepth 10000
theorem rAct_S (M : Nat) (hWd : WordsC call M) (hPa : PartsC call) (hM : M < 4294967281) (hT : TextC call 30 M) (hNu : NumC call 31 M) (line : List UInt8) (h : AH) (hl : line.length ≤ M) (hg : Glob h) (h4 : 4 ≤ h.next) :
    ∃ d h', frameB T0 X0 call 3000 13 [sv line] h = some (.tuple #[actV ((actA line).getD zeroA) d, iv (if (actA line).isSome then 0 else 14)], h') ∧ Grow h.next h h' ∧ DatA h' d ((actA line).getD zeroA).data := by
  generalize hh1 : h.new (.cells (PM.ofList (cellsA zeroA nilV)) 6 24 0 0 .ex) = h1
  have n1 : h1.next = h.next + 1 := by rw [← hh1]; rfl
  have g1 : Grow h.next h h1 := by rw [← hh1]; exact Grow.new _ _
  have hal : evAlloc T0 24 h = some (ptr h.next, h1) := by rw [← hh1]; exact alloc_A
  have b1 : BoxL h1 h.next 24 (cellsA zeroA nilV) := by rw [← hh1]; exact BoxL.new h _ _
  obtain ⟨vW, h2, c1, own, g2⟩ := hWd line h1 hl
  have hrw := own.own.row
  have hwl : ∀ w ∈ splitA 32 [] line, w.length ≤ M := fun w hw => Nat.le_trans (splitA_mem 32 line [] w hw) (by simpa using hl)
  have hWn := splitA_len 32 line []
  have hcn : line.count 32 ≤ line.length := List.count_le_length
  have n2 := g2.next
  cases e : splitA 32 [] line with
  | nil => exact absurd e (splitA_ne 32 line [])
  | cons w0 ws =>
    rw [e] at hrw hwl hWn
    have hA : actA line = actR w0 ws := by unfold actA; rw [e]
    rw [hA]
    have hW2 : ws.length < 4294967281 := by simp only [List.length_cons] at hWn; omega
    obtain ⟨q, e1, e2⟩ := strs_at hrw (i := 0) (w := w0) rfl
    have e1 : evIndexAddr T0 46 vW (iv 0) = some q := e1
    obtain ⟨h3, c3, g3⟩ := hPa w0 h2
    have n3 := g3.next
    have g13 : Grow h1.next h1 h3 := g2.trans g3 (by omega)
    have g03 : Grow h.next h h3 := g1.trans g13 (by omega)
    have hrw3 : Row h3.next h3 vW (strsV (w0 :: ws)) 9 := (hrw.grow g3 (by omega)).wide (by omega)
    have b3 := b1.grow g13 (by omega)
    obtain ⟨q', e1', e3⟩ := strs_at hrw3 (i := 0) (w := w0) rfl
    have e1' : evIndexAddr T0 46 vW (iv 0) = some q' := e1'
    rw [e1] at e1'
    cases e1'
    have hln := fun ty => strs_len (h' := h3) hrw3 ty
    obtain ⟨h4', s1, s2, s3, s4, _⟩ := b3.storeA (n := h.next) (a := zeroA) (d := nilV) (cellsA_len _ _) rfl (Nat.le_refl _)
    cases hp : partsOf w0 with
    | none =>
      rw [hp] at c3
      simp only [Option.getD_none, Option.isSome_none] at c3
      have hR : actR w0 ws = none := by unfold actR; rw [hp]
      rw [hR]
      refine ⟨nilV, h4', ?_, g03.trans s3 (Nat.le_refl _), DatA.nil⟩
      rw [frameB_eq ft13 rfl rfl]
      simp only [Tryd.f13, symM, opFn, Nat.reduceLT, Nat.reduceBEq, hal, evCall_fn ft29 rfl, c1, e1, e2, evCall_fn ft23 rfl, c3, build_A0, s1]
      exact retB_cell1 ft13 rfl (by simp only [symM, Nat.reduceBEq]) (loadW_A s2) (by simp only [symM]; rfl)
    | some P =>
      rw [hp] at c3
      simp only [Option.getD_some, Option.isSome_some] at c3
      obtain ⟨hgp, hvl⟩ := parts_good hp
      obtain ⟨hP, hnd, hk⟩ := goodP_iff hgp
      have hw1 : IntKind.i64.wrap ((P.length : Int) + 1) = ((P.length + 1 : Nat) : Int) := wadd1 (by omega)
      by_cases hlen : ws.length = P.length
      · have hne : ((((w0 :: ws).length : Nat) : Int) == ((P.length + 1 : Nat) : Int)) = true := by rw [List.length_cons, hlen]; simp
        have hR : actR w0 ws = readA P ws (some { zeroA with verb := w0 }) := by unfold actR; rw [hp]; simp only [hlen, if_true]
        rw [hR]
        generalize hh4 : h3.new (.cells (PM.ofList (cellsA zeroA nilV)) 6 24 0 0 .ex) = h5
        have n5 : h5.next = h3.next + 1 := by rw [← hh4]; rfl
        have g5 : Grow h3.next h3 h5 := by rw [← hh4]; exact Grow.new _ _
        have hal2 : evAlloc T0 24 h3 = some (ptr h3.next, h5) := by rw [← hh4]; exact alloc_A
        have b5 : BoxL h5 h3.next 24 (cellsA zeroA nilV) := by rw [← hh4]; exact BoxL.new h3 _ _
        obtain ⟨h6, u1, u2, u3, u4, _⟩ := b5.storeA (n := h3.next) (a := { zeroA with verb := w0 }) (d := nilV) (cellsA_len _ _) rfl (Nat.le_refl _)
        have g36 : Grow h3.next h3 h6 := g5.trans u3 (Nat.le_refl _)
        have x0 : ActJ h3.next h6 h3.next vW (w0 :: ws) { zeroA with verb := w0 } nilV :=
          ⟨by omega, ⟨Nat.le_refl _, by omega⟩, by omega, (hg.grow g03 h4).grow g36 (by omega), u2, hrw3.grow g36 (Nat.le_refl _), DatA.nil⟩
        have loop := fun (tm : PM Value) (N : Nat) (hN : P.length + 90 ≤ N) (q2 : tm.get 2 = some (ptr h.next)) (q4 : tm.get 4 = some vW) (q5 : tm.get 5 = some (sv P)) (q7 : tm.get 7 = some (ptr h3.next)) (q8 : tm.get 8 = some (iv (0 : Nat))) =>
          ractLp M hT hNu h.next h3.next h.next h3.next (Nat.le_refl _) (by omega) vW w0 ws P hlen (fun w hw => hwl w (List.mem_cons_of_mem _ hw)) hP P 0 { zeroA with verb := w0 } nilV tm h6 N rfl (Nat.zero_add _) hk hN q2 q4 q5 q7 q8 x0 (b3.grow g36 (by omega))
        rw [frameB_eq ft13 rfl rfl]
        simp only [Tryd.f13, symM, opFn, Nat.reduceLT, Nat.reduceBEq, hal, evCall_fn ft29 rfl, c1, e1, e2, e3, evCall_fn ft23 rfl, c3, hln, len_str, bin_add, hw1, bin_neq, hne, build_A1, hal2, u1]
        refine bind_loopJ (b := bodyRA) (Q := fun co => ∃ tm' h', ((∃ r' dv', co = .jump (.exit 0) tm' h' [] ∧ tm'.get 2 = some (ptr h.next) ∧ tm'.get 7 = some (ptr h3.next) ∧ ActJ h3.next h' h3.next vW (w0 :: ws) r' dv' ∧ readA P (ws.drop 0) (some { zeroA with verb := w0 }) = some r' ∧ BoxL h' h.next 24 (cellsA zeroA nilV)) ∨
            (co = .jump .ret tm' h' [] ∧ tm'.get 2 = some (ptr h.next) ∧ tm'.get 3 = some (iv 14) ∧ readA P (ws.drop 0) (some { zeroA with verb := w0 }) = none ∧ BoxL h' h.next 24 (cellsA zeroA nilV))) ∧ Grow h.next h6 h')
          (P := fun co => ∃ d h', endF T0 13 co = some (.tuple #[actV ((readA P ws (some { zeroA with verb := w0 })).getD zeroA) d, iv (if (readA P ws (some { zeroA with verb := w0 })).isSome then 0 else 14)], h') ∧ Grow h.next h h' ∧ DatA h' d ((readA P ws (some { zeroA with verb := w0 })).getD zeroA).data) ?_ ?_
        · exact loop _ _ (by omega) (by simp only [symM, Nat.reduceBEq]) (by simp only [symM, Nat.reduceBEq]) (by simp only [symM, Nat.reduceBEq]) (by simp only [symM, Nat.reduceBEq]) get_same
        · rintro co ⟨tm', h8, ho, g⟩
          have g08 : Grow h.next h h8 := (g03.trans (g36.less (by omega)) (Nat.le_refl _)).trans g (Nat.le_refl _)
          rw [List.drop_zero] at ho
          rcases ho with ⟨r', dv', rfl, t2, t7, x, hs, b8⟩ | ⟨rfl, t2, t3, hs, b8⟩
          · rw [hs]
            obtain ⟨h9, v1, v2, v3, v4, v5⟩ := b8.storeA (n := h.next) (a := r') (d := dv') (cellsA_len _ _) x.dat.row.one.1 (Nat.le_refl _)
            refine ⟨dv', h9, ?_, g08.trans v3 (Nat.le_refl _), x.dat.away (b := h.next) (fun c m lo hi kd q => by obtain ⟨c8, q8, _⟩ := b8; rw [q8] at q; cases q) (by rw [v4]; exact Nat.le_refl _) v5⟩
            simp only [symM, opFn, Nat.reduceLT, Nat.reduceBEq, symL, t2, t7, loadW_A x.rx, v1]
            exact retB_cell1 ft13 rfl (by simp only [symM, Nat.reduceBEq, t2]) (loadW_A v2) (by simp only [symM]; rfl)
          · rw [hs]
            refine ⟨nilV, h8, ?_, g08, DatA.nil⟩
            simp only [symM]
            exact retB_cell1 ft13 rfl t2 (loadW_A b8) t3
      · have hne : ((((w0 :: ws).length : Nat) : Int) == ((P.length + 1 : Nat) : Int)) = false := by
          rw [beq_eq_false_iff_ne, List.length_cons]; intro q; omega
        have hR : actR w0 ws = none := by unfold actR; rw [hp]; simp only [hlen, if_false]
        rw [hR]
        refine ⟨nilV, h4', ?_, g03.trans s3 (Nat.le_refl _), DatA.nil⟩
        rw [frameB_eq ft13 rfl rfl]
        simp only [Tryd.f13, symM, opFn, Nat.reduceLT, Nat.reduceBEq, hal, evCall_fn ft29 rfl, c1, e1, e2, evCall_fn ft23 rfl, c3, hln, len_str, bin_add, hw1, bin_neq, hne, build_A0, s1]
        exact retB_cell1 ft13 rfl (by simp only [symM, Nat.reduceBEq]) (loadW_A s2) (by simp only [symM]; rfl)

theorem ft14 : T0.ft.get 14 = some Tryd.f14 := by kernel_rfl
def sameA (a b : ActD) : Bool := (a.verb == b.verb) && ((a.path == b.path) && ((a.other == b.other) && ((a.n == b.n) && ((a.m == b.m) && (a.data == b.data)))))
theorem sameA_refl (a : ActD) : sameA a a = true := by simp [sameA]
theorem sameA_iff {a b : ActD} : sameA a b = true ↔ a = b := by
  constructor
  · intro h
    obtain ⟨v, p, o, n, m, d⟩ := a
    obtain ⟨v', p', o', n', m', d'⟩ := b
    simp only [sameA, Bool.and_eq_true, beq_iff_eq] at h
    obtain ⟨rfl, rfl, rfl, rfl, rfl, rfl⟩ := h
    rfl
  · rintro rfl; exact sameA_refl a
theorem Same_S (a b : ActD) (d e : Value) (h : AH) (hd : Row h.next h d (byteVals a.data) 5) (he : Row h.next h e (byteVals b.data) 5) :
    ∃ h', frameB T0 X0 call 3000 14 [actV a d, actV b e] h = some (.bool (sameA a b), h') ∧ Grow h.next h h' := by
  generalize hh1 : h.new (.cells (PM.ofList (cellsA a d)) 6 24 0 0 .ex) = h1
  have hb1 : rp (some (evNewVar h 24 (actV a d))) = some (.value (ptr h.next), h1) := by rw [box_A, hh1]
  have b1 : BoxL h1 h.next 24 (cellsA a d) := by rw [← hh1]; exact BoxL.new h _ (cellsA a d)
  have n1 : h1.next = h.next + 1 := by rw [← hh1]; rfl
  have g1 : Grow h.next h h1 := by rw [← hh1]; exact Grow.new _ _
  generalize hh2 : h1.new (.cells (PM.ofList (cellsA b e)) 6 24 0 0 .ex) = h2
  have hb2 : rp (some (evNewVar h1 24 (actV b e))) = some (.value (ptr h1.next), h2) := by rw [box_A, hh2]
  have b2 : BoxL h2 h1.next 24 (cellsA b e) := by rw [← hh2]; exact BoxL.new h1 _ (cellsA b e)
  have g2 : Grow h1.next h1 h2 := by rw [← hh2]; exact Grow.new _ _
  have g12 : Grow h.next h h2 := g1.trans g2 (by omega)
  obtain ⟨l0, l1, l2, l3, l4, l5⟩ := load_A (b1.grow g2 (by omega))
  obtain ⟨m0, m1, m2, m3, m4, m5⟩ := load_A b2
  obtain ⟨f0, f1, f2, f3, f4, f5⟩ := field_A (b := h.next)
  obtain ⟨k0, k1, k2, k3, k4, k5⟩ := field_A (b := h1.next)
  have cd := conv_bytes (hd.grow g12 (Nat.le_refl _))
  have ce := conv_bytes (he.grow g12 (Nat.le_refl _))
  refine ⟨h2, ?_, g12⟩
  rw [frameB_eq ft14 rfl rfl]
  cases e0 : (a.verb == b.verb) with
  | false =>
    have hs : sameA a b = false := by unfold sameA; rw [e0]; rfl
    rw [hs]
    simp only [Tryd.f14, symM, opFn, Nat.reduceLT, Nat.reduceBEq, hb1, hb2, f0, k0, l0, m0, bin_seql, e0]
    exact retB_one ft14 rfl get_same
  | true =>
    cases e1 : (a.path == b.path) with
    | false =>
      have hs : sameA a b = false := by unfold sameA; rw [e0, e1]; rfl
      rw [hs]
      simp only [Tryd.f14, symM, opFn, Nat.reduceLT, Nat.reduceBEq, hb1, hb2, f0, f1, k0, k1, l0, l1, m0, m1, bin_seql, e0, e1]
      exact retB_one ft14 rfl get_same
    | true =>
      cases e2 : (a.other == b.other) with
      | false =>
        have hs : sameA a b = false := by unfold sameA; rw [e0, e1, e2]; rfl
        rw [hs]
        simp only [Tryd.f14, symM, opFn, Nat.reduceLT, Nat.reduceBEq, hb1, hb2, f0, f1, f2, k0, k1, k2, l0, l1, l2, m0, m1, m2, bin_seql, e0, e1, e2]
        exact retB_one ft14 rfl get_same
      | true =>
        cases e3 : (a.n == b.n) with
        | false =>
          have hs : sameA a b = false := by unfold sameA; rw [e0, e1, e2, e3]; rfl
          rw [hs]
          simp only [Tryd.f14, symM, opFn, Nat.reduceLT, Nat.reduceBEq, hb1, hb2, f0, f1, f2, f3, k0, k1, k2, k3, l0, l1, l2, l3, m0, m1, m2, m3, bin_seql, bin_eql, e0, e1, e2, e3]
          exact retB_one ft14 rfl get_same
        | true =>
          cases e4 : (a.m == b.m) with
          | false =>
            have hs : sameA a b = false := by unfold sameA; rw [e0, e1, e2, e3, e4]; rfl
            rw [hs]
            simp only [Tryd.f14, symM, opFn, Nat.reduceLT, Nat.reduceBEq, hb1, hb2, f0, f1, f2, f3, f4, k0, k1, k2, k3, k4, l0, l1, l2, l3, l4, m0, m1, m2, m3, m4, bin_seql, bin_eql, e0, e1, e2, e3, e4]
            exact retB_one ft14 rfl get_same
          | true =>
            have hs : sameA a b = (a.data == b.data) := by unfold sameA; rw [e0, e1, e2, e3, e4]; rfl
            rw [hs]
            simp only [Tryd.f14, symM, opFn, Nat.reduceLT, Nat.reduceBEq, hb1, hb2, f0, f1, f2, f3, f4, f5, k0, k1, k2, k3, k4, k5, l0, l1, l2, l3, l4, l5, m0, m1, m2, m3, m4, m5, bin_seql, bin_eql, cd, ce, e0, e1, e2, e3, e4]
            exact retB_one ft14 rfl get_same
end
end Go.Proofs.YtknchhnibjfocaaDoor.Abs
