
/- Chains: how many blocks they need; is a block one of extents? -/
import Derived.Test.YtglmahefcdhmgaaExts
namespace Go.Proofs.Ytglmahefcdhmgaa.Abs
open Go Go.Proofs
noncomputable section
variable {call : Abs.Callee}
set_option maxRecDepth 10000
theorem ft5 : T0.ft.get 5 = some Try.f5 := by kernel_rfl
theorem ft13 : T0.ft.get 13 = some Try.f13 := by kernel_rfl
theorem ft35 : T0.ft.get 35 = some Try.f35 := by kernel_rfl
theorem ft12 : T0.ft.get 12 = some Try.f12 := by kernel_rfl
theorem ft52 : T0.ft.get 52 = some Try.f52 := by kernel_rfl
theorem ft34 : T0.ft.get 34 = some Try.f34 := by kernel_rfl
theorem ft46 : T0.ft.get 46 = some Try.f46 := by kernel_rfl
theorem ft26 : T0.ft.get 26 = some Try.f26 := by kernel_rfl
def needK (k : Nat) : Nat := (k - 3 + 13) / 14
theorem Need_S (k : Nat) (hk : k ≤ 96) (h : AH) : frameB T0 X0 call 3000 5 [iv k] h = some (.tuple #[iv (needK k), iv 0], h) := by
  have w1 : IntKind.i64.wrap ((k : Int) - 3) = (k : Int) - 3 := wz (by omega)
  have m1 : (if (0 : Int) > (k : Int) - 3 then (0 : Int) else (k : Int) - 3) = ((k - 3 : Nat) : Int) := by split <;> omega
  have w2 : IntKind.i64.wrap (((k - 3 : Nat) : Int) + 14) = ((k - 3 + 14 : Nat) : Int) := by rw [wz (by omega)]; omega
  have w3 : IntKind.i64.wrap (((k - 3 + 14 : Nat) : Int) - 1) = ((k - 3 + 13 : Nat) : Int) := by rw [wz (by omega)]; omega
  have w4 : ∀ p q, evBin T0 .quo 3 p q (iv ((k - 3 + 13 : Nat) : Int)) (iv 14) h = some (iv (needK k)) := fun p q => by
    rw [show (14 : Int) = ((14 : Nat) : Int) from rfl, bin_quo (by decide), IntWalk.i64_in _ (by omega)]; rfl
  rw [frameB_eq ft5 rfl rfl]
  simp only [Try.f5, symM, opFn, Nat.reduceLT, Nat.reduceBEq, symM, bin_lss, bin_gtr, decide_eq_false (show ¬ (k : Int) < 0 by omega), decide_eq_false (show ¬ (96 : Int) < (k : Int) by omega), bin_sub, w1, bi_max, m1, bin_add, w2, w3, w4]
  exact retB_two ft5 rfl (by simp only [symM, Nat.reduceBEq]) get_same
def idxX (p : XV → Bool) : List XV → Nat → Int
  | [], _ => -1
  | x :: l, i => bif p x then (i : Int) else idxX p l (i + 1)
theorem idxX_any (p : XV → Bool) : ∀ (L : List XV) (i : Nat), decide ((0 : Int) ≤ idxX p L i) = L.any p
  | [], i => rfl
  | x :: L, i => by
    rw [idxX, List.any_cons]
    cases p x with
    | true => rw [cond_true, Bool.true_or]; exact decide_eq_true (by omega)
    | false => rw [cond_false, Bool.false_or]; exact idxX_any p L (i + 1)
noncomputable def bodyIE : Code := part Try.f52 [1, 0, 1, 0, 0]
abbrev EIE : Env := ⟨52, 19, none⟩
theorem loopIE (s : Value) (xs : List XV) (n0 : Nat) (h0 : AH) (g : Nat) (cap : List Value) (fd : Func) (c : Code) (hg : T0.ft.get g = some fd) (hgb : fd.body = some c) (p : XV → Bool) (hs : RowE n0 h0 s xs) (hn : n0 ≤ h0.next) (hL : xs.length < 900)
    (hp : ∀ x ∈ xs, ∀ h, Grow h0.next h0 h → ∃ h', call g (extV x :: cap) h = some (.bool (p x), h') ∧ Grow h.next h h') :
    ∀ (l : List XV) (i : Nat) (h : AH) (tm : PM Value) (N : Nat), xs.drop i = l → i + l.length = xs.length → l.length + 20 ≤ N → Grow h0.next h0 h → tm.get 0 = some s → tm.get 1 = some (.func (.func g) #[] cap.toArray) → tm.get 7 = some (iv xs.length) → tm.get 8 = some (iv i) →
      ∃ tm' h', ((codeB T0 X0 call N EIE (.loop bodyIE) tm h [] = .jump .ret tm' h' [] ∧ tm'.get 4 = some (iv (idxX p l i))) ∨ (codeB T0 X0 call N EIE (.loop bodyIE) tm h [] = .jump (.exit 0) tm' h' [] ∧ idxX p l i = -1)) ∧ Grow h0.next h0 h' := by
  intro l
  induction l with
  | nil =>
    intro i h tm N hd hi hN hgr g0 g1 g7 g8
    obtain ⟨N, rfl⟩ : ∃ a, N = a + 20 := ⟨N - 20, by simp at hN; omega⟩
    apply Exists.intro; apply Exists.intro
    refine ⟨.inr ⟨?_, rfl⟩, hgr⟩
    rw [codeB_loop]
    simp only [bodyIE, part, Try.f52, sub, symM, opFn, Nat.reduceLT, g7, g8, bin_lss, decide_eq_false (show ¬ (i : Int) < (xs.length : Nat) by simp at hi; omega)]
    rfl
  | cons x l ih =>
    intro i h tm N hd hi hN hgr g0 g1 g7 g8
    obtain ⟨N, rfl⟩ : ∃ a, N = a + 20 := ⟨N - 20, by simp at hN; omega⟩
    have hlt := decide_eq_true (show (i : Int) < (xs.length : Nat) by simp at hi; omega)
    have hx : xs[i]? = some x := by have := congrArg (fun l => l[0]?) hd; simpa using this
    obtain ⟨b, o, e1, e2, _, _⟩ := (hs.grow hgr hn).at hx
    obtain ⟨h', hcall, hg'⟩ := hp x (List.mem_of_getElem? hx) h hgr
    have hgr' : Grow h0.next h0 h' := hgr.trans hg' hgr.next
    have hw := wadd1 (show i ≤ 400000 by simp at hi; omega)
    cases hb : p x with
    | true =>
      rw [hb] at hcall
      apply Exists.intro; apply Exists.intro
      refine ⟨.inl ⟨?_, ?_⟩, hgr'⟩
      · rw [codeB_loop]
        simp only [bodyIE, part, Try.f52, sub, symM, opFn, Nat.reduceLT, Nat.reduceBEq, g0, g1, g7, g8, bin_lss, hlt, e1, e2, evCall_clo hg hgb, List.cons_append, List.nil_append, hcall]
        rfl
      · simp only [symM, idxX, hb, cond_true]
    | false =>
      rw [hb] at hcall
      rw [show N + 20 = (N + 19) + 1 from rfl, codeB_loop]
      simp only [bodyIE, part, Try.f52, sub, symM, opFn, Nat.reduceLT, Nat.reduceBEq, g0, g1, g7, g8, bin_lss, hlt, e1, e2, evCall_clo hg hgb, List.cons_append, List.nil_append, hcall, bin_add, hw]
      rw [show idxX p (x :: l) i = idxX p l (i + 1) from by rw [idxX, hb]; rfl]
      exact ih (i + 1) h' _ (N + 19) (by rw [← List.drop_drop, hd]; rfl) (by simp at hi ⊢; omega) (by simp at hN ⊢; omega) hgr' (by simp only [symM, Nat.reduceBEq, g0]) (by simp only [symM, Nat.reduceBEq, g1]) (by simp only [symM, Nat.reduceBEq, g7]) get_same
theorem IndexE_S (s : Value) (xs : List XV) (n0 : Nat) (h : AH) (g : Nat) (cap : List Value) (fd : Func) (c : Code) (hg : T0.ft.get g = some fd) (hgb : fd.body = some c) (p : XV → Bool) (hs : RowE n0 h s xs) (hn : n0 ≤ h.next) (hL : xs.length < 900)
    (hp : ∀ x ∈ xs, ∀ h1, Grow h.next h h1 → ∃ h', call g (extV x :: cap) h1 = some (.bool (p x), h') ∧ Grow h1.next h1 h') : ∃ h', frameB T0 X0 call 3000 52 [s, .func (.func g) #[] cap.toArray] h = some (iv (idxX p xs 0), h') ∧ Grow h.next h h' := by
  rw [frameB_eq ft52 rfl rfl]
  have hL2 := fun tm N => loopIE s xs n0 h g cap fd c hg hgb p hs hn hL hp xs 0 h tm N rfl (by simp)
  simp only [Try.f52, symM, opFn, Nat.reduceLT, Nat.reduceBEq, hs.len]
  refine bind_loopJ (b := bodyIE) (Q := fun x => ∃ tm' h', ((x = .jump .ret tm' h' [] ∧ tm'.get 4 = some (iv (idxX p xs 0))) ∨ (x = .jump (.exit 0) tm' h' [] ∧ idxX p xs 0 = -1)) ∧ Grow h.next h h') (P := fun x => ∃ h', endF T0 52 x = some (iv (idxX p xs 0), h') ∧ Grow h.next h h') ?_ ?_
  · exact hL2 _ _ (by omega) (Grow.refl _ _) (by simp only [symM, Nat.reduceBEq]) (by simp only [symM, Nat.reduceBEq]) (by simp only [symM, Nat.reduceBEq]) (by simp only [symM]; rfl)
  · intro x ⟨tm', h', hx, hg⟩
    refine ⟨h', ?_, hg⟩
    rcases hx with ⟨rfl, h4⟩ | ⟨rfl, h4⟩
    · simp only [symM]
      exact retB_one ft52 rfl h4
    · rw [h4]
      simp only [symM]
      exact retB_one ft52 rfl get_same
theorem ContainsE_S (v f : Value) (xs : List XV) (p : XV → Bool) (h h' : AH) (hI : call 52 [v, f] h = some (iv (idxX p xs 0), h')) :
    frameB T0 X0 call 3000 34 [v, f] h = some (.bool (xs.any p), h') := by
  rw [frameB_eq ft34 rfl rfl]
  simp only [Try.f34, symM, opFn, Nat.reduceLT, Nat.reduceBEq, evCall_fn ft52 rfl, hI, bin_geq, idxX_any]
  exact retB_one ft34 rfl get_same
end
end Go.Proofs.Ytglmahefcdhmgaa.Abs
namespace Go.Proofs.Ytglmahefcdhmgaa.Abs
open Go Go.Proofs
noncomputable section
variable {call : Abs.Callee}
set_option maxRecDepth 10000
theorem zd1 : zd ((1 : Nat) : Int) = 4607182418800017408 := by decide
theorem in1_S (hM : ∀ (r x : XV) (h : AH), runOK r.x r.y = true → runOK x.x x.y = true → ∃ a b : Int, call 33 [cx r.x r.y, cx x.x x.y] h = some (make1V a b, h) ∧ zok a = true ∧ zok b = true ∧ decide (0 < b) = meetX r x)
    (x : XV) (hx : runOK x.x x.y = true) (q : Nat) (hq : q < 480) (b : Nat) (h : AH) (hlt : b < h.next) (hb : BoxL h b 3 [iv q]) :
    ∃ h', frameB T0 X0 call 3000 35 [extV x, pv b 0] h = some (.bool (meetX x ⟨0, q, 1⟩), h') ∧ Grow h.next h h' := by
  generalize hh1 : h.new (.cells (PM.ofList [iv x.a, cx x.x x.y]) 2 33 0 0 .ex) = h1
  have g1 : Grow h.next h h1 := by rw [← hh1]; exact Grow.new _ _
  have hb1 : BoxL h1 h.next 33 [iv x.a, cx x.x x.y] := by rw [← hh1]; exact BoxL.new _ _ _
  have hbn : ∀ h, rp (some (evNewVar h 33 (extV x))) = some (.value (pv h.next 0), h.new (.cells (PM.ofList [iv x.a, cx x.x x.y]) 2 33 0 0 .ex)) := fun h => rfl
  have hb2 : BoxL h1 b 3 [iv q] := hb.grow g1 hlt
  obtain ⟨p, r, e1, z1, z2, e2⟩ := hM x ⟨0, q, 1⟩ h1 hx (by unfold runOK; simp; omega)
  have e1 : call 33 [cx x.x x.y, .complex .f64 (zd q) (zd ((1 : Nat) : Int))] h1 = _ := e1
  rw [zd1] at e1
  refine ⟨h1, ?_, g1⟩
  rw [frameB_eq ft35 rfl rfl]
  simp only [Try.f35, symM, opFn, Nat.reduceLT, Nat.reduceBEq, symM, hbn, hh1, field_E1, Nat.zero_add, (BoxE.load hb1).2.2, hb2.load agg_int (i := 0) rfl, conv_i2f und_int und_f64 (zok_k (x := (q : Int)) (by omega)), evCall_fn ft33 rfl, e1, neq_make z1 z2, e2]
  exact retB_one ft35 rfl get_same
theorem in_S (hC : ∀ (v : Value) (xs : List XV) (q b n0 : Nat) (h : AH), RowE n0 h v xs → n0 ≤ h.next → xs.length < 900 → (∀ x ∈ xs, runOK x.x x.y = true) → q < 480 → b < h.next → BoxL h b 3 [iv q] → ∃ h', call 34 [v, .func (.func 35) #[] #[pv b 0]] h = some (.bool (xs.any fun x => meetX x ⟨0, q, 1⟩), h') ∧ Grow h.next h h')
    (v : Value) (xs : List XV) (q n0 : Nat) (h : AH) (hv : RowE n0 h v xs) (hn : n0 ≤ h.next) (hl : xs.length < 900) (hx : ∀ x ∈ xs, runOK x.x x.y = true) (hq : q < 480) :
    ∃ h', frameB T0 X0 call 3000 13 [v, iv q] h = some (.bool (xs.any fun x => meetX x ⟨0, q, 1⟩), h') ∧ Grow h.next h h' := by
  generalize hh1 : h.new (.cells (PM.ofList [iv q]) 1 3 0 0 .ex) = h1
  have g1 : Grow h.next h h1 := by rw [← hh1]; exact Grow.new _ _
  have n1 : h1.next = h.next + 1 := by rw [← hh1]; rfl
  have hb1 : BoxL h1 h.next 3 [iv q] := by rw [← hh1]; exact BoxL.new _ _ _
  have hbn : ∀ h, rp (some (evNewVar h 3 (iv q))) = some (.value (pv h.next 0), h.new (.cells (PM.ofList [iv q]) 1 3 0 0 .ex)) := fun h => rfl
  obtain ⟨h2, c1, c2⟩ := hC v xs q h.next n0 h1 (hv.grow g1 hn) (by omega) hl hx hq (by omega) hb1
  refine ⟨h2, ?_, g1.trans c2 g1.next⟩
  rw [frameB_eq ft13 rfl rfl]
  simp only [Try.f13, symM, opFn, Nat.reduceLT, Nat.reduceBEq, symM, hbn, hh1, evCall_fn ft34 rfl, c1]
  exact retB_one ft13 rfl get_same
theorem Plan1_S (hI : ∀ (v : Value) (xs : List XV) (q n0 : Nat) (h : AH), RowE n0 h v xs → n0 ≤ h.next → xs.length < 900 → (∀ x ∈ xs, runOK x.x x.y = true) → q < 480 → ∃ h', call 13 [v, iv q] h = some (.bool (xs.any fun x => meetX x ⟨0, q, 1⟩), h') ∧ Grow h.next h h')
    (v : Value) (xs : List XV) (q b n0 : Nat) (h : AH) (hv : RowE n0 h v xs) (hn : n0 ≤ h.next) (hl : xs.length < 900) (hx : ∀ x ∈ xs, runOK x.x x.y = true) (hq : q < 480) (hb : BoxL h b 29 [v]) :
    ∃ h', frameB T0 X0 call 3000 12 [iv q, pv b 0] h = some (.bool (xs.any fun x => meetX x ⟨0, q, 1⟩), h') ∧ Grow h.next h h' := by
  obtain ⟨h2, c1, c2⟩ := hI v xs q n0 h hv hn hl hx hq
  refine ⟨h2, ?_, c2⟩
  rw [frameB_eq ft12 rfl rfl]
  simp only [Try.f12, symM, opFn, Nat.reduceLT, Nat.reduceBEq, symM, hb.load agg_exts (i := 0) rfl, evCall_fn ft13 rfl, c1]
  exact retB_one ft12 rfl get_same
/-- Where a number stands. -/
noncomputable def bodyIx : Code := part Try.f46 [1, 0, 1, 0, 0]
abbrev EIx : Env := ⟨46, 19, none⟩
def idxN (q : Nat) : List Nat → Nat → Int
  | [], _ => -1
  | x :: l, i => bif decide (q = x) then (i : Int) else idxN q l (i + 1)
theorem idxN_any (q : Nat) : ∀ (L : List Nat) (i : Nat), decide ((0 : Int) ≤ idxN q L i) = L.any fun x => decide (q = x)
  | [], i => rfl
  | x :: L, i => by
    rw [idxN, List.any_cons]
    cases decide (q = x) with
    | true => rw [cond_true, Bool.true_or]; exact decide_eq_true (by omega)
    | false => rw [cond_false, Bool.false_or]; exact idxN_any q L (i + 1)
theorem beqN' (a b : Nat) : ((a : Int) == (b : Int)) = decide (a = b) := by
  by_cases h : a = b
  · subst h; simp
  · rw [decide_eq_false h]; simp; omega
theorem loopIx (s : Value) (L : List Nat) (q n0 : Nat) (h : AH) (hs : Row n0 h s (intsV L) 3) (hL : L.length < 900) :
    ∀ (l : List Nat) (i : Nat) (tm : PM Value) (N : Nat), L.drop i = l → i + l.length = L.length → l.length + 20 ≤ N → tm.get 0 = some s → tm.get 1 = some (iv q) → tm.get 7 = some (iv L.length) → tm.get 8 = some (iv i) →
      ∃ tm', (codeB T0 X0 call N EIx (.loop bodyIx) tm h [] = .jump .ret tm' h [] ∧ tm'.get 4 = some (iv (idxN q l i))) ∨ (codeB T0 X0 call N EIx (.loop bodyIx) tm h [] = .jump (.exit 0) tm' h [] ∧ idxN q l i = -1) := by
  intro l
  induction l with
  | nil =>
    intro i tm N hd hi hN g0 g1 g7 g8
    obtain ⟨N, rfl⟩ : ∃ a, N = a + 20 := ⟨N - 20, by simp at hN; omega⟩
    apply Exists.intro
    right
    refine ⟨?_, rfl⟩
    rw [codeB_loop]
    simp only [bodyIx, part, Try.f46, sub, symM, opFn, Nat.reduceLT, g7, g8, bin_lss, decide_eq_false (show ¬ (i : Int) < (L.length : Nat) by simp at hi; omega)]
    rfl
  | cons x l ih =>
    intro i tm N hd hi hN g0 g1 g7 g8
    obtain ⟨N, rfl⟩ : ∃ a, N = a + 20 := ⟨N - 20, by simp at hN; omega⟩
    have hlt := decide_eq_true (show (i : Int) < (L.length : Nat) by simp at hi; omega)
    have hx : L[i]? = some x := by have := congrArg (fun l => l[0]?) hd; simpa using this
    obtain ⟨p, e1, e2⟩ := hs.at und_ints sz_int agg_int (i := i) (x := iv x) (by simp [intsV, hx])
    have hw := wadd1 (show i ≤ 400000 by simp at hi; omega)
    cases hb : decide (q = x) with
    | true =>
      apply Exists.intro
      left
      apply And.intro
      · rw [codeB_loop]
        simp only [bodyIx, part, Try.f46, sub, symM, opFn, Nat.reduceLT, Nat.reduceBEq, g0, g1, g7, g8, bin_lss, hlt, e1, e2, bin_eql, beqN', hb]
        rfl
      · simp only [symM, idxN, hb, cond_true]
    | false =>
      rw [show N + 20 = (N + 19) + 1 from rfl, codeB_loop]
      simp only [bodyIx, part, Try.f46, sub, symM, opFn, Nat.reduceLT, Nat.reduceBEq, g0, g1, g7, g8, bin_lss, hlt, e1, e2, bin_eql, beqN', hb, bin_add, hw]
      rw [show idxN q (x :: l) i = idxN q l (i + 1) from by rw [idxN, hb]; rfl]
      exact ih (i + 1) _ (N + 19) (by rw [← List.drop_drop, hd]; rfl) (by simp at hi ⊢; omega) (by simp at hN ⊢; omega) (by simp only [symM, Nat.reduceBEq, g0]) (by simp only [symM, Nat.reduceBEq, g1]) (by simp only [symM, Nat.reduceBEq, g7]) get_same
theorem IndexN_S (s : Value) (L : List Nat) (q n0 : Nat) (h : AH) (hs : Row n0 h s (intsV L) 3) (hL : L.length < 900) : frameB T0 X0 call 3000 46 [s, iv q] h = some (iv (idxN q L 0), h) := by
  rw [frameB_eq ft46 rfl rfl]
  have hL2 := fun tm N => loopIx (call := call) s L q n0 h hs hL L 0 tm N rfl (by simp)
  have hlen : ∀ ty h', evBuiltin T0 .len #[34] ty [s] h' = some (.value (iv L.length), h') := fun ty h' => by rw [hs.len und_ints]; simp [intsV]
  simp only [Try.f46, symM, opFn, Nat.reduceLT, Nat.reduceBEq, hlen]
  refine bind_loopJ (b := bodyIx) (Q := fun x => ∃ tm', (x = .jump .ret tm' h [] ∧ tm'.get 4 = some (iv (idxN q L 0))) ∨ (x = .jump (.exit 0) tm' h [] ∧ idxN q L 0 = -1)) (P := fun x => endF T0 46 x = some (iv (idxN q L 0), h)) ?_ ?_
  · exact hL2 _ _ (by omega) (by simp only [symM, Nat.reduceBEq]) (by simp only [symM, Nat.reduceBEq]) (by simp only [symM, Nat.reduceBEq]) (by simp only [symM]; rfl)
  · intro x ⟨tm', hx⟩
    rcases hx with ⟨rfl, h4⟩ | ⟨rfl, h4⟩
    · simp only [symM]
      exact retB_one ft46 rfl h4
    · rw [h4]
      simp only [symM]
      exact retB_one ft46 rfl get_same
theorem ContainsN_S (hI : ∀ (s : Value) (L : List Nat) (q n0 : Nat) (h : AH), Row n0 h s (intsV L) 3 → L.length < 900 → call 46 [s, iv q] h = some (iv (idxN q L 0), h))
    (s : Value) (L : List Nat) (q n0 : Nat) (h : AH) (hs : Row n0 h s (intsV L) 3) (hL : L.length < 900) : frameB T0 X0 call 3000 26 [s, iv q] h = some (.bool (L.any fun x => decide (q = x)), h) := by
  rw [frameB_eq ft26 rfl rfl]
  simp only [Try.f26, symM, opFn, Nat.reduceLT, Nat.reduceBEq, evCall_fn ft46 rfl, hI s L q n0 h hs hL, bin_geq, idxN_any]
  exact retB_one ft26 rfl get_same
end
end Go.Proofs.Ytglmahefcdhmgaa.Abs
namespace Go.Proofs.Ytglmahefcdhmgaa.Abs
open Go Go.Proofs
noncomputable section
variable {call : Abs.Callee}
set_option maxRecDepth 10000
theorem ft11 : T0.ft.get 11 = some Try.f11 := by kernel_rfl
theorem ft27' : T0.ft.get 27 = some Try.f27 := by kernel_rfl
/-- A row of numbers from the beginning of a block. -/
def PreN (h : AH) (b cap : Nat) (L : List Nat) : Prop := ∃ c m el, h.get b = some (.cells c m el 0 0 .ex) ∧ cap ≤ m ∧ L.length ≤ cap ∧ cap < XB ∧ ∀ (i x : Nat), L[i]? = some x → c.get i = some (iv x)
abbrev preV (b l cap : Nat) : Value := .slice (some ⟨b, 0, none⟩) l cap
theorem PreN.grow {n : Nat} {h h' : AH} {b cap : Nat} {L : List Nat} (hp : PreN h b cap L) (g : Grow n h h') (hb : b < n) : PreN h' b cap L := by
  obtain ⟨c, m, el, h1, h2⟩ := hp
  exact ⟨c, m, el, (g.keep b hb).trans h1, h2⟩
theorem PreN.row {h : AH} {b cap : Nat} {L : List Nat} (hp : PreN h b cap L) {j : Nat} (hj : j ≤ L.length) : Row (b + 1) h (preV b j cap) (intsV (L.take j)) 3 := by
  obtain ⟨c, m, el, h1, h2, h3, h4, h5⟩ := hp
  have hl : (intsV (L.take j)).length = j := by simp [intsV]; omega
  refine .inr ⟨b, 0, cap, c, m, 0, 0, .ex, el, by rw [hl], Nat.lt_succ_self _, h1, by rw [hl]; omega, fun i y hi => ?_⟩
  simp only [intsV, List.getElem?_map, Option.map_eq_some_iff] at hi
  obtain ⟨x, q1, rfl⟩ := hi
  rw [Nat.zero_add]
  exact h5 i x (by rw [List.getElem?_take] at q1; split at q1 <;> simp_all)
theorem pre_cut {b l cap j : Nat} (hc : cap < XB) (hj : j ≤ cap) {h : AH} : evSliceX T0 34 (preV b l cap) none (some (iv j)) none h = some (preV b j cap, h) := by
  have hbnd : boundsA l cap none (some (iv (j : Int))) none = some (0, j, cap) := by
    simp only [boundsA, boundA, show natOf (iv (j : Int)) = some j from rfl, Nat.ble_eq_true_of_le hj, ifB_true]
  have ho : offS b 0 0 1 (Nat.beq cap 0) = ⟨b, 0, none⟩ := by
    unfold offS
    cases Nat.beq cap 0 <;> rfl
  simp only [preV, evSliceX, evSlice, und_ints, sz_int, evSliceS, capOf_lt hc, hbnd, Nat.ble_eq_true_of_le hj, ifB_true, ble_lt' hc, ifB_false, ho, Nat.sub_zero]
noncomputable def bodyFr : Code := part Try.f11 [1, 1, 0, 1, 0, 0]
abbrev EFr : Env := ⟨11, 38, none⟩
theorem freshL (hD : ∀ (n : Nat) (h : AH), call 27 [iv n] h = some (.bool (dataN n), h)) (hC : ∀ (s : Value) (L : List Nat) (q n0 : Nat) (h : AH), Row n0 h s (intsV L) 3 → L.length < 900 → call 26 [s, iv q] h = some (.bool (L.any fun x => decide (q = x)), h))
    (b cap : Nat) (L : List Nat) (h0 : AH) (hp : PreN h0 b cap L) (hb : b < h0.next) (hl : L.length < 100) (g : Nat) (cs : List Value) (fd : Func) (c : Code) (hg : T0.ft.get g = some fd) (hgb : fd.body = some c)
    (hd : ∀ x ∈ L, dataN x = true) (hnd : ∀ i x, L[i]? = some x → ((L.take i).any fun y => decide (x = y)) = false) (hn : ∀ x ∈ L, ∀ h, Grow h0.next h0 h → ∃ h', call g (iv x :: cs) h = some (.bool false, h') ∧ Grow h.next h h') :
    ∀ (l : List Nat) (i : Nat) (h : AH) (tm : PM Value) (N : Nat), L.drop i = l → i + l.length = L.length → l.length + 40 ≤ N → Grow h0.next h0 h →
      tm.get 0 = some (preV b L.length cap) → tm.get 2 = some (.func (.func g) #[] cs.toArray) → tm.get 15 = some (preV b L.length cap) → tm.get 16 = some (iv L.length) → tm.get 17 = some (iv i) →
      ∃ tm' h', codeB T0 X0 call N EFr (.loop bodyFr) tm h [] = .jump (.exit 0) tm' h' [] ∧ Grow h0.next h0 h' := by
  intro l
  induction l with
  | nil =>
    intro i h tm N hdr hi hN hgr g0 g2 g15 g16 g17
    obtain ⟨N, rfl⟩ : ∃ a, N = a + 40 := ⟨N - 40, by simp at hN; omega⟩
    apply Exists.intro; apply Exists.intro
    refine ⟨?_, hgr⟩
    rw [codeB_loop]
    simp only [bodyFr, part, Try.f11, sub, symM, opFn, Nat.reduceLT, g16, g17, bin_lss, decide_eq_false (show ¬ (i : Int) < (L.length : Nat) by simp at hi; omega)]
    rfl
  | cons x l ih =>
    intro i h tm N hdr hi hN hgr g0 g2 g15 g16 g17
    obtain ⟨N, rfl⟩ : ∃ a, N = a + 40 := ⟨N - 40, by simp at hN; omega⟩
    have hlt := decide_eq_true (show (i : Int) < (L.length : Nat) by simp at hi; omega)
    have hx : L[i]? = some x := by have := congrArg (fun l => l[0]?) hdr; simpa using this
    have hil : i < L.length := (List.getElem?_eq_some_iff.1 hx).1
    have hm := List.mem_of_getElem? hx
    have hp1 := hp.grow hgr hb
    have hr := hp1.row (j := L.length) (Nat.le_refl _)
    rw [List.take_length] at hr
    obtain ⟨p, e1, e2⟩ := hr.at und_ints sz_int agg_int (i := i) (x := iv x) (by simp [intsV, hx])
    have hcap : cap < XB ∧ L.length ≤ cap := by obtain ⟨_, _, _, _, _, q3, q4, _⟩ := hp; exact ⟨q4, q3⟩
    have hcut : ∀ h, evSliceX T0 34 (preV b L.length cap) none (some (iv i)) none h = some (preV b i cap, h) := fun h => pre_cut hcap.1 (by omega)
    have hct := hC (preV b i cap) (L.take i) x (b + 1) h (hp1.row (by omega)) (by simp; omega)
    rw [hnd i x hx] at hct
    obtain ⟨h', hcall, hg'⟩ := hn x hm h hgr
    have hw := wadd1 (show i ≤ 400000 by omega)
    rw [show N + 40 = (N + 39) + 1 from rfl, codeB_loop]
    simp only [bodyFr, part, Try.f11, sub, symM, opFn, Nat.reduceLT, Nat.reduceBEq, symM, g0, g2, g15, g16, g17, bin_lss, hlt, e1, e2, evCall_fn ft27' rfl, hD, hd x hm, ev3, evOpt, hcut, evCall_fn ft26 rfl, hct, evCall_clo hg hgb, List.cons_append, List.nil_append, hcall, bin_add, hw]
    exact ih (i + 1) h' _ (N + 39) (by rw [← List.drop_drop, hdr]; rfl) (by simp at hi ⊢; omega) (by simp at hN ⊢; omega) (hgr.trans hg' hgr.next) (by simp only [symM, Nat.reduceBEq, g0]) (by simp only [symM, Nat.reduceBEq, g2]) (by simp only [symM, Nat.reduceBEq, g15]) (by simp only [symM, Nat.reduceBEq, g16]) get_same
theorem Fresh_S (hD : ∀ (n : Nat) (h : AH), call 27 [iv n] h = some (.bool (dataN n), h)) (hC : ∀ (s : Value) (L : List Nat) (q n0 : Nat) (h : AH), Row n0 h s (intsV L) 3 → L.length < 900 → call 26 [s, iv q] h = some (.bool (L.any fun x => decide (q = x)), h))
    (b cap : Nat) (L : List Nat) (h : AH) (hp : PreN h b cap L) (hb : b < h.next) (hl : L.length < 100) (g : Nat) (cs : List Value) (fd : Func) (c : Code) (hg : T0.ft.get g = some fd) (hgb : fd.body = some c)
    (hd : ∀ x ∈ L, dataN x = true) (hnd : ∀ i x, L[i]? = some x → ((L.take i).any fun y => decide (x = y)) = false) (hn : ∀ x ∈ L, ∀ h1, Grow h.next h h1 → ∃ h', call g (iv x :: cs) h1 = some (.bool false, h') ∧ Grow h1.next h1 h') :
    ∃ h', frameB T0 X0 call 3000 11 [preV b L.length cap, iv L.length, .func (.func g) #[] cs.toArray] h = some (iv 0, h') ∧ Grow h.next h h' := by
  have hcap : cap < XB ∧ L.length ≤ cap := by obtain ⟨_, _, _, _, _, q3, q4, _⟩ := hp; exact ⟨q4, q3⟩
  have hlen : ∀ ty h', evBuiltin T0 .len #[34] ty [preV b L.length cap] h' = some (.value (iv L.length), h') := fun ty h' => len_slice und_ints
  rw [frameB_eq ft11 rfl rfl]
  simp only [Try.f11, symM, opFn, Nat.reduceLT, Nat.reduceBEq, symM, symL, hlen, bin_lss, decide_eq_false (show ¬ (L.length : Int) < (L.length : Int) by omega), ev3, evOpt, pre_cut hcap.1 hcap.2]
  generalize hX : codeB T0 X0 call _ EFr (.loop _) _ _ _ = X
  obtain ⟨t1, h1, e1, e2⟩ := use_exit hX (freshL hD hC b cap L h hp hb hl g cs fd c hg hgb hd hnd hn L 0 h _ _ rfl (by simp) (by omega) (Grow.refl _ _) (by simp only [symM, Nat.reduceBEq]) (by simp only [symM, Nat.reduceBEq]) (by simp only [symM, Nat.reduceBEq]) (by simp only [symM, Nat.reduceBEq]) (by simp only [symM]; rfl))
  clear hX
  subst e1
  refine ⟨h1, ?_, e2⟩
  simp only [symM, opFn, Nat.reduceLT, symM, symL]
  exact retB_one ft11 rfl get_same
theorem Fresh_few (b cap l m : Nat) (h : AH) (f : Value) (hlm : l < m) :
    frameB T0 X0 call 3000 11 [preV b l cap, iv m, f] h = some (iv 6, h) := by
  have hlen : ∀ ty h', evBuiltin T0 .len #[34] ty [preV b l cap] h' = some (.value (iv l), h') := fun ty h' => len_slice und_ints
  rw [frameB_eq ft11 rfl rfl]
  simp only [Try.f11, symM, opFn, Nat.reduceLT, Nat.reduceBEq, symM, hlen, bin_lss, decide_eq_true (show (l : Int) < (m : Int) by omega)]
  exact retB_one ft11 rfl get_same
end
end Go.Proofs.Ytglmahefcdhmgaa.Abs
