
/- A row in parts, as one row of rows: joined; a row from behind. -/
import Derived.Test.YtglmahefcdhmgaaWin
namespace Go.Proofs.Ytglmahefcdhmgaa.Abs
open Go Go.Proofs
noncomputable section
variable {call call2 : Abs.Callee}
set_option maxRecDepth 10000
abbrev Chunk1C (call call2 : Abs.Callee) : Prop := ∀ (P : Nat → AH → Prop) (l : Nat) (lp : Loop) (b1 b2 n : Nat) (v : Value) (xs : List XV) (h : AH), lp.params.size = 1 → xs.length ≤ 96 →
    (∀ i h, P i h → h.get l = some (.loop lp) ∧ BoxL h b1 29 [v] ∧ BoxL h b2 3 [iv 14] ∧ WinE n h v xs) →
    (∀ i h w, P i h → 14 * i < xs.length → WinE n h w (partX xs i) → ∃ h', RoundC call2 l lp [w] h h' ∧ P (i + 1) h') → P 0 h →
    ∃ h', call 37 [yieldV l, pv b1 0, pv b2 0] h = some (.tuple #[], h') ∧ P (cntX xs) h'
theorem Own.keepTo {n k : Nat} {h h' : AH} {v : Value} {l : List Value} {e : TypeId} (ho : Own n h v l e) (hk : k < n) (hn : h.next ≤ h'.next) (hg : ∀ b, b ≠ k → h'.get b = h.get b) : Own n h' v l e := by
  rcases ho with h1 | ⟨b, c, kd, cap, h1, h2, h3, h4, h5⟩
  · exact .inl h1
  · exact .inr ⟨b, c, kd, cap, h1, by omega, h3, (hg b (by omega)).trans h4, h5⟩
theorem use_fall {N : Nat} {E : Env} {c : Code} {tm tm' : PM Value} {h : AH} {df df' : List Nat} {X : CO} {Q : AH → Prop} (hX : codeB T0 X0 call N E (.code c) tm h df = X)
    (H : ∃ h', codeB T0 X0 call N E (.code c) tm h df = .fall tm' h' df' ∧ Q h') : ∃ h', X = .fall tm' h' df' ∧ Q h' := hX ▸ H
theorem AppSeq_S (hCk : Chunk1C call call2) (b1 b2 n : Nat) (v : Value) (xs : List XV) (h0 : AH) (hL : xs.length ≤ 96) (hb1 : BoxL h0 b1 29 [v]) (hb2 : BoxL h0 b2 3 [iv 14]) (l1 : b1 < h0.next) (l2 : b2 < h0.next) (hw : WinE n h0 v xs) (hn : n ≤ h0.next) :
    ∃ s ws h', frameB T0 X0 call 3000 36 [nilV, .func (.func 37) #[] #[pv b1 0, pv b2 0]] h0 = some (s, h') ∧ Own h0.next h' s ws 29 ∧ ws.length = cntX xs ∧ Parts n h' xs ws ∧ Grow h0.next h0 h' := by
  have x1 : ∀ h, rp (some (evNewVar h 48 nilV)) = some (.value (pv h.next 0), h.new (.cells (PM.ofList [nilV]) 1 48 0 0 .ex)) := fun h => rfl
  generalize hh1 : h0.new (.cells (PM.ofList [nilV]) 1 48 0 0 .ex) = h1
  have n1 : h1.next = h0.next + 1 := by rw [← hh1]; rfl
  have g1 : Grow h0.next h0 h1 := by rw [← hh1]; exact Grow.new _ _
  have c1 : BoxL h1 h0.next 48 [nilV] := by rw [← hh1]; exact BoxL.new _ _ _
  have hg : T0.ft.get 37 = some Try.f37 := ft37
  -- the loop
  have main : ∀ (tm : PM Value) (N : Nat), tm.get 2 = some (pv h0.next 0) → tm.get 6 = some (.func (.func 37) #[] #[pv b1 0, pv b2 0]) →
      ∃ h4, codeB T0 X0 call (N + 1) EAs (.code rangeAs) tm h1 [] = .fall tm h4 [h0.next + 1] ∧ h4.get (h0.next + 1) = some (.defs (some [])) ∧ Grow h0.next h0 h4 ∧ h0.next + 3 ≤ h4.next ∧ ∃ s ws, BoxL h4 h0.next 48 [s] ∧ Own (h0.next + 3) h4 s ws 29 ∧ ws.length = cntX xs ∧ Parts n h4 xs ws := by
    intro tm N t2 t6
    generalize hlp : lpOf EAs tm #[7] (rngA rangeAs) (rngB rangeAs) (h0.next + 1) = lp
    have hps : lp.params.size = 1 := by rw [← hlp]; rfl
    generalize hh2 : h1.new (.defs (some [])) = h2
    have n2 : h2.next = h1.next + 1 := by rw [← hh2]; rfl
    generalize hh3 : h2.new (.loop lp) = h3
    have n3 : h3.next = h2.next + 1 := by rw [← hh3]; rfl
    have g2 : Grow h1.next h1 h2 := by rw [← hh2]; exact Grow.new _ _
    have g3 : Grow h2.next h2 h3 := by rw [← hh3]; exact Grow.new _ _
    have g13 : Grow h1.next h1 h3 := g2.trans g3 (by omega)
    have p0 : PA h0 n h0.next lp xs 0 h3 := by
      refine ⟨?_, ?_, by omega, g1.trans g13 (by omega), nilV, [], c1.grow g13 (by omega), Own.nil _ _ _, rfl, fun j w hj => by simp at hj⟩
      · rw [← hh3, AH.get_new, if_pos (by omega)]
      · rw [g3.keep _ (by omega), ← hh2, AH.get_new, if_pos (by omega)]
    obtain ⟨h4, d1, d2⟩ := hCk (PA h0 n h0.next lp xs) (h0.next + 2) lp b1 b2 n v xs h3 hps hL (fun i h hp => ⟨hp.loop, hb1.grow hp.grow l1, hb2.grow hp.grow l2, hw.grow hp.grow hn⟩)
      (fun i h w hp hi hw' => by
        rw [← hlp] at hp ⊢
        exact roundAs h0 n h0.next tm xs hn t2 hL i h w hp hi hw') p0
    obtain ⟨q1, q2, q3, q4, s, ws, q5, q6, q7, q8⟩ := d2
    have hl2 : h2.next = h0.next + 2 := by omega
    have d1' : call 37 (yieldV h2.next :: [pv b1 0, pv b2 0]) (h2.new (.loop (lpOf EAs tm #[7] (rngA rangeAs) (rngB rangeAs) (h0.next + 1)))) = some (.tuple #[], h4) := by
      rw [hlp, hh3, hl2]; exact d1
    have q1' : h4.get h2.next = some (.loop (lpOf EAs tm #[7] (rngA rangeAs) (rngB rangeAs) (h0.next + 1))) := by rw [hlp, hl2]; exact q1
    have hrg : rangeB T0 X0 call EAs (.tmp 6) #[7] (rngA rangeAs) (rngB rangeAs) tm (h0.next + 1) h2 [h0.next + 1] = .fall tm (h4.set h2.next (.loop { lpOf EAs tm #[7] (rngA rangeAs) (rngB rangeAs) (h0.next + 1) with state := .exhausted })) [h0.next + 1] :=
      rangeB_clo (cs := [pv b1 0, pv b2 0]) (by rw [ev_tmp]; exact t6) hg rfl d1' q1'
    refine ⟨h4.set (h0.next + 2) (.loop { lp with state := .exhausted }), ?_, ?_, q4.trans (Grow.set h4 _ (by omega)) (Nat.le_refl _), q3, s, ws, q5.set (by omega), q6.set (by omega), q7, q8.grow (Grow.set h4 _ (by omega)) hn⟩
    · have hc : rangeAs = .rangeFunc (.tmp 6) #[7] (rngA rangeAs) (rngB rangeAs) := rfl
      rw [hc, codeB_range rfl, hh2, n1]
      rw [← hc] at *
      rw [hrg, hlp, hl2]
    · rw [AH.get_set, if_neg (by omega)]; exact q2
  rw [frameB_eq ft36 rfl rfl]
  simp only [Try.f36, symM, opFn, Nat.reduceLT, Nat.reduceBEq, symM, x1, hh1]
  generalize hX : codeB T0 X0 call _ EAs (.code (.rangeFunc _ _ _ _)) _ _ _ = X
  obtain ⟨h4, e1, q1, q2, q3, s, ws, q4, q5, q6, q7⟩ := use_fall hX (main _ _ (by simp only [symM, Nat.reduceBEq]) (by simp only [symM]))
  clear hX
  subst e1
  refine ⟨s, ws, h4.set (h0.next + 1) (.defs none), ?_, (q5.set (by omega)).less (by omega), q6, q7.grow (Grow.set h4 _ (Nat.le_succ _)) hn, q2.trans (Grow.set h4 _ (Nat.le_succ _)) (Nat.le_refl _)⟩
  simp only [symM, opFn, Nat.reduceLT, Nat.reduceBEq, symM, q4.load agg_parts (i := 0) rfl]
  exact retB_one1 ft36 rfl get_same q1
theorem Collect_S (v f : Value) (h h' : AH) (hA : call 36 [nilV, f] h = some (v, h')) : frameB T0 X0 call 3000 15 [f] h = some (v, h') := by
  rw [frameB_eq ft15 rfl rfl]
  simp only [Try.f15, symM, opFn, Nat.reduceLT, Nat.reduceBEq, symM, evCall_fn ft36 rfl, hA]
  exact retB_one ft15 rfl get_same
/- A row from behind. -/
noncomputable def bodyBk : Code := part Try.f38 [1, 0, 0]
abbrev EBk : Env := ⟨38, 19, none⟩
theorem backL (P : Nat → AH → Prop) (l : Nat) (lp : Loop) (b1 n : Nat) (s : Value) (ws : List Value) (hps : lp.params.size = 2) (hL : ws.length ≤ 96)
    (hP : ∀ i h, P i h → h.get l = some (.loop lp) ∧ BoxL h b1 48 [s] ∧ Row n h s ws 29)
    (hR : ∀ i h w, P i h → i < ws.length → ws[ws.length - 1 - i]? = some w → ∃ h', RoundC call l lp [iv ((ws.length - 1 - i : Nat) : Int), w] h h' ∧ P (i + 1) h') :
    ∀ (k i : Nat) (h : AH) (tm : PM Value) (N : Nat), i + k = ws.length → k + 300 ≤ N → P i h → tm.get 0 = some (yieldV l) → tm.get 1 = some (pv b1 0) → tm.get 3 = some (iv ((ws.length : Int) - 1 - i)) →
      ∃ tm' h', codeB T0 X0 call N EBk (.loop bodyBk) tm h [] = .jump (.exit 0) tm' h' [] ∧ P ws.length h' := by
  intro k
  induction k with
  | zero =>
    intro i h tm N hi hN hp g0 g1 g3
    obtain ⟨N, rfl⟩ : ∃ a, N = a + 300 := ⟨N - 300, by omega⟩
    apply Exists.intro; apply Exists.intro
    refine ⟨?_, by rw [show ws.length = i by omega]; exact hp⟩
    rw [codeB_loop]
    simp only [bodyBk, part, Try.f38, sub, symM, opFn, Nat.reduceLT, symM, g3, bin_geq, decide_eq_false (show ¬ (0 : Int) ≤ (ws.length : Int) - 1 - i by omega)]
    rfl
  | succ k ih =>
    intro i h tm N hi hN hp g0 g1 g3
    obtain ⟨N, rfl⟩ : ∃ a, N = a + 300 := ⟨N - 300, by omega⟩
    obtain ⟨p1, p2, p3⟩ := hP i h hp
    have hj : (ws.length : Int) - 1 - i = ((ws.length - 1 - i : Nat) : Int) := by omega
    have hwj : ws[ws.length - 1 - i]? = some (ws[ws.length - 1 - i]'(by omega)) := List.getElem?_eq_getElem (by omega)
    obtain ⟨p, i1, i2⟩ := p3.at und_parts sz_exts agg_exts hwj
    obtain ⟨h', c1, c2⟩ := hR i h _ hp (by omega) hwj
    have wn : IntKind.i64.wrap (((ws.length - 1 - i : Nat) : Int) - 1) = (ws.length : Int) - 1 - ((i + 1 : Nat) : Int) := by rw [wz (by omega)]; omega
    rw [hj] at g3
    rw [show N + 300 = (N + 299) + 1 from rfl, codeB_loop]
    simp only [bodyBk, part, Try.f38, sub, symM, opFn, Nat.reduceLT, Nat.reduceBEq, symM, g0, g1, g3, bin_geq, decide_eq_true (show (0 : Int) ≤ ((ws.length - 1 - i : Nat) : Int) by omega), p2.load agg_parts (i := 0) rfl, i1, i2, evCall_yield p1 (show [iv ((ws.length - 1 - i : Nat) : Int), ws[ws.length - 1 - i]'(by omega)].length = lp.params.size by rw [hps]; rfl), goR_round, c1, bin_sub, wn]
    exact ih (i + 1) h' _ (N + 299) (by omega) (by omega) c2 (by simp only [symM, Nat.reduceBEq, g0]) (by simp only [symM, Nat.reduceBEq, g1]) get_same
theorem Back1_S (P : Nat → AH → Prop) (l : Nat) (lp : Loop) (b1 n : Nat) (s : Value) (ws : List Value) (hps : lp.params.size = 2) (hL : ws.length ≤ 96)
    (hP : ∀ i h, P i h → h.get l = some (.loop lp) ∧ BoxL h b1 48 [s] ∧ Row n h s ws 29)
    (hR : ∀ i h w, P i h → i < ws.length → ws[ws.length - 1 - i]? = some w → ∃ h', RoundC call l lp [iv ((ws.length - 1 - i : Nat) : Int), w] h h' ∧ P (i + 1) h') (h : AH) (h0 : P 0 h) :
    ∃ h', frameB T0 X0 call 3000 38 [yieldV l, pv b1 0] h = some (.tuple #[], h') ∧ P ws.length h' := by
  obtain ⟨p1, p2, p3⟩ := hP 0 h h0
  have hlen : ∀ ty h', evBuiltin T0 .len #[48] ty [s] h' = some (.value (iv ws.length), h') := fun ty h' => p3.len und_parts
  have wn : IntKind.i64.wrap ((ws.length : Int) - 1) = (ws.length : Int) - 1 - ((0 : Nat) : Int) := by rw [wz (by omega)]; omega
  rw [frameB_eq ft38 rfl rfl]
  simp only [Try.f38, symM, opFn, Nat.reduceLT, symM, symL, p2.load agg_parts (i := 0) rfl, hlen, bin_sub, wn]
  generalize hX : codeB T0 X0 call _ EBk (.loop _) _ _ _ = X
  obtain ⟨t1, h1, e1, e2⟩ := use_exit hX (backL P l lp b1 n s ws hps hL hP hR ws.length 0 h _ _ (by omega) (by omega) h0 (by simp only [symM, Nat.reduceBEq]) (by simp only [symM, Nat.reduceBEq]) (by simp only [symM]))
  clear hX
  subst e1
  refine ⟨h1, ?_, e2⟩
  simp only [symM, symL]
  exact retB_zero ft38 rfl
theorem Back_S (s : Value) (n : Nat) (ws : List Value) (h : AH) (hs : Own n h s ws 29) :
    ∃ h', frameB T0 X0 call 3000 17 [s] h = some (.func (.func 38) #[] #[pv h.next 0], h') ∧ h'.next = h.next + 1 ∧ BoxL h' h.next 48 [s] ∧ Grow h.next h h' := by
  generalize hh1 : h.new (.cells (PM.ofList [s]) 1 48 0 0 .ex) = h1
  have g1 : Grow h.next h h1 := by rw [← hh1]; exact Grow.new _ _
  have b1 : BoxL h1 h.next 48 [s] := by rw [← hh1]; exact BoxL.new _ _ _
  have x1 : ∀ h, rp (some (evNewVar h 48 s)) = some (.value (pv h.next 0), h.new (.cells (PM.ofList [s]) 1 48 0 0 .ex)) := fun h => by
    rcases hs with ⟨rfl, _⟩ | ⟨b, c, kd, cap, _, _, rfl, _⟩ <;> rfl
  refine ⟨h1, ?_, by rw [← hh1]; rfl, b1, g1⟩
  rw [frameB_eq ft17 rfl rfl]
  simp only [Try.f17, symM, opFn, Nat.reduceLT, Nat.reduceBEq, symM, ev_nilFunc, x1, hh1]
  exact retB_one ft17 rfl get_same
end
end Go.Proofs.Ytglmahefcdhmgaa.Abs
namespace Go.Proofs.Ytglmahefcdhmgaa.Abs
open Go Go.Proofs
noncomputable section
variable {call call2 : Abs.Callee}
set_option maxRecDepth 10000
theorem ft23 : T0.ft.get 23 = some Try.f23 := by kernel_rfl
theorem und_writes : und T0 38 = some (.slice 64) := by kernel_rfl
theorem sz_Write : szOf T0 64 = some 2 := by kernel_rfl
theorem agg_Write : aggT T0 64 = some true := by kernel_rfl
theorem agg_writes : aggT T0 38 = some false := by kernel_rfl
theorem tt_Write : T0.tt.get 64 = some (infoOf 64) := by kernel_rfl
theorem ti_Write : (infoOf 64).zero = some (.agg #[iv 0, nilV]) ∧ (infoOf 64).size = 2 ∧ (infoOf 64).bytes ≤ 64 := ⟨by kernel_rfl, by kernel_rfl, Nat.le_of_ble_eq_true (by kernel_rfl)⟩
/-- A row of writes of our own. -/
def OwnW (n : Nat) (h : AH) (v : Value) (k : Nat) : Prop := ∃ cs, OwnC 2 n h v k cs 64 ∧ cs.all oneCell = true
theorem OwnW.nil (n : Nat) (h : AH) : OwnW n h nilV 0 := ⟨[], .inl ⟨rfl, rfl, rfl⟩, rfl⟩
theorem OwnW.len {n k : Nat} {h h' : AH} {v : Value} {ty : TypeId} (ho : OwnW n h v k) : evBuiltin T0 .len #[38] ty [v] h' = some (.value (iv k), h') := by
  obtain ⟨cs, ho, _⟩ := ho
  rcases ho with ⟨rfl, rfl, _⟩ | ⟨b, c, kd, cap, _, _, rfl, _⟩
  · exact len_slice und_writes
  · exact len_slice und_writes
theorem OwnW.one1 {n k : Nat} {h : AH} {v : Value} (ho : OwnW n h v k) : oneCell v = true ∧ v.cells.toList = [v] := by
  obtain ⟨cs, ho, _⟩ := ho
  rcases ho with ⟨rfl, _⟩ | ⟨b, c, kd, cap, _, _, rfl, _⟩ <;> exact ⟨rfl, rfl⟩
theorem OwnW.grow {n k : Nat} {h h' : AH} {v : Value} (ho : OwnW n h v k) (g : Grow h.next h h') : OwnW n h' v k := by
  obtain ⟨cs, ho, h1⟩ := ho
  exact ⟨cs, ho.grow g, h1⟩
theorem OwnW.less {n m k : Nat} {h : AH} {v : Value} (ho : OwnW m h v k) (hn : n ≤ m) : OwnW n h v k := by
  obtain ⟨cs, ho, h1⟩ := ho
  exact ⟨cs, ho.less hn, h1⟩
theorem OwnW.keep {n k b : Nat} {h h' : AH} {v : Value} (ho : OwnW n h v k) (hb : b < n) (hn : h.next ≤ h'.next) (hg : ∀ k, k ≠ b → h'.get k = h.get k) : OwnW n h' v k := by
  obtain ⟨cs, ho, h1⟩ := ho
  exact ⟨cs, ho.keep hb hn hg, h1⟩
/-- An element is read, and may be written. -/
theorem OwnW.at {n k : Nat} {h : AH} {v : Value} (ho : OwnW n h v k) {i : Nat} (hi : i < k) :
    ∃ b x y, n ≤ b ∧ b < h.next ∧ (∀ j, j < k → evIndexAddr T0 38 v (iv j) = some (pv b (0 + j * 2))) ∧ evLoad T0 64 (pv b (0 + i * 2)) h = some (.agg #[x, y]) ∧ oneCell x = true ∧ oneCell y = true := by
  obtain ⟨cs, ho, h1⟩ := ho
  rcases ho with ⟨rfl, rfl, _⟩ | ⟨b, c, kd, cap, q1, q2, rfl, q4, q5, q6, q7⟩
  · omega
  · have hx : cs[i * 2]? = some (cs[i * 2]'(by omega)) := List.getElem?_eq_getElem (by omega)
    have hy : cs[i * 2 + 1]? = some (cs[i * 2 + 1]'(by omega)) := List.getElem?_eq_getElem (by omega)
    refine ⟨b, _, _, q1, q2, fun j hj => idx_slice und_writes sz_Write hj, ?_, List.all_eq_true.1 h1 _ (List.mem_of_getElem? hx), List.all_eq_true.1 h1 _ (List.mem_of_getElem? hy)⟩
    simp only [evLoad, loadVarA, agg_Write, sz_Write]
    rw [show loadRow h b (0 + i * 2) 2 = some [cs[i * 2]'(by omega), cs[i * 2 + 1]'(by omega)] from loadRow_of (l := [cs[i * 2]'(by omega), cs[i * 2 + 1]'(by omega)]) q4 (by simp; omega) (fun j w hj => match j with
      | 0 => by simp at hj; subst hj; rw [Nat.zero_add]; exact q6 _ _ hx
      | 1 => by simp at hj; subst hj; rw [Nat.zero_add]; exact q6 _ _ hy
      | j + 2 => by simp at hj)]
theorem OwnW.put {n k : Nat} {h : AH} {v : Value} (ho : OwnW n h v k) {i b : Nat} (hi : i < k) (hb : evIndexAddr T0 38 v (iv i) = some (pv b (0 + i * 2))) {x y : Value} (hx : oneCell x = true) (hy : oneCell y = true) :
    ∃ h', evStore T0 64 (pv b (0 + i * 2)) (.agg #[x, y]) h = some h' ∧ OwnW n h' v k ∧ One b h h' := by
  obtain ⟨cs, ho, h1⟩ := ho
  rcases ho with ⟨rfl, rfl, _⟩ | ⟨b', c, kd, cap, q1, q2, rfl, q4, q5, q6, q7⟩
  · omega
  · have hbb : b' = b := by
      have := idx_slice (o := 0) (b := b') (l := k) (c := cap) (k := .i64) und_writes sz_Write hi
      rw [this] at hb; injection hb with hb; injection hb with hb; injection hb with hb; injection hb
    subst hbb
    have hkd : kd ≠ .ro := by rcases q7 with ⟨rfl, _⟩ | ⟨rfl, _⟩ <;> simp
    have hst : evStore T0 64 (pv b' (0 + i * 2)) (.agg #[x, y]) h = some (h.set b' (.cells (storeN c (0 + i * 2) [x, y]) (k * 2) 64 0 0 kd)) := by
      simp only [evStore, storeVarA, sz_Write]
      show storeRow b' (0 + i * 2) [x, y] h = _
      have hw : writable (0 + i * 2) [x, y].length (k * 2) 0 0 = true := by
        unfold writable
        simp; omega
      unfold storeRow
      rw [q4]
      cases kd with
      | ro => exact absurd rfl hkd
      | ex => simp only [hw, List.all_cons, hx, hy, List.all_nil, Bool.and_self, ifB_true]
      | loose => simp only [hw, List.all_cons, hx, hy, List.all_nil, Bool.and_self, ifB_true]
    refine ⟨_, hst, ⟨(cs.set (i * 2) x).set (i * 2 + 1) y, .inr ⟨b', _, kd, cap, q1, q2, rfl, by rw [AH.get_set, if_pos rfl], by simpa using q5, ?_, q7⟩, ?_⟩, rfl, evStore_keep hst⟩
    · intro j z hj
      rw [storeN_get]
      by_cases c1 : j = i * 2 + 1
      · subst c1
        rw [List.getElem?_set_self (by simp; omega)] at hj
        rw [if_pos (by simp only [List.length_cons, List.length_nil]; omega), show i * 2 + 1 - (0 + i * 2) = 1 by omega]
        exact hj
      · rw [List.getElem?_set_ne (Ne.symm c1)] at hj
        by_cases c2 : j = i * 2
        · subst c2
          rw [List.getElem?_set_self (by omega)] at hj
          rw [if_pos (by simp only [List.length_cons, List.length_nil]; omega), show i * 2 - (0 + i * 2) = 0 by omega]
          exact hj
        · rw [List.getElem?_set_ne (Ne.symm c2)] at hj
          rw [if_neg (by simp only [List.length_cons, List.length_nil]; omega)]
          exact q6 _ _ hj
    · rw [List.all_eq_true] at h1 ⊢
      intro z hz
      rcases List.mem_or_eq_of_mem_set hz with hz | rfl
      · rcases List.mem_or_eq_of_mem_set hz with hz | rfl
        · exact h1 z hz
        · exact hx
      · exact hy
theorem plan_Rv : planB (regOps Try.f23 [1, 0, 0, 1, 0, 0]) 28 = some ([.one 0, .one 1, .one 2, .one 3, .one 4, .one 5, .one 6, .one 7, .one 8, .one 9, .one 10, .one 11, .one 12, .eff [] 13 [2, 3], .one 14, .eff [] 15 []], []) := by kernel_rfl
theorem eqV_own {n k : Nat} {h : AH} {v : Value} (ho : OwnW n h v k) : eqV v v = true := by
  obtain ⟨cs, ho, _⟩ := ho
  rcases ho with ⟨rfl, _⟩ | ⟨b, c, kd, cap, _, _, rfl, _⟩
  · rfl
  · exact eqV_slice
noncomputable def bodyRv : Code := part Try.f23 [1, 0, 0]
abbrev ERv : Env := ⟨23, 28, none⟩
theorem revL (v : Value) (K n : Nat) (hK : K ≤ 90) : ∀ (k i : Nat) (h : AH) (tm : PM Value) (N : Nat), K ≤ 2 * i + k → i ≤ K → k + 60 ≤ N → n ≤ h.next → OwnW n h v K → tm.get 0 = some v → tm.get 2 = some (iv i) → tm.get 3 = some (iv ((K : Int) - 1 - i)) →
    ∃ tm' h', codeB T0 X0 call N ERv (.loop bodyRv) tm h [] = .jump (.exit 0) tm' h' [] ∧ (OwnW n h' v K ∧ Grow n h h') := by
  intro k
  induction k with
  | zero =>
    intro i h tm N hi hiK hN hn ho g0 g2 g3
    obtain ⟨N, rfl⟩ : ∃ a, N = a + 60 := ⟨N - 60, by omega⟩
    apply Exists.intro; apply Exists.intro
    refine ⟨?_, ho, Grow.refl _ _⟩
    rw [codeB_loop]
    simp only [bodyRv, part, Try.f23, sub, symM, opFn, Nat.reduceLT, Nat.reduceBEq, symM, g2, g3, bin_lss, decide_eq_false (show ¬ (i : Int) < (K : Int) - 1 - i by omega)]
    rfl
  | succ k ih =>
    intro i h tm N hi hiK hN hn ho g0 g2 g3
    obtain ⟨N, rfl⟩ : ∃ a, N = a + 60 := ⟨N - 60, by omega⟩
    by_cases hlt : (i : Int) < (K : Int) - 1 - i
    · have hj : (K : Int) - 1 - i = ((K - 1 - i : Nat) : Int) := by omega
      rw [hj] at g3 hlt
      obtain ⟨b, x, y, q1, q2, q3, q4, q5, q6⟩ := ho.at (i := K - 1 - i) (by omega)
      obtain ⟨b', x', y', r1, r2, r3, r4, r5, r6⟩ := ho.at (i := i) (by omega)
      have hbb : b' = b := by
        have := (q3 i (by omega)).symm.trans (r3 i (by omega))
        simp at this; exact this.symm
      subst hbb
      obtain ⟨h1, s1, s2, s3⟩ := ho.put (i := i) (by omega) (q3 i (by omega)) q5 q6
      obtain ⟨h2, u1, u2, u3⟩ := s2.put (i := K - 1 - i) (by omega) (q3 _ (by omega)) r5 r6
      have hp := plan_Rv
      simp only [regOps, part, Try.f23, sub] at hp
      have w2 : IntKind.i64.wrap (((K - 1 - i : Nat) : Int) - 1) = (K : Int) - 1 - ((i + 1 : Nat) : Int) := by rw [wz (by omega)]; omega
      rw [show N + 60 = (N + 59) + 1 from rfl, codeB_loop]
      simp only [bodyRv, part, Try.f23, sub, symM, opFn, Nat.reduceLT, Nat.reduceBEq, symM, g2, g3, bin_lss, decide_eq_true hlt]
      rw [codeB_draw, draw_plan hp rfl]
      simp only [drawAll, opFn, Nat.reduceLT, Nat.reduceBEq, g0, g2, g3, q3 (K - 1 - i) (by omega), q3 i (by omega), q4, r4, s1, effE_cons, eqV_own ho, u1, bin_add, wadd1 (show i ≤ 400000 by omega), bin_sub, w2]
      exact wrapE (ih (i + 1) h2 _ (N + 59) (by omega) (by omega) (by omega) (by rw [u3.next, s3.next]; exact hn) u2 (by simp only [symM, Nat.reduceBEq, g0]) (by simp only [symM, Nat.reduceBEq]) (by simp only [symM])) ((s3.grow q1).trans (u3.grow q1) (Nat.le_refl _))
    · apply Exists.intro; apply Exists.intro
      refine ⟨?_, ho, Grow.refl _ _⟩
      rw [codeB_loop]
      simp only [bodyRv, part, Try.f23, sub, symM, opFn, Nat.reduceLT, Nat.reduceBEq, symM, g2, g3, bin_lss, decide_eq_false hlt]
      rfl
theorem Rev_S (v : Value) (K n : Nat) (h : AH) (hK : K ≤ 90) (hn : n ≤ h.next) (ho : OwnW n h v K) : ∃ h', frameB T0 X0 call 3000 23 [v] h = some (.tuple #[], h') ∧ OwnW n h' v K ∧ Grow n h h' := by
  have wn : IntKind.i64.wrap ((K : Int) - 1) = (K : Int) - 1 - ((0 : Nat) : Int) := by rw [wz (by omega)]; omega
  rw [frameB_eq ft23 rfl rfl]
  simp only [Try.f23, symM, opFn, Nat.reduceLT, Nat.reduceBEq, symM, symL, ho.len, bin_sub, wn]
  generalize hX : codeB T0 X0 call _ ERv (.loop _) _ _ _ = X
  obtain ⟨t1, h1, e1, e2, e3⟩ := use_exit hX (revL v K n hK K 0 h _ _ (by omega) (by omega) (by omega) hn ho (by simp only [symM, Nat.reduceBEq]) (by simp only [symM, Nat.reduceBEq]; rfl) (by simp only [symM]))
  clear hX
  subst e1
  refine ⟨h1, ?_, e2, e3⟩
  simp only [symM, symL]
  exact retB_zero ft23 rfl
theorem bs_w {a : Nat} {d : Value} {h : AH} (hd : oneCell d = true ∧ d.cells.toList = [d]) : evBuildSlice T0 38 1 [(0, .agg #[iv a, d])] h = some (.slice (some ⟨h.next, 0, none⟩) 1 1, h.new (.cells (PM.ofList [iv a, d]) 2 64 0 0 .ex)) := by
  unfold evBuildSlice
  simp only [und_writes, sz_Write, show zeroOf T0 64 = some (.agg #[iv 0, nilV]) from by kernel_rfl]
  rfl
theorem OwnW.append {n k : Nat} {h : AH} {v d : Value} (ho : OwnW n h v k) (a : Nat) (hd : oneCell d = true ∧ d.cells.toList = [d]) (hl : k < 1000) (hn : n ≤ h.next) (ty : TypeId) :
    ∃ v' h', evBuiltin T0 .append #[38, 38] ty [v, .slice (some ⟨h.next, 0, none⟩) 1 1] (h.new (.cells (PM.ofList [iv a, d]) 2 64 0 0 .ex)) = some (.value v', h') ∧ OwnW n h' v' (k + 1) ∧ Grow n h h' := by
  obtain ⟨cs, ho, h1⟩ := ho
  have g := Grow.new h (.cells (PM.ofList [iv a, d]) 2 64 0 0 .ex)
  have h2 : [iv a, d].all oneCell = true := by show (true && (oneCell d && true)) = true; rw [hd.1]; rfl
  obtain ⟨v', h', e1, e2, e3, _⟩ := append_gen und_writes tt_Write ti_Write.1 ti_Write.2.1 ti_Write.2.2 (ho.grow g)
    (appended_slice (k := 1) (cap := 1) (new := [iv a, d]) und_writes (get_new_same _ _) (by rw [ti_Write.2.1]; rfl) (by rw [ti_Write.2.1]; exact Nat.le_refl _) (fun j w hj => by rw [PM.get_ofList]; exact hj)) rfl h2 (by omega) (Nat.le_succ_of_le hn) ty
  exact ⟨v', h', e1, ⟨cs ++ [iv a, d], e2, by rw [List.all_append, h1, h2]; rfl⟩, (g.less hn).trans e3 (Nat.le_refl _)⟩
end
end Go.Proofs.Ytglmahefcdhmgaa.Abs
namespace Go.Proofs.Ytglmahefcdhmgaa.Abs
open Go Go.Proofs
noncomputable section
variable {call call2 : Abs.Callee}
set_option maxRecDepth 10000
theorem ft8 : T0.ft.get 8 = some Try.f8 := by kernel_rfl
noncomputable def rangePl : Code := part Try.f8 [1, 1, 1, 1, 1, 1, 1, 1, 1, 0, 1, 0]
noncomputable def bodyPl : Code := part Try.f8 [1, 1, 1, 1, 1, 1, 1, 1, 1, 0, 1, 0, 0, 0, 1, 0, 1, 0, 0]
abbrev EPl (l : Nat) : Env := ⟨8, 96, some l⟩
theorem retB_c3 {T : Tab} {f d : Nat} {tm : PM Value} {h : AH} {fd : Func} {t u u' : Nat} {ty : TypeId} {p v w w' : Value} (hf : T.ft.get f = some fd) (hr : fd.results = #[.cell t ty, .tmp u, .tmp u']) (hp : tm.get t = some p) (hd : h.get d = some (.defs (some []))) (hv : evLoad T ty p (h.set d (.defs none)) = some v) (hw : tm.get u = some w) (hw' : tm.get u' = some w') :
    retB T f tm h [d] = some (.tuple #[v, w, w'], h.set d (.defs none)) := by
  unfold retB
  have hu : undef1 [d] h = some (h.set d (.defs none)) := by unfold undef1; rw [hd]; rfl
  rw [hu]
  simp only [resultA, hf, hr]
  show (match (match resultsA T (h.set d (.defs none)) tm [.cell t ty, .tmp u, .tmp u'] with | some l => some (one l) | none => none) with | some v => some (v, h.set d (.defs none)) | none => none) = _
  unfold evLoad at hv
  split at hv
  · simp only [resultsA, hp, hv, hw, hw']
    rfl
  · cases hv
theorem retB_c3' {T : Tab} {f : Nat} {tm : PM Value} {h : AH} {fd : Func} {t u u' : Nat} {ty : TypeId} {p v w w' : Value} (hf : T.ft.get f = some fd) (hr : fd.results = #[.cell t ty, .tmp u, .tmp u']) (hp : tm.get t = some p) (hv : evLoad T ty p h = some v) (hw : tm.get u = some w) (hw' : tm.get u' = some w') :
    retB T f tm h [] = some (.tuple #[v, w, w'], h) := by
  unfold retB undef1
  simp only [resultA, hf, hr]
  show (match (match resultsA T h tm [.cell t ty, .tmp u, .tmp u'] with | some l => some (one l) | none => none) with | some v => some (v, h) | none => none) = _
  unfold evLoad at hv
  split at hv
  · simp only [resultsA, hp, hv, hw, hw']
    rfl
  · cases hv
abbrev PutExtC (call : Abs.Callee) : Prop := ∀ (x : XV) (h : AH), okX x → ∃ v' h', call 21 [extV x] h = some (v', h') ∧ Own h.next h' v' (bytesV (encX x)) 5 ∧ Grow h.next h h'
abbrev TextC (call : Abs.Callee) : Prop := ∀ (b p at_ : Nat) (bs : List Nat) (h : AH), b ≠ p → bs.length = 4 → (∀ x ∈ bs, x < 256) → at_ + 4 ≤ 60 → PageB h b p → ∃ h', call 20 [pv b 0, iv at_, strB bs] h = some (pv b 0, h') ∧ PageB h' b p ∧ One p h h'
theorem partL (hPE : PutExtC call) (hT : TextC call) (L : Nat) (w : Value) (ps : List XV) (n d b p : Nat) (v3 v12 v13 v15 : Value) (hbp : b ≠ p) (hnd : n ≤ d) (hdb : d ≤ b) (hdp : d ≤ p) (hx : ∀ x ∈ ps, okX x) (hL : ps.length ≤ 14) :
    ∀ (l : List XV) (i : Nat) (h : AH), ps.drop i = l → i + l.length = ps.length → n ≤ h.next → d ≤ h.next → RowE n h w ps → PageB h b p → b < h.next → p < h.next →
      ∃ h', (∀ (tm : PM Value) (N : Nat), l.length + 60 ≤ N → tm.get 3 = some v3 → tm.get 12 = some v12 → tm.get 13 = some v13 → tm.get 15 = some v15 → tm.get 17 = some (pv b 0) → tm.get 63 = some w → tm.get 64 = some (iv ps.length) → tm.get 65 = some (iv i) →
        ∃ tm', codeB T0 X0 call N (EPl L) (.loop bodyPl) tm h [] = .jump (.exit 2) tm' h' [] ∧ (tm'.get 3 = some v3 ∧ tm'.get 12 = some v12 ∧ tm'.get 13 = some v13 ∧ tm'.get 15 = some v15 ∧ tm'.get 17 = some (pv b 0))) ∧ PageB h' b p ∧ Grow d h h' := by
  intro l
  induction l with
  | nil =>
    intro i h hd hi hn hdn hr hpg hb hp
    refine ⟨h, ?_, hpg, Grow.refl _ _⟩
    intro tm N hN g3 g12 g13 g15 g17 g63 g64 g65
    obtain ⟨N, rfl⟩ : ∃ a, N = a + 60 := ⟨N - 60, by simp at hN; omega⟩
    apply Exists.intro
    refine ⟨?_, ?_, ?_, ?_, ?_, ?_⟩
    · rw [codeB_loop]
      simp only [bodyPl, part, Try.f8, sub, symM, opFn, Nat.reduceLT, symM, g64, g65, bin_lss, decide_eq_false (show ¬ (i : Int) < (ps.length : Nat) by simp at hi; omega)]
      rfl
    · simp only [symM, Nat.reduceBEq, g3]
    · simp only [symM, Nat.reduceBEq, g12]
    · simp only [symM, Nat.reduceBEq, g13]
    · simp only [symM, Nat.reduceBEq, g15]
    · simp only [symM, Nat.reduceBEq, g17]
  | cons x l ih =>
    intro i h hd hi hn hdn hr hpg hb hp
    have hx1 : ps[i]? = some x := by have := congrArg (fun l => l[0]?) hd; simpa using this
    have hil : i < ps.length := (List.getElem?_eq_some_iff.1 hx1).1
    have hlt := decide_eq_true (show (i : Int) < (ps.length : Nat) by omega)
    obtain ⟨bq, o, e1, e2, _, _⟩ := hr.at hx1
    generalize hh1 : h.new (.cells (PM.ofList [iv 0, .complex .f64 0 0]) 2 33 0 0 .ex) = h1
    have q1 : Grow h.next h h1 := by rw [← hh1]; exact Grow.new _ _
    have hb1 : BoxL h1 h.next 33 [iv 0, .complex .f64 0 0] := by rw [← hh1]; exact BoxL.new _ _ _
    obtain ⟨h2, s1, s2, s3, s4⟩ := BoxE.store hb1 x (Nat.le_refl _)
    have q2 : Grow h.next h h2 := q1.trans s3 (Nat.le_refl _)
    obtain ⟨f1, _, _⟩ := BoxE.load s2
    obtain ⟨v3', h3, c1, c2, c3⟩ := hPE x h2 (hx x (List.mem_of_getElem? hx1))
    have q3 : Grow h.next h h3 := q2.trans c3 q2.next
    have cs := conv_b2s c2.row
    obtain ⟨h4, t1, t2, t3⟩ := hT b p (4 + 4 * i) (encX x) h3 hbp (encX_len x) (encX_lt x) (by omega) (hpg.grow q3 hb hp)
    have q4 : Grow d h h4 := (q3.less hdn).trans (t3.grow hdp) (Nat.le_refl _)
    have n4 := q4.next
    have w1 : IntKind.i64.wrap (4 * (i : Int)) = ((4 * i : Nat) : Int) := by rw [wz (by omega)]; omega
    have w2 : IntKind.i64.wrap (4 + ((4 * i : Nat) : Int)) = ((4 + 4 * i : Nat) : Int) := by rw [wz (by omega)]; omega
    obtain ⟨h', u1, u2, u3⟩ := ih (i + 1) h4 (by rw [← List.drop_drop, hd]; rfl) (by simp at hi ⊢; omega) (by omega) (by omega) (hr.grow q4 hnd) t2 (by omega) (by omega)
    refine ⟨h', ?_, u2, q4.trans u3 (Nat.le_refl _)⟩
    intro tm N hN g3 g12 g13 g15 g17 g63 g64 g65
    obtain ⟨N, rfl⟩ : ∃ a, N = a + 60 := ⟨N - 60, by simp at hN; omega⟩
    rw [show N + 60 = (N + 59) + 1 from rfl, codeB_loop]
    simp only [bodyPl, part, Try.f8, sub, symM, opFn, Nat.reduceLT, Nat.reduceBEq, symM, g17, g63, g64, g65, bin_lss, hlt, e1, e2, alloc_E, hh1, s1, bin_mul, w1, bin_add, w2, f1, evCall_fn ft21 rfl, c1, cs, evCall_fn ft20 rfl, t1, wadd1 (show i ≤ 400000 by omega)]
    exact u1 _ (N + 59) (by simp at hN ⊢; omega) (by simp only [symM, Nat.reduceBEq, g3]) (by simp only [symM, Nat.reduceBEq, g12]) (by simp only [symM, Nat.reduceBEq, g13]) (by simp only [symM, Nat.reduceBEq, g15]) (by simp only [symM, Nat.reduceBEq, g17]) (by simp only [symM, Nat.reduceBEq, g63]) (by simp only [symM, Nat.reduceBEq, g64]) get_same
end
end Go.Proofs.Ytglmahefcdhmgaa.Abs
