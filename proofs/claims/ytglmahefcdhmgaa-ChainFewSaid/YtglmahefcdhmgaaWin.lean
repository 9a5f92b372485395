
/- Windows of rows of extents; a row as a new one. -/
import Derived.Test.YtglmahefcdhmgaaPage
namespace Go.Proofs.Ytglmahefcdhmgaa.Abs
open Go Go.Proofs
noncomputable section
variable {call : Abs.Callee}
set_option maxRecDepth 10000
theorem ft14 : T0.ft.get 14 = some Try.f14 := by kernel_rfl
theorem PSeal_S (hS : ∀ (p : Nat) (h : AH), Blk h p → p < h.next → ∃ q cap h', call 40 [.slice (some ⟨p, 0, none⟩) 64 64] h = some (.tuple #[.slice (some ⟨q, 0, none⟩) 64 cap, iv 0], h') ∧ h.next ≤ q ∧ q < h'.next ∧ Grow h.next h h')
    (b p : Nat) (h : AH) (hpg : PageB h b p) (hp : p < h.next) :
    ∃ q cap h', frameB T0 X0 call 3000 22 [pv b 0] h = some (.slice (some ⟨q, 0, none⟩) 64 cap, h') ∧ h.next ≤ q ∧ q < h'.next ∧ Grow h.next h h' := by
  obtain ⟨q, cap, h', c1, c2, c3, c4⟩ := hS p h hpg.2 hp
  refine ⟨q, cap, h', ?_, c2, c3, c4⟩
  rw [frameB_eq ft22 rfl rfl]
  simp only [Try.f22, symM, opFn, Nat.reduceLT, Nat.reduceBEq, symM, nil_pv, field_Pg, hpg.1.load agg_bytes (i := 0) rfl, evCall_fn ft40 rfl, c1]
  exact retB_one ft22 rfl get_same
/-- A window of extents that are there. -/
def WinE (n : Nat) (h : AH) (v : Value) (xs : List XV) : Prop :=
  ∃ b o cap c m kd, v = .slice (some ⟨b, o, none⟩) xs.length cap ∧ b < n ∧ h.get b = some (.cells c m 33 0 0 kd) ∧ (xs.length ≠ 0 → o + 2 * xs.length ≤ m) ∧ (∀ (i : Nat) (x : XV), xs[i]? = some x → c.get (o + i * 2) = some (iv x.a) ∧ c.get (o + i * 2 + 1) = some (cx x.x x.y)) ∧
    ((cap < XB ∧ xs.length ≤ cap) ∨ (kd = .loose ∧ ∃ k, cap = XB + k ∧ xs.length ≤ k ∧ k < 100000))
theorem WinE.row {n : Nat} {h : AH} {v : Value} {xs : List XV} (hw : WinE n h v xs) : RowE n h v xs ∨ xs = [] := by
  obtain ⟨b, o, cap, c, m, kd, rfl, h2, h3, h4, h5, _⟩ := hw
  by_cases h0 : xs.length = 0
  · exact .inr (List.length_eq_zero_iff.1 h0)
  · exact .inl (.inr ⟨b, o, cap, c, m, 0, 0, kd, _, rfl, h2, h3, h4 h0, h5⟩)
theorem WinE.grow {n m : Nat} {h h' : AH} {v : Value} {xs : List XV} (hw : WinE n h v xs) (g : Grow m h h') (hn : n ≤ m) : WinE n h' v xs := by
  obtain ⟨b, o, cap, c, k, kd, h1, h2, h3, h4⟩ := hw
  exact ⟨b, o, cap, c, k, kd, h1, h2, (g.keep b (by omega)).trans h3, h4⟩
theorem WinE.len {n : Nat} {h h' : AH} {v : Value} {xs : List XV} {ty : TypeId} (hw : WinE n h v xs) : evBuiltin T0 .len #[29] ty [v] h' = some (.value (iv (xs.length : Nat)), h') := by
  obtain ⟨b, o, cap, c, k, kd, rfl, _⟩ := hw
  exact len_slice und_exts
theorem OwnE.win {n : Nat} {h : AH} {v : Value} {xs : List XV} (ho : OwnE n h v xs) (hs : ∃ a l c, v = .slice (some a) l c) (hl : xs.length < 100000) : WinE h.next h v xs := by
  rcases ho with ⟨rfl, _⟩ | ⟨b, c, kd, cap, h1, h2, h3, h4, h5, h6, h7⟩
  · obtain ⟨a, l, c, e⟩ := hs; cases e
  · refine ⟨b, 0, cap, c, _, kd, h3, h2, h4, fun _ => by omega, fun i x hi => ?_, ?_⟩
    · obtain ⟨q1, q2⟩ := extsL_at xs i x hi
      rw [Nat.zero_add]
      exact ⟨h6 _ _ q1, h6 _ _ q2⟩
    · rcases h7 with ⟨_, rfl⟩ | ⟨rfl, rfl⟩
      · exact .inl ⟨by rw [XB_val]; omega, Nat.le_refl _⟩
      · exact .inr ⟨rfl, _, rfl, Nat.le_refl _, hl⟩
/-- A window of a window. -/
theorem WinE.cut {n : Nat} {h : AH} {v : Value} {xs : List XV} (hw : WinE n h v xs) {lo hi mx : Option Value} {l hh : Nat} (hlh : l ≤ hh) (hle : hh ≤ xs.length) (h0 : mx.isSome = true → 0 < hh)
    (hb : ∀ k, xs.length ≤ k → boundsA xs.length k lo hi mx = some (l, hh, match mx with | none => k | some _ => hh)) :
    ∃ w, evSliceX T0 29 v lo hi mx h = some (w, h) ∧ WinE n h w ((xs.drop l).take (hh - l)) := by
  obtain ⟨b, o, cap, c, m, kd, rfl, h2, h3, h4, h5, h6⟩ := hw
  have hlen : ((xs.drop l).take (hh - l)).length = hh - l := by simp; omega
  -- the cells of the window, wherever it is said to begin
  have key : ∀ (s : Bool) (cap2 : Nat), (s = true → hh - l = 0) → ((cap2 < XB ∧ hh - l ≤ cap2) ∨ (kd = .loose ∧ ∃ k, cap2 = XB + k ∧ hh - l ≤ k ∧ k < 100000)) →
      WinE n h (.slice (some (offS b o l 2 s)) (hh - l) cap2) ((xs.drop l).take (hh - l)) := by
    intro s cap2 hs hc
    have hin : ∀ (i : Nat) (x : XV), ((xs.drop l).take (hh - l))[i]? = some x → xs[l + i]? = some x := by
      intro i x hx
      rw [List.getElem?_take] at hx
      split at hx
      · rwa [List.getElem?_drop] at hx
      · cases hx
    cases s with
    | true =>
      have h0 := hs rfl
      refine ⟨b, o, cap2, c, m, kd, by rw [hlen]; rfl, h2, h3, fun q => absurd h0 (by rwa [hlen] at q), fun i x hx => ?_, by rw [hlen]; exact hc⟩
      have := (List.getElem?_eq_some_iff.1 hx).1
      omega
    | false =>
      refine ⟨b, o + l * 2, cap2, c, m, kd, by rw [hlen]; rfl, h2, h3, fun q => ?_, fun i x hx => ?_, by rw [hlen]; exact hc⟩
      · rw [hlen] at q ⊢
        have := h4 (by omega)
        omega
      · have := h5 (l + i) x (hin i x hx)
        rw [show o + l * 2 + i * 2 = o + (l + i) * 2 by omega]
        exact this
  have hsame : ∀ m2, hh ≤ m2 → Nat.beq m2 l = true → hh - l = 0 := fun m2 q e => by
    have := Nat.eq_of_beq_eq_true e; omega
  rcases h6 with ⟨h6, h7⟩ | ⟨rfl, k, rfl, h7, h8⟩
  · cases mx with
    | none =>
      have e := hb cap h7
      refine ⟨.slice (some (offS b o l 2 (Nat.beq cap l))) (hh - l) (cap - l), ?_, key _ _ (hsame _ (by omega)) (.inl ⟨by omega, by omega⟩)⟩
      simp only at e
      simp only [evSliceX, evSlice, und_exts, sz_Ext, evSliceS, capOf_lt h6, e, Nat.ble_eq_true_of_le (show hh ≤ cap by omega), ifB_true, ble_lt' h6, ifB_false]
    | some y =>
      have e := hb cap h7
      refine ⟨.slice (some (offS b o l 2 (Nat.beq hh l))) (hh - l) (hh - l), ?_, key _ _ (hsame _ (Nat.le_refl _)) (.inl ⟨by omega, Nat.le_refl _⟩)⟩
      simp only at e
      simp only [evSliceX, evSlice, und_exts, sz_Ext, evSliceS, capOf_lt h6, e, Nat.ble_eq_true_of_le (Nat.le_refl hh), ifB_true, ble_lt' h6, ifB_false]
  · have hls : looseSz T0 h b 2 = true := by
      unfold looseSz
      rw [h3]
      simp only [sz_Ext]
      rfl
    cases mx with
    | none =>
      have e := hb k h7
      refine ⟨.slice (some (offS b o l 2 (Nat.beq k l))) (hh - l) (XB + (k - l)), ?_, key _ _ (hsame _ (by omega)) (.inr ⟨rfl, k - l, rfl, by omega, by omega⟩)⟩
      simp only at e
      simp only [evSliceX, evSlice, und_exts, sz_Ext, evSliceS, capOf_ge, e, Nat.ble_eq_true_of_le (show hh ≤ k by omega), ifB_true, Nat.ble_eq_true_of_le (show XB ≤ XB + k by omega), hls]
    | some y =>
      have e := hb k h7
      have hp := h0 rfl
      have c1 : Nat.blt 0 (XB + k - XB) = true := by simpa [Nat.blt] using Nat.ble_eq_true_of_le (show 1 ≤ XB + k - XB by omega)
      have c2 : Nat.blt hh XB = true := by simpa [Nat.blt] using Nat.ble_eq_true_of_le (show hh + 1 ≤ XB by rw [XB_val]; omega)
      refine ⟨.slice (some (offS b o l 2 (Nat.beq hh l))) (hh - l) (hh - l), ?_, key _ _ (hsame _ (Nat.le_refl _)) (.inl ⟨by rw [XB_val]; omega, Nat.le_refl _⟩)⟩
      simp only at e
      simp only [evSliceX, evSlice, und_exts, sz_Ext, evSliceS, capOf_ge, e, Nat.ble_eq_true_of_le (Nat.le_refl hh), ifB_true, Nat.ble_eq_true_of_le (show XB ≤ XB + k by omega), hls, c1, c2, Bool.and_self]
theorem WinE.to {n : Nat} {h : AH} {v : Value} {xs : List XV} (hw : WinE n h v xs) {hh : Nat} (hle : hh ≤ xs.length) : ∃ w, evSliceX T0 29 v none (some (iv hh)) none h = some (w, h) ∧ WinE n h w (xs.take hh) := by
  have := hw.cut (lo := none) (hi := some (iv hh)) (mx := none) (l := 0) (hh := hh) (Nat.zero_le _) hle (fun q => by cases q) (fun k hk => by
    simp only [boundsA, boundA, show natOf (iv (hh : Int)) = some hh from rfl, Nat.ble_eq_true_of_le (show hh ≤ k by omega), ifB_true])
  simpa using this
theorem WinE.from {n : Nat} {h : AH} {v : Value} {xs : List XV} (hw : WinE n h v xs) {l : Nat} (hle : l ≤ xs.length) : ∃ w, evSliceX T0 29 v (some (iv l)) none none h = some (w, h) ∧ WinE n h w (xs.drop l) := by
  obtain ⟨w, e1, e2⟩ := hw.cut (lo := some (iv l)) (hi := none) (mx := none) (l := l) (hh := xs.length) hle (Nat.le_refl _) (fun q => by cases q) (fun k hk => by
    simp only [boundsA, boundA, show natOf (iv (l : Int)) = some l from rfl, Nat.ble_eq_true_of_le hle, ifB_true])
  refine ⟨w, e1, ?_⟩
  rw [List.take_of_length_le (by simp)] at e2
  exact e2
theorem WinE.mid {n : Nat} {h : AH} {v : Value} {xs : List XV} (hw : WinE n h v xs) {l hh : Nat} (hlh : l < hh) (hle : hh ≤ xs.length) : ∃ w, evSliceX T0 29 v (some (iv l)) (some (iv hh)) (some (iv hh)) h = some (w, h) ∧ WinE n h w ((xs.drop l).take (hh - l)) :=
  hw.cut (lo := some (iv l)) (hi := some (iv hh)) (mx := some (iv hh)) (l := l) (hh := hh) (Nat.le_of_lt hlh) hle (fun _ => by omega) (fun k hk => by
    simp only [boundsA, boundA, show natOf (iv (l : Int)) = some l from rfl, show natOf (iv (hh : Int)) = some hh from rfl, Nat.ble_eq_true_of_le (show hh ≤ k by omega), Nat.ble_eq_true_of_le (Nat.le_of_lt hlh), Nat.ble_eq_true_of_le (Nat.le_refl hh), ifB_true])
/-- A row of extents as a new one. -/
theorem nil_eqE {n : Nat} {h : AH} {v : Value} {xs : List XV} (hw : WinE n h v xs) {p q : Operand} : evBin T0 .eql 29 p q v nilV h = some (.bool false) := by
  obtain ⟨b, o, cap, c, m, kd, rfl, _⟩ := hw
  kernel_rfl
theorem bs_e0 {h : AH} : evBuildSlice T0 29 0 [] h = some (.slice (some ⟨h.next, 0, none⟩) 0 0, h.new (.cells (PM.ofList []) 0 33 0 0 .ex)) := by kernel_rfl
theorem extsL_one (xs : List XV) : (extsL xs).all oneCell = true := by
  unfold extsL
  simp only [List.all_flatMap, List.all_cons, List.all_nil, Bool.and_true]
  simp [oneCell]
theorem WinE.appended {n : Nat} {h : AH} {v : Value} {xs : List XV} (hw : WinE n h v xs) : appendedA T0 29 (infoOf 33) (.agg #[iv 0, .complex .f64 0 0]) v h = some (xs.length, extsL xs) := by
  obtain ⟨b, o, cap, c, m, kd, rfl, h2, h3, h4, h5, _⟩ := hw
  unfold appendedA
  simp only [und_exts, lenOfA]
  have hsz : (infoOf 33).size = 2 := ti_Ext.2.1
  have hold : firstA (infoOf 33).size xs.length h (.slice (some ⟨b, o, none⟩) xs.length cap) = some (extsL xs) := by
    unfold firstA
    by_cases hk0 : xs.length = 0
    · rw [List.length_eq_zero_iff.1 hk0]; rfl
    · show ifB (Nat.beq xs.length 0) (some []) (ifB (Nat.ble xs.length xs.length) (loadRow h b o (xs.length * (infoOf 33).size)) none) = some (extsL xs)
      rw [show Nat.beq xs.length 0 = false from nbF (by simpa using hk0), ifB_false, Nat.ble_eq_true_of_le (Nat.le_refl _), ifB_true, hsz, ← extsL_len]
      refine loadRow_of h3 (by rw [extsL_len]; have := h4 hk0; omega) (fun i y hy => ?_)
      have hi := (List.getElem?_eq_some_iff.1 hy).1
      rw [extsL_len] at hi
      have hx : xs[i / 2]? = some (xs[i / 2]'(by omega)) := List.getElem?_eq_getElem (by omega)
      obtain ⟨q1, q2⟩ := extsL_at xs (i / 2) _ hx
      obtain ⟨r1, r2⟩ := h5 (i / 2) _ hx
      rcases Nat.mod_two_eq_zero_or_one i with hm | hm
      · rw [show i / 2 * 2 = i by omega] at q1 r1
        rw [q1] at hy; cases hy; exact r1
      · rw [show i / 2 * 2 + 1 = i by omega] at q2
        rw [show o + i / 2 * 2 + 1 = o + i by omega] at r2
        rw [q2] at hy; cases hy; exact r2
  rw [hold]
  simp only
  rw [extsL_len, hsz, Nat.beq_refl, ifB_true]
theorem CloneE_S (v : Value) (xs : List XV) (n0 : Nat) (h : AH) (hw : WinE n0 h v xs) (hn : n0 ≤ h.next) (hl : xs.length < 1000) :
    ∃ v' h', frameB T0 X0 call 3000 14 [v] h = some (v', h') ∧ OwnE h.next h' v' xs ∧ Grow h.next h h' := by
  have g1 := Grow.new h (.cells (PM.ofList []) 0 33 0 0 .ex)
  have ho : OwnC 2 h.next (h.new (.cells (PM.ofList []) 0 33 0 0 .ex)) (.slice (some ⟨h.next, 0, none⟩) 0 0) 0 [] 33 := .inr ⟨h.next, PM.ofList [], .ex, 0, Nat.le_refl _, Nat.lt_succ_self _, rfl, get_new_same _ _, rfl, fun i x hx => by simp at hx, .inl ⟨rfl, rfl⟩⟩
  obtain ⟨v', h', e1, e2, e3, e4, e5⟩ := append_gen und_exts tt_Ext ti_Ext.1 ti_Ext.2.1 ti_Ext.2.2 ho (hw.grow g1 hn).appended (extsL_len xs) (extsL_one xs) (by omega) g1.next 29
  refine ⟨v', h', ?_, ?_, g1.trans e3 (Nat.le_refl _)⟩
  · rw [frameB_eq ft14 rfl rfl]
    simp only [Try.f14, symM, opFn, Nat.reduceLT, Nat.reduceBEq, symM, nil_eqE hw, bs_e0, e1]
    exact retB_one ft14 rfl get_same
  · unfold OwnE
    simpa using e2
end
end Go.Proofs.Ytglmahefcdhmgaa.Abs
namespace Go.Proofs.Ytglmahefcdhmgaa.Abs
open Go Go.Proofs
noncomputable section
variable {call : Abs.Callee}
set_option maxRecDepth 10000
theorem ft16 : T0.ft.get 16 = some Try.f16 := by kernel_rfl
theorem ft37 : T0.ft.get 37 = some Try.f37 := by kernel_rfl
theorem ft17 : T0.ft.get 17 = some Try.f17 := by kernel_rfl
theorem ft38 : T0.ft.get 38 = some Try.f38 := by kernel_rfl
abbrev yieldV (l : Nat) : Value := .func (.yield l) #[] #[]
def setPs (lp : Loop) (args : List Value) : List Value := (lp.params.toList.zip args).foldl (fun (t : List Value) (p : Tmp × Value) => t.set p.1 p.2) lp.tmps.toList
theorem evCall_yield {l : Nat} {args : List Value} {h : AH} {lp : Loop} (hg : h.get l = some (.loop lp)) (hn : args.length = lp.params.size) :
    evCall T0 X0 (yieldV l) args h = some (.round l lp.fn (setPs lp args) lp.assign lp.body, h) := by
  have hb : Nat.beq args.length lp.params.size = true := by rw [hn]; exact Nat.beq_refl _
  simp only [evCall, hg, List.nil_append, hb, ifB_true]
  rfl
section
variable {n : Nat} {E : Env} {tm : PM Value} {h : AH} {df : List Nat} {self : Self} {all : Array Oper} {rest : List Oper}
theorem goR_round {dst : Option Nat} {l f : Nat} {t : List Value} {a b : Code} {h : AH} : goR T0 X0 call self E all df dst rest tm (some (.round l f t a b, h)) = goC T0 X0 call self E all df dst rest tm (roundB self l f t a b h) := rfl
end
noncomputable def bodyCh : Code := part Try.f37 [1, 0, 0]
abbrev ECh : Env := ⟨37, 31, none⟩
theorem plan_Ch : planB (regOps Try.f37 [1, 0, 0, 1, 0, 0, 0]) 31 = some ([.one 0, .one 1, .one 2, .one 3, .one 4, .one 5, .one 6], []) := by kernel_rfl
/-- The parts of a row. -/
def partX (xs : List XV) (i : Nat) : List XV := (xs.drop (14 * i)).take (min 14 (xs.length - 14 * i))
def cntX (xs : List XV) : Nat := (xs.length + 13) / 14
abbrev RoundC (call : Abs.Callee) (l : Nat) (lp : Loop) (args : List Value) (h h' : AH) : Prop := ∀ N, roundB (codeB T0 X0 call (N + 200)) l lp.fn (setPs lp args) lp.assign lp.body h = some (.bool true, h')
theorem chunkL (P : Nat → AH → Prop) (l : Nat) (lp : Loop) (b1 b2 n : Nat) (v : Value) (xs : List XV) (hps : lp.params.size = 1) (hL : xs.length ≤ 96)
    (hP : ∀ i h, P i h → h.get l = some (.loop lp) ∧ BoxL h b1 29 [v] ∧ BoxL h b2 3 [iv 14] ∧ WinE n h v xs)
    (hR : ∀ i h w, P i h → 14 * i < xs.length → WinE n h w (partX xs i) → ∃ h', RoundC call l lp [w] h h' ∧ P (i + 1) h') :
    ∀ (k i : Nat) (h : AH) (tm : PM Value) (N : Nat), i + k = cntX xs → k + 300 ≤ N → P i h → tm.get 0 = some (yieldV l) → tm.get 1 = some (pv b1 0) → tm.get 2 = some (pv b2 0) → tm.get 4 = some (iv ((14 * i : Nat) : Int)) →
      ∃ tm' h', codeB T0 X0 call N ECh (.loop bodyCh) tm h [] = .jump (.exit 0) tm' h' [] ∧ P (cntX xs) h' := by
  intro k
  induction k with
  | zero =>
    intro i h tm N hi hN hp g0 g1 g2 g4
    obtain ⟨N, rfl⟩ : ∃ a, N = a + 300 := ⟨N - 300, by omega⟩
    obtain ⟨p1, p2, p3, p4⟩ := hP i h hp
    have hic : i = cntX xs := by omega
    apply Exists.intro; apply Exists.intro
    refine ⟨?_, by rw [← hic]; exact hp⟩
    rw [codeB_loop]
    simp only [bodyCh, part, Try.f37, sub, symM, opFn, Nat.reduceLT, Nat.reduceBEq, symM, g1, g4, p2.load agg_exts (i := 0) rfl, p4.len, bin_lss, decide_eq_false (show ¬ ((14 * i : Nat) : Int) < (xs.length : Nat) by unfold cntX at hic; omega)]
    rfl
  | succ k ih =>
    intro i h tm N hi hN hp g0 g1 g2 g4
    obtain ⟨N, rfl⟩ : ∃ a, N = a + 300 := ⟨N - 300, by omega⟩
    obtain ⟨p1, p2, p3, p4⟩ := hP i h hp
    have hlt : 14 * i < xs.length := by unfold cntX at hi; omega
    obtain ⟨w1, e1, e2⟩ := p4.from (l := 14 * i) (Nat.le_of_lt hlt)
    have hmin : (if ((xs.drop (14 * i)).length : Int) < 14 then ((xs.drop (14 * i)).length : Int) else 14) = ((min 14 (xs.length - 14 * i) : Nat) : Int) := by
      rw [List.length_drop]
      split <;> omega
    have wadd : IntKind.i64.wrap (((14 * i : Nat) : Int) + ((min 14 (xs.length - 14 * i) : Nat) : Int)) = ((14 * i + min 14 (xs.length - 14 * i) : Nat) : Int) := by rw [wz (by omega)]; omega
    obtain ⟨w2, e3, e4⟩ := p4.mid (l := 14 * i) (hh := 14 * i + min 14 (xs.length - 14 * i)) (by omega) (by omega)
    rw [show 14 * i + min 14 (xs.length - 14 * i) - 14 * i = min 14 (xs.length - 14 * i) by omega] at e4
    obtain ⟨h', c1, c2⟩ := hR i h w2 hp hlt e4
    obtain ⟨r1, r2, r3, r4⟩ := hP (i + 1) h' c2
    have wn : IntKind.i64.wrap (((14 * i : Nat) : Int) + 14) = ((14 * (i + 1) : Nat) : Int) := by rw [wz (by omega)]; omega
    have hp3 := plan_Ch
    simp only [regOps, part, Try.f37, sub] at hp3
    rw [show N + 300 = (N + 299) + 1 from rfl, codeB_loop]
    simp only [bodyCh, part, Try.f37, sub, symM, opFn, Nat.reduceLT, Nat.reduceBEq, symM, g1, g4, p2.load agg_exts (i := 0) rfl, p4.len, bin_lss, decide_eq_true (show ((14 * i : Nat) : Int) < (xs.length : Nat) by omega)]
    rw [codeB_draw, draw_plan hp3 rfl]
    simp only [drawAll, opFn, Nat.reduceBEq, g1, g2, g4, p2.load agg_exts (i := 0) rfl, p3.load agg_int (i := 0) rfl, ev3, evOpt, e1, e2.len, bi_min, hmin]
    simp only [symM, opFn, Nat.reduceLT, Nat.reduceBEq, symM, g0, g1, g2, g4, p2.load agg_exts (i := 0) rfl, bin_add, wadd, ev3, evOpt, e3, evCall_yield p1 (show [w2].length = lp.params.size by rw [hps]; rfl), goR_round, c1, r3.load agg_int (i := 0) rfl, wn]
    exact ih (i + 1) h' _ (N + 299) (by omega) (by omega) c2 (by simp only [symM, Nat.reduceBEq, g0]) (by simp only [symM, Nat.reduceBEq, g1]) (by simp only [symM, Nat.reduceBEq, g2]) get_same
end
end Go.Proofs.Ytglmahefcdhmgaa.Abs
namespace Go.Proofs.Ytglmahefcdhmgaa.Abs
open Go Go.Proofs
noncomputable section
variable {call : Abs.Callee}
set_option maxRecDepth 10000
theorem ft36 : T0.ft.get 36 = some Try.f36 := by kernel_rfl
theorem ft15 : T0.ft.get 15 = some Try.f15 := by kernel_rfl
theorem Chunk1_S (P : Nat → AH → Prop) (l : Nat) (lp : Loop) (b1 b2 n : Nat) (v : Value) (xs : List XV) (hps : lp.params.size = 1) (hL : xs.length ≤ 96)
    (hP : ∀ i h, P i h → h.get l = some (.loop lp) ∧ BoxL h b1 29 [v] ∧ BoxL h b2 3 [iv 14] ∧ WinE n h v xs)
    (hR : ∀ i h w, P i h → 14 * i < xs.length → WinE n h w (partX xs i) → ∃ h', RoundC call l lp [w] h h' ∧ P (i + 1) h') (h : AH) (h0 : P 0 h) :
    ∃ h', frameB T0 X0 call 3000 37 [yieldV l, pv b1 0, pv b2 0] h = some (.tuple #[], h') ∧ P (cntX xs) h' := by
  rw [frameB_eq ft37 rfl rfl]
  simp only [Try.f37, symM, opFn, Nat.reduceLT, symL]
  generalize hX : codeB T0 X0 call _ ECh (.loop _) _ _ _ = X
  obtain ⟨t1, h1, e1, e2⟩ := use_exit hX (chunkL P l lp b1 b2 n v xs hps hL hP hR (cntX xs) 0 h _ _ (by omega) (by unfold cntX; omega) h0 (by simp only [symM, Nat.reduceBEq]) (by simp only [symM, Nat.reduceBEq]) (by simp only [symM, Nat.reduceBEq]) (by simp only [symM]; rfl))
  clear hX
  subst e1
  refine ⟨h1, ?_, e2⟩
  simp only [symM, symL]
  exact retB_zero ft37 rfl
theorem ev_nilFunc {T : Tab} {tm : PM Value} : ev T tm (.const .nilFunc) = some .nilFunc := rfl
theorem Chunk_S (v : Value) (n : Nat) (xs : List XV) (h : AH) (hw : WinE n h v xs) :
    ∃ h', frameB T0 X0 call 3000 16 [v, iv 14] h = some (.func (.func 37) #[] #[pv h.next 0, pv (h.next + 1) 0], h') ∧ h'.next = h.next + 2 ∧ BoxL h' h.next 29 [v] ∧ BoxL h' (h.next + 1) 3 [iv 14] ∧ Grow h.next h h' := by
  obtain ⟨b, o, cap, c, m, kd, rfl, _⟩ := hw
  generalize hv : (Value.slice (some ⟨b, o, none⟩) xs.length cap) = v
  have hone : v.cells = #[v] := by rw [← hv]; rfl
  generalize hh1 : h.new (.cells (PM.ofList [v]) 1 29 0 0 .ex) = h1
  have g1 : Grow h.next h h1 := by rw [← hh1]; exact Grow.new _ _
  have n1 : h1.next = h.next + 1 := by rw [← hh1]; rfl
  have b1 : BoxL h1 h.next 29 [v] := by rw [← hh1]; exact BoxL.new _ _ _
  generalize hh2 : h1.new (.cells (PM.ofList [iv 14]) 1 3 0 0 .ex) = h2
  have g2 : Grow h1.next h1 h2 := by rw [← hh2]; exact Grow.new _ _
  have n2 : h2.next = h1.next + 1 := by rw [← hh2]; rfl
  have b2 : BoxL h2 h1.next 3 [iv 14] := by rw [← hh2]; exact BoxL.new _ _ _
  have x1 : ∀ h, rp (some (evNewVar h 29 v)) = some (.value (pv h.next 0), h.new (.cells (PM.ofList [v]) 1 29 0 0 .ex)) := fun h => by rw [← hv]; rfl
  have x2 : ∀ h, rp (some (evNewVar h 3 (iv 14))) = some (.value (pv h.next 0), h.new (.cells (PM.ofList [iv 14]) 1 3 0 0 .ex)) := fun h => rfl
  rw [← n1]
  refine ⟨h2, ?_, by omega, b1.grow g2 (by omega), b2, g1.trans g2 (by omega)⟩
  rw [frameB_eq ft16 rfl rfl]
  simp only [Try.f16, symM, opFn, Nat.reduceLT, Nat.reduceBEq, symM, ev_nilFunc, x1, hh1, x2, hh2, b2.load agg_int (i := 0) rfl, bin_lss, show decide ((14 : Int) < 1) = false from rfl]
  exact retB_one ft16 rfl get_same
end
end Go.Proofs.Ytglmahefcdhmgaa.Abs
namespace Go.Proofs.Ytglmahefcdhmgaa.Abs
open Go Go.Proofs
noncomputable section
variable {call call2 : Abs.Callee}
set_option maxRecDepth 10000
/-- The object of a loop over a function. -/
def lpOf (E : Env) (tm : PM Value) (params : Array Tmp) (a b : Code) (bd : Nat) : Loop := { state := .ready, pending := none, fn := E.fn, tmps := (tmpsOf E.size tm).toArray, params := params, assign := a, body := b, defers := bd }
theorem codeB_range {E : Env} {n : Nat} {f : Operand} {params : Array Tmp} {a b : Code} {tm : PM Value} {h : AH} {df : List Nat} (hr : E.rnd = none) :
    codeB T0 X0 call (n + 1) E (.code (.rangeFunc f params a b)) tm h df = rangeB T0 X0 call E f params a b tm h.next (h.new (.defs (some []))) (h.next :: df) := by
  rw [codeB_succ]
  show (match E.rnd with
      | none => rangeB T0 X0 call E f params a b tm h.next (h.new (.defs (some []))) (h.next :: df)
      | some l => match h.get l with
        | some (.loop r) => rangeB T0 X0 call E f params a b tm r.defers h df
        | _ => .bad) = _
  rw [hr]
theorem rangeB_clo {E : Env} {f : Operand} {params : Array Tmp} {a b : Code} {tm : PM Value} {bd : Nat} {h1 : AH} {df : List Nat} {g : Nat} {cs : List Value} {fd : Func} {c : Code} {w : Value} {h3 : AH}
    (he : ev T0 tm f = some (.func (.func g) #[] cs.toArray)) (hg : T0.ft.get g = some fd) (hgb : fd.body = some c)
    (hc : call g (yieldV h1.next :: cs) (h1.new (.loop (lpOf E tm params a b bd))) = some (w, h3)) (hl : h3.get h1.next = some (.loop (lpOf E tm params a b bd))) :
    rangeB T0 X0 call E f params a b tm bd h1 df = .fall tm (h3.set h1.next (.loop { lpOf E tm params a b bd with state := .exhausted })) df := by
  unfold rangeB
  rw [he]
  simp only
  rw [evCall_clo hg hgb]
  simp only [List.cons_append, List.nil_append]
  have hc2 : call g (yieldV h1.next :: cs) (h1.new (.loop { state := .ready, pending := none, fn := E.fn, tmps := (tmpsOf E.size tm).toArray, params := params, assign := a, body := b, defers := bd })) = some (w, h3) := hc
  rw [hc2]
  simp only [hl]
  rfl
theorem roundB_eq {self : Self} {l : Nat} {lp : Loop} {args : List Value} {h h1 h2 : AH} {tm1 tm2 : PM Value} {df1 df2 : List Nat} (hst : lp.state = .ready) (hpe : lp.pending = none)
    (ha : self ⟨lp.fn, (setPs lp args).length, some l⟩ (.code lp.assign) (PM.ofList (setPs lp args)) h [] = .fall tm1 h1 df1) (hg : h1.get l = some (.loop lp))
    (hb : self ⟨lp.fn, (setPs lp args).length, some l⟩ (.code lp.body) tm1 (h1.set l (.loop { lp with state := .busy })) df1 = .fall tm2 h2 df2) (hg2 : h2.get l = some (.loop { lp with state := .busy })) :
    roundB self l lp.fn (setPs lp args) lp.assign lp.body h = some (.bool true, h2.set l (.loop lp)) := by
  unfold roundB
  rw [ha]
  simp only [hg, hst, hb]
  unfold leaveR
  simp only [hg2]
  obtain ⟨st, pe, fn, tp, pa, asg, bo, de⟩ := lp
  simp only at hst hpe
  subst hst; subst hpe
  rfl
theorem tmpsOf_get {size k : Nat} {tm : PM Value} {v : Value} (hk : k < size) (hv : tm.get k = some v) : (tmpsOf size tm)[k]? = some v := by
  unfold tmpsOf
  rw [List.getElem?_map, List.getElem?_range hk]
  simp [hv]
theorem tmpsOf_len (size : Nat) (tm : PM Value) : (tmpsOf size tm).length = size := by simp [tmpsOf]
theorem setPs1_len {E : Env} {tm : PM Value} {p : Nat} {a b : Code} {bd : Nat} {w : Value} : (setPs (lpOf E tm #[p] a b bd) [w]).length = E.size := by
  simp [setPs, lpOf, tmpsOf_len]
theorem setPs1_get {E : Env} {tm : PM Value} {p k : Nat} {a b : Code} {bd : Nat} {w v : Value} (hk : k < E.size) (hkp : k ≠ p) (hv : tm.get k = some v) : (PM.ofList (setPs (lpOf E tm #[p] a b bd) [w])).get k = some v := by
  rw [PM.get_ofList]
  have : setPs (lpOf E tm #[p] a b bd) [w] = (tmpsOf E.size tm).set p w := rfl
  rw [this, List.getElem?_set_ne (Ne.symm hkp), tmpsOf_get hk hv]
theorem setPs1_same {E : Env} {tm : PM Value} {p : Nat} {a b : Code} {bd : Nat} {w : Value} (hp : p < E.size) : (PM.ofList (setPs (lpOf E tm #[p] a b bd) [w])).get p = some w := by
  rw [PM.get_ofList]
  have : setPs (lpOf E tm #[p] a b bd) [w] = (tmpsOf E.size tm).set p w := rfl
  rw [this, List.getElem?_set_self (by rw [tmpsOf_len]; exact hp)]
theorem Own.set {n k : Nat} {h : AH} {v : Value} {l : List Value} {e : TypeId} {o : AObj} (ho : Own n h v l e) (hk : k < n) : Own n (h.set k o) v l e := by
  rcases ho with h1 | ⟨b, c, kd, cap, h1, h2, h3, h4, h5⟩
  · exact .inl h1
  · exact .inr ⟨b, c, kd, cap, h1, h2, h3, by rw [AH.get_set, if_neg (by omega)]; exact h4, h5⟩
theorem BoxL.set {h : AH} {b el k : Nat} {l : List Value} {o : AObj} (hb : BoxL h b el l) (hk : b ≠ k) : BoxL (h.set k o) b el l := by
  obtain ⟨c, h1, h2⟩ := hb
  exact ⟨c, by rw [AH.get_set, if_neg hk]; exact h1, h2⟩
theorem retB_one1 {T : Tab} {f d : Nat} {tm : PM Value} {h : AH} {fd : Func} {t : Nat} {v : Value} (hf : T.ft.get f = some fd) (hr : fd.results = #[.tmp t]) (hv : tm.get t = some v) (hd : h.get d = some (.defs (some []))) : retB T f tm h [d] = some (v, h.set d (.defs none)) := by
  unfold retB
  have hu : undef1 [d] h = some (h.set d (.defs none)) := by unfold undef1; rw [hd]; rfl
  rw [hu]
  simp only [resultA, hf, hr]
  show (match (match resultsA T (h.set d (.defs none)) tm [.tmp t] with | some l => some (one l) | none => none) with | some v => some (v, h.set d (.defs none)) | none => none) = _
  simp only [resultsA, hv]
  rfl
end
end Go.Proofs.Ytglmahefcdhmgaa.Abs
namespace Go.Proofs.Ytglmahefcdhmgaa.Abs
open Go Go.Proofs
noncomputable section
variable {call call2 : Abs.Callee}
set_option maxRecDepth 10000
theorem und_parts : und T0 48 = some (.slice 29) := by kernel_rfl
theorem agg_parts : aggT T0 48 = some false := by kernel_rfl
theorem sz_parts : szOf T0 48 = some 1 := by kernel_rfl
theorem zero_exts : zeroOf T0 29 = some nilV := by kernel_rfl
theorem tt_exts : T0.tt.get 29 = some (infoOf 29) := by kernel_rfl
theorem ti_exts : (infoOf 29).zero = some nilV ∧ (infoOf 29).size = 1 ∧ (infoOf 29).bytes ≤ 64 := ⟨by kernel_rfl, by kernel_rfl, Nat.le_of_ble_eq_true (by kernel_rfl)⟩
theorem WinE.one {n : Nat} {h : AH} {v : Value} {xs : List XV} (hw : WinE n h v xs) : oneCell v = true ∧ v.cells.toList = [v] := by
  obtain ⟨b, o, cap, c, m, kd, rfl, _⟩ := hw
  exact ⟨rfl, rfl⟩
theorem Own.one1 {n : Nat} {h : AH} {v : Value} {l : List Value} {e : TypeId} (ho : Own n h v l e) : oneCell v = true ∧ v.cells.toList = [v] := by
  rcases ho with ⟨rfl, _⟩ | ⟨b, c, kd, cap, _, _, rfl, _⟩
  · exact ⟨rfl, rfl⟩
  · exact ⟨rfl, rfl⟩
/-- Windows, one for each part. -/
def Parts (n : Nat) (h : AH) (xs : List XV) (ws : List Value) : Prop := ∀ (j : Nat) (w : Value), ws[j]? = some w → WinE n h w (partX xs j)
theorem Parts.grow {n m : Nat} {h h' : AH} {xs : List XV} {ws : List Value} (hp : Parts n h xs ws) (g : Grow m h h') (hn : n ≤ m) : Parts n h' xs ws := fun j w hj => (hp j w hj).grow g hn
/-- What a round of AppendSeq leaves. -/
structure PA (h0 : AH) (n bx : Nat) (lp : Loop) (xs : List XV) (i : Nat) (h : AH) : Prop where
  loop : h.get (bx + 2) = some (.loop lp)
  defs : h.get (bx + 1) = some (.defs (some []))
  nxt : bx + 3 ≤ h.next
  grow : Grow bx h0 h
  rows : ∃ s ws, BoxL h bx 48 [s] ∧ Own (bx + 3) h s ws 29 ∧ ws.length = i ∧ Parts n h xs ws
abbrev EAs : Env := ⟨36, 13, none⟩
noncomputable def rangeAs : Code := part Try.f36 [1, 0, 1, 0]
noncomputable def rngA : Code → Code
  | .rangeFunc _ _ a _ => a
  | _ => .skip
noncomputable def rngB : Code → Code
  | .rangeFunc _ _ _ b => b
  | _ => .skip
theorem roundAs (h0 : AH) (n bx : Nat) (tm : PM Value) (xs : List XV) (hn : n ≤ bx) (ht : tm.get 2 = some (pv bx 0)) (hL : xs.length ≤ 96) (i : Nat) (h : AH) (w : Value)
    (hp : PA h0 n bx (lpOf EAs tm #[7] (rngA rangeAs) (rngB rangeAs) (bx + 1)) xs i h) (hi : 14 * i < xs.length) (hw : WinE n h w (partX xs i)) :
    ∃ h', RoundC call2 (bx + 2) (lpOf EAs tm #[7] (rngA rangeAs) (rngB rangeAs) (bx + 1)) [w] h h' ∧ PA h0 n bx (lpOf EAs tm #[7] (rngA rangeAs) (rngB rangeAs) (bx + 1)) xs (i + 1) h' := by
  obtain ⟨p1, p2, p3, p4, s, ws, p5, p6, p7, p8⟩ := hp
  generalize hlp : lpOf EAs tm #[7] (rngA rangeAs) (rngB rangeAs) (bx + 1) = lp at *
  generalize hhB : h.set (bx + 2) (.loop { lp with state := .busy }) = hB
  have nB : hB.next = h.next := by rw [← hhB]; rfl
  have b1 : BoxL hB bx 48 [s] := by rw [← hhB]; exact p5.set (by omega)
  have o1 : Own (bx + 3) hB s ws 29 := by rw [← hhB]; exact p6.set (by omega)
  have gB : Grow (bx + 2) h hB := by rw [← hhB]; exact Grow.set h _ (Nat.le_refl _)
  have lB : hB.get (bx + 2) = some (.loop { lp with state := .busy }) := by rw [← hhB, AH.get_set, if_pos rfl]
  obtain ⟨v', h2, a1, a2, a3⟩ := append_one und_parts tt_exts ti_exts.1 ti_exts.2.1 ti_exts.2.2 o1 (x := w) hw.one.1 (by omega) (by omega) 48
  have b2 := b1.grow a3 (by omega)
  obtain ⟨h3, s1, s2, s3, s4⟩ := b2.store (n := bx) (t := 48) (ws := [v']) (o := 0) (v := v') sz_parts a2.one1.2 (by simp) (by simp [a2.one1.1]) (by simp) (Nat.le_refl _)
  have hk := evStore_keep s1
  have l3 : h3.get (bx + 2) = some (.loop { lp with state := .busy }) := (hk _ (by omega)).trans ((a3.keep _ (by omega)).trans lB)
  have gall : Grow bx h (h3.set (bx + 2) (.loop lp)) := ((gB.less (by omega)).trans ((a3.less (by omega)).trans s3 (Nat.le_refl _)) (Nat.le_refl _)).trans (Grow.set h3 _ (by omega)) (Nat.le_refl _)
  refine ⟨h3.set (bx + 2) (.loop lp), ?_, ?_⟩
  · intro N
    have hlen : (setPs lp [w]).length = 13 := by rw [← hlp]; exact setPs1_len
    have t2 : (PM.ofList (setPs lp [w])).get 2 = some (pv bx 0) := by rw [← hlp]; exact setPs1_get (by decide) (by decide) ht
    have t7 : (PM.ofList (setPs lp [w])).get 7 = some w := by rw [← hlp]; exact setPs1_same (by decide)
    have hfn : lp.fn = 36 := by rw [← hlp]; rfl
    have has : lp.assign = rngA rangeAs := by rw [← hlp]; rfl
    have hbo : lp.body = rngB rangeAs := by rw [← hlp]; rfl
    have hbs : evBuildSlice T0 48 1 [(0, w)] hB = some (.slice (some ⟨hB.next, 0, none⟩) 1 1, hB.new (.cells (PM.ofList [w]) 1 29 0 0 .ex)) := bs_one und_parts sz_exts zero_exts rfl hw.one.1
    have hE : (⟨lp.fn, (setPs lp [w]).length, some (bx + 2)⟩ : Env) = ⟨36, 13, some (bx + 2)⟩ := by rw [hlen, hfn]
    have hA : codeB T0 X0 call2 (N + 200) ⟨36, 13, some (bx + 2)⟩ (.code (rngA rangeAs)) (PM.ofList (setPs lp [w])) h [] = .fall ((PM.ofList (setPs lp [w])).set 5 w) h [] := by
      generalize PM.ofList (setPs lp [w]) = tm0 at t2 t7
      simp only [rngA, rangeAs, part, Try.f36, sub, symM, opFn, Nat.reduceLT, symM, t7]
    obtain ⟨tm2, hB2⟩ : ∃ tm2, codeB T0 X0 call2 (N + 200) ⟨36, 13, some (bx + 2)⟩ (.code (rngB rangeAs)) ((PM.ofList (setPs lp [w])).set 5 w) hB [] = .fall tm2 h3 [] := by
      generalize PM.ofList (setPs lp [w]) = tm0 at t2 t7
      apply Exists.intro
      simp only [rngB, rangeAs, part, Try.f36, sub, symM, opFn, Nat.reduceLT, Nat.reduceBEq, symM, t2, b1.load agg_parts (i := 0) rfl, hbs, a1, s1]
      rfl
    refine roundB_eq (h1 := h) (df1 := []) (tm1 := (PM.ofList (setPs lp [w])).set 5 w) (tm2 := tm2) (df2 := []) (by rw [← hlp]; rfl) (by rw [← hlp]; rfl) ?_ p1 ?_ l3
    · rw [hE, has]; exact hA
    · rw [hE, hhB, hbo]; exact hB2
  · refine ⟨by rw [AH.get_set, if_pos rfl], ?_, ?_, p4.trans gall (Nat.le_refl _), v', ws ++ [w], ?_, ?_, by simp [p7], ?_⟩
    · rw [AH.get_set, if_neg (by omega), hk _ (by omega), a3.keep _ (by omega), ← hhB, AH.get_set, if_neg (by omega)]
      exact p2
    · show bx + 3 ≤ h3.next
      have := a3.next; omega
    · exact BoxL.set s2 (by omega)
    · refine Own.set ?_ (by omega)
      rcases a2 with h1 | ⟨b, c, kd, cap, h1, h2', h3', h4, h5⟩
      · exact .inl h1
      · exact .inr ⟨b, c, kd, cap, h1, by omega, h3', (hk b (by omega)).trans h4, h5⟩
    · intro j w' hj
      rcases Nat.lt_or_ge j ws.length with hlt | hge
      · rw [List.getElem?_append_left hlt] at hj
        exact (p8 j w' hj).grow gall hn
      · rw [List.getElem?_append_right hge] at hj
        have hj0 : j - ws.length = 0 := by
          rcases Nat.eq_zero_or_pos (j - ws.length) with h | h
          · exact h
          · rw [List.getElem?_eq_none (by simp; omega)] at hj; cases hj
        rw [hj0] at hj
        cases hj
        rw [show j = i by omega]
        exact hw.grow gall hn
end
end Go.Proofs.Ytglmahefcdhmgaa.Abs
