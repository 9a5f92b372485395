
/- A node as bytes. -/
import Derived.Test.YthpfgiabdpeiaaaSound
namespace Go.Proofs.Ythpfgiabdpeiaaa.Abs
open Go Go.Proofs
noncomputable section
variable {call : Abs.Callee}
set_option maxRecDepth 10000
theorem ft11 : T0.ft.get 11 = some Try.f11 := by kernel_rfl
theorem ft23' : T0.ft.get 23 = some Try.f23 := by kernel_rfl
def headB (n : NV) : List Nat := leN n.k 1 ++ leN n.f 1 ++ leN n.l 2 ++ leN n.s 2
def pad (m : Nat) (l : List Nat) : List Nat := l ++ List.replicate (m - l.length) 0
def bodyB (n : NV) (xs : List XV) : List Nat := if n.f = 2 then pad 18 (headB n ++ xs.flatMap encX) ++ leN n.c 2 else headB n ++ (ptrs n).flatMap fun p => leN p 2
def firstB (n : NV) (xs : List XV) : List Nat := pad 28 (bodyB n xs)
def encN (n : NV) (xs : List XV) : List Nat := firstB n xs ++ leN (spinU (spinN (firstB n xs))) 4
theorem leN_len (n k : Nat) : (leN n k).length = k := by simp [leN, leF]
theorem headB_len (n : NV) : (headB n).length = 6 := by simp [headB, leN_len]
theorem encX_len (x : XV) : (encX x).length = 4 := by simp [encX, leN_len]
theorem flat_len (xs : List XV) : (xs.flatMap encX).length = 4 * xs.length := by
  induction xs with
  | nil => rfl
  | cons x xs ih => rw [List.flatMap_cons, List.length_append, ih, encX_len, List.length_cons]; omega
theorem flatp_len (l : List Nat) : (l.flatMap fun p => leN p 2).length = 2 * l.length := by
  induction l with
  | nil => rfl
  | cons x xs ih => rw [List.flatMap_cons, List.length_append, ih, leN_len, List.length_cons]; omega
theorem leN_lt {n k x : Nat} (h : x ∈ leN n k) : x < 256 := by
  simp only [leN, leF, List.mem_map] at h
  obtain ⟨j, _, rfl⟩ := h
  exact Nat.mod_lt _ (by decide)
theorem pad_lt {m : Nat} {l : List Nat} (h : ∀ x ∈ l, x < 256) : ∀ x ∈ pad m l, x < 256 := by
  intro x hx
  unfold pad at hx
  rcases List.mem_append.1 hx with hx | hx
  · exact h x hx
  · rw [List.mem_replicate] at hx; omega
theorem headB_lt (n : NV) : ∀ x ∈ headB n, x < 256 := by
  intro x hx
  unfold headB at hx
  simp only [List.mem_append] at hx
  rcases hx with ((hx | hx) | hx) | hx <;> exact leN_lt hx
theorem encX_lt (x : XV) : ∀ y ∈ encX x, y < 256 := by
  intro y hy
  unfold encX at hy
  simp only [List.mem_append] at hy
  rcases hy with (hx | hx) | hx <;> exact leN_lt hx
theorem firstB_lt (n : NV) (xs : List XV) : ∀ x ∈ firstB n xs, x < 256 := by
  apply pad_lt
  intro x hx
  unfold bodyB at hx
  split at hx
  · rcases List.mem_append.1 hx with hx | hx
    · refine pad_lt ?_ x hx
      intro y hy
      rcases List.mem_append.1 hy with hy | hy
      · exact headB_lt n y hy
      · obtain ⟨z, _, hz⟩ := List.mem_flatMap.1 hy
        exact encX_lt z y hz
    · exact leN_lt hx
  · rcases List.mem_append.1 hx with hx | hx
    · exact headB_lt n x hx
    · obtain ⟨z, _, hz⟩ := List.mem_flatMap.1 hx
      exact leN_lt hz
theorem spinU_lt (bs : List Nat) : spinU (spinN bs) < 4294967296 := by
  have hl := spin_lt bs (1, 0) (by decide) (by decide)
  have hN : spinN bs = bs.foldl spinStep (1, 0) := rfl
  rw [hN]
  generalize bs.foldl spinStep (1, 0) = s at *
  unfold spinU
  omega
theorem wrapE {A B : PM Value → AH → Prop} {n : Nat} {a b : AH} (H : ∃ t c, A t c ∧ (B t c ∧ Grow n b c)) (g : Grow n a b) : ∃ t c, A t c ∧ (B t c ∧ Grow n a c) := by
  obtain ⟨t, c, h1, h2, h3⟩ := H
  exact ⟨t, c, h1, h2, g.trans h3 (Nat.le_refl _)⟩
theorem Own.blk {n : Nat} {h : AH} {v : Value} {l : List Value} {e : TypeId} (ho : Own n h v l e) (hl : l ≠ []) : ∃ b C, n ≤ b ∧ b < h.next ∧ h.get b = some C ∧ ∀ h', h'.get b = some C → Row (b + 1) h' v l e := by
  rcases ho with ⟨_, h0⟩ | ⟨b, c, kd, cap, h1, h2, h3, h4, h5, h6⟩
  · exact absurd h0 hl
  · exact ⟨b, _, h1, h2, h4, fun h' hg => .inr ⟨b, 0, cap, c, l.length, 0, 0, kd, e, h3, Nat.lt_succ_self _, hg, by omega, fun i x hi => by rw [Nat.zero_add]; exact h5 i x hi⟩⟩
noncomputable def bodyE1 : Code := part Try.f11 [1, 1, 1, 0, 1, 0, 0, 1, 0, 0]
noncomputable def bodyE2 : Code := part Try.f11 [1, 1, 1, 0, 1, 1, 1, 0, 0]
abbrev EEn : Env := ⟨11, 89, none⟩
theorem encL (hPE : ∀ (x : XV) (h : AH), okX x → ∃ v' h', call 20 [extV x] h = some (v', h') ∧ Own h.next h' v' (bytesV (encX x)) 5 ∧ Grow h.next h h')
    (v : Value) (xs : List XV) (n0 n1 b : Nat) (hn01 : n0 ≤ n1) (hx : ∀ x ∈ xs, okX x) (hL : xs.length ≤ 96) :
    ∀ (l : List XV) (i : Nat) (bs : List Nat) (w : Value) (h : AH) (tm : PM Value) (N : Nat), xs.drop i = l → i + l.length = xs.length → bs.length + 4 * l.length ≤ 400 → l.length + 40 ≤ N → n1 ≤ h.next → RowE n0 h v xs → Own n1 h w (bytesV bs) 5 →
      tm.get 1 = some (pv b 0) → tm.get 4 = some w → tm.get 37 = some v → tm.get 38 = some (iv xs.length) → tm.get 39 = some (iv i) →
      ∃ tm' h', codeB T0 X0 call N EEn (.loop bodyE1) tm h [] = .jump (.exit 0) tm' h' [] ∧ ((∃ w', tm'.get 4 = some w' ∧ tm'.get 1 = some (pv b 0) ∧ Own n1 h' w' (bytesV (bs ++ l.flatMap encX)) 5) ∧ Grow n1 h h') := by
  intro l
  induction l with
  | nil =>
    intro i bs w h tm N hd hi hbs hN hn hv ho g1 g4 g37 g38 g39
    obtain ⟨N, rfl⟩ : ∃ a, N = a + 40 := ⟨N - 40, by simp at hN; omega⟩
    apply Exists.intro; apply Exists.intro
    refine ⟨?_, ⟨w, ?_, ?_, by simpa using ho⟩, Grow.refl _ _⟩
    · rw [codeB_loop]
      simp only [bodyE1, part, Try.f11, sub, symM, opFn, Nat.reduceLT, g38, g39, bin_lss, decide_eq_false (show ¬ (i : Int) < (xs.length : Nat) by simp at hi; omega)]
      rfl
    · simp only [symM, Nat.reduceBEq, g4]
    · simp only [symM, Nat.reduceBEq, g1]
  | cons x l ih =>
    intro i bs w h tm N hd hi hbs hN hn hv ho g1 g4 g37 g38 g39
    obtain ⟨N, rfl⟩ : ∃ a, N = a + 40 := ⟨N - 40, by simp at hN; omega⟩
    have hx1 : xs[i]? = some x := by have := congrArg (fun l => l[0]?) hd; simpa using this
    have hil : i < xs.length := by simp at hi; omega
    have hlt := decide_eq_true (show (i : Int) < (xs.length : Nat) by omega)
    have hxo := hx x (List.mem_of_getElem? hx1)
    obtain ⟨b1, o1, p1, p2, _, _⟩ := hv.at hx1
    generalize hh1 : h.new (.cells (PM.ofList [iv 0, .complex .f64 0 0]) 2 36 0 0 .ex) = h1
    have q1 : Grow h.next h h1 := by rw [← hh1]; exact Grow.new _ _
    have hb1 : BoxL h1 h.next 36 [iv 0, .complex .f64 0 0] := by rw [← hh1]; exact BoxL.new _ _ _
    obtain ⟨h2, s1, s2, s3, s4⟩ := BoxE.store hb1 x (Nat.le_refl _)
    have q2 : Grow h.next h h2 := q1.trans s3 (Nat.le_refl _)
    obtain ⟨f1, f2, f3⟩ := BoxE.load s2
    obtain ⟨v3, h3, e1, e2, e3⟩ := hPE x h2 hxo
    have q3 : Grow h.next h h3 := q2.trans e3 q2.next
    obtain ⟨v4, h4, a1, a2, a3, _⟩ := app_own (ho.grow q3) e2 (by rw [encX_len]; simp at hbs; omega) (Nat.le_trans hn q3.next) 22
    have q4 : Grow n1 h h4 := (q3.less hn).trans a3 (Nat.le_refl _)
    rw [show N + 40 = (N + 39) + 1 from rfl, codeB_loop]
    simp only [bodyE1, part, Try.f11, sub, symM, opFn, Nat.reduceLT, Nat.reduceBEq, symM, g4, g37, g38, g39, bin_lss, hlt, p1, p2, alloc_E, hh1, s1, f1, evCall_fn ft20 rfl, e1, a1, bin_add, wadd1 (show i ≤ 400000 by omega)]
    rw [List.flatMap_cons, ← List.append_assoc]
    exact wrapE (ih (i + 1) (bs ++ encX x) v4 h4 _ (N + 39) (by rw [← List.drop_drop, hd]; rfl) (by simp at hi ⊢; omega) (by rw [List.length_append, encX_len]; simp at hbs; omega) (by simp at hN ⊢; omega) (Nat.le_trans hn q4.next) (hv.grow q4 hn01) a2
      (by simp only [symM, Nat.reduceBEq, g1]) (by simp only [symM, Nat.reduceBEq]) (by simp only [symM, Nat.reduceBEq, g37]) (by simp only [symM, Nat.reduceBEq, g38]) get_same) q4
theorem ptrL (L : List Nat) (pvv : Value) (bp : Nat) (C : AObj) (hr : ∀ h', h'.get bp = some C → Row (bp + 1) h' pvv (intsV L) 3) (n1 b : Nat) (hL : L.length ≤ 96) :
    ∀ (l : List Nat) (i : Nat) (bs : List Nat) (w : Value) (h : AH) (tm : PM Value) (N : Nat), L.drop i = l → i + l.length = L.length → bs.length + 2 * l.length ≤ 400 → l.length + 40 ≤ N → n1 ≤ h.next → bp < h.next → h.get bp = some C → Off w bp → Own n1 h w (bytesV bs) 5 →
      tm.get 1 = some (pv b 0) → tm.get 4 = some w → tm.get 64 = some pvv → tm.get 65 = some (iv L.length) → tm.get 66 = some (iv i) →
      ∃ tm' h', codeB T0 X0 call N EEn (.loop bodyE2) tm h [] = .jump (.exit 2) tm' h' [] ∧ ((∃ w', tm'.get 4 = some w' ∧ tm'.get 1 = some (pv b 0) ∧ Own n1 h' w' (bytesV (bs ++ l.flatMap fun p => leN p 2)) 5) ∧ Grow n1 h h') := by
  intro l
  induction l with
  | nil =>
    intro i bs w h tm N hd hi hbs hN hn hbp hC hoff ho g1 g4 g64 g65 g66
    obtain ⟨N, rfl⟩ : ∃ a, N = a + 40 := ⟨N - 40, by simp at hN; omega⟩
    apply Exists.intro; apply Exists.intro
    refine ⟨?_, ⟨w, ?_, ?_, by simpa using ho⟩, Grow.refl _ _⟩
    · rw [codeB_loop]
      simp only [bodyE2, part, Try.f11, sub, symM, opFn, Nat.reduceLT, g65, g66, bin_lss, decide_eq_false (show ¬ (i : Int) < (L.length : Nat) by simp at hi; omega)]
      rfl
    · simp only [symM, Nat.reduceBEq, g4]
    · simp only [symM, Nat.reduceBEq, g1]
  | cons x l ih =>
    intro i bs w h tm N hd hi hbs hN hn hbp hC hoff ho g1 g4 g64 g65 g66
    obtain ⟨N, rfl⟩ : ∃ a, N = a + 40 := ⟨N - 40, by simp at hN; omega⟩
    have hx1 : L[i]? = some x := by have := congrArg (fun l => l[0]?) hd; simpa using this
    have hil : i < L.length := by simp at hi; omega
    have hlt := decide_eq_true (show (i : Int) < (L.length : Nat) by omega)
    obtain ⟨p, p1, p2⟩ := (hr h hC).at und_ints sz_int agg_int (i := i) (x := iv x) (by simp [intsV, hx1])
    generalize hh1 : h.new (.cells (PM.ofList [bv (x % 256), bv (x / 256 % 256)]) 2 5 0 0 .ex) = h1
    have q1 : Grow h.next h h1 := by rw [← hh1]; exact Grow.new _ _
    have hn1 : h.next < h1.next := by rw [← hh1]; exact Nat.lt_succ_self _
    have hbt : Own h.next h1 (.slice (some ⟨h.next, 0, none⟩) 2 2) (bytesV (leN x 2)) 5 := by
      rw [leN2, ← hh1]; exact Own.built (n := h.next) (h := h) (e := 5) [bv (x % 256), bv (x / 256 % 256)] (Nat.le_refl _)
    obtain ⟨v4, h4, a1, a2, a3, a4, a5⟩ := app_own (ho.grow q1) hbt (by rw [leN_len]; simp at hbs; omega) (Nat.le_trans hn q1.next) 22
    have q4 : Grow n1 h h4 := (q1.less hn).trans a3 (Nat.le_refl _)
    have hC4 : h4.get bp = some C := (a4 bp (Nat.lt_of_lt_of_le hbp q1.next) hoff).trans ((q1.keep bp hbp).trans hC)
    have hbs2 : evBuildSlice T0 22 2 [(0, bv (x % 256)), (1, bv (x / 256 % 256))] h = some (.slice (some ⟨h.next, 0, none⟩) 2 2, h1) := by rw [← hh1]; exact bs_u82
    rw [show N + 40 = (N + 39) + 1 from rfl, codeB_loop]
    simp only [bodyE2, part, Try.f11, sub, symM, opFn, Nat.reduceLT, Nat.reduceBEq, symM, g4, g64, g65, g66, bin_lss, hlt, p1, p2, conv_i2i und_int und_u8, wu8m, s_shr8, bsx_gen, goBSX_some, hbs2, a1, bin_add, wadd1 (show i ≤ 400000 by omega)]
    rw [List.flatMap_cons, ← List.append_assoc]
    exact wrapE (ih (i + 1) (bs ++ leN x 2) v4 h4 _ (N + 39) (by rw [← List.drop_drop, hd]; rfl) (by simp at hi ⊢; omega) (by rw [List.length_append, leN_len]; simp at hbs; omega) (by simp at hN ⊢; omega) (Nat.le_trans hn q4.next) (Nat.lt_of_lt_of_le hbp q4.next) hC4 ((a5 (by rw [leN_len]; omega)).off (Nat.lt_of_lt_of_le hbp q1.next)) a2
      (by simp only [symM, Nat.reduceBEq, g1]) (by simp only [symM, Nat.reduceBEq]) (by simp only [symM, Nat.reduceBEq, g64]) (by simp only [symM, Nat.reduceBEq, g65]) get_same) q4
/-- What ends a node: zeros, and the check sum. -/
theorem encTail (hSum : ∀ (bs : List Nat) (v : Value) (h : AH), (∀ x ∈ bs, x < 256) → bs.length ≤ 1000 → Row h.next h v (bytesV bs) 5 → call 23 [v] h = some (wv (spinU (spinN bs)), h))
    (hP32 : ∀ (n : Nat) (h : AH), n < 4294967296 → ∃ v' h', call 22 [wv n] h = some (v', h') ∧ Own h.next h' v' (bytesV (leN n 4)) 5 ∧ Grow h.next h h')
    (B : List Nat) (hB : ∀ x ∈ pad 28 B, x < 256) (hl : B.length ≤ 28) (w : Value) (n1 : Nat) (h : AH) (hn : n1 ≤ h.next) (ho : Own n1 h w (bytesV B) 5) :
    ∃ v8 h8 v9 h9 v10 h10, (∀ ty h', evBuiltin T0 .len #[22] ty [w] h' = some (.value (iv B.length), h')) ∧ IntKind.i64.wrap (28 - (B.length : Int)) = ((28 - B.length : Nat) : Int) ∧
      evBuiltin T0 .append #[22, 3] 22 [w, iv ((28 - B.length : Nat) : Int)] h = some (.value v8, h8) ∧ call 23 [v8] h8 = some (wv (spinU (spinN (pad 28 B))), h8) ∧ call 22 [wv (spinU (spinN (pad 28 B)))] h8 = some (v9, h9) ∧
      evBuiltin T0 .append #[22, 22] 22 [v8, v9] h9 = some (.value v10, h10) ∧ Own n1 h10 v10 (bytesV (pad 28 B ++ leN (spinU (spinN (pad 28 B))) 4)) 5 ∧ Grow n1 h h10 := by
  have hp28 : (pad 28 B).length = 28 := by unfold pad; simp; omega
  obtain ⟨v8, h8, a1, a2, a3, _⟩ := app_zeros ho (28 - B.length) (by omega) hn 22
  have a2 : Own n1 h8 v8 (bytesV (pad 28 B)) 5 := a2
  obtain ⟨v9, h9, b1, b2, b3⟩ := hP32 (spinU (spinN (pad 28 B))) h8 (spinU_lt _)
  have n8 := Nat.le_trans hn a3.next
  obtain ⟨v10, h10, d1, d2, d3, _⟩ := app_own (a2.grow b3) b2 (by rw [hp28, leN_len]; omega) (Nat.le_trans n8 b3.next) 22
  exact ⟨v8, h8, v9, h9, v10, h10, fun ty h' => by rw [ho.row.len und_bytes, bytesV_len], by rw [wz (by omega)]; omega, a1, hSum _ _ _ hB (by omega) a2.row, b1, d1, d2, (a3.trans (b3.less n8) (Nat.le_refl _)).trans d3 (Nat.le_refl _)⟩
theorem Enc_S (hPE : ∀ (x : XV) (h : AH), okX x → ∃ v' h', call 20 [extV x] h = some (v', h') ∧ Own h.next h' v' (bytesV (encX x)) 5 ∧ Grow h.next h h')
    (hpt : ∀ (n : NV) (e : Value) (h : AH), ∃ v' h', call 21 [nodeV n e] h = some (v', h') ∧ Own h.next h' v' (intsV (ptrs n)) 3 ∧ Grow h.next h h')
    (hSd : ∀ (n : NV) (v : Value) (xs : List XV) (n0 : Nat) (h : AH), RowE n0 h v xs → (∀ x ∈ xs, okX x) → xs.length ≤ 96 → n0 ≤ h.next → ∃ h', call 19 [nodeV n v] h = some (.bool (soundN n xs), h') ∧ Grow h.next h h')
    (hSum : ∀ (bs : List Nat) (v : Value) (h : AH), (∀ x ∈ bs, x < 256) → bs.length ≤ 1000 → Row h.next h v (bytesV bs) 5 → call 23 [v] h = some (wv (spinU (spinN bs)), h))
    (hP32 : ∀ (n : Nat) (h : AH), n < 4294967296 → ∃ v' h', call 22 [wv n] h = some (v', h') ∧ Own h.next h' v' (bytesV (leN n 4)) 5 ∧ Grow h.next h h')
    (n : NV) (v : Value) (xs : List XV) (n0 : Nat) (h : AH) (hv : RowE n0 h v xs) (hx : ∀ x ∈ xs, okX x) (hL : xs.length ≤ 96) (hn : n0 ≤ h.next) :
    ∃ r h', frameB T0 X0 call 3000 11 [nodeV n v] h = some (r, h') ∧ Grow h.next h h' ∧ ((soundN n xs = false ∧ r = .tuple #[nilV, iv 2]) ∨ (soundN n xs = true ∧ ∃ v', r = .tuple #[v', iv 0] ∧ Own h.next h' v' (bytesV (encN n xs)) 5)) := by
  generalize hh1 : h.new (.cells (PM.ofList (nodeL n v)) (nodeL n v).length 26 0 0 .ex) = h1
  have g1 : Grow h.next h h1 := by rw [← hh1]; exact Grow.new _ _
  have hb1 : NodeB h1 h.next n v := by rw [← hh1]; exact NodeB.new _ _ _
  have l1 : h.next < h1.next := by rw [← hh1]; exact Nat.lt_succ_self _
  have hbn : ∀ h, rp (some (evNewVar h 26 (nodeV n v))) = some (.value (pv h.next 0), h.new (.cells (PM.ofList (nodeL n v)) (nodeL n v).length 26 0 0 .ex)) := fun h => box_agg
  have hv1 := hv.grow g1 hn
  have hn1 := Nat.le_trans hn g1.next
  obtain ⟨h2, c1, c2⟩ := hSd n v xs n0 h1 hv1 hx hL hn1
  have g2 := g1.trans c2 g1.next
  have q1 := hb1.loads
  have hb2 := hb1.grow c2 l1
  have q2 := hb2.loads
  have l2 : h.next < h2.next := Nat.lt_of_lt_of_le l1 c2.next
  rw [frameB_eq ft11 rfl rfl]
  cases hs : soundN n xs with
  | false =>
    rw [hs] at c1
    refine ⟨_, h2, ?_, g2, .inl ⟨rfl, rfl⟩⟩
    simp only [Try.f11, symM, opFn, Nat.reduceLT, Nat.reduceBEq, symM, hbn, hh1, q1, evCall_fn ft19 rfl, c1]
    exact retB_two ft11 rfl (by simp only [symM, Nat.reduceBEq]) get_same
  | true =>
    rw [hs] at c1
    generalize hh3 : h2.new (.cells (PM.ofList [bv (n.k % 256), bv (n.f % 256), bv (n.l % 256), bv (n.l / 256 % 256), bv (n.s % 256), bv (n.s / 256 % 256)]) 6 5 0 0 .ex) = h3
    have c3 : Grow h2.next h2 h3 := by rw [← hh3]; exact Grow.new _ _
    have l3 : h2.next < h3.next := by rw [← hh3]; exact Nat.lt_succ_self _
    have hbs : evBuildSlice T0 22 6 [(0, bv (n.k % 256)), (1, bv (n.f % 256)), (2, bv (n.l % 256)), (3, bv (n.l / 256 % 256)), (4, bv (n.s % 256)), (5, bv (n.s / 256 % 256))] h2 = some (.slice (some ⟨h2.next, 0, none⟩) 6 6, h3) := by rw [← hh3]; exact bs_u86
    have o3 : Own h2.next h3 (.slice (some ⟨h2.next, 0, none⟩) 6 6) (bytesV (headB n)) 5 := by
      rw [show bytesV (headB n) = [bv (n.k % 256), bv (n.f % 256), bv (n.l % 256), bv (n.l / 256 % 256), bv (n.s % 256), bv (n.s / 256 % 256)] from by unfold headB; rw [leN1, leN1, leN2, leN2]; rfl, ← hh3]
      exact Own.built (n := h2.next) (h := h2) (e := 5) [bv (n.k % 256), bv (n.f % 256), bv (n.l % 256), bv (n.l / 256 % 256), bv (n.s % 256), bv (n.s / 256 % 256)] (Nat.le_refl _)
    have hb3 := hb2.grow c3 l2
    have q3 := hb3.loads
    have g3 := g2.trans c3 g2.next
    have hv3 := hv.grow g3 hn
    by_cases f2 : n.f = 2
    · have hx3 : xs.length ≤ 3 := by
        unfold soundN at hs
        by_cases k0 : n.k = 0
        · rw [if_pos k0] at hs
          have : sameN n NV.zero = true := by cases hq : sameN n NV.zero with | true => rfl | false => rw [hq] at hs; cases hs
          unfold sameN NV.zero at this
          simp at this
          omega
        · rw [if_neg k0, if_neg (show ¬ n.f = 1 by omega), if_pos f2] at hs
          simp only [Bool.and_eq_true, decide_eq_true_eq] at hs
          exact hs.2.2.2.1
      simp only [Try.f11, symM, opFn, Nat.reduceLT, Nat.reduceBEq, symM, symL, hbn, hh1, field_N, q1, q2, q3, evCall_fn ft19 rfl, c1, conv_i2i und_int und_u8, wu8m, s_shr8, bsx_gen, goBSX_some, hbs, bin_eql, eqT (show (n.f : Int) = 2 by omega), hv3.len]
      generalize hX : codeB T0 X0 call _ EEn (.loop _) _ _ _ = X
      have lf := flat_len xs
      have lh := headB_len n
      obtain ⟨t1, h4, e1, ⟨w4, u1, u2, u3⟩, g4⟩ := use_exit hX (encL hPE v xs n0 h2.next h.next (Nat.le_trans hn g2.next) hx hL xs 0 (headB n) _ h3 _ _ rfl (by simp) (by omega) (by omega) c3.next hv3 o3 (by simp only [symM, Nat.reduceBEq]) (by simp only [symM, Nat.reduceBEq]) (by simp only [symM, Nat.reduceBEq]) (by simp only [symM, Nat.reduceBEq]) (by simp only [symM]; rfl))
      clear hX
      subst e1
      have n4 : h2.next ≤ h4.next := Nat.le_trans c3.next g4.next
      obtain ⟨v5, h5, a1, a2, a3, _⟩ := app_zeros u3 (18 - (headB n ++ xs.flatMap encX).length) (by rw [List.length_append]; omega) n4 22
      have a2 : Own h2.next h5 v5 (bytesV (pad 18 (headB n ++ xs.flatMap encX))) 5 := a2
      have n5 := Nat.le_trans n4 a3.next
      have q5 := ((hb3.grow g4 l2).grow a3 l2).loads
      generalize hh6 : h5.new (.cells (PM.ofList [bv (n.c % 256), bv (n.c / 256 % 256)]) 2 5 0 0 .ex) = h6
      have c6 : Grow h5.next h5 h6 := by rw [← hh6]; exact Grow.new _ _
      have hb6 : evBuildSlice T0 22 2 [(0, bv (n.c % 256)), (1, bv (n.c / 256 % 256))] h5 = some (.slice (some ⟨h5.next, 0, none⟩) 2 2, h6) := by rw [← hh6]; exact bs_u82
      have hbt : Own h5.next h6 (.slice (some ⟨h5.next, 0, none⟩) 2 2) (bytesV (leN n.c 2)) 5 := by
        rw [leN2, ← hh6]; exact Own.built (n := h5.next) (h := h5) (e := 5) [bv (n.c % 256), bv (n.c / 256 % 256)] (Nat.le_refl _)
      have lp : (pad 18 (headB n ++ xs.flatMap encX)).length = 18 := by unfold pad; rw [List.length_append, List.length_replicate, List.length_append]; omega
      obtain ⟨v7, h7, d1, d2, d3, _⟩ := app_own (a2.grow c6) hbt (by rw [lp, leN_len]; omega) (Nat.le_trans n5 c6.next) 22
      have n7 := Nat.le_trans n5 (Nat.le_trans c6.next d3.next)
      have hB : pad 18 (headB n ++ xs.flatMap encX) ++ leN n.c 2 = bodyB n xs := by unfold bodyB; rw [if_pos f2]
      rw [hB] at d2
      obtain ⟨v8, h8, v9, h9, v10, h10, s1, s2, s3, s4, s5, s6, s7, s8⟩ := encTail hSum hP32 (bodyB n xs) (firstB_lt n xs) (by rw [← hB, List.length_append, lp, leN_len]; omega) v7 h2.next h7 n7 d2
      have gAll : Grow h.next h h10 := g3.trans ((((g4.trans a3 (Nat.le_refl _)).trans (c6.less n5) (Nat.le_refl _)).trans d3 (Nat.le_refl _)).trans s8 (Nat.le_refl _) |>.less g2.next) (Nat.le_refl _)
      refine ⟨_, h10, ?_, gAll, .inr ⟨by trivial, v10, rfl, s7.less g2.next⟩⟩
      have hw18 : IntKind.i64.wrap (18 - ((headB n ++ xs.flatMap encX).length : Int)) = ((18 - (headB n ++ xs.flatMap encX).length : Nat) : Int) := by have lA : (headB n ++ xs.flatMap encX).length = 6 + 4 * xs.length := by { rw [List.length_append, lh, lf] }; rw [wz (by omega)]; omega
      have hl4 : ∀ ty h', evBuiltin T0 .len #[22] ty [w4] h' = some (.value (iv (headB n ++ xs.flatMap encX).length), h') := fun ty h' => by rw [u3.row.len und_bytes, bytesV_len]
      simp only [symM, opFn, Nat.reduceLT, Nat.reduceBEq, symM, symL, u1, u2, hl4, bin_sub, hw18, a1, field_N, q5, conv_i2i und_int und_u8, wu8m, s_shr8, bsx_gen, goBSX_some, hb6, d1, s1, s2, s3, evCall_fn ft23' rfl, s4, evCall_fn ft22 rfl, s5, s6]
      exact retB_two ft11 rfl (by simp only [symM, Nat.reduceBEq]) get_same
    · obtain ⟨w4, h4, p1, p2, p3⟩ := hpt n v h3
      simp only [Try.f11, symM, opFn, Nat.reduceLT, Nat.reduceBEq, symM, symL, hbn, hh1, field_N, q1, q2, q3, evCall_fn ft19 rfl, c1, conv_i2i und_int und_u8, wu8m, s_shr8, bsx_gen, goBSX_some, hbs, bin_eql, eqF (show ¬ (n.f : Int) = 2 by omega), evCall_fn ft21 rfl, p1, p2.row.len und_ints]
      generalize hX : codeB T0 X0 call _ EEn (.loop _) _ _ _ = X
      obtain ⟨bp, C, b1, b2, b3, b4⟩ := p2.blk (by simp [intsV, ptrs])
      have o4 := o3.grow p3
      have lf := flatp_len (ptrs n)
      have lh := headB_len n
      have lp : (ptrs n).length = 6 := rfl
      have n4 : h2.next ≤ h4.next := Nat.le_trans c3.next p3.next
      obtain ⟨t1, h5, e1, ⟨w5, u1, u2, u3⟩, g5⟩ := use_exit hX (ptrL (ptrs n) w4 bp C b4 h2.next h.next (by omega) (ptrs n) 0 (headB n) _ h4 _ _ rfl (by simp) (by omega) (by omega) n4 b2 b3 (o3.apart b1) o4 (by simp only [symM, Nat.reduceBEq]) (by simp only [symM, Nat.reduceBEq]) (by simp only [symM, Nat.reduceBEq]) (by simp only [symM, Nat.reduceBEq]; rfl) (by simp only [symM]; rfl))
      clear hX
      subst e1
      have n5 := Nat.le_trans n4 g5.next
      have hB : headB n ++ ((ptrs n).flatMap fun p => leN p 2) = bodyB n xs := by unfold bodyB; rw [if_neg f2]
      rw [hB] at u3
      obtain ⟨v8, h8, v9, h9, v10, h10, s1, s2, s3, s4, s5, s6, s7, s8⟩ := encTail hSum hP32 (bodyB n xs) (firstB_lt n xs) (by rw [← hB, List.length_append]; omega) w5 h2.next h5 n5 u3
      have gAll : Grow h.next h h10 := g3.trans ((((p3.less c3.next).trans g5 (Nat.le_refl _)).trans s8 (Nat.le_refl _)).less g2.next) (Nat.le_refl _)
      refine ⟨_, h10, ?_, gAll, .inr ⟨by trivial, v10, rfl, s7.less g2.next⟩⟩
      simp only [symM, opFn, Nat.reduceLT, Nat.reduceBEq, symM, symL, u1, bin_sub, s1, s2, s3, evCall_fn ft23' rfl, s4, evCall_fn ft22 rfl, s5, s6]
      exact retB_two ft11 rfl (by simp only [symM, Nat.reduceBEq]) get_same
end
end Go.Proofs.Ythpfgiabdpeiaaa.Abs
namespace Go.Proofs.Ythpfgiabdpeiaaa.Abs
open Go Go.Proofs
noncomputable section
variable {call : Abs.Callee}
set_option maxRecDepth 10000
theorem ft15 : T0.ft.get 15 = some Try.f15 := by kernel_rfl
theorem ft28' : T0.ft.get 28 = some Try.f28 := by kernel_rfl
/-- A node whose numbers are not too great. -/
def okN (n : NV) : Prop := n.k < 65536 ∧ n.f < 65536 ∧ n.l < 65536 ∧ n.s < 65536 ∧ n.c < 65536 ∧ ∀ p ∈ ptrs n, p < 65536
theorem bs_u80 {h : AH} : evBuildSlice T0 22 1 [(0, .int .u8 0)] h = some (.slice (some ⟨h.next, 0, none⟩) 1 1, h.new (.cells (PM.ofList [.int .u8 0]) 1 5 0 0 .ex)) := bs_one und_bytes sz_u8 zero_u8 rfl rfl
noncomputable def bodyR1 : Code := part Try.f15 [1, 1, 1, 1, 1, 1, 0, 1, 0, 0, 1, 0, 0]
noncomputable def bodyR2 : Code := part Try.f15 [1, 1, 1, 1, 1, 1, 0, 1, 0, 1, 0, 0, 0]
noncomputable def bodyR3 : Code := part Try.f15 [1, 1, 1, 1, 1, 1, 0, 1, 1, 1, 1, 0, 0]
noncomputable def bodyR4 : Code := part Try.f15 [1, 1, 1, 1, 1, 1, 1, 0, 0, 0]
abbrev EEr : Env := ⟨15, 76, none⟩
theorem rencL (hPE : ∀ (x : XV) (n0 : Nat) (bs : List Nat) (v : Value) (h : AH), okX x → bs.length < 300 → n0 ≤ h.next → Own n0 h v (bytesV bs) 5 → ∃ v' h', call 26 [v, extV x] h = some (v', h') ∧ Own n0 h' v' (bytesV (bs ++ encX x)) 5 ∧ Grow n0 h h')
    (n : NV) (v : Value) (xs : List XV) (n0 n1 b : Nat) (hn01 : n0 ≤ n1) (hb1 : b < n1) (hx : ∀ x ∈ xs, okX x) (hL : xs.length ≤ 60) :
    ∀ (l : List XV) (i : Nat) (bs : List Nat) (w : Value) (h : AH) (tm : PM Value) (N : Nat), xs.drop i = l → i + l.length = xs.length → bs.length + 4 * l.length ≤ 290 → l.length + 40 ≤ N → n1 ≤ h.next → RowE n0 h v xs → NodeB h b n v → Own n1 h w (bytesV bs) 5 →
      tm.get 1 = some (pv b 0) → tm.get 4 = some w → tm.get 5 = some (iv i) →
      ∃ tm' h', codeB T0 X0 call N EEr (.loop bodyR1) tm h [] = .jump (.exit 0) tm' h' [] ∧ ((∃ w', tm'.get 4 = some w' ∧ tm'.get 1 = some (pv b 0) ∧ Own n1 h' w' (bytesV (bs ++ l.flatMap encX)) 5) ∧ Grow n1 h h') := by
  intro l
  induction l with
  | nil =>
    intro i bs w h tm N hd hi hbs hN hn hv hnb ho g1 g4 g5
    obtain ⟨N, rfl⟩ : ∃ a, N = a + 40 := ⟨N - 40, by simp at hN; omega⟩
    have q := hnb.loads
    apply Exists.intro; apply Exists.intro
    refine ⟨?_, ⟨w, ?_, ?_, by simpa using ho⟩, Grow.refl _ _⟩
    · rw [codeB_loop]
      simp only [bodyR1, part, Try.f15, sub, symM, opFn, Nat.reduceLT, Nat.reduceBEq, g1, g5, field_N, q, hv.len, bin_lss, decide_eq_false (show ¬ (i : Int) < (xs.length : Nat) by simp at hi; omega)]
      rfl
    · simp only [symM, Nat.reduceBEq, g4]
    · simp only [symM, Nat.reduceBEq, g1]
  | cons x l ih =>
    intro i bs w h tm N hd hi hbs hN hn hv hnb ho g1 g4 g5
    obtain ⟨N, rfl⟩ : ∃ a, N = a + 40 := ⟨N - 40, by simp at hN; omega⟩
    have hx1 : xs[i]? = some x := by have := congrArg (fun l => l[0]?) hd; simpa using this
    have hil : i < xs.length := by simp at hi; omega
    have hlt := decide_eq_true (show (i : Int) < (xs.length : Nat) by omega)
    have hxo := hx x (List.mem_of_getElem? hx1)
    have q := hnb.loads
    obtain ⟨b1, o1, p1, p2, _, _⟩ := hv.at hx1
    obtain ⟨v3, h3, e1, e2, e3⟩ := hPE x n1 bs w h hxo (by simp at hbs; omega) hn ho
    rw [show N + 40 = (N + 39) + 1 from rfl, codeB_loop]
    simp only [bodyR1, part, Try.f15, sub, symM, opFn, Nat.reduceLT, Nat.reduceBEq, symM, g1, g4, g5, field_N, q, hv.len, bin_lss, hlt, p1, p2, evCall_fn ft26 rfl, e1, bin_add, wadd1 (show i ≤ 400000 by omega)]
    rw [List.flatMap_cons, ← List.append_assoc]
    exact wrapE (ih (i + 1) (bs ++ encX x) v3 h3 _ (N + 39) (by rw [← List.drop_drop, hd]; rfl) (by simp at hi ⊢; omega) (by rw [List.length_append, encX_len]; simp at hbs; omega) (by simp at hN ⊢; omega) (Nat.le_trans hn e3.next) (hv.grow e3 hn01) (hnb.grow e3 hb1) e2
      (by simp only [symM, Nat.reduceBEq, g1]) (by simp only [symM, Nat.reduceBEq]) get_same) e3
theorem padR2 (n1 b : Nat) : ∀ (k : Nat) (bs : List Nat) (w : Value) (h : AH) (tm : PM Value) (N : Nat), bs.length + k = 18 → k + 40 ≤ N → n1 ≤ h.next → Own n1 h w (bytesV bs) 5 → tm.get 1 = some (pv b 0) → tm.get 4 = some w →
    ∃ tm' h', codeB T0 X0 call N EEr (.loop bodyR2) tm h [] = .jump (.exit 2) tm' h' [] ∧ ((∃ w', tm'.get 4 = some w' ∧ tm'.get 1 = some (pv b 0) ∧ Own n1 h' w' (bytesV (bs ++ List.replicate k 0)) 5) ∧ Grow n1 h h') := by
  intro k
  induction k with
  | zero =>
    intro bs w h tm N hk hN hn ho g1 g4
    obtain ⟨N, rfl⟩ : ∃ a, N = a + 40 := ⟨N - 40, by omega⟩
    have hl : ∀ ty h', evBuiltin T0 .len #[22] ty [w] h' = some (.value (iv bs.length), h') := fun ty h' => by rw [ho.row.len und_bytes, bytesV_len]
    apply Exists.intro; apply Exists.intro
    refine ⟨?_, ⟨w, ?_, ?_, by simpa using ho⟩, Grow.refl _ _⟩
    · rw [codeB_loop]
      simp only [bodyR2, part, Try.f15, sub, symM, opFn, Nat.reduceLT, g4, hl, bin_lss, decide_eq_false (show ¬ (bs.length : Int) < 18 by omega)]
      rfl
    · simp only [symM, Nat.reduceBEq, g4]
    · simp only [symM, Nat.reduceBEq, g1]
  | succ k ih =>
    intro bs w h tm N hk hN hn ho g1 g4
    obtain ⟨N, rfl⟩ : ∃ a, N = a + 40 := ⟨N - 40, by omega⟩
    have hl : ∀ ty h', evBuiltin T0 .len #[22] ty [w] h' = some (.value (iv bs.length), h') := fun ty h' => by rw [ho.row.len und_bytes, bytesV_len]
    obtain ⟨v1, h1, e1, e2', e3, e4⟩ := app_u8 ho 0 (by omega) hn 22
    have e1 : evBuiltin T0 .append #[22, 22] 22 [w, .slice (some ⟨h.next, 0, none⟩) 1 1] (h.new (.cells (PM.ofList [.int .u8 0]) 1 5 0 0 .ex)) = some (.value v1, h1) := e1
    rw [show N + 40 = (N + 39) + 1 from rfl, codeB_loop]
    simp only [bodyR2, part, Try.f15, sub, symM, opFn, Nat.reduceLT, Nat.reduceBEq, symM, g4, hl, bin_lss, decide_eq_true (show (bs.length : Int) < 18 by omega), bs_u80, e1]
    rw [List.replicate_succ, show bs ++ 0 :: List.replicate k 0 = (bs ++ [0]) ++ List.replicate k 0 by simp]
    exact wrapE (ih (bs ++ [0]) v1 h1 _ (N + 39) (by simp; omega) (by omega) (Nat.le_trans hn e3.next) (e2'.less hn) (by simp only [symM, Nat.reduceBEq, g1]) get_same) e3
theorem padR4 (n1 b : Nat) : ∀ (k : Nat) (bs : List Nat) (w : Value) (h : AH) (tm : PM Value) (N : Nat), bs.length + k = 28 → k + 40 ≤ N → n1 ≤ h.next → Own n1 h w (bytesV bs) 5 → tm.get 1 = some (pv b 0) → tm.get 4 = some w →
    ∃ tm' h', codeB T0 X0 call N EEr (.loop bodyR4) tm h [] = .jump (.exit 6) tm' h' [] ∧ ((∃ w', tm'.get 4 = some w' ∧ tm'.get 1 = some (pv b 0) ∧ Own n1 h' w' (bytesV (bs ++ List.replicate k 0)) 5) ∧ Grow n1 h h') := by
  intro k
  induction k with
  | zero =>
    intro bs w h tm N hk hN hn ho g1 g4
    obtain ⟨N, rfl⟩ : ∃ a, N = a + 40 := ⟨N - 40, by omega⟩
    have hl : ∀ ty h', evBuiltin T0 .len #[22] ty [w] h' = some (.value (iv bs.length), h') := fun ty h' => by rw [ho.row.len und_bytes, bytesV_len]
    apply Exists.intro; apply Exists.intro
    refine ⟨?_, ⟨w, ?_, ?_, by simpa using ho⟩, Grow.refl _ _⟩
    · rw [codeB_loop]
      simp only [bodyR4, part, Try.f15, sub, symM, opFn, Nat.reduceLT, g4, hl, bin_lss, decide_eq_false (show ¬ (bs.length : Int) < 28 by omega)]
      rfl
    · simp only [symM, Nat.reduceBEq, g4]
    · simp only [symM, Nat.reduceBEq, g1]
  | succ k ih =>
    intro bs w h tm N hk hN hn ho g1 g4
    obtain ⟨N, rfl⟩ : ∃ a, N = a + 40 := ⟨N - 40, by omega⟩
    have hl : ∀ ty h', evBuiltin T0 .len #[22] ty [w] h' = some (.value (iv bs.length), h') := fun ty h' => by rw [ho.row.len und_bytes, bytesV_len]
    obtain ⟨v1, h1, e1, e2', e3, e4⟩ := app_u8 ho 0 (by omega) hn 22
    have e1 : evBuiltin T0 .append #[22, 22] 22 [w, .slice (some ⟨h.next, 0, none⟩) 1 1] (h.new (.cells (PM.ofList [.int .u8 0]) 1 5 0 0 .ex)) = some (.value v1, h1) := e1
    rw [show N + 40 = (N + 39) + 1 from rfl, codeB_loop]
    simp only [bodyR4, part, Try.f15, sub, symM, opFn, Nat.reduceLT, Nat.reduceBEq, symM, g4, hl, bin_lss, decide_eq_true (show (bs.length : Int) < 28 by omega), bs_u80, e1]
    rw [List.replicate_succ, show bs ++ 0 :: List.replicate k 0 = (bs ++ [0]) ++ List.replicate k 0 by simp]
    exact wrapE (ih (bs ++ [0]) v1 h1 _ (N + 39) (by simp; omega) (by omega) (Nat.le_trans hn e3.next) (e2'.less hn) (by simp only [symM, Nat.reduceBEq, g1]) get_same) e3

theorem rptrL (hP : ∀ (n size n0 : Nat) (bs : List Nat) (v : Value) (h : AH), n < 4294967296 → size ≤ 4 → bs.length < 400 → n0 ≤ h.next → Own n0 h v (bytesV bs) 5 → ∃ v' h', call 25 [v, iv n, iv size] h = some (v', h') ∧ Own n0 h' v' (bytesV (bs ++ leN n size)) 5 ∧ Grow n0 h h' ∧ (∀ k, k < h.next → Off v k → h'.get k = h.get k) ∧ (0 < size → Own h.next h' v' (bytesV (bs ++ leN n size)) 5)) (L : List Nat) (hLs : ∀ p ∈ L, p < 65536) (pvv : Value) (bp : Nat) (C : AObj) (hr : ∀ h', h'.get bp = some C → Row (bp + 1) h' pvv (intsV L) 3) (n1 b : Nat) (hL : L.length = 6) :
    ∀ (l : List Nat) (i : Nat) (bs : List Nat) (w : Value) (h : AH) (tm : PM Value) (N : Nat), L.drop i = l → i + l.length = L.length → bs.length + 2 * l.length ≤ 300 → l.length + 40 ≤ N → n1 ≤ h.next → bp < h.next → h.get bp = some C → Off w bp → Own n1 h w (bytesV bs) 5 →
      tm.get 1 = some (pv b 0) → tm.get 4 = some w → tm.get 6 = some pvv → tm.get 7 = some (iv i) →
      ∃ tm' h', codeB T0 X0 call N EEr (.loop bodyR3) tm h [] = .jump (.exit 4) tm' h' [] ∧ ((∃ w', tm'.get 4 = some w' ∧ tm'.get 1 = some (pv b 0) ∧ Own n1 h' w' (bytesV (bs ++ l.flatMap fun p => leN p 2)) 5) ∧ Grow n1 h h') := by
  intro l
  induction l with
  | nil =>
    intro i bs w h tm N hd hi hbs hN hn hbp hC hoff ho g1 g4 g6 g7
    obtain ⟨N, rfl⟩ : ∃ a, N = a + 40 := ⟨N - 40, by simp at hN; omega⟩
    apply Exists.intro; apply Exists.intro
    refine ⟨?_, ⟨w, ?_, ?_, by simpa using ho⟩, Grow.refl _ _⟩
    · rw [codeB_loop]
      simp only [bodyR3, part, Try.f15, sub, symM, opFn, Nat.reduceLT, g7, bin_lss, decide_eq_false (show ¬ (i : Int) < 6 by simp at hi; omega)]
      rfl
    · simp only [symM, Nat.reduceBEq, g4]
    · simp only [symM, Nat.reduceBEq, g1]
  | cons x l ih =>
    intro i bs w h tm N hd hi hbs hN hn hbp hC hoff ho g1 g4 g6 g7
    obtain ⟨N, rfl⟩ : ∃ a, N = a + 40 := ⟨N - 40, by simp at hN; omega⟩
    have hx1 : L[i]? = some x := by have := congrArg (fun l => l[0]?) hd; simpa using this
    have hlt := decide_eq_true (show (i : Int) < 6 by simp at hi; omega)
    obtain ⟨p, p1, p2⟩ := (hr h hC).at und_ints sz_int agg_int (i := i) (x := iv x) (by simp [intsV, hx1])
    have hxb := hLs x (List.mem_of_getElem? hx1)
    obtain ⟨v4, h4, a1, a2, a3, a4, a5⟩ := hP x 2 n1 bs w h (by omega) (by omega) (by simp at hbs; omega) hn ho
    have a1 : call 25 [w, iv x, iv 2] h = _ := a1
    have hC4 : h4.get bp = some C := (a4 bp hbp hoff).trans hC
    rw [show N + 40 = (N + 39) + 1 from rfl, codeB_loop]
    simp only [bodyR3, part, Try.f15, sub, symM, opFn, Nat.reduceLT, Nat.reduceBEq, symM, g4, g6, g7, bin_lss, hlt, p1, p2, evCall_fn ft25 rfl, a1, bin_add, wadd1 (show i ≤ 400000 by simp at hi; omega)]
    rw [List.flatMap_cons, ← List.append_assoc]
    exact wrapE (ih (i + 1) (bs ++ leN x 2) v4 h4 _ (N + 39) (by rw [← List.drop_drop, hd]; rfl) (by simp at hi ⊢; omega) (by rw [List.length_append, leN_len]; simp at hbs; omega) (by simp at hN ⊢; omega) (Nat.le_trans hn a3.next) (Nat.lt_of_lt_of_le hbp a3.next) hC4 ((a5 (by omega)).off hbp) a2
      (by simp only [symM, Nat.reduceBEq, g1]) (by simp only [symM, Nat.reduceBEq]) (by simp only [symM, Nat.reduceBEq, g6]) get_same) a3
theorem rEnc_S (hP : ∀ (n size n0 : Nat) (bs : List Nat) (v : Value) (h : AH), n < 4294967296 → size ≤ 4 → bs.length < 400 → n0 ≤ h.next → Own n0 h v (bytesV bs) 5 → ∃ v' h', call 25 [v, iv n, iv size] h = some (v', h') ∧ Own n0 h' v' (bytesV (bs ++ leN n size)) 5 ∧ Grow n0 h h' ∧ (∀ k, k < h.next → Off v k → h'.get k = h.get k) ∧ (0 < size → Own h.next h' v' (bytesV (bs ++ leN n size)) 5))
    (hPE : ∀ (x : XV) (n0 : Nat) (bs : List Nat) (v : Value) (h : AH), okX x → bs.length < 300 → n0 ≤ h.next → Own n0 h v (bytesV bs) 5 → ∃ v' h', call 26 [v, extV x] h = some (v', h') ∧ Own n0 h' v' (bytesV (bs ++ encX x)) 5 ∧ Grow n0 h h')
    (hpt : ∀ (n : NV) (e : Value) (h : AH), ∃ v' h', call 27 [nodeV n e] h = some (v', h') ∧ Own h.next h' v' (intsV (ptrs n)) 3 ∧ Grow h.next h h')
    (hSd : ∀ (n : NV) (v : Value) (xs : List XV) (n0 : Nat) (h : AH), RowE n0 h v xs → (∀ x ∈ xs, okX x) → xs.length ≤ 96 → n0 ≤ h.next → ∃ h', call 24 [nodeV n v] h = some (.bool (soundN n xs), h') ∧ Grow h.next h h')
    (hSum : ∀ (bs : List Nat) (v : Value) (h : AH), (∀ x ∈ bs, x < 256) → bs.length ≤ 1000 → Row h.next h v (bytesV bs) 5 → call 28 [v] h = some (wv (spinU (spinN bs)), h))
    (n : NV) (hok : okN n) (v : Value) (xs : List XV) (n0 : Nat) (h : AH) (hv : RowE n0 h v xs) (hx : ∀ x ∈ xs, okX x) (hL : xs.length ≤ 60) (hn : n0 ≤ h.next) :
    ∃ r h', frameB T0 X0 call 3000 15 [nodeV n v] h = some (r, h') ∧ Grow h.next h h' ∧ ((soundN n xs = false ∧ r = .tuple #[nilV, iv 2]) ∨ (soundN n xs = true ∧ ∃ v', r = .tuple #[v', iv 0] ∧ Own h.next h' v' (bytesV (encN n xs)) 5)) := by
  obtain ⟨ok1, ok2, ok3, ok4, ok5, ok6⟩ := hok
  generalize hh1 : h.new (.cells (PM.ofList (nodeL n v)) (nodeL n v).length 26 0 0 .ex) = h1
  have g1 : Grow h.next h h1 := by rw [← hh1]; exact Grow.new _ _
  have hb1 : NodeB h1 h.next n v := by rw [← hh1]; exact NodeB.new _ _ _
  have l1 : h.next < h1.next := by rw [← hh1]; exact Nat.lt_succ_self _
  have hbn : ∀ h, rp (some (evNewVar h 26 (nodeV n v))) = some (.value (pv h.next 0), h.new (.cells (PM.ofList (nodeL n v)) (nodeL n v).length 26 0 0 .ex)) := fun h => box_agg
  have hv1 := hv.grow g1 hn
  have hn1 := Nat.le_trans hn g1.next
  obtain ⟨h2, c1, c2⟩ := hSd n v xs n0 h1 hv1 hx (by omega) hn1
  have g2 := g1.trans c2 g1.next
  have q1 := hb1.loads
  have hb2 := hb1.grow c2 l1
  have q2 := hb2.loads
  have l2 : h.next < h2.next := Nat.lt_of_lt_of_le l1 c2.next
  rw [frameB_eq ft15 rfl rfl]
  cases hs : soundN n xs with
  | false =>
    rw [hs] at c1
    refine ⟨_, h2, ?_, g2, .inl ⟨by trivial, rfl⟩⟩
    simp only [Try.f15, symM, opFn, Nat.reduceLT, Nat.reduceBEq, symM, hbn, hh1, q1, evCall_fn ft24 rfl, c1]
    exact retB_two ft15 rfl (by simp only [symM, Nat.reduceBEq]) get_same
  | true =>
    rw [hs] at c1
    obtain ⟨w3, h3, a3, o3, c3, _⟩ := hP n.k 1 h2.next [] nilV h2 (by omega) (by omega) (by simp) (Nat.le_refl _) (Own.nil _ _ _)
    have q3 := (hb2.grow c3 l2).loads
    obtain ⟨w4, h4, a4, o4, c4, _⟩ := hP n.f 1 h2.next _ w3 h3 (by omega) (by omega) (by simp [leN_len]) c3.next o3
    have c34 := c3.trans c4 (Nat.le_refl _)
    have q4 := (hb2.grow c34 l2).loads
    obtain ⟨w5, h5, a5, o5, c5, _⟩ := hP n.l 2 h2.next _ w4 h4 (by omega) (by omega) (by simp [leN_len]) c34.next o4
    have c35 := c34.trans c5 (Nat.le_refl _)
    have q5 := (hb2.grow c35 l2).loads
    obtain ⟨w6, h6, a6, o6, c6, _⟩ := hP n.s 2 h2.next _ w5 h5 (by omega) (by omega) (by simp [leN_len]) c35.next o5
    have c36 := c35.trans c6 (Nat.le_refl _)
    have hb6 := hb2.grow c36 l2
    have q6 := hb6.loads
    have o6 : Own h2.next h6 w6 (bytesV (headB n)) 5 := by
      rw [show headB n = [] ++ leN n.k 1 ++ leN n.f 1 ++ leN n.l 2 ++ leN n.s 2 by unfold headB; rw [List.nil_append]]
      exact o6
    have a3 : call 25 [nilV, iv n.k, iv 1] h2 = _ := a3
    have a4 : call 25 [w3, iv n.f, iv 1] h3 = _ := a4
    have a5 : call 25 [w4, iv n.l, iv 2] h4 = _ := a5
    have a6 : call 25 [w5, iv n.s, iv 2] h5 = _ := a6
    have hv6 := (hv.grow g2 hn).grow c36 (Nat.le_trans hn g2.next)
    have lf := flat_len xs
    have lfp := flatp_len (ptrs n)
    have lh := headB_len n
    have lpt : (ptrs n).length = 6 := rfl
    have hlast : ∀ (w : Value) (hh : AH), Grow h2.next h2 hh → Own h2.next hh w (bytesV (firstB n xs)) 5 → (firstB n xs).length = 28 → ∃ w9 h9, call 28 [w] hh = some (wv (spinU (spinN (firstB n xs))), hh) ∧ call 25 [w, iv (spinU (spinN (firstB n xs))), iv 4] hh = some (w9, h9) ∧ Own h2.next h9 w9 (bytesV (encN n xs)) 5 ∧ Grow h.next h h9 := by
      intro w hh gg ho hl
      obtain ⟨w9, h9, y1, y2, y3, _⟩ := hP (spinU (spinN (firstB n xs))) 4 h2.next _ w hh (spinU_lt _) (by omega) (by omega) gg.next ho
      exact ⟨w9, h9, hSum _ _ _ (firstB_lt n xs) (by omega) ho.row, y1, y2, g2.trans (gg.trans y3 (Nat.le_refl _)) g2.next⟩
    have wsum : IntKind.i64.wrap ((spinU (spinN (firstB n xs)) : Nat) : Int) = ((spinU (spinN (firstB n xs)) : Nat) : Int) := IntWalk.i64_in _ (by have := spinU_lt (firstB n xs); omega)
    by_cases f2 : n.f = 2
    · have hx3 : xs.length ≤ 3 := by
        unfold soundN at hs
        by_cases k0 : n.k = 0
        · rw [if_pos k0] at hs
          have : sameN n NV.zero = true := by cases hq : sameN n NV.zero with | true => rfl | false => rw [hq] at hs; cases hs
          unfold sameN NV.zero at this
          simp at this
          omega
        · rw [if_neg k0, if_neg (show ¬ n.f = 1 by omega), if_pos f2] at hs
          simp only [Bool.and_eq_true, decide_eq_true_eq] at hs
          exact hs.2.2.2.1
      have lA : (headB n ++ xs.flatMap encX).length = 6 + 4 * xs.length := by rw [List.length_append, lh, lf]
      have lp : (pad 18 (headB n ++ xs.flatMap encX)).length = 18 := by unfold pad; rw [List.length_append, List.length_replicate, lA]; omega
      have hB : pad 18 (headB n ++ xs.flatMap encX) ++ leN n.c 2 = bodyB n xs := by unfold bodyB; rw [if_pos f2]
      have lB : (bodyB n xs).length = 20 := by rw [← hB, List.length_append, lp, leN_len]
      have lF : (firstB n xs).length = 28 := by unfold firstB pad; rw [List.length_append, List.length_replicate, lB]
      simp only [Try.f15, symM, opFn, Nat.reduceLT, Nat.reduceBEq, symM, symL, hbn, hh1, field_N, q1, q2, q3, q4, q5, q6, evCall_fn ft24 rfl, c1, evCall_fn ft25 rfl, a3, a4, a5, a6, bin_eql, eqT (show (n.f : Int) = 2 by omega)]
      generalize hX : codeB T0 X0 call _ EEr (.loop _) _ _ _ = X
      obtain ⟨t1, h7, e1, ⟨w7, u1, u2, u3⟩, g7⟩ := use_exit hX (rencL hPE n v xs n0 h2.next h.next (Nat.le_trans hn g2.next) l2 hx hL xs 0 (headB n) _ h6 _ _ rfl (by simp) (by omega) (by omega) c36.next hv6 hb6 o6 (by simp only [symM, Nat.reduceBEq]) (by simp only [symM, Nat.reduceBEq]) (by simp only [symM]; rfl))
      clear hX
      subst e1
      have c37 := c36.trans g7 (Nat.le_refl _)
      simp only [symM, symM, symL]
      generalize hX : codeB T0 X0 call _ EEr (.loop _) _ _ _ = X
      obtain ⟨t2, h8, e2, ⟨w8, u4, u5, u6⟩, g8⟩ := use_exit hX (padR2 h2.next h.next (18 - (headB n ++ xs.flatMap encX).length) (headB n ++ xs.flatMap encX) w7 h7 t1 _ (by omega) (by omega) c37.next u3 u2 u1)
      clear hX
      subst e2
      have u6 : Own h2.next h8 w8 (bytesV (pad 18 (headB n ++ xs.flatMap encX))) 5 := u6
      have c38 := c37.trans g8 (Nat.le_refl _)
      have q8 := (hb2.grow c38 l2).loads
      obtain ⟨w9, h9, a9, o9, c9, _⟩ := hP n.c 2 h2.next _ w8 h8 (by omega) (by omega) (by omega) c38.next u6
      have a9 : call 25 [w8, iv n.c, iv 2] h8 = _ := a9
      rw [hB] at o9
      have c39 := c38.trans c9 (Nat.le_refl _)
      simp only [symM, opFn, Nat.reduceLT, Nat.reduceBEq, symM, symL, u4, u5, field_N, q8, evCall_fn ft25 rfl, a9]
      generalize hX : codeB T0 X0 call _ EEr (.loop _) _ _ _ = X
      obtain ⟨t3, h10, e3, ⟨w10, u7, u8, u9⟩, g10⟩ := use_exit hX (padR4 h2.next h.next (28 - (bodyB n xs).length) (bodyB n xs) w9 h9 _ _ (by omega) (by omega) c39.next o9 (by simp only [symM, Nat.reduceBEq, u5]) (by simp only [symM]))
      clear hX
      subst e3
      have u9 : Own h2.next h10 w10 (bytesV (firstB n xs)) 5 := u9
      obtain ⟨w11, h11, y1, y2, y3, y4⟩ := hlast w10 h10 (c39.trans g10 (Nat.le_refl _)) u9 lF
      have y2 : call 25 [w10, iv (spinU (spinN (firstB n xs))), iv 4] h10 = _ := y2
      refine ⟨_, h11, ?_, y4, .inr ⟨by trivial, w11, rfl, y3.less g2.next⟩⟩
      simp only [symM, opFn, Nat.reduceLT, Nat.reduceBEq, symM, symL, u7, evCall_fn ft28' rfl, y1, conv_i2i und_u32' und_int, wsum, evCall_fn ft25 rfl, y2]
      exact retB_two ft15 rfl (by simp only [symM, Nat.reduceBEq]) get_same
    · obtain ⟨pw, h7, p1, p2, p3⟩ := hpt n v h6
      have hB : headB n ++ ((ptrs n).flatMap fun p => leN p 2) = bodyB n xs := by unfold bodyB; rw [if_neg f2]
      have lB : (bodyB n xs).length = 18 := by rw [← hB, List.length_append, lh, lfp, lpt]
      have lF : (firstB n xs).length = 28 := by unfold firstB pad; rw [List.length_append, List.length_replicate, lB]
      simp only [Try.f15, symM, opFn, Nat.reduceLT, Nat.reduceBEq, symM, symL, hbn, hh1, field_N, q1, q2, q3, q4, q5, q6, evCall_fn ft24 rfl, c1, evCall_fn ft25 rfl, a3, a4, a5, a6, bin_eql, eqF (show ¬ (n.f : Int) = 2 by omega), evCall_fn ft27 rfl, p1]
      generalize hX : codeB T0 X0 call _ EEr (.loop _) _ _ _ = X
      obtain ⟨bp, C, b1, b2, b3, b4⟩ := p2.blk (by simp [intsV, ptrs])
      have c37 := c36.trans (p3.less c36.next) (Nat.le_refl _)
      obtain ⟨t1, h8, e1, ⟨w8, u1, u2, u3⟩, g8⟩ := use_exit hX (rptrL hP (ptrs n) ok6 pw bp C b4 h2.next h.next rfl (ptrs n) 0 (headB n) _ h7 _ _ rfl (by simp) (by omega) (by omega) c37.next b2 b3 (o6.apart b1) (o6.grow p3) (by simp only [symM, Nat.reduceBEq]) (by simp only [symM, Nat.reduceBEq]) (by simp only [symM, Nat.reduceBEq]) (by simp only [symM]; rfl))
      clear hX
      subst e1
      rw [hB] at u3
      have c38 := c37.trans g8 (Nat.le_refl _)
      simp only [symM, symM, symL]
      generalize hX : codeB T0 X0 call _ EEr (.loop _) _ _ _ = X
      obtain ⟨t3, h10, e3, ⟨w10, u7, u8, u9⟩, g10⟩ := use_exit hX (padR4 h2.next h.next (28 - (bodyB n xs).length) (bodyB n xs) w8 h8 t1 _ (by omega) (by omega) c38.next u3 u2 u1)
      clear hX
      subst e3
      have u9 : Own h2.next h10 w10 (bytesV (firstB n xs)) 5 := u9
      obtain ⟨w11, h11, y1, y2, y3, y4⟩ := hlast w10 h10 (c38.trans g10 (Nat.le_refl _)) u9 lF
      have y2 : call 25 [w10, iv (spinU (spinN (firstB n xs))), iv 4] h10 = _ := y2
      refine ⟨_, h11, ?_, y4, .inr ⟨by trivial, w11, rfl, y3.less g2.next⟩⟩
      simp only [symM, opFn, Nat.reduceLT, Nat.reduceBEq, symM, symL, u7, evCall_fn ft28' rfl, y1, conv_i2i und_u32' und_int, wsum, evCall_fn ft25 rfl, y2]
      exact retB_two ft15 rfl (by simp only [symM, Nat.reduceBEq]) get_same
end
end Go.Proofs.Ythpfgiabdpeiaaa.Abs
