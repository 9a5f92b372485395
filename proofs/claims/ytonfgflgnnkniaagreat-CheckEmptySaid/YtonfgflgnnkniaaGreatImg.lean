
/- The image: its cells, its blocks. -/
import Derived.Test.YtonfgflgnnkniaaGreatFlags
namespace Go.Proofs.YtonfgflgnnkniaaGreat.Abs
open Go Go.Proofs
noncomputable section
variable {call : Abs.Callee}
set_option maxRecDepth 10000
theorem ft25 : T0.ft.get 25 = some Tryz.f25 := by kernel_rfl
theorem ft24 : T0.ft.get 24 = some Tryz.f24 := by kernel_rfl
theorem und_blocks : und T0 30 = some (.slice 38) := by kernel_rfl
theorem sz_bytes : szOf T0 38 = some 1 := by kernel_rfl
theorem agg_blocks : aggT T0 30 = some false := by kernel_rfl
theorem agg_nodes : aggT T0 39 = some false := by kernel_rfl
theorem agg_state : aggT T0 41 = some true := by kernel_rfl
theorem zero_bytes : zeroOf T0 38 = some nilV := by kernel_rfl
theorem tt_bytes : T0.tt.get 38 = some (infoOf 38) := by kernel_rfl
theorem ti_bytes : (infoOf 38).zero = some nilV ∧ (infoOf 38).size = 1 ∧ (infoOf 38).bytes ≤ 64 := ⟨by kernel_rfl, by kernel_rfl, Nat.le_of_ble_eq_true (by kernel_rfl)⟩
theorem field_I {b : Nat} : evFieldAddr T0 43 (pv b 0) 0 = some (pv b 0) ∧ evFieldAddr T0 43 (pv b 0) 1 = some (pv b 8) := ⟨by kernel_rfl, by kernel_rfl⟩
theorem field_st {b : Nat} : evFieldAddr T0 41 (pv b 0) 0 = some (pv b 0) ∧ evFieldAddr T0 41 (pv b 0) 1 = some (pv b 5) ∧ evFieldAddr T0 41 (pv b 0) 2 = some (pv b 6) ∧ evFieldAddr T0 41 (pv b 0) 3 = some (pv b 7) ∧ evFieldAddr T0 41 (pv b 8) 0 = some (pv b 8) ∧ evFieldAddr T0 41 (pv b 8) 3 = some (pv b 15) :=
  ⟨by kernel_rfl, by kernel_rfl, by kernel_rfl, by kernel_rfl, by kernel_rfl, by kernel_rfl⟩
/-- What a block's elements are. -/
def tyAt (h : AH) (k e : Nat) : Prop := ∃ c m lo hi kd, h.get k = some (.cells c m e lo hi kd)
theorem tyAt.ne {h : AH} {k e k' e' : Nat} (a : tyAt h k e) (b : tyAt h k' e') (hne : e ≠ e') : k ≠ k' := by
  rintro rfl
  obtain ⟨c, m, lo, hi, kd, q⟩ := a
  obtain ⟨c', m', lo', hi', kd', q'⟩ := b
  rw [q] at q'
  cases q'
  exact hne rfl
theorem OwnB.ty {p : Nat} {h : AH} {v : Value} {bs : List Nat} (ho : OwnB p h v bs) : tyAt h p 5 := by
  obtain ⟨c, kd, cap, _, h2, _⟩ := ho
  exact ⟨_, _, _, _, _, h2⟩
theorem BoxL.ty {h : AH} {b el : Nat} {l : List Value} (hb : BoxL h b el l) : tyAt h b el := by
  obtain ⟨c, h1, _⟩ := hb
  exact ⟨_, _, _, _, _, h1⟩
theorem Own.offT {n : Nat} {h : AH} {v : Value} {l : List Value} {e k e' : Nat} (ho : Own n h v l e) (t : tyAt h k e') (hne : e ≠ e') : Off v k := by
  intro o l' c hv
  rcases ho with ⟨rfl, _⟩ | ⟨b, cc, kd, cap, _, _, rfl, h4, _⟩
  · cases hv
  · cases hv
    exact (tyAt.ne (⟨_, _, _, _, _, h4⟩ : tyAt h k e) t hne) rfl
/-- A block of bytes that is ours. -/
def Bks (h : AH) (w : Value) (bs : List Nat) : Prop := bs.length ≠ 0 ∧ bs.length < 1000 ∧ (∀ x ∈ bs, x < 256) ∧ ∃ p, p < h.next ∧ OwnB p h w bs
/-- Blocks. -/
def BL (n : Nat) (h : AH) (v : Value) (bss : List (List Nat)) : Prop := ∃ vs, Own n h v vs 38 ∧ vs.length = bss.length ∧ ∀ (i : Nat) (w : Value) (bs : List Nat), vs[i]? = some w → bss[i]? = some bs → Bks h w bs
theorem Bks.keep {h h' : AH} {w : Value} {bs : List Nat} (hb : Bks h w bs) (hn : h.next ≤ h'.next) (hk : ∀ k, k < h.next → tyAt h k 5 → h'.get k = h.get k) : Bks h' w bs := by
  obtain ⟨a, b, c, p, h1, h2⟩ := hb
  exact ⟨a, b, c, p, Nat.lt_of_lt_of_le h1 hn, h2.keep (hk p h1 h2.ty)⟩
theorem Bks.grow {h h' : AH} {w : Value} {bs : List Nat} (hb : Bks h w bs) (g : Grow h.next h h') : Bks h' w bs := hb.keep g.next fun k hk _ => g.keep k hk
theorem Bks.own {n : Nat} {h : AH} {w : Value} {bs : List Nat} (ho : Own n h w (bytesV bs) 5) (h0 : bs.length ≠ 0) (hl : bs.length < 1000) (hb : ∀ x ∈ bs, x < 256) : Bks h w bs := by
  obtain ⟨p, _, h2, h3⟩ := ho.toB h0
  exact ⟨h0, hl, hb, p, h2, h3⟩
theorem Bks.row {h : AH} {w : Value} {bs : List Nat} (hb : Bks h w bs) : Row h.next h w (bytesV bs) 5 := by
  obtain ⟨_, _, _, p, h1, h2⟩ := hb
  exact h2.row.more (by omega)
theorem Bks.one1 {h : AH} {w : Value} {bs : List Nat} (hb : Bks h w bs) : oneCell w = true ∧ w.cells.toList = [w] ∧ eqV w w = true := by
  obtain ⟨_, _, _, p, h1, h2⟩ := hb
  exact h2.one1
theorem BL.grow {n : Nat} {h h' : AH} {v : Value} {bss : List (List Nat)} (hb : BL n h v bss) (g : Grow h.next h h') : BL n h' v bss := by
  obtain ⟨vs, h1, h2, h3⟩ := hb
  exact ⟨vs, h1.grow g, h2, fun i w bs a b => (h3 i w bs a b).grow g⟩
theorem BL.less {n m : Nat} {h : AH} {v : Value} {bss : List (List Nat)} (hb : BL m h v bss) (hn : n ≤ m) : BL n h v bss := by
  obtain ⟨vs, h1, h2, h3⟩ := hb
  exact ⟨vs, h1.less hn, h2, h3⟩
/-- Another block is changed. -/
theorem BL.one {n p e : Nat} {h h' : AH} {v : Value} {bss : List (List Nat)} (hb : BL n h v bss) (o : One p h h') (t : tyAt h p e) (h1 : e ≠ 38) (h2 : e ≠ 5) : BL n h' v bss := by
  obtain ⟨vs, a1, a2, a3⟩ := hb
  refine ⟨vs, a1.but (a1.offT t (Ne.symm h1)) (Nat.le_of_eq o.next.symm) o.keep, a2, fun i w bs a b => (a3 i w bs a b).keep (Nat.le_of_eq o.next.symm) fun k hk hu => o.keep k (tyAt.ne hu t (Ne.symm h2))⟩
theorem BL.len {n : Nat} {h h' : AH} {v : Value} {bss : List (List Nat)} (hb : BL n h v bss) (ty : TypeId) : evBuiltin T0 .len #[30] ty [v] h' = some (.value (iv bss.length), h') := by
  obtain ⟨vs, a1, a2, _⟩ := hb
  rw [← a2]
  exact a1.row.len und_blocks
theorem BL.eqv {n : Nat} {h : AH} {v : Value} {bss : List (List Nat)} (hb : BL n h v bss) : eqV v v = true := by
  obtain ⟨vs, a1, _⟩ := hb
  exact a1.eqv
theorem BL.at {n i : Nat} {h : AH} {v : Value} {bs : List Nat} {bss : List (List Nat)} (hb : BL n h v bss) (hi : bss[i]? = some bs) : ∃ p w, evIndexAddr T0 30 v (iv i) = some p ∧ evLoad T0 38 p h = some w ∧ Bks h w bs := by
  obtain ⟨vs, a1, a2, a3⟩ := hb
  have hl := (List.getElem?_eq_some_iff.1 hi).1
  obtain ⟨w, hw⟩ : ∃ w, vs[i]? = some w := ⟨_, List.getElem?_eq_getElem (by rw [a2]; exact hl)⟩
  obtain ⟨p, b1, b2⟩ := a1.row.at und_blocks sz_bytes agg_bytes hw
  exact ⟨p, w, b1, b2, a3 i w bs hw hi⟩
theorem BL.store {n i : Nat} {h : AH} {v w : Value} {bs : List Nat} {bss : List (List Nat)} (hb : BL n h v bss) (hi : i < bss.length) (hw : Bks h w bs) :
    ∃ p h', evIndexAddr T0 30 v (iv i) = some p ∧ evStore T0 38 p w h = some h' ∧ BL n h' v (bss.set i bs) ∧ Grow n h h' ∧ h'.next = h.next ∧ ∀ k, Off v k → h'.get k = h.get k := by
  obtain ⟨vs, a1, a2, a3⟩ := hb
  obtain ⟨y, hy⟩ : ∃ y, vs[i]? = some y := ⟨_, List.getElem?_eq_getElem (by rw [a2]; exact hi)⟩
  obtain ⟨p, h', b1, b2, b3, b4, b5, b6⟩ := a1.store2 und_blocks sz_bytes hw.one1.1 hy
  have ku : ∀ k, k < h.next → tyAt h k 5 → h'.get k = h.get k := fun k _ hu => b6 k (a1.offT hu (by decide))
  refine ⟨p, h', b1, b2, ⟨vs.set i w, b3, by simp [a2], ?_⟩, b4, b5, b6⟩
  intro j x cs hj hc
  rw [List.getElem?_set] at hj hc
  by_cases e : i = j
  · subst e
    rw [if_pos rfl] at hj hc
    rw [if_pos (by rw [a2]; exact hi)] at hj
    rw [if_pos hi] at hc
    cases hj; cases hc
    exact hw.keep (Nat.le_of_eq b5.symm) ku
  · rw [if_neg e] at hj hc
    exact (a3 j x cs hj hc).keep (Nat.le_of_eq b5.symm) ku
theorem BL.off {n p e : Nat} {h : AH} {v : Value} {bss : List (List Nat)} (hb : BL n h v bss) (t : tyAt h p e) (h1 : e ≠ 38) : Off v p := by
  obtain ⟨vs, a1, _⟩ := hb
  exact a1.offT t (Ne.symm h1)
theorem must_S (v : Value) (h : AH) : frameB T0 X0 call 3000 25 [v, iv 0] h = some (v, h) := by
  rw [frameB_eq ft25 rfl rfl]
  simp only [Tryz.f25, symM, opFn, Nat.reduceLT, Nat.reduceBEq, symM, bin_neq, show ((0 : Int) == 0) = true from rfl]
  exact retB_one ft25 rfl get_same
abbrev BEqC (call : Abs.Callee) : Prop := ∀ (l m : List Nat) (v w : Value) (n0 n1 : Nat) (h : AH), (∀ x ∈ l, x < 256) → (∀ x ∈ m, x < 256) → Row n0 h v (bytesV l) 5 → Row n1 h w (bytesV m) 5 → call 47 [v, w] h = some (.bool (decide (l = m)), h)
theorem Bks.clone {h : AH} {w : Value} {bs : List Nat} (hCl : BCloneC call) (hb : Bks h w bs) : ∃ w' h', call 17 [w] h = some (w', h') ∧ Bks h' w' bs ∧ Grow h.next h h' := by
  obtain ⟨a, b, c, p, h1, h2⟩ := hb
  obtain ⟨v', p', h', e1, e2, e3, e4, e5⟩ := hCl p w bs h h2 h1 a b
  exact ⟨v', h', e1, ⟨a, b, c, p', e3, e4⟩, e5⟩
theorem plan_put : planB (regOps Tryz.f24 [1, 0]) 26 = some ([.one 0, .one 1, .one 2, .one 3, .one 4, .one 5, .one 6, .eff [] 7 [0, 1, 2, 3, 4, 5], .one 8, .eff [] 9 []], []) := by kernel_rfl
theorem put_S' (hCl : BCloneC call) (hE : BEqC call) (pI n i : Nat) (L : List Value) (vb vd : Value) (bs : List Nat) (bss : List (List Nat)) (h : AH) (hI : BoxL h pI 43 L) (hpI : pI < h.next) (h7 : L[7]? = some vb) (hb : BL n h vb bss) (hi : i < bss.length) (hd : Bks h vd bs) (hn : n ≤ h.next) :
    ∃ h', frameB T0 X0 call 3000 24 [pv pI 0, iv i, vd] h = some (.tuple #[], h') ∧ BL n h' vb (bss.set i bs) ∧ h.next ≤ h'.next ∧ (∀ k, k < h.next → Off vb k → h'.get k = h.get k) ∧ Grow n h h' := by
  obtain ⟨cs, hcs⟩ : ∃ cs, bss[i]? = some cs := ⟨_, List.getElem?_eq_getElem hi⟩
  obtain ⟨p, w, a1, a2, a3⟩ := hb.at hcs
  have ld := hI.load agg_blocks h7
  have he := hE cs bs w vd _ _ h a3.2.2.1 hd.2.2.1 a3.row hd.row
  rw [frameB_eq ft24 rfl rfl]
  by_cases e : cs = bs
  · subst e
    rw [decide_eq_true rfl] at he
    refine ⟨h, ?_, ?_, Nat.le_refl _, fun _ _ _ => rfl, Grow.refl _ _⟩
    · simp only [Tryz.f24, symM, opFn, Nat.reduceLT, Nat.reduceBEq, symM, nil_pv, field_I, field_st, ld, a1, a2, evCall_fn ft47 rfl, he]
      exact retB_zero ft24 rfl
    · have : bss.set i cs = bss := by
        apply List.ext_getElem?
        intro j
        rw [List.getElem?_set]
        split
        · rename_i q; subst q
          first | exact hcs.symm | rw [if_pos hi, hcs]
        · rfl
      rw [this]; exact hb
  · rw [decide_eq_false e] at he
    obtain ⟨w1, h1, b1, b2, b3⟩ := hd.clone hCl
    have hI1 := hI.grow b3 hpI
    have ld1 := hI1.load agg_blocks h7
    have hb1 := hb.grow b3
    obtain ⟨q, h2, c1, c2, c3, c4, c5, c6⟩ := hb1.store hi b2
    refine ⟨h2, ?_, c3, by rw [c5]; exact b3.next, fun k hk ho => (c6 k ho).trans (b3.keep k hk), (b3.less hn).trans c4 (Nat.le_refl _)⟩
    have hp := plan_put
    simp only [regOps, part, Tryz.f24, sub] at hp
    simp only [Tryz.f24, symM, opFn, Nat.reduceLT, Nat.reduceBEq, symM, nil_pv, field_I, field_st, ld, a1, a2, evCall_fn ft47 rfl, he]
    rw [codeB_draw, draw_plan hp rfl]
    simp only [drawAll, opFn, Nat.reduceBEq, nil_pv, field_I, field_st, ld, ld1, hb.eqv, evCall_fn ft17 rfl, b1, effE_cons, c1, c2]
    exact retB_zero ft24 rfl
end
end Go.Proofs.YtonfgflgnnkniaaGreat.Abs
namespace Go.Proofs.YtonfgflgnnkniaaGreat.Abs
open Go Go.Proofs
noncomputable section
variable {call : Abs.Callee}
set_option maxRecDepth 10000
theorem ft12 : T0.ft.get 12 = some Tryz.f12 := by kernel_rfl
def rootN (f : Nat) : NV := ⟨2, f, 1, 0, 0, 0, 0, 0, 0, 0, 0⟩
theorem und_nodes : und T0 39 = some (.slice 51) := by kernel_rfl
/-- The 32 nodes: the first, and nothing. -/
def nodesL (a : NV) : List Value := (List.range 384).map fun k => (nodeL (if k < 12 then a else NV.zero) nilV).getD (k % 12) default
theorem nodesL_len (a : NV) : (nodesL a).length = 384 := by simp [nodesL]
def nodeAt (a : NV) (i : Nat) : NV := if i = 0 then a else NV.zero
theorem nodesL_at (a : NV) (i : Nat) (hi : i < 32) : ∀ j x, (nodeL (nodeAt a i) nilV)[j]? = some x → (nodesL a)[i * 12 + j]? = some x := by
  intro j x hj
  have hj12 : j < 12 := by
    have := (List.getElem?_eq_some_iff.1 hj).1
    simpa [nodeL] using this
  unfold nodesL
  rw [List.getElem?_map, List.getElem?_range (by omega)]
  simp only [Option.map_some]
  rw [show (i * 12 + j) % 12 = j by omega]
  unfold nodeAt at hj
  by_cases h0 : i = 0
  · rw [if_pos h0] at hj
    rw [if_pos (by omega), List.getD_eq_getElem?_getD, hj]; rfl
  · rw [if_neg h0] at hj
    rw [if_neg (by omega), List.getD_eq_getElem?_getD, hj]; rfl
def nodesV (pn : Nat) : Value := .slice (some ⟨pn, 0, none⟩) 32 32
def NsB (h : AH) (pn : Nat) (a : NV) : Prop := BoxL h pn 51 (nodesL a)
theorem NsB.at {h : AH} {pn : Nat} {a : NV} (hb : NsB h pn a) (i : Nat) (hi : i < 32) : evIndexAddr T0 39 (nodesV pn) (iv i) = some (pv pn (0 + i * 12)) ∧ evLoad T0 51 (pv pn (0 + i * 12)) h = some (nodeV (nodeAt a i) nilV) := by
  refine ⟨idx_slice und_nodes sz_Node hi, ?_⟩
  exact BoxL.loadA hb agg_Node (ws := nodeL (nodeAt a i) nilV) sz_Node (by rw [nodesL_len]; show 0 + i * 12 + 12 ≤ 384; omega) (fun j x hj => by rw [Nat.zero_add]; exact nodesL_at a i hi j x hj)
theorem eqV_nodeV (n : NV) : eqV (nodeV n nilV) (nodeV n nilV) = true := by simp [nodeV, nodeL, eqV, eqVs]
theorem eqV_nodes (pn : Nat) : eqV (nodesV pn) (nodesV pn) = true := by simp [nodesV, eqV]
abbrev EncC (call : Abs.Callee) (f : Nat) : Prop := ∀ (n : NV) (h : AH), soundN n [] = true → okN n → ∃ v' h', call f [nodeV n nilV] h = some (.tuple #[v', iv 0], h') ∧ Own h.next h' v' (bytesV (encN n [])) 5 ∧ Grow h.next h h'
theorem encN_lt (n : NV) : ∀ x ∈ encN n [], x < 256 := by
  intro x hx
  rcases List.mem_append.1 hx with hx | hx
  · exact firstB_lt n [] x hx
  · exact leN_lt hx
theorem firstN_len (n : NV) : (firstB n []).length = 28 := by
  have lb : (bodyB n []).length ≤ 28 := by
    unfold bodyB
    split
    · rw [List.length_append, leN_len]
      unfold pad
      rw [List.length_append, List.length_replicate, List.flatMap_nil, List.append_nil, headB_len]
      omega
    · rw [List.length_append, headB_len, flatp_len]
      simp [ptrs]
  unfold firstB pad
  rw [List.length_append, List.length_replicate]
  omega
theorem encN_len (n : NV) : (encN n []).length = 32 := by unfold encN; rw [List.length_append, firstN_len, leN_len]
/-- A block of two nodes. -/
def wBlk (f j : Nat) : List Nat := encN (nodeAt (rootN f) (2 * j)) [] ++ encN NV.zero []
theorem wBlk_ok (f j : Nat) : (wBlk f j).length = 64 ∧ ∀ x ∈ wBlk f j, x < 256 := by
  refine ⟨by unfold wBlk; rw [List.length_append, encN_len, encN_len], ?_⟩
  intro x hx
  rcases List.mem_append.1 hx with hx | hx
  · exact encN_lt _ x hx
  · exact encN_lt _ x hx
def wr (f : Nat) : Nat → Nat → List (List Nat) → List (List Nat)
  | 0, _, bss => bss
  | k + 1, j, bss => wr f k (j + 1) (bss.set (3 + j) (wBlk f j))
theorem wr_len (f : Nat) : ∀ k j bss, (wr f k j bss).length = bss.length := by
  intro k
  induction k with
  | zero => intros; rfl
  | succ k ih => intro j bss; rw [wr, ih, List.length_set]
noncomputable def bodyWr : Code := part Tryz.f12 [1, 1, 1, 0, 0]
abbrev EWr : Env := ⟨12, 59, none⟩
theorem plan_wr : planB (regOps Tryz.f12 [1, 1, 1, 0, 0, 1, 0, 0]) 59 = some ([.one 0, .one 1, .one 2, .one 3, .one 4, .one 5, .one 6, .one 7, .one 8, .one 9, .one 10, .one 11, .one 16, .one 17, .one 18, .one 19, .one 20, .one 21, .one 22, .one 23, .one 24, .eff [] 12 [0, 1, 2, 3, 16, 17, 18, 19, 20, 21, 22, 23, 24], .one 13, .one 14, .eff [] 15 [0, 1, 2, 3, 16, 17, 18, 19, 20, 21, 22, 23, 24], .eff [] 25 [0, 1, 2, 3], .one 26, .one 27, .eff [] 28 [0, 1, 2, 3], .eff [] 29 [0, 1, 2, 3], .eff [] 30 []], []) := by kernel_rfl
abbrev PutIm (call : Abs.Callee) : Prop := ∀ (pI n i : Nat) (L : List Value) (vb vd : Value) (bs : List Nat) (bss : List (List Nat)) (h : AH), BoxL h pI 43 L → pI < h.next → L[7]? = some vb → BL n h vb bss → i < bss.length → Bks h vd bs → n ≤ h.next →
  ∃ h', call 24 [pv pI 0, iv i, vd] h = some (.tuple #[], h') ∧ BL n h' vb (bss.set i bs) ∧ h.next ≤ h'.next ∧ (∀ k, k < h.next → Off vb k → h'.get k = h.get k) ∧ Grow n h h'
abbrev MustC (call : Abs.Callee) : Prop := ∀ (v : Value) (h : AH), call 25 [v, iv 0] h = some (v, h)
theorem soundR (f : Nat) (h1 : 1 ≤ f) (h2 : f ≤ 2) : soundN (rootN f) [] = true ∧ okN (rootN f) := by
  have : f = 1 ∨ f = 2 := by omega
  rcases this with rfl | rfl
  · exact ⟨by decide, by refine ⟨by decide, by decide, by decide, by decide, by decide, by decide⟩⟩
  · exact ⟨by decide, by refine ⟨by decide, by decide, by decide, by decide, by decide, by decide⟩⟩
theorem soundZ : soundN NV.zero [] = true ∧ okN NV.zero := ⟨by decide, by refine ⟨by decide, by decide, by decide, by decide, by decide, by decide⟩⟩
theorem soundAt (f i : Nat) (h1 : 1 ≤ f) (h2 : f ≤ 2) : soundN (nodeAt (rootN f) i) [] = true ∧ okN (nodeAt (rootN f) i) := by
  unfold nodeAt
  split
  · exact soundR f h1 h2
  · exact soundZ
theorem wrLp (hEnc : EncC call 27) (hM : MustC call) (hPut : PutIm call) (pI pn n f : Nat) (hf1 : 1 ≤ f) (hf2 : f ≤ 2) (vf : Value) (fb : List Nat) (L : List Value) (vb : Value) (h6 : L[6]? = some (nodesV pn)) (h7 : L[7]? = some vb) :
    ∀ (k j : Nat) (bss : List (List Nat)) (h : AH) (tm : PM Value) (N : Nat), j + k = 16 → k + 60 ≤ N → 19 ≤ bss.length → n ≤ h.next → pI < h.next → pn < h.next → BoxL h pI 43 L → NsB h pn (rootN f) → BL n h vb bss → Bks h vf fb →
      tm.get 0 = some (pv pI 0) → tm.get 2 = some (iv (2 * j : Nat)) →
      ∃ tm' h', codeB T0 X0 call N EWr (.loop bodyWr) tm h [] = .jump (.exit 0) tm' h' [] ∧ ((BL n h' vb (wr f k j bss) ∧ BoxL h' pI 43 L ∧ NsB h' pn (rootN f) ∧ Bks h' vf fb) ∧ Grow n h h') := by
  intro k
  induction k with
  | zero =>
    intro j bss h tm N hj hN hl hn hpI hpn hI hNs hb hF g0 g2
    obtain ⟨N, rfl⟩ : ∃ a, N = a + 60 := ⟨N - 60, by omega⟩
    apply Exists.intro; apply Exists.intro
    refine ⟨?_, ⟨hb, hI, hNs, hF⟩, Grow.refl _ _⟩
    rw [codeB_loop]
    simp only [bodyWr, part, Tryz.f12, sub, symM, opFn, Nat.reduceLT, symM, g2, bin_lss, decide_eq_false (show ¬ ((2 * j : Nat) : Int) < 32 by omega)]
    rfl
  | succ k ih =>
    intro j bss h tm N hj hN hl hn hpI hpn hI hNs hb hF g0 g2
    obtain ⟨N, rfl⟩ : ∃ a, N = a + 60 := ⟨N - 60, by omega⟩
    have ld := hI.load agg_nodes h6
    obtain ⟨i1, l1⟩ := hNs.at (2 * j) (by omega)
    obtain ⟨i2, l2⟩ := hNs.at (2 * j + 1) (by omega)
    have ez : nodeAt (rootN f) (2 * j + 1) = NV.zero := by unfold nodeAt; rw [if_neg (by omega)]
    rw [ez] at l2
    obtain ⟨v1, h1, a1, a2, a3⟩ := hEnc (nodeAt (rootN f) (2 * j)) h (soundAt f _ hf1 hf2).1 (soundAt f _ hf1 hf2).2
    have hI1 := hI.grow a3 hpI
    have hNs1 : NsB h1 pn (rootN f) := BoxL.grow hNs a3 hpn
    have ld1 := hI1.load agg_nodes h6
    have l11 := (hNs1.at (2 * j) (by omega)).2
    have l21 := (hNs1.at (2 * j + 1) (by omega)).2
    rw [ez] at l21
    obtain ⟨v2, h2, b1, b2, b3⟩ := hEnc NV.zero h1 soundZ.1 soundZ.2
    have n1 := a3.next
    have n2 := b3.next
    have hI2 := hI1.grow b3 (by omega)
    have hNs2 : NsB h2 pn (rootN f) := BoxL.grow hNs1 b3 (by omega)
    have ld2 := hI2.load agg_nodes h6
    have l22 := (hNs2.at (2 * j + 1) (by omega)).2
    rw [ez] at l22
    have o1 : Own h.next h2 v1 (bytesV (encN (nodeAt (rootN f) (2 * j)) [])) 5 := a2.grow b3
    obtain ⟨v3, h3, c1, c2, c3, _⟩ := app_own o1 b2 (by rw [encN_len, encN_len]; decide) (by omega) 38
    have n3 := c3.next
    have G3 : Grow h.next h h3 := (a3.trans b3 n1).trans c3 (Nat.le_refl _)
    have hI3 := hI.grow G3 hpI
    have hNs3 : NsB h3 pn (rootN f) := BoxL.grow hNs G3 hpn
    have c2 : Own h.next h3 v3 (bytesV (wBlk f j)) 5 := c2
    have hd : Bks h3 v3 (wBlk f j) := Bks.own c2 (by rw [(wBlk_ok f j).1]; decide) (by rw [(wBlk_ok f j).1]; decide) (wBlk_ok f j).2
    have hb3 := hb.grow G3
    obtain ⟨h4, d1, d2, d3, d4, d5⟩ := hPut pI n (3 + j) L vb v3 (wBlk f j) bss h3 hI3 (by omega) h7 hb3 (by omega) hd (by omega)
    have hI4 := hI3.keep (d4 pI (by omega) (hb3.off hI3.ty (by decide)))
    have hNs4 : NsB h4 pn (rootN f) := BoxL.keep hNs3 (d4 pn (by omega) (hb3.off (BoxL.ty hNs3) (by decide)))
    have hF4 : Bks h4 vf fb := (hF.grow G3).keep d3 fun k hk hu => d4 k hk (hb3.off hu (by decide))
    have q2 : ∀ p q h, evBin T0 .quo 3 p q (iv (2 * j : Nat)) (iv 2) h = some (iv j) := fun p q h => by rw [quo2, wz (by omega), show 2 * j / 2 = j by omega]
    have w3 : IntKind.i64.wrap (3 + (j : Int)) = ((3 + j : Nat) : Int) := by rw [wz (by omega)]; omega
    have w1 : IntKind.i64.wrap (((2 * j : Nat) : Int) + 1) = ((2 * j + 1 : Nat) : Int) := wadd1 (by omega)
    have w2 : IntKind.i64.wrap (((2 * j : Nat) : Int) + 2) = ((2 * (j + 1) : Nat) : Int) := by rw [wz (by omega)]; omega
    have hp := plan_wr
    simp only [regOps, part, Tryz.f12, sub] at hp
    rw [show N + 60 = (N + 59) + 1 from rfl, codeB_loop]
    simp only [bodyWr, part, Tryz.f12, sub, symM, opFn, Nat.reduceLT, symM, g2, bin_lss, decide_eq_true (show ((2 * j : Nat) : Int) < 32 by omega)]
    rw [codeB_draw, draw_plan hp rfl]
    simp only [drawAll, opFn, Nat.reduceLT, Nat.reduceBEq, nil_pv, g0, g2, q2, bin_add, w3, w1, w2, field_I, field_st, ld, ld1, i1, i2, l1, l2, l21, eqV_nodeV, eqV_nodes, evCall_fn ft27 rfl, a1, b1, effE_cons, evCall_fn ft25 rfl, hM, c1, evCall_fn ft24 rfl, d1]
    exact wrapE (ih (j + 1) (bss.set (3 + j) (wBlk f j)) h4 _ (N + 59) (by omega) (by omega) (by rw [List.length_set]; exact hl) (by omega) (by omega) (by omega) hI4 hNs4 d2 hF4 (by simp only [symM, Nat.reduceBEq, g0]) get_same) (((G3.less hn).trans d5 (Nat.le_refl _)))
end
end Go.Proofs.YtonfgflgnnkniaaGreat.Abs
namespace Go.Proofs.YtonfgflgnnkniaaGreat.Abs
open Go Go.Proofs
noncomputable section
variable {call : Abs.Callee}
set_option maxRecDepth 10000
theorem ft13 : T0.ft.get 13 = some Tryz.f13 := by kernel_rfl
theorem ft28 : T0.ft.get 28 = some Tryz.f28 := by kernel_rfl
theorem ft54 : T0.ft.get 54 = some Tryz.f54 := by kernel_rfl
theorem ft55 : T0.ft.get 55 = some Tryz.f55 := by kernel_rfl
def flagBy : List Nat := sealB (setAt (List.replicate 64 0) 0 (markL 59))
theorem setAt0_len (l : List Nat) (h : l.length ≤ 64) : (setAt (List.replicate 64 0) 0 l).length = 64 := by rw [setAt_len (by simp; omega)]; simp
theorem flagBy_ok : flagBy.length = 64 ∧ ∀ x ∈ flagBy, x < 256 := by
  refine ⟨sealB_len (by rw [setAt0_len _ (by rw [markL_len]; decide)]; decide), sealB_lt (setAt_lt (by simp) (markL_lt 59))⟩
theorem setsAt_len (size : Nat) : ∀ (ns : List Nat) (bs : List Nat) (a : Nat), a + ns.length * size ≤ bs.length → (setsAt size bs a ns).length = bs.length := by
  intro ns
  induction ns with
  | nil => intros; rfl
  | cons n ns ih =>
    intro bs a h
    simp only [List.length_cons, Nat.add_mul, Nat.one_mul] at h
    have e : (setAt bs a (leN n size)).length = bs.length := setAt_len (by rw [leN_len]; omega)
    rw [setsAt, ih _ _ (by rw [e]; omega), e]
theorem setsAt_lt (size : Nat) : ∀ (ns : List Nat) (bs : List Nat) (a : Nat), (∀ x ∈ bs, x < 256) → ∀ x ∈ setsAt size bs a ns, x < 256 := by
  intro ns
  induction ns with
  | nil => intro bs a h; exact h
  | cons n ns ih => intro bs a h; rw [setsAt]; exact ih _ _ (setAt_lt h fun x hx => leN_lt hx)
theorem supBy_ok (b f : Nat) : (supBy b f).length = 64 ∧ ∀ x ∈ supBy b f, x < 256 := by
  have e0 : (setAt (List.replicate 64 0) 0 [68, 82, 89, 68]).length = 64 := setAt0_len _ (by decide)
  have e1 := setsAt_len 2 [b] (setAt (List.replicate 64 0) 0 [68, 82, 89, 68]) 4 (by rw [e0]; simp)
  have e2 := setsAt_len 1 [f, 0, 0] (setsAt 2 (setAt (List.replicate 64 0) 0 [68, 82, 89, 68]) 4 [b]) 6 (by rw [e1, e0]; simp)
  have e3 := setsAt_len 2 [0] (setsAt 1 (setsAt 2 (setAt (List.replicate 64 0) 0 [68, 82, 89, 68]) 4 [b]) 6 [f, 0, 0]) 10 (by rw [e2, e1, e0]; simp)
  refine ⟨sealB_len (by rw [e3, e2, e1, e0]; decide), sealB_lt (setsAt_lt _ _ _ _ (setsAt_lt _ _ _ _ (setsAt_lt _ _ _ _ (setAt_lt (by simp) (by decide)))))⟩
theorem headBy_ok : headBy.length = 64 ∧ ∀ x ∈ headBy, x < 256 := by
  have e0 : (setAt (List.replicate 64 0) 0 [72, 69, 65, 68]).length = 64 := setAt0_len _ (by decide)
  have e1 := setsAt_len 1 [0] (setAt (List.replicate 64 0) 0 [72, 69, 65, 68]) 4 (by rw [e0]; simp)
  have e2 := setsAt_len 4 [1] (setsAt 1 (setAt (List.replicate 64 0) 0 [72, 69, 65, 68]) 4 [0]) 8 (by rw [e1, e0]; simp)
  exact ⟨sealB_len (by rw [e2, e1, e0]; decide), sealB_lt (setsAt_lt _ _ _ _ (setsAt_lt _ _ _ _ (setAt_lt (by simp) (by decide))))⟩
/-- The image's cells. -/
def imgL (b f : Nat) (vf vn vb : Value) (ws : List Value) : List Value := supL b f ++ [vf, vn, vb] ++ ws
abbrev SEncC (call : Abs.Callee) : Prop := ∀ (B f : Nat) (h : AH), 64 ≤ B → B ≤ 480 → 1 ≤ f → f ≤ 2 → ∃ v' p' h', call 26 [supV B f] h = some (.tuple #[v', iv 0], h') ∧ h.next ≤ p' ∧ p' < h'.next ∧ OwnB p' h' v' (supBy B f) ∧ Grow h.next h h'
theorem Write_S (hSE : SEncC call) (hN : NewPageC call) (hL : PSealC call) (hEnc : EncC call 27) (hM : MustC call) (hPut : PutIm call) (pI pn n B f : Nat) (k1 : 64 ≤ B) (k2 : B ≤ 480) (hf1 : 1 ≤ f) (hf2 : f ≤ 2) (vf vb : Value) (ws : List Value) (bss : List (List Nat)) (h : AH)
    (hI : BoxL h pI 43 (imgL B f vf (nodesV pn) vb ws)) (hpI : pI < h.next) (hNs : NsB h pn (rootN f)) (hpn : pn < h.next) (hF : Bks h vf (markL 59)) (hb : BL n h vb bss) (hl : 19 ≤ bss.length) (hn : n ≤ h.next) :
    ∃ h', frameB T0 X0 call 3000 12 [pv pI 0] h = some (.tuple #[], h') ∧ BL n h' vb (wr f 16 0 ((bss.set 0 (supBy B f)).set 2 flagBy)) ∧ BoxL h' pI 43 (imgL B f vf (nodesV pn) vb ws) ∧ NsB h' pn (rootN f) ∧ Bks h' vf (markL 59) ∧ Grow n h h' := by
  have ldS : evLoad T0 37 (pv pI 0) h = some (supV B f) := hI.loadA (o := 0) (ws := supL B f) agg_Sup sz_Sup (by show 5 ≤ (imgL B f vf (nodesV pn) vb ws).length; simp [imgL, supL]) (fun i x hi => by
    rw [Nat.zero_add]
    unfold imgL
    rw [List.append_assoc, List.getElem?_append_left (List.getElem?_eq_some_iff.1 hi).1]; exact hi)
  have h7 : (imgL B f vf (nodesV pn) vb ws)[7]? = some vb := rfl
  obtain ⟨v1, p1, h1, a1, a2, a3, a4, a5⟩ := hSE B f h k1 k2 hf1 hf2
  have n1 := a5.next
  have hI1 := hI.grow a5 hpI
  have d1 : Bks h1 v1 (supBy B f) := ⟨by rw [(supBy_ok B f).1]; decide, by rw [(supBy_ok B f).1]; decide, (supBy_ok B f).2, p1, a3, a4⟩
  have hb1 := hb.grow a5
  obtain ⟨h2, b1, b2, b3, b4, b5⟩ := hPut pI n 0 _ vb v1 (supBy B f) bss h1 hI1 (by omega) h7 hb1 (by omega) d1 (by omega)
  have hF1 := hF.grow a5
  have hI2 := hI1.keep (b4 pI (by omega) (hb1.off hI1.ty (by decide)))
  have hNs1 : NsB h1 pn (rootN f) := BoxL.grow hNs a5 hpn
  have hNs2 : NsB h2 pn (rootN f) := BoxL.keep hNs1 (b4 pn (by omega) (hb1.off (BoxL.ty hNs1) (by decide)))
  have hF2 : Bks h2 vf (markL 59) := hF1.keep b3 fun k hk hu => b4 k hk (hb1.off hu (by decide))
  have ldF : evLoad T0 38 (pv pI 5) h2 = some vf := hI2.load agg_bytes rfl
  obtain ⟨pb, pp, h3, c1, c2, c3, c4, c5, c6, c7, c8⟩ := hN (markL 59) h2 (by rw [markL_len]; decide) (by intro e; have := congrArg List.length e; rw [markL_len] at this; simp at this) (markL_lt 59)
  have n3 := c8.next
  obtain ⟨v4, p4, h4, e1, e2, e3, e4, e5⟩ := hL pb pp _ h3 c7 c6
  have n4 := e5.next
  have G4 : Grow h2.next h2 h4 := c8.trans e5 n3
  have d4 : Bks h4 v4 flagBy := ⟨by rw [flagBy_ok.1]; decide, by rw [flagBy_ok.1]; decide, flagBy_ok.2, p4, e3, e4⟩
  have hI4 := hI2.grow G4 (by omega)
  have hb4 := b2.grow G4
  obtain ⟨h5, f1, f2, f3, f4, f5⟩ := hPut pI n 2 _ vb v4 flagBy _ h4 hI4 (by omega) h7 hb4 (by rw [List.length_set]; omega) d4 (by omega)
  have hNs4 : NsB h4 pn (rootN f) := BoxL.grow hNs2 G4 (by omega)
  have hI5 := hI4.keep (f4 pI (by omega) (hb4.off hI4.ty (by decide)))
  have hNs5 : NsB h5 pn (rootN f) := BoxL.keep hNs4 (f4 pn (by omega) (hb4.off (BoxL.ty hNs4) (by decide)))
  have hF5 : Bks h5 vf (markL 59) := (hF2.grow G4).keep f3 fun k hk hu => f4 k hk (hb4.off hu (by decide))
  have G5 : Grow n h h5 := (((a5.less hn).trans b5 (Nat.le_refl _)).trans (G4.less (by omega)) (Nat.le_refl _)).trans f5 (Nat.le_refl _)
  have b1 : call 24 [pv pI 0, iv 0, v1] h1 = some (.tuple #[], h2) := b1
  have f1 : call 24 [pv pI 0, iv 2, v4] h4 = some (.tuple #[], h5) := f1
  rw [frameB_eq ft12 rfl rfl]
  simp only [Tryz.f12, symM, opFn, Nat.reduceLT, Nat.reduceBEq, symM, symL, nil_pv, field_I, field_st, ldS, evCall_fn ft26 rfl, a1, evCall_fn ft25 rfl, hM, evCall_fn ft24 rfl, b1, ldF, conv_b2s hF2.row, evCall_fn ft21 rfl, c1, evCall_fn ft23 rfl, e1, f1]
  generalize hX : codeB T0 X0 call _ EWr (.loop _) _ _ _ = X
  obtain ⟨t2, h6, g1, ⟨g2, g3, g4, g4f⟩, g5⟩ := use_exit hX (wrLp hEnc hM hPut pI pn n f hf1 hf2 vf (markL 59) _ vb rfl rfl 16 0 _ h5 _ _ (by omega) (by omega) (by rw [List.length_set, List.length_set]; exact hl) (by omega) (by omega) (by omega) hI5 hNs5 f2 hF5 (by simp only [symM, Nat.reduceBEq]) (by simp only [symM]; rfl))
  clear hX
  subst g1
  refine ⟨h6, ?_, g2, g3, g4, g4f, G5.trans g5 (Nat.le_refl _)⟩
  simp only [symM, symM, symL]
  exact retB_zero ft12 rfl
end
end Go.Proofs.YtonfgflgnnkniaaGreat.Abs
namespace Go.Proofs.YtonfgflgnnkniaaGreat.Abs
open Go Go.Proofs
noncomputable section
variable {call : Abs.Callee}
set_option maxRecDepth 10000
/-- Something is put behind a slice of our own. -/
theorem append_big {T : Tab} {sT xT e : TypeId} {i : TypeInfo} {z : Value} {s : Nat} (hs : und T sT = some (.slice e)) (hi : T.tt.get e = some i) (hz : i.zero = some z) (h1 : i.size = s) (hb : i.bytes ≤ 128)
    {n : Nat} {h : AH} {v x : Value} {k m : Nat} {cs new : List Value} (hv : OwnC s n h v k cs e) (happ : appendedA T xT i z x h = some (m, new)) (hm : new.length = m * s) (hall : new.all oneCell = true) (hl : k + m < 1000000) (hn : n ≤ h.next) (ty : TypeId) :
    ∃ v' h', evBuiltin T .append #[sT, xT] ty [v, x] h = some (.value v', h') ∧ OwnC s n h' v' (k + m) (cs ++ new) e ∧ Grow n h h' ∧ (∀ k, k < h.next → Off v k → h'.get k = h.get k) ∧ (0 < m → OwnC s h.next h' v' (k + m) (cs ++ new) e) := by
  subst h1
  have hev : ∀ {p : Value × AH}, evAppend T sT xT v x h = some p → evBuiltin T .append #[sT, xT] ty [v, x] h = some (.value p.1, p.2) := by
    intro p hp
    show (match evAppend T sT xT v x h with
      | some p => (some (Out.value p.1, p.2) : Res)
      | none => none) = _
    rw [hp]
  have hbnd : (Nat.ble ((k + m) * i.bytes) 17592186044416 && Nat.ble (k + m) 17592186044416) = true := by
    have h2 : (k + m) * i.bytes ≤ 1000000 * 128 := Nat.mul_le_mul (by omega) hb
    rw [Nat.ble_eq_true_of_le (by omega), Nat.ble_eq_true_of_le (by omega)]
    rfl
  have key : ∀ (hh : AH), cs.length = k * i.size → Grow n h hh → n ≤ hh.next → hh.next = h.next → (∀ k, k < h.next → Off v k → hh.get k = h.get k) → ∃ v' h', (some (Out.value (grown hh e (k + m) ((k + m) * i.size) (cs ++ new)).1, (grown hh e (k + m) ((k + m) * i.size) (cs ++ new)).2) : Res) = some (.value v', h') ∧ OwnC i.size n h' v' (k + m) (cs ++ new) e ∧ Grow n h h' ∧ (∀ k, k < h.next → Off v k → h'.get k = h.get k) ∧ (0 < m → OwnC i.size h.next h' v' (k + m) (cs ++ new) e) := by
    intro hh hcs g hnn hnx hkp
    have own : ∀ n', n' ≤ hh.next → OwnC i.size n' (grown hh e (k + m) ((k + m) * i.size) (cs ++ new)).2 (grown hh e (k + m) ((k + m) * i.size) (cs ++ new)).1 (k + m) (cs ++ new) e := fun n' hn' => .inr ⟨hh.next, PM.ofList (cs ++ new), .loose, XB + (k + m), hn', Nat.lt_succ_self _, rfl, get_new_same _ _, by rw [List.length_append, hcs, hm, Nat.add_mul], fun i y hy => by rw [PM.get_ofList]; exact hy, .inr ⟨rfl, rfl⟩⟩
    exact ⟨_, _, rfl, own n hnn, g.trans ((Grow.new hh _).less hnn) (Nat.le_refl _), fun k hk ho => ((Grow.new hh _).keep k (by omega)).trans (hkp k hk ho), fun _ => own h.next (by omega)⟩
  by_cases h0 : m = 0
  · subst h0
    have hnil : new = [] := List.length_eq_zero_iff.1 (by rw [hm, Nat.zero_mul])
    subst hnil
    refine ⟨v, h, ?_, by rw [List.append_nil]; exact hv, Grow.refl _ _, fun _ _ _ => rfl, fun q => absurd q (by omega)⟩
    rcases hv with ⟨rfl, rfl, rfl⟩ | ⟨b, c, kd, cap, q1, q2, rfl, q4, q5, q6, q7⟩
    · apply hev (p := (_, h))
      unfold evAppend
      simp only [hs, hi, hz, happ, appendTo]
      rfl
    · apply hev (p := (_, h))
      unfold evAppend
      have hc : Nat.ble (k + 0) (capOf cap) = true := by
        apply Nat.ble_eq_true_of_le
        rcases q7 with ⟨_, rfl⟩ | ⟨_, rfl⟩
        · unfold capOf; rw [ble_no (by rw [XB_val]; omega)]; exact Nat.le_refl _
        · rw [capOf_ge]; exact Nat.le_refl _
      simp only [hs, hi, hz, happ, appendTo]
      rw [hc]
      rfl
  · rcases hv with ⟨rfl, rfl, rfl⟩ | ⟨b, c, kd, cap, q1, q2, rfl, q4, q5, q6, q7⟩
    · obtain ⟨v', h', k1, k2⟩ := key h (by simp) (Grow.refl _ _) hn rfl (fun _ _ _ => rfl)
      refine ⟨v', h', ?_, k2⟩
      rw [← k1]
      apply hev
      unfold evAppend
      simp only [hs, hi, hz, happ, appendTo]
      rw [ble_no (by show 0 < 0 + m; omega), ifB_false, hbnd]
      rfl
    · have hold : firstA i.size k h (.slice (some ⟨b, 0, none⟩) k cap) = some cs := by
        unfold firstA
        by_cases hk0 : k = 0
        · subst hk0
          rw [show cs = [] from List.length_eq_zero_iff.1 (by rw [q5, Nat.zero_mul])]
          rfl
        · show ifB (Nat.beq k 0) (some []) (ifB (Nat.ble k k) (loadRow h b 0 (k * i.size)) none) = some cs
          rw [show Nat.beq k 0 = false from by cases k with | zero => exact absurd rfl hk0 | succ k => rfl, ifB_false, Nat.ble_eq_true_of_le (Nat.le_refl _), ifB_true, ← q5]
          exact loadRow_of (m := k * i.size) (c := c) q4 (by omega) (fun i y hy => by rw [Nat.zero_add]; exact q6 i y hy)
      rcases q7 with ⟨rfl, rfl⟩ | ⟨rfl, rfl⟩
      · obtain ⟨v', h', k1, k2⟩ := key _ q5 (Grow.refl _ _) hn rfl (fun _ _ _ => rfl)
        refine ⟨v', h', ?_, k2⟩
        rw [← k1]
        apply hev
        have hc : capOf cap = cap := by unfold capOf; rw [ble_no (by rw [XB_val]; omega)]; rfl
        unfold evAppend
        simp only [hs, hi, hz, happ, appendTo, hc]
        rw [ble_no (by omega : cap < cap + m), ifB_false, hbnd, ifB_true, hold]
        simp only
        rw [ble_no (by rw [XB_val]; omega : cap < XB)]
        rfl
      · have gdel : Grow n h (h.del b) := by
          refine ⟨Nat.le_refl _, fun k hk => ?_⟩
          rw [AH.get_del, if_neg (by omega)]
        obtain ⟨v', h', k1, k2⟩ := key _ q5 gdel hn rfl (fun k hk ho => by rw [AH.get_del, if_neg (fun q => by subst q; exact ho _ _ _ rfl)])
        refine ⟨v', h', ?_, k2⟩
        rw [← k1]
        apply hev
        unfold evAppend
        simp only [hs, hi, hz, happ, appendTo, capOf_ge]
        rw [ble_no (by omega : k < k + m), ifB_false, hbnd, ifB_true, hold]
        simp only
        rw [Nat.ble_eq_true_of_le (by omega : XB ≤ XB + k), ifB_true]
        have hl : looseEl h b e = true := by
          unfold looseEl
          rw [q4]
          show (Nat.beq e e && Nat.ble 0 0) = true
          rw [Nat.beq_refl]; rfl
        rw [hl, hall]
        rfl
def SLv (v : Value) : Prop := ∃ a l c, v = .slice (some ⟨a, 0, none⟩) l c
theorem SLv.one1 {v : Value} (h : SLv v) : oneCell v = true ∧ v.cells.toList = [v] ∧ eqV v v = true := by
  obtain ⟨a, l, c, rfl⟩ := h
  exact ⟨rfl, rfl, eqV_slice⟩
theorem Bks.sl {h : AH} {w : Value} {bs : List Nat} (hb : Bks h w bs) : SLv w := by
  obtain ⟨_, _, _, p, h1, c, kd, cap, q, _⟩ := hb
  exact ⟨_, _, _, q⟩
theorem BL.sl {n : Nat} {h : AH} {v : Value} {bss : List (List Nat)} (hb : BL n h v bss) (h0 : bss.length ≠ 0) : SLv v := by
  obtain ⟨vs, a1, a2, _⟩ := hb
  rcases a1 with ⟨_, rfl⟩ | ⟨b, c, kd, cap, _, _, rfl, _⟩
  · exact absurd a2.symm h0
  · exact ⟨_, _, _, rfl⟩
theorem tt_Node : T0.tt.get 51 = some (infoOf 51) := by kernel_rfl
theorem ti_Node : (infoOf 51).zero = some (nodeV NV.zero nilV) ∧ (infoOf 51).size = 12 ∧ (infoOf 51).bytes ≤ 128 := ⟨by kernel_rfl, by kernel_rfl, Nat.le_of_ble_eq_true (by kernel_rfl)⟩
theorem nil_eqN {a l c : Nat} {p q : Operand} {h : AH} : evBin T0 .eql 39 p q (.slice (some ⟨a, 0, none⟩) l c) nilV h = some (.bool false) := by kernel_rfl
theorem nil_eqBB {a l c : Nat} {p q : Operand} {h : AH} : evBin T0 .eql 30 p q (.slice (some ⟨a, 0, none⟩) l c) nilV h = some (.bool false) := by kernel_rfl
theorem bs_n0 {h : AH} : evBuildSlice T0 39 0 [] h = some (.slice (some ⟨h.next, 0, none⟩) 0 0, h.new (.cells (PM.ofList []) 0 51 0 0 .ex)) := by kernel_rfl
theorem bs_bb0 {h : AH} : evBuildSlice T0 30 0 [] h = some (.slice (some ⟨h.next, 0, none⟩) 0 0, h.new (.cells (PM.ofList []) 0 38 0 0 .ex)) := by kernel_rfl
theorem nodesL_one (a : NV) : (nodesL a).all oneCell = true := by
  rw [List.all_eq_true]
  intro x hx
  unfold nodesL at hx
  obtain ⟨k, _, rfl⟩ := List.mem_map.1 hx
  have hk : k % 12 < 12 := Nat.mod_lt _ (by decide)
  generalize k % 12 = j at hk
  generalize (if k < 12 then a else NV.zero) = b
  match j, hk with
  | 0, _ | 1, _ | 2, _ | 3, _ | 4, _ | 5, _ | 6, _ | 7, _ | 8, _ | 9, _ | 10, _ | 11, _ => rfl
theorem CloneN_S (pn : Nat) (a : NV) (h : AH) (hb : NsB h pn a) (hp : pn < h.next) :
    ∃ v' h', frameB T0 X0 call 3000 54 [nodesV pn] h = some (v', h') ∧ SLv v' ∧ Grow h.next h h' := by
  have g1 := Grow.new h (.cells (PM.ofList []) 0 51 0 0 .ex)
  have ho : OwnC 12 h.next (h.new (.cells (PM.ofList []) 0 51 0 0 .ex)) (.slice (some ⟨h.next, 0, none⟩) 0 0) 0 [] 51 := .inr ⟨h.next, PM.ofList [], .ex, 0, Nat.le_refl _, Nat.lt_succ_self _, rfl, get_new_same _ _, rfl, fun i x hx => by simp at hx, .inl ⟨rfl, rfl⟩⟩
  obtain ⟨c, c1, c2⟩ := BoxL.grow hb g1 hp
  obtain ⟨v', h', e1, e2, e3, _⟩ := append_big und_nodes tt_Node ti_Node.1 ti_Node.2.1 ti_Node.2.2 ho (appended_slice (k := 32) (cap := 32) (new := nodesL a) und_nodes c1 (by rw [nodesL_len, ti_Node.2.1]) (by rw [nodesL_len, ti_Node.2.1]; exact Nat.le_refl _) c2) (by rw [nodesL_len]) (nodesL_one a) (by omega) g1.next 39
  have e1 : evBuiltin T0 .append #[39, 39] 39 [.slice (some ⟨h.next, 0, none⟩) 0 0, .slice (some ⟨pn, 0, none⟩) 32 32] (h.new (.cells (PM.ofList []) 0 51 0 0 .ex)) = some (.value v', h') := e1
  refine ⟨v', h', ?_, ?_, g1.trans e3 (Nat.le_refl _)⟩
  · rw [frameB_eq ft54 rfl rfl]
    simp only [Tryz.f54, symM, opFn, Nat.reduceLT, Nat.reduceBEq, symM, nodesV, nil_eqN, bs_n0, e1]
    exact retB_one ft54 rfl get_same
  · rcases e2 with ⟨_, q, _⟩ | ⟨b, c, kd, cap, _, _, rfl, _⟩
    · simp at q
    · exact ⟨_, _, _, rfl⟩
theorem CloneBB_S (n : Nat) (v : Value) (bss : List (List Nat)) (h : AH) (hb : BL n h v bss) (h0 : bss.length ≠ 0) (hl : bss.length < 1000) :
    ∃ v' h', frameB T0 X0 call 3000 55 [v] h = some (v', h') ∧ BL h.next h' v' bss ∧ Grow h.next h h' := by
  obtain ⟨a, l, cc, hv⟩ := hb.sl h0
  have g1 := Grow.new h (.cells (PM.ofList []) 0 38 0 0 .ex)
  have ho : OwnC 1 h.next (h.new (.cells (PM.ofList []) 0 38 0 0 .ex)) (.slice (some ⟨h.next, 0, none⟩) 0 0) 0 [] 38 := .inr ⟨h.next, PM.ofList [], .ex, 0, Nat.le_refl _, Nat.lt_succ_self _, rfl, get_new_same _ _, rfl, fun i x hx => by simp at hx, .inl ⟨rfl, rfl⟩⟩
  obtain ⟨vs, b1, b2, b3⟩ := hb.grow g1
  have hx2 := b1.c
  rw [← ti_bytes.2.1] at hx2
  have hall : vs.all oneCell = true := by
    rw [List.all_eq_true]
    intro x hx
    obtain ⟨i, hi, rfl⟩ := List.getElem_of_mem hx
    exact (b3 i _ _ (List.getElem?_eq_getElem hi) (List.getElem?_eq_getElem (by rw [← b2]; exact hi))).one1.1
  obtain ⟨v', h', e1, e2, e3, _⟩ := append_gen und_blocks tt_bytes ti_bytes.1 ti_bytes.2.1 ti_bytes.2.2 ho (appended_own und_blocks hx2) (Nat.mul_one _).symm hall (by omega) g1.next 30
  refine ⟨v', h', ?_, ⟨vs, by have := e2.own; simpa using this, b2, fun i w bs p q => (b3 i w bs p q).keep e3.next fun k hk hu => e3.keep k ?_⟩, g1.trans e3 (Nat.le_refl _)⟩
  · subst hv
    rw [frameB_eq ft55 rfl rfl]
    simp only [Tryz.f55, symM, opFn, Nat.reduceLT, Nat.reduceBEq, symM, nil_eqBB, bs_bb0, e1]
    exact retB_one ft55 rfl get_same
  · have hne : k ≠ h.next := tyAt.ne hu (⟨_, _, _, _, _, get_new_same _ _⟩ : tyAt (h.new (.cells (PM.ofList []) 0 38 0 0 .ex)) h.next 38) (by decide)
    have : k < h.next + 1 := hk
    omega
/-- A state's cells. -/
def stL (b f : Nat) (vf vn vb : Value) : List Value := supL b f ++ [vf, vn, vb]
def stV (b f : Nat) (vf vn vb : Value) : Value := .agg (stL b f vf vn vb).toArray
theorem sz_st : szOf T0 41 = some 8 := by kernel_rfl
theorem alloc_st {h : AH} : evAlloc T0 41 h = some (pv h.next 0, h.new (.cells (PM.ofList (stL 0 0 nilV nilV nilV)) 8 41 0 0 .ex)) := by
  unfold evAlloc
  rw [show zeroOf T0 41 = some (stV 0 0 nilV nilV nilV) from by kernel_rfl]
  rfl
theorem box_st {b f : Nat} {vf vn vb : Value} {h : AH} : rp (some (evNewVar h 41 (stV b f vf vn vb))) = some (.value (pv h.next 0), h.new (.cells (PM.ofList (stL b f vf vn vb)) (stL b f vf vn vb).length 41 0 0 .ex)) := box_agg
theorem build_st {b f : Nat} {vf vn vb : Value} {h : AH} (h1 : SLv vf) (h2 : SLv vn) (h3 : SLv vb) : evBuild T0 41 [(0, supV b f), (1, vf), (2, vn), (3, vb)] h = some (stV b f vf vn vb, h) := by
  obtain ⟨_, _, _, rfl⟩ := h1
  obtain ⟨_, _, _, rfl⟩ := h2
  obtain ⟨_, _, _, rfl⟩ := h3
  kernel_rfl
theorem stL_one {b f : Nat} {vf vn vb : Value} (h1 : SLv vf) (h2 : SLv vn) (h3 : SLv vb) : (stL b f vf vn vb).all oneCell = true := by
  obtain ⟨_, _, _, rfl⟩ := h1
  obtain ⟨_, _, _, rfl⟩ := h2
  obtain ⟨_, _, _, rfl⟩ := h3
  rfl
theorem stL_loads {h : AH} {p b f : Nat} {vf vn vb : Value} (hb : BoxL h p 41 (stL b f vf vn vb)) : evLoad T0 37 (pv p 0) h = some (supV b f) ∧ evLoad T0 38 (pv p 5) h = some vf ∧ evLoad T0 39 (pv p 6) h = some vn ∧ evLoad T0 30 (pv p 7) h = some vb ∧ evLoad T0 41 (pv p 0) h = some (stV b f vf vn vb) :=
  ⟨hb.loadA (o := 0) (ws := supL b f) agg_Sup sz_Sup (by show 5 ≤ 8; decide) (fun i x hi => by
    rw [Nat.zero_add]
    unfold stL
    rw [List.getElem?_append_left (List.getElem?_eq_some_iff.1 hi).1]; exact hi), hb.load agg_bytes rfl, hb.load agg_nodes rfl, hb.load agg_blocks rfl, hb.loadA (o := 0) (ws := stL b f vf vn vb) agg_state sz_st (Nat.le_refl _) (fun i x hi => by rw [Nat.zero_add]; exact hi)⟩
theorem eqV_sup (b f : Nat) : eqV (supV b f) (supV b f) = true := by simp [supV, supL, eqV, eqVs]
theorem plan_cp : planB (regOps Tryz.f28 [1, 0]) 15 = some ([.one 0, .one 1, .one 2, .one 3, .one 5, .one 6, .one 8, .one 9, .eff [] 4 [0, 1, 5, 6, 8, 9], .eff [] 7 [0, 1, 8, 9], .eff [] 10 [0, 1], .one 11, .eff [] 12 []], []) := by kernel_rfl
abbrev CloNC (call : Abs.Callee) : Prop := ∀ (pn : Nat) (a : NV) (h : AH), NsB h pn a → pn < h.next → ∃ v' h', call 54 [nodesV pn] h = some (v', h') ∧ SLv v' ∧ Grow h.next h h'
abbrev CloBC (call : Abs.Callee) : Prop := ∀ (n : Nat) (v : Value) (bss : List (List Nat)) (h : AH), BL n h v bss → bss.length ≠ 0 → bss.length < 1000 → ∃ v' h', call 55 [v] h = some (v', h') ∧ BL h.next h' v' bss ∧ Grow h.next h h'
theorem Copy_S (hCl : BCloneC call) (hN : CloNC call) (hB : CloBC call) (pn n B f : Nat) (vf vb : Value) (fb : List Nat) (bss : List (List Nat)) (h : AH) (hNs : NsB h pn (rootN f)) (hpn : pn < h.next) (hF : Bks h vf fb) (hb : BL n h vb bss) (h0 : bss.length ≠ 0) (hl : bss.length < 1000) :
    ∃ vf' vn' vb' h', frameB T0 X0 call 3000 28 [stV B f vf (nodesV pn) vb] h = some (stV B f vf' vn' vb', h') ∧ SLv vf' ∧ SLv vn' ∧ BL h.next h' vb' bss ∧ Grow h.next h h' := by
  generalize hh1 : h.new (.cells (PM.ofList (stL B f vf (nodesV pn) vb)) (stL B f vf (nodesV pn) vb).length 41 0 0 .ex) = h1
  have g1 : Grow h.next h h1 := by rw [← hh1]; exact Grow.new _ _
  have n1 : h1.next = h.next + 1 := by rw [← hh1]; rfl
  have s1 : BoxL h1 h.next 41 (stL B f vf (nodesV pn) vb) := by rw [← hh1]; exact BoxL.new _ _ _
  generalize hh2 : h1.new (.cells (PM.ofList (stL 0 0 nilV nilV nilV)) 8 41 0 0 .ex) = h2
  have g2 : Grow h1.next h1 h2 := by rw [← hh2]; exact Grow.new _ _
  have n2 : h2.next = h1.next + 1 := by rw [← hh2]; rfl
  have s2 : BoxL h2 h1.next 41 (stL 0 0 nilV nilV nilV) := by rw [← hh2]; exact BoxL.new _ _ _
  have G2 : Grow h.next h h2 := g1.trans g2 (by omega)
  have s12 := s1.grow g2 (by omega)
  obtain ⟨vf', h3, a1, a2, a3⟩ := (hF.grow G2).clone hCl
  have n3 := a3.next
  have G3 := G2.trans a3 G2.next
  have s13 := s12.grow a3 (by omega)
  obtain ⟨vn', h4, b1, b2, b3⟩ := hN pn _ h3 (BoxL.grow hNs G3 hpn) (by omega)
  have n4 := b3.next
  have G4 := G3.trans b3 G3.next
  have s14 := s13.grow b3 (by omega)
  obtain ⟨vb', h5, c1, c2, c3⟩ := hB n vb bss h4 (hb.grow G4) h0 hl
  have n5 := c3.next
  have G5 := G4.trans c3 G4.next
  have s15 := s14.grow c3 (by omega)
  have s25 : BoxL h5 h1.next 41 (stL 0 0 nilV nilV nilV) := ((s2.grow a3 (by omega)).grow b3 (by omega)).grow c3 (by omega)
  have k1 := a2.sl
  have k3 := c2.sl h0
  have kb := hb.sl h0
  obtain ⟨h6, d1, d2, d3, d4⟩ := BoxL.store (n := h.next) (o := 0) (v := stV B f vf' vn' vb') s25 (ws := stL B f vf' vn' vb') sz_st rfl (by simp [stL, supL]) (stL_one k1 b2 k3) (Nat.le_refl _) (by omega)
  have d2 : BoxL h6 h1.next 41 (stL B f vf' vn' vb') := d2
  have dk := evStore_keep d1
  refine ⟨vf', vn', vb', h6, ?_, k1, b2, ?_, G5.trans d3 (Nat.le_refl _)⟩
  · have hp := plan_cp
    simp only [regOps, part, Tryz.f28, sub] at hp
    have l2 := stL_loads s12
    have l3 := stL_loads s13
    have l4 := stL_loads s14
    have l5 := stL_loads s15
    have ef := hF.sl.one1.2.2
    have eb := kb.one1.2.2
    rw [frameB_eq ft28 rfl rfl]
    simp only [Tryz.f28, symM, opFn, Nat.reduceLT, symM, box_st, hh1, alloc_st, hh2]
    rw [codeB_draw, draw_plan hp rfl]
    simp only [drawAll, opFn, Nat.reduceBEq, field_st, l2, l3, l4, l5, eqV_sup, eb, eqV_nodes, evCall_fn ft17 rfl, a1, effE_cons, evCall_fn ft54 rfl, b1, evCall_fn ft55 rfl, c1, build_st k1 b2 k3, d1]
    exact retB_cell ft28 rfl (by simp only [symM, Nat.reduceBEq]) (stL_loads d2).2.2.2.2
  · exact (c2.one ⟨d4, dk⟩ s25.ty (by decide) (by decide)).less (by omega)
end
end Go.Proofs.YtonfgflgnnkniaaGreat.Abs
