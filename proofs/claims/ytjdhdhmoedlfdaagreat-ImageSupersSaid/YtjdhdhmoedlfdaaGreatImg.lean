
/- The image: its cells, its blocks. -/
import Derived.Test.YtjdhdhmoedlfdaaGreatPage
namespace Go.Proofs.YtjdhdhmoedlfdaaGreat.Abs
open Go Go.Proofs
noncomputable section
variable {call : Abs.Callee}
set_option maxRecDepth 10000
theorem ft70 : T0.ft.get 70 = some Tryz.f70 := by kernel_rfl
theorem ft45 : T0.ft.get 45 = some Tryz.f45 := by kernel_rfl
theorem und_blocks : und T0 22 = some (.slice 57) := by kernel_rfl
theorem sz_bytes : szOf T0 57 = some 1 := by kernel_rfl
theorem agg_blocks : aggT T0 22 = some false := by kernel_rfl
theorem agg_nodes : aggT T0 38 = some false := by kernel_rfl
theorem agg_state : aggT T0 67 = some true := by kernel_rfl
theorem zero_bytes : zeroOf T0 57 = some nilV := by kernel_rfl
theorem tt_bytes : T0.tt.get 57 = some (infoOf 57) := by kernel_rfl
theorem ti_bytes : (infoOf 57).zero = some nilV ∧ (infoOf 57).size = 1 ∧ (infoOf 57).bytes ≤ 64 := ⟨by kernel_rfl, by kernel_rfl, Nat.le_of_ble_eq_true (by kernel_rfl)⟩
theorem field_I {b : Nat} : evFieldAddr T0 69 (pv b 0) 0 = some (pv b 0) ∧ evFieldAddr T0 69 (pv b 0) 1 = some (pv b 8) := ⟨by kernel_rfl, by kernel_rfl⟩
theorem field_st {b : Nat} : evFieldAddr T0 67 (pv b 0) 0 = some (pv b 0) ∧ evFieldAddr T0 67 (pv b 0) 1 = some (pv b 5) ∧ evFieldAddr T0 67 (pv b 0) 2 = some (pv b 6) ∧ evFieldAddr T0 67 (pv b 0) 3 = some (pv b 7) ∧ evFieldAddr T0 67 (pv b 8) 0 = some (pv b 8) ∧ evFieldAddr T0 67 (pv b 8) 3 = some (pv b 15) :=
  ⟨by kernel_rfl, by kernel_rfl, by kernel_rfl, by kernel_rfl, by kernel_rfl, by kernel_rfl⟩
def tyAt (h : AH) (k e : Nat) : Prop := ∃ c m lo hi kd, h.get k = some (.cells c m e lo hi kd)
theorem tyAt.ne {h : AH} {k e k' e' : Nat} (a : tyAt h k e) (b : tyAt h k' e') (hne : e ≠ e') : k ≠ k' := by
  rintro rfl
  obtain ⟨c, m, lo, hi, kd, q⟩ := a
  obtain ⟨c', m', lo', hi', kd', q'⟩ := b
  rw [q] at q'
  cases q'
  exact hne rfl
theorem OwnB.ty {p : Nat} {h : AH} {v : Value} {bs : List Nat} (ho : OwnB p h v bs) : tyAt h p 5 := by
  obtain ⟨c, kd, cap, _, h2, _⟩ := ho
  exact ⟨_, _, _, _, _, h2⟩
theorem BoxL.ty {h : AH} {b el : Nat} {l : List Value} (hb : BoxL h b el l) : tyAt h b el := by
  obtain ⟨c, h1, _⟩ := hb
  exact ⟨_, _, _, _, _, h1⟩
theorem Own.offT {n : Nat} {h : AH} {v : Value} {l : List Value} {e k e' : Nat} (ho : Own n h v l e) (t : tyAt h k e') (hne : e ≠ e') : Off v k := by
  intro o l' c hv
  rcases ho with ⟨rfl, _⟩ | ⟨b, cc, kd, cap, _, _, rfl, h4, _⟩
  · cases hv
  · cases hv
    exact (tyAt.ne (⟨_, _, _, _, _, h4⟩ : tyAt h k e) t hne) rfl
def Bks (h : AH) (w : Value) (bs : List Nat) : Prop := bs.length ≠ 0 ∧ bs.length < 1000 ∧ (∀ x ∈ bs, x < 256) ∧ ∃ p, p < h.next ∧ OwnB p h w bs
def BL (n : Nat) (h : AH) (v : Value) (bss : List (List Nat)) : Prop := ∃ vs, Own n h v vs 57 ∧ vs.length = bss.length ∧ ∀ (i : Nat) (w : Value) (bs : List Nat), vs[i]? = some w → bss[i]? = some bs → Bks h w bs
theorem Bks.keep {h h' : AH} {w : Value} {bs : List Nat} (hb : Bks h w bs) (hn : h.next ≤ h'.next) (hk : ∀ k, k < h.next → tyAt h k 5 → h'.get k = h.get k) : Bks h' w bs := by
  obtain ⟨a, b, c, p, h1, h2⟩ := hb
  exact ⟨a, b, c, p, Nat.lt_of_lt_of_le h1 hn, h2.keep (hk p h1 h2.ty)⟩
theorem Bks.grow {h h' : AH} {w : Value} {bs : List Nat} (hb : Bks h w bs) (g : Grow h.next h h') : Bks h' w bs := hb.keep g.next fun k hk _ => g.keep k hk
theorem Bks.own {n : Nat} {h : AH} {w : Value} {bs : List Nat} (ho : Own n h w (bytesV bs) 5) (h0 : bs.length ≠ 0) (hl : bs.length < 1000) (hb : ∀ x ∈ bs, x < 256) : Bks h w bs := by
  obtain ⟨p, _, h2, h3⟩ := ho.toB h0
  exact ⟨h0, hl, hb, p, h2, h3⟩
theorem Bks.row {h : AH} {w : Value} {bs : List Nat} (hb : Bks h w bs) : Row h.next h w (bytesV bs) 5 := by
  obtain ⟨_, _, _, p, h1, h2⟩ := hb
  exact h2.row.more (by omega)
theorem Bks.one1 {h : AH} {w : Value} {bs : List Nat} (hb : Bks h w bs) : oneCell w = true ∧ w.cells.toList = [w] ∧ eqV w w = true := by
  obtain ⟨_, _, _, p, h1, h2⟩ := hb
  exact h2.one1
theorem BL.grow {n : Nat} {h h' : AH} {v : Value} {bss : List (List Nat)} (hb : BL n h v bss) (g : Grow h.next h h') : BL n h' v bss := by
  obtain ⟨vs, h1, h2, h3⟩ := hb
  exact ⟨vs, h1.grow g, h2, fun i w bs a b => (h3 i w bs a b).grow g⟩
theorem BL.less {n m : Nat} {h : AH} {v : Value} {bss : List (List Nat)} (hb : BL m h v bss) (hn : n ≤ m) : BL n h v bss := by
  obtain ⟨vs, h1, h2, h3⟩ := hb
  exact ⟨vs, h1.less hn, h2, h3⟩
theorem BL.one {n p e : Nat} {h h' : AH} {v : Value} {bss : List (List Nat)} (hb : BL n h v bss) (o : One p h h') (t : tyAt h p e) (h1 : e ≠ 57) (h2 : e ≠ 5) : BL n h' v bss := by
  obtain ⟨vs, a1, a2, a3⟩ := hb
  refine ⟨vs, a1.but (a1.offT t (Ne.symm h1)) (Nat.le_of_eq o.next.symm) o.keep, a2, fun i w bs a b => (a3 i w bs a b).keep (Nat.le_of_eq o.next.symm) fun k hk hu => o.keep k (tyAt.ne hu t (Ne.symm h2))⟩
theorem BL.len {n : Nat} {h h' : AH} {v : Value} {bss : List (List Nat)} (hb : BL n h v bss) (ty : TypeId) : evBuiltin T0 .len #[22] ty [v] h' = some (.value (iv bss.length), h') := by
  obtain ⟨vs, a1, a2, _⟩ := hb
  rw [← a2]
  exact a1.row.len und_blocks
theorem BL.eqv {n : Nat} {h : AH} {v : Value} {bss : List (List Nat)} (hb : BL n h v bss) : eqV v v = true := by
  obtain ⟨vs, a1, _⟩ := hb
  exact a1.eqv
theorem BL.at {n i : Nat} {h : AH} {v : Value} {bs : List Nat} {bss : List (List Nat)} (hb : BL n h v bss) (hi : bss[i]? = some bs) : ∃ p w, evIndexAddr T0 22 v (iv i) = some p ∧ evLoad T0 57 p h = some w ∧ Bks h w bs := by
  obtain ⟨vs, a1, a2, a3⟩ := hb
  have hl := (List.getElem?_eq_some_iff.1 hi).1
  obtain ⟨w, hw⟩ : ∃ w, vs[i]? = some w := ⟨_, List.getElem?_eq_getElem (by rw [a2]; exact hl)⟩
  obtain ⟨p, b1, b2⟩ := a1.row.at und_blocks sz_bytes agg_bytes hw
  exact ⟨p, w, b1, b2, a3 i w bs hw hi⟩
theorem BL.store {n i : Nat} {h : AH} {v w : Value} {bs : List Nat} {bss : List (List Nat)} (hb : BL n h v bss) (hi : i < bss.length) (hw : Bks h w bs) :
    ∃ p h', evIndexAddr T0 22 v (iv i) = some p ∧ evStore T0 57 p w h = some h' ∧ BL n h' v (bss.set i bs) ∧ Grow n h h' ∧ h'.next = h.next ∧ ∀ k, Off v k → h'.get k = h.get k := by
  obtain ⟨vs, a1, a2, a3⟩ := hb
  obtain ⟨y, hy⟩ : ∃ y, vs[i]? = some y := ⟨_, List.getElem?_eq_getElem (by rw [a2]; exact hi)⟩
  obtain ⟨p, h', b1, b2, b3, b4, b5, b6⟩ := a1.store2 und_blocks sz_bytes hw.one1.1 hy
  have ku : ∀ k, k < h.next → tyAt h k 5 → h'.get k = h.get k := fun k _ hu => b6 k (a1.offT hu (by decide))
  refine ⟨p, h', b1, b2, ⟨vs.set i w, b3, by simp [a2], ?_⟩, b4, b5, b6⟩
  intro j x cs hj hc
  rw [List.getElem?_set] at hj hc
  by_cases e : i = j
  · subst e
    rw [if_pos rfl] at hj hc
    rw [if_pos (by rw [a2]; exact hi)] at hj
    rw [if_pos hi] at hc
    cases hj; cases hc
    exact hw.keep (Nat.le_of_eq b5.symm) ku
  · rw [if_neg e] at hj hc
    exact (a3 j x cs hj hc).keep (Nat.le_of_eq b5.symm) ku
theorem BL.off {n p e : Nat} {h : AH} {v : Value} {bss : List (List Nat)} (hb : BL n h v bss) (t : tyAt h p e) (h1 : e ≠ 57) : Off v p := by
  obtain ⟨vs, a1, _⟩ := hb
  exact a1.offT t (Ne.symm h1)
theorem must_S (v : Value) (h : AH) : frameB T0 X0 call 3000 70 [v, iv 0] h = some (v, h) := by
  rw [frameB_eq ft70 rfl rfl]
  simp only [Tryz.f70, symM, opFn, Nat.reduceLT, Nat.reduceBEq, symM, bin_neq, show ((0 : Int) == 0) = true from rfl]
  exact retB_one ft70 rfl get_same
abbrev BEqC (call : Abs.Callee) : Prop := ∀ (l m : List Nat) (v w : Value) (n0 n1 : Nat) (h : AH), (∀ x ∈ l, x < 256) → (∀ x ∈ m, x < 256) → Row n0 h v (bytesV l) 5 → Row n1 h w (bytesV m) 5 → call 71 [v, w] h = some (.bool (decide (l = m)), h)
theorem Bks.clone {h : AH} {w : Value} {bs : List Nat} (hCl : BCloneC call) (hb : Bks h w bs) : ∃ w' h', call 29 [w] h = some (w', h') ∧ Bks h' w' bs ∧ Grow h.next h h' := by
  obtain ⟨a, b, c, p, h1, h2⟩ := hb
  obtain ⟨v', p', h', e1, e2, e3, e4, e5⟩ := hCl p w bs h h2 h1 a b
  exact ⟨v', h', e1, ⟨a, b, c, p', e3, e4⟩, e5⟩
theorem plan_put : planB (regOps Tryz.f45 [1, 0]) 26 = some ([.one 0, .one 1, .one 2, .one 3, .one 4, .one 5, .one 6, .eff [] 7 [0, 1, 2, 3, 4, 5], .one 8, .eff [] 9 []], []) := by kernel_rfl
theorem put_S' (hCl : BCloneC call) (hE : BEqC call) (pI n i : Nat) (L : List Value) (vb vd : Value) (bs : List Nat) (bss : List (List Nat)) (h : AH) (hI : BoxL h pI 69 L) (hpI : pI < h.next) (h7 : L[7]? = some vb) (hb : BL n h vb bss) (hi : i < bss.length) (hd : Bks h vd bs) (hn : n ≤ h.next) :
    ∃ h', frameB T0 X0 call 3000 45 [pv pI 0, iv i, vd] h = some (.tuple #[], h') ∧ BL n h' vb (bss.set i bs) ∧ h.next ≤ h'.next ∧ (∀ k, k < h.next → Off vb k → h'.get k = h.get k) ∧ Grow n h h' := by
  obtain ⟨cs, hcs⟩ : ∃ cs, bss[i]? = some cs := ⟨_, List.getElem?_eq_getElem hi⟩
  obtain ⟨p, w, a1, a2, a3⟩ := hb.at hcs
  have ld := hI.load agg_blocks h7
  have he := hE cs bs w vd _ _ h a3.2.2.1 hd.2.2.1 a3.row hd.row
  rw [frameB_eq ft45 rfl rfl]
  by_cases e : cs = bs
  · subst e
    rw [decide_eq_true rfl] at he
    refine ⟨h, ?_, ?_, Nat.le_refl _, fun _ _ _ => rfl, Grow.refl _ _⟩
    · simp only [Tryz.f45, symM, opFn, Nat.reduceLT, Nat.reduceBEq, symM, nil_pv, field_I, field_st, ld, a1, a2, evCall_fn ft71 rfl, he]
      exact retB_zero ft45 rfl
    · have : bss.set i cs = bss := by
        apply List.ext_getElem?
        intro j
        rw [List.getElem?_set]
        split
        · rename_i q; subst q
          first | exact hcs.symm | rw [if_pos hi, hcs]
        · rfl
      rw [this]; exact hb
  · rw [decide_eq_false e] at he
    obtain ⟨w1, h1, b1, b2, b3⟩ := hd.clone hCl
    have hI1 := hI.grow b3 hpI
    have ld1 := hI1.load agg_blocks h7
    have hb1 := hb.grow b3
    obtain ⟨q, h2, c1, c2, c3, c4, c5, c6⟩ := hb1.store hi b2
    refine ⟨h2, ?_, c3, by rw [c5]; exact b3.next, fun k hk ho => (c6 k ho).trans (b3.keep k hk), (b3.less hn).trans c4 (Nat.le_refl _)⟩
    have hp := plan_put
    simp only [regOps, part, Tryz.f45, sub] at hp
    simp only [Tryz.f45, symM, opFn, Nat.reduceLT, Nat.reduceBEq, symM, nil_pv, field_I, field_st, ld, a1, a2, evCall_fn ft71 rfl, he]
    rw [codeB_draw, draw_plan hp rfl]
    simp only [drawAll, opFn, Nat.reduceBEq, nil_pv, field_I, field_st, ld, ld1, hb.eqv, evCall_fn ft29 rfl, b1, effE_cons, c1, c2]
    exact retB_zero ft45 rfl
end
end Go.Proofs.YtjdhdhmoedlfdaaGreat.Abs
namespace Go.Proofs.YtjdhdhmoedlfdaaGreat.Abs
open Go Go.Proofs
noncomputable section
variable {call : Abs.Callee}
set_option maxRecDepth 10000
theorem und_nodes : und T0 38 = some (.slice 48) := by kernel_rfl
def nodesL (a : NV) : List Value := (List.range 384).map fun k => (nodeL (if k < 12 then a else NV.zero) nilV).getD (k % 12) default
theorem nodesL_len (a : NV) : (nodesL a).length = 384 := by simp [nodesL]
def nodeAt (a : NV) (i : Nat) : NV := if i = 0 then a else NV.zero
theorem nodesL_at (a : NV) (i : Nat) (hi : i < 32) : ∀ j x, (nodeL (nodeAt a i) nilV)[j]? = some x → (nodesL a)[i * 12 + j]? = some x := by
  intro j x hj
  have hj12 : j < 12 := by
    have := (List.getElem?_eq_some_iff.1 hj).1
    simpa [nodeL] using this
  unfold nodesL
  rw [List.getElem?_map, List.getElem?_range (by omega)]
  simp only [Option.map_some]
  rw [show (i * 12 + j) % 12 = j by omega]
  unfold nodeAt at hj
  by_cases h0 : i = 0
  · rw [if_pos h0] at hj
    rw [if_pos (by omega), List.getD_eq_getElem?_getD, hj]; rfl
  · rw [if_neg h0] at hj
    rw [if_neg (by omega), List.getD_eq_getElem?_getD, hj]; rfl
def nodesV (pn : Nat) : Value := .slice (some ⟨pn, 0, none⟩) 32 32
def NsB (h : AH) (pn : Nat) (a : NV) : Prop := BoxL h pn 48 (nodesL a)
theorem NsB.at {h : AH} {pn : Nat} {a : NV} (hb : NsB h pn a) (i : Nat) (hi : i < 32) : evIndexAddr T0 38 (nodesV pn) (iv i) = some (pv pn (0 + i * 12)) ∧ evLoad T0 48 (pv pn (0 + i * 12)) h = some (nodeV (nodeAt a i) nilV) := by
  refine ⟨idx_slice und_nodes sz_Node hi, ?_⟩
  exact BoxL.loadA hb agg_Node (ws := nodeL (nodeAt a i) nilV) sz_Node (by rw [nodesL_len]; show 0 + i * 12 + 12 ≤ 384; omega) (fun j x hj => by rw [Nat.zero_add]; exact nodesL_at a i hi j x hj)
abbrev MustC (call : Abs.Callee) : Prop := ∀ (v : Value) (h : AH), call 70 [v, iv 0] h = some (v, h)
end
end Go.Proofs.YtjdhdhmoedlfdaaGreat.Abs
namespace Go.Proofs.YtjdhdhmoedlfdaaGreat.Abs
open Go Go.Proofs
noncomputable section
variable {call : Abs.Callee}
set_option maxRecDepth 10000
theorem ft32 : T0.ft.get 32 = some Tryz.f32 := by kernel_rfl
theorem ft80 : T0.ft.get 80 = some Tryz.f80 := by kernel_rfl
theorem ft141 : T0.ft.get 141 = some Tryz.f141 := by kernel_rfl
theorem ft69 : T0.ft.get 69 = some Tryz.f69 := by kernel_rfl
theorem setAt0_len (l : List Nat) (h : l.length ≤ 64) : (setAt (List.replicate 64 0) 0 l).length = 64 := by rw [setAt_len (by simp; omega)]; simp
theorem setsAt_len (size : Nat) : ∀ (ns : List Nat) (bs : List Nat) (a : Nat), a + ns.length * size ≤ bs.length → (setsAt size bs a ns).length = bs.length := by
  intro ns
  induction ns with
  | nil => intros; rfl
  | cons n ns ih =>
    intro bs a h
    simp only [List.length_cons, Nat.add_mul, Nat.one_mul] at h
    have e : (setAt bs a (leN n size)).length = bs.length := setAt_len (by rw [leN_len]; omega)
    rw [setsAt, ih _ _ (by rw [e]; omega), e]
theorem setsAt_lt (size : Nat) : ∀ (ns : List Nat) (bs : List Nat) (a : Nat), (∀ x ∈ bs, x < 256) → ∀ x ∈ setsAt size bs a ns, x < 256 := by
  intro ns
  induction ns with
  | nil => intro bs a h; exact h
  | cons n ns ih => intro bs a h; rw [setsAt]; exact ih _ _ (setAt_lt h fun x hx => leN_lt hx)
end
end Go.Proofs.YtjdhdhmoedlfdaaGreat.Abs
namespace Go.Proofs.YtjdhdhmoedlfdaaGreat.Abs
open Go Go.Proofs
noncomputable section
variable {call : Abs.Callee}
set_option maxRecDepth 10000
theorem append_big {T : Tab} {sT xT e : TypeId} {i : TypeInfo} {z : Value} {s : Nat} (hs : und T sT = some (.slice e)) (hi : T.tt.get e = some i) (hz : i.zero = some z) (h1 : i.size = s) (hb : i.bytes ≤ 128)
    {n : Nat} {h : AH} {v x : Value} {k m : Nat} {cs new : List Value} (hv : OwnC s n h v k cs e) (happ : appendedA T xT i z x h = some (m, new)) (hm : new.length = m * s) (hall : new.all oneCell = true) (hl : k + m < 1000000) (hn : n ≤ h.next) (ty : TypeId) :
    ∃ v' h', evBuiltin T .append #[sT, xT] ty [v, x] h = some (.value v', h') ∧ OwnC s n h' v' (k + m) (cs ++ new) e ∧ Grow n h h' ∧ (∀ k, k < h.next → Off v k → h'.get k = h.get k) ∧ (0 < m → OwnC s h.next h' v' (k + m) (cs ++ new) e) := by
  subst h1
  have hev : ∀ {p : Value × AH}, evAppend T sT xT v x h = some p → evBuiltin T .append #[sT, xT] ty [v, x] h = some (.value p.1, p.2) := by
    intro p hp
    show (match evAppend T sT xT v x h with
      | some p => (some (Out.value p.1, p.2) : Res)
      | none => none) = _
    rw [hp]
  have hbnd : (Nat.ble ((k + m) * i.bytes) 17592186044416 && Nat.ble (k + m) 17592186044416) = true := by
    have h2 : (k + m) * i.bytes ≤ 1000000 * 128 := Nat.mul_le_mul (by omega) hb
    rw [Nat.ble_eq_true_of_le (by omega), Nat.ble_eq_true_of_le (by omega)]
    rfl
  have key : ∀ (hh : AH), cs.length = k * i.size → Grow n h hh → n ≤ hh.next → hh.next = h.next → (∀ k, k < h.next → Off v k → hh.get k = h.get k) → ∃ v' h', (some (Out.value (grown hh e (k + m) ((k + m) * i.size) (cs ++ new)).1, (grown hh e (k + m) ((k + m) * i.size) (cs ++ new)).2) : Res) = some (.value v', h') ∧ OwnC i.size n h' v' (k + m) (cs ++ new) e ∧ Grow n h h' ∧ (∀ k, k < h.next → Off v k → h'.get k = h.get k) ∧ (0 < m → OwnC i.size h.next h' v' (k + m) (cs ++ new) e) := by
    intro hh hcs g hnn hnx hkp
    have own : ∀ n', n' ≤ hh.next → OwnC i.size n' (grown hh e (k + m) ((k + m) * i.size) (cs ++ new)).2 (grown hh e (k + m) ((k + m) * i.size) (cs ++ new)).1 (k + m) (cs ++ new) e := fun n' hn' => .inr ⟨hh.next, PM.ofList (cs ++ new), .loose, XB + (k + m), hn', Nat.lt_succ_self _, rfl, get_new_same _ _, by rw [List.length_append, hcs, hm, Nat.add_mul], fun i y hy => by rw [PM.get_ofList]; exact hy, .inr ⟨rfl, rfl⟩⟩
    exact ⟨_, _, rfl, own n hnn, g.trans ((Grow.new hh _).less hnn) (Nat.le_refl _), fun k hk ho => ((Grow.new hh _).keep k (by omega)).trans (hkp k hk ho), fun _ => own h.next (by omega)⟩
  by_cases h0 : m = 0
  · subst h0
    have hnil : new = [] := List.length_eq_zero_iff.1 (by rw [hm, Nat.zero_mul])
    subst hnil
    refine ⟨v, h, ?_, by rw [List.append_nil]; exact hv, Grow.refl _ _, fun _ _ _ => rfl, fun q => absurd q (by omega)⟩
    rcases hv with ⟨rfl, rfl, rfl⟩ | ⟨b, c, kd, cap, q1, q2, rfl, q4, q5, q6, q7⟩
    · apply hev (p := (_, h))
      unfold evAppend
      simp only [hs, hi, hz, happ, appendTo]
      rfl
    · apply hev (p := (_, h))
      unfold evAppend
      have hc : Nat.ble (k + 0) (capOf cap) = true := by
        apply Nat.ble_eq_true_of_le
        rcases q7 with ⟨_, rfl⟩ | ⟨_, rfl⟩
        · unfold capOf; rw [ble_no (by rw [XB_val]; omega)]; exact Nat.le_refl _
        · rw [capOf_ge]; exact Nat.le_refl _
      simp only [hs, hi, hz, happ, appendTo]
      rw [hc]
      rfl
  · rcases hv with ⟨rfl, rfl, rfl⟩ | ⟨b, c, kd, cap, q1, q2, rfl, q4, q5, q6, q7⟩
    · obtain ⟨v', h', k1, k2⟩ := key h (by simp) (Grow.refl _ _) hn rfl (fun _ _ _ => rfl)
      refine ⟨v', h', ?_, k2⟩
      rw [← k1]
      apply hev
      unfold evAppend
      simp only [hs, hi, hz, happ, appendTo]
      rw [ble_no (by show 0 < 0 + m; omega), ifB_false, hbnd]
      rfl
    · have hold : firstA i.size k h (.slice (some ⟨b, 0, none⟩) k cap) = some cs := by
        unfold firstA
        by_cases hk0 : k = 0
        · subst hk0
          rw [show cs = [] from List.length_eq_zero_iff.1 (by rw [q5, Nat.zero_mul])]
          rfl
        · show ifB (Nat.beq k 0) (some []) (ifB (Nat.ble k k) (loadRow h b 0 (k * i.size)) none) = some cs
          rw [show Nat.beq k 0 = false from by cases k with | zero => exact absurd rfl hk0 | succ k => rfl, ifB_false, Nat.ble_eq_true_of_le (Nat.le_refl _), ifB_true, ← q5]
          exact loadRow_of (m := k * i.size) (c := c) q4 (by omega) (fun i y hy => by rw [Nat.zero_add]; exact q6 i y hy)
      rcases q7 with ⟨rfl, rfl⟩ | ⟨rfl, rfl⟩
      · obtain ⟨v', h', k1, k2⟩ := key _ q5 (Grow.refl _ _) hn rfl (fun _ _ _ => rfl)
        refine ⟨v', h', ?_, k2⟩
        rw [← k1]
        apply hev
        have hc : capOf cap = cap := by unfold capOf; rw [ble_no (by rw [XB_val]; omega)]; rfl
        unfold evAppend
        simp only [hs, hi, hz, happ, appendTo, hc]
        rw [ble_no (by omega : cap < cap + m), ifB_false, hbnd, ifB_true, hold]
        simp only
        rw [ble_no (by rw [XB_val]; omega : cap < XB)]
        rfl
      · have gdel : Grow n h (h.del b) := by
          refine ⟨Nat.le_refl _, fun k hk => ?_⟩
          rw [AH.get_del, if_neg (by omega)]
        obtain ⟨v', h', k1, k2⟩ := key _ q5 gdel hn rfl (fun k hk ho => by rw [AH.get_del, if_neg (fun q => by subst q; exact ho _ _ _ rfl)])
        refine ⟨v', h', ?_, k2⟩
        rw [← k1]
        apply hev
        unfold evAppend
        simp only [hs, hi, hz, happ, appendTo, capOf_ge]
        rw [ble_no (by omega : k < k + m), ifB_false, hbnd, ifB_true, hold]
        simp only
        rw [Nat.ble_eq_true_of_le (by omega : XB ≤ XB + k), ifB_true]
        have hl : looseEl h b e = true := by
          unfold looseEl
          rw [q4]
          show (Nat.beq e e && Nat.ble 0 0) = true
          rw [Nat.beq_refl]; rfl
        rw [hl, hall]
        rfl
def SLv (v : Value) : Prop := ∃ a l c, v = .slice (some ⟨a, 0, none⟩) l c
theorem SLv.one1 {v : Value} (h : SLv v) : oneCell v = true ∧ v.cells.toList = [v] ∧ eqV v v = true := by
  obtain ⟨a, l, c, rfl⟩ := h
  exact ⟨rfl, rfl, eqV_slice⟩
theorem Bks.sl {h : AH} {w : Value} {bs : List Nat} (hb : Bks h w bs) : SLv w := by
  obtain ⟨_, _, _, p, h1, c, kd, cap, q, _⟩ := hb
  exact ⟨_, _, _, q⟩
theorem BL.sl {n : Nat} {h : AH} {v : Value} {bss : List (List Nat)} (hb : BL n h v bss) (h0 : bss.length ≠ 0) : SLv v := by
  obtain ⟨vs, a1, a2, _⟩ := hb
  rcases a1 with ⟨_, rfl⟩ | ⟨b, c, kd, cap, _, _, rfl, _⟩
  · exact absurd a2.symm h0
  · exact ⟨_, _, _, rfl⟩
theorem tt_Node : T0.tt.get 48 = some (infoOf 48) := by kernel_rfl
theorem ti_Node : (infoOf 48).zero = some (nodeV NV.zero nilV) ∧ (infoOf 48).size = 12 ∧ (infoOf 48).bytes ≤ 128 := ⟨by kernel_rfl, by kernel_rfl, Nat.le_of_ble_eq_true (by kernel_rfl)⟩
theorem nil_eqN {a l c : Nat} {p q : Operand} {h : AH} : evBin T0 .eql 38 p q (.slice (some ⟨a, 0, none⟩) l c) nilV h = some (.bool false) := by kernel_rfl
theorem nil_eqBB {a l c : Nat} {p q : Operand} {h : AH} : evBin T0 .eql 22 p q (.slice (some ⟨a, 0, none⟩) l c) nilV h = some (.bool false) := by kernel_rfl
theorem bs_n0 {h : AH} : evBuildSlice T0 38 0 [] h = some (.slice (some ⟨h.next, 0, none⟩) 0 0, h.new (.cells (PM.ofList []) 0 48 0 0 .ex)) := by kernel_rfl
theorem bs_bb0 {h : AH} : evBuildSlice T0 22 0 [] h = some (.slice (some ⟨h.next, 0, none⟩) 0 0, h.new (.cells (PM.ofList []) 0 57 0 0 .ex)) := by kernel_rfl
theorem CloneBB_S (n : Nat) (v : Value) (bss : List (List Nat)) (h : AH) (hb : BL n h v bss) (h0 : bss.length ≠ 0) (hl : bss.length < 1000) :
    ∃ v' h', frameB T0 X0 call 3000 69 [v] h = some (v', h') ∧ BL h.next h' v' bss ∧ Grow h.next h h' := by
  obtain ⟨a, l, cc, hv⟩ := hb.sl h0
  have g1 := Grow.new h (.cells (PM.ofList []) 0 57 0 0 .ex)
  have ho : OwnC 1 h.next (h.new (.cells (PM.ofList []) 0 57 0 0 .ex)) (.slice (some ⟨h.next, 0, none⟩) 0 0) 0 [] 57 := .inr ⟨h.next, PM.ofList [], .ex, 0, Nat.le_refl _, Nat.lt_succ_self _, rfl, get_new_same _ _, rfl, fun i x hx => by simp at hx, .inl ⟨rfl, rfl⟩⟩
  obtain ⟨vs, b1, b2, b3⟩ := hb.grow g1
  have hx2 := b1.c
  rw [← ti_bytes.2.1] at hx2
  have hall : vs.all oneCell = true := by
    rw [List.all_eq_true]
    intro x hx
    obtain ⟨i, hi, rfl⟩ := List.getElem_of_mem hx
    exact (b3 i _ _ (List.getElem?_eq_getElem hi) (List.getElem?_eq_getElem (by rw [← b2]; exact hi))).one1.1
  obtain ⟨v', h', e1, e2, e3, _⟩ := append_gen und_blocks tt_bytes ti_bytes.1 ti_bytes.2.1 ti_bytes.2.2 ho (appended_own und_blocks hx2) (Nat.mul_one _).symm hall (by omega) g1.next 22
  refine ⟨v', h', ?_, ⟨vs, by have := e2.own; simpa using this, b2, fun i w bs p q => (b3 i w bs p q).keep e3.next fun k hk hu => e3.keep k ?_⟩, g1.trans e3 (Nat.le_refl _)⟩
  · subst hv
    rw [frameB_eq ft69 rfl rfl]
    simp only [Tryz.f69, symM, opFn, Nat.reduceLT, Nat.reduceBEq, symM, nil_eqBB, bs_bb0, e1]
    exact retB_one ft69 rfl get_same
  · have hne : k ≠ h.next := tyAt.ne hu (⟨_, _, _, _, _, get_new_same _ _⟩ : tyAt (h.new (.cells (PM.ofList []) 0 57 0 0 .ex)) h.next 57) (by decide)
    have : k < h.next + 1 := hk
    omega
theorem sz_st : szOf T0 67 = some 8 := by kernel_rfl
theorem plan_cp : planB (regOps Tryz.f80 [1, 0]) 15 = some ([.one 0, .one 1, .one 2, .one 3, .one 5, .one 6, .one 8, .one 9, .eff [] 4 [0, 1, 5, 6, 8, 9], .eff [] 7 [0, 1, 8, 9], .eff [] 10 [0, 1], .one 11, .eff [] 12 []], []) := by kernel_rfl
abbrev CloBC (call : Abs.Callee) : Prop := ∀ (n : Nat) (v : Value) (bss : List (List Nat)) (h : AH), BL n h v bss → bss.length ≠ 0 → bss.length < 1000 → ∃ v' h', call 69 [v] h = some (v', h') ∧ BL h.next h' v' bss ∧ Grow h.next h h'
end
end Go.Proofs.YtjdhdhmoedlfdaaGreat.Abs
namespace Go.Proofs.YtjdhdhmoedlfdaaGreat.Abs
open Go Go.Proofs
noncomputable section
variable {call : Abs.Callee}
set_option maxRecDepth 10000
theorem ptr_neq {b : Nat} {p q : Operand} {h : AH} : evBin T0 .neq 23 p q (pv b 0) (.pointer none) h = some (.bool true) := by kernel_rfl
theorem ptr_eql {b : Nat} {p q : Operand} {h : AH} : evBin T0 .eql 23 p q (pv b 0) (.pointer none) h = some (.bool false) := by kernel_rfl
theorem sz_bb : szOf T0 22 = some 1 := by kernel_rfl
theorem sz_nodes : szOf T0 38 = some 1 := by kernel_rfl
theorem bs_bk {w : Value} {h : AH} (hw : oneCell w = true) : evBuildSlice T0 22 1 [(0, w)] h = some (.slice (some ⟨h.next, 0, none⟩) 1 1, h.new (.cells (PM.ofList [w]) 1 57 0 0 .ex)) := bs_one und_blocks sz_bytes zero_bytes rfl hw
theorem BL.append {n : Nat} {h : AH} {v w : Value} {bs : List Nat} {bss : List (List Nat)} (hb : BL n h v bss) (hw : Bks h w bs) (hl : bss.length < 1000) (hn : n ≤ h.next) (ty : TypeId) :
    ∃ v' h', evBuiltin T0 .append #[22, 22] ty [v, .slice (some ⟨h.next, 0, none⟩) 1 1] (h.new (.cells (PM.ofList [w]) 1 57 0 0 .ex)) = some (.value v', h') ∧ BL n h' v' (bss ++ [bs]) ∧ Grow n h h' ∧ (∀ k, k < h.next → Off v k → h'.get k = h.get k) ∧ SLv v' := by
  obtain ⟨vs, a1, a2, a3⟩ := hb
  obtain ⟨v', h', e1, e2, e3, e4⟩ := append_one2 und_blocks tt_bytes ti_bytes.1 ti_bytes.2.1 ti_bytes.2.2 a1 hw.one1.1 (by omega) hn ty
  have ku : ∀ k, k < h.next → tyAt h k 5 → h'.get k = h.get k := fun k hk hu => e4 k hk (a1.offT hu (by decide))
  refine ⟨v', h', e1, ⟨vs ++ [w], e2.less hn, by simp [a2], ?_⟩, e3, e4, ?_⟩
  · intro i x cs hx hc
    by_cases hi : i < vs.length
    · rw [List.getElem?_append_left hi] at hx
      rw [List.getElem?_append_left (by rw [← a2]; exact hi)] at hc
      exact (a3 i x cs hx hc).keep e3.next ku
    · rw [List.getElem?_append_right (by omega)] at hx
      rw [List.getElem?_append_right (by omega), ← a2] at hc
      have h0 : i - vs.length = 0 := by
        have := (List.getElem?_eq_some_iff.1 hx).1
        simp at this; omega
      rw [h0] at hx hc
      cases hx; cases hc
      exact hw.keep e3.next ku
  · rcases e2 with ⟨_, q⟩ | ⟨b, c, kd, cap, _, _, rfl, _⟩
    · simp at q
    · exact ⟨_, _, _, rfl⟩
end
end Go.Proofs.YtjdhdhmoedlfdaaGreat.Abs
