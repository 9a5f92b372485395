
/- The image of any blocks: its super block told and set, its blocks. -/
import Derived.Test.YtjdhdhmoedlfdaaGreatOpen
namespace Go.Proofs.YtjdhdhmoedlfdaaGreat.Abs
open Go Go.Proofs
noncomputable section
variable {call : Abs.Callee}
set_option maxRecDepth 10000
theorem ft12 : T0.ft.get 12 = some Tryz.f12 := by kernel_rfl
theorem ft14 : T0.ft.get 14 = some Tryz.f14 := by kernel_rfl
theorem ft20 : T0.ft.get 20 = some Tryz.f20 := by kernel_rfl
theorem ft23 : T0.ft.get 23 = some Tryz.f23 := by kernel_rfl
theorem ft22 : T0.ft.get 22 = some Tryz.f22 := by kernel_rfl
theorem BL.keepD {n m : Nat} {h h' : AH} {v w : Value} {bss css : List (List Nat)} (hb : BL n h v bss) (hw : BL m h w css) (hd : Dis w v) (hn : h.next ≤ h'.next) (hk : ∀ k, k < h.next → Off w k → h'.get k = h.get k) : BL n h' v bss := by
  obtain ⟨vs, a1, a2, a3⟩ := hb
  refine ⟨vs, ?_, a2, fun i x bs hi hj => (a3 i x bs hi hj).keep hn fun k q hu => hk k q (hw.off hu (by decide))⟩
  rcases a1 with q | ⟨b, c, kd, cap, h1, h2, rfl, h4, h5, h6⟩
  · exact .inl q
  · exact .inr ⟨b, c, kd, cap, h1, Nat.lt_of_lt_of_le h2 hn, rfl, (hk b h2 (fun o l c hv => hd _ _ _ _ _ _ _ _ hv rfl rfl)).trans h4, h5, h6⟩
theorem Dis.symm {v w : Value} (h : Dis v w) : Dis w v := fun b o l c q o' l' c' e1 e2 e3 => h _ _ _ _ _ _ _ _ e2 e1 e3.symm
theorem ImgY.grow {n : Nat} {h h' : AH} {pI : Nat} {x y : SI} {bss was : List (List Nat)} {fb : List Nat} (hI : ImgY n h pI x y bss was fb) (g : Grow h.next h h') : ImgY n h' pI x y bss was fb := by
  obtain ⟨hp, vf, vn, vb, vf', vn', vb', i1, i2, i3, i4, i5⟩ := hI
  exact ⟨Nat.lt_of_lt_of_le hp g.next, vf, vn, vb, vf', vn', vb', i1.grow g hp, i2.grow g, i3.grow g, i4, i5.grow g⟩
theorem YSuper_S (n pI : Nat) (x y : SI) (bss was : List (List Nat)) (fb : List Nat) (h : AH) (hI : ImgY n h pI x y bss was fb) :
    ∃ h', frameB T0 X0 call 3000 14 [pv pI 0] h = some (siV x, h') ∧ Grow h.next h h' := by
  obtain ⟨hp, vf, vn, vb, vf', vn', vb', i1, i2, i3, i4⟩ := hI
  generalize hh1 : h.new (.cells (PM.ofList (siL SI.zero)) 5 36 0 0 .ex) = h1
  have g1 : Grow h.next h h1 := by rw [← hh1]; exact Grow.new _ _
  have s1 : SiB h1 h.next SI.zero := by rw [← hh1]; exact BoxL.new _ _ _
  have ld := (imx_loads (i1.grow g1 hp)).2.2.2.1
  obtain ⟨h2, d1, d2, d3⟩ := s1.storeAll x
  refine ⟨h2, ?_, g1.trans (d3.grow (Nat.le_refl _)) (Nat.le_refl _)⟩
  rw [frameB_eq ft14 rfl rfl]
  simp only [Tryz.f14, symM, opFn, Nat.reduceLT, Nat.reduceBEq, symM, alloc_SiZ, hh1, ptr_eql, nil_pv, field_I, field_st, ld, d1]
  exact retB_cell ft14 rfl (by simp only [symM, Nat.reduceBEq]) d2.loads.2.2.2.2.2
abbrev YSuperC (call : Abs.Callee) : Prop := ∀ (n pI : Nat) (x y : SI) (bss was : List (List Nat)) (fb : List Nat) (h : AH), ImgY n h pI x y bss was fb → ∃ h', call 14 [pv pI 0] h = some (siV x, h') ∧ Grow h.next h h'
abbrev PutYC (call : Abs.Callee) : Prop := ∀ (pI n i : Nat) (L : List Value) (vb vd : Value) (bs : List Nat) (bss : List (List Nat)) (h : AH), BoxL h pI 69 L → pI < h.next → L[7]? = some vb → BL n h vb bss → i < bss.length → Bks h vd bs → n ≤ h.next →
  ∃ h', call 45 [pv pI 0, iv i, vd] h = some (.tuple #[], h') ∧ BL n h' vb (bss.set i bs) ∧ h.next ≤ h'.next ∧ (∀ k, k < h.next → Off vb k → h'.get k = h.get k) ∧ Grow n h h'
def KeepT (h h' : AH) : Prop := ∀ k t, k < h.next → tyAt h k t → t ≠ 69 → t ≠ 57 → h'.get k = h.get k
theorem KeepT.grow {h h' : AH} (g : Grow h.next h h') : KeepT h h' := fun k _ hk _ _ _ => g.keep k hk
theorem KeepT.trans {h h1 h2 : AH} (a : KeepT h h1) (b : KeepT h1 h2) (hn : h.next ≤ h1.next) : KeepT h h2 := by
  intro k t hk ht e1 e2
  have e := a k t hk ht e1 e2
  obtain ⟨c, m, lo, hi, kd, q⟩ := ht
  exact (b k t (by omega) ⟨c, m, lo, hi, kd, e.trans q⟩ e1 e2).trans e
theorem ImgY.putK {n : Nat} {h : AH} {pI : Nat} {x y : SI} {bss was : List (List Nat)} {fb : List Nat} (hP : PutYC call) (hI : ImgY n h pI x y bss was fb) (i : Nat) (hi : i < bss.length) (vd : Value) (bs : List Nat) (hd : Bks h vd bs) (hn : n ≤ h.next) :
    ∃ h', call 45 [pv pI 0, iv i, vd] h = some (.tuple #[], h') ∧ ImgY n h' pI x y (bss.set i bs) was fb ∧ Grow n h h' ∧ KeepT h h' := by
  obtain ⟨hp, vf, vn, vb, vf', vn', vb', i1, i2, i3, i4, i5⟩ := hI
  obtain ⟨h', a1, a2, a3, a4, a5⟩ := hP pI n i _ vb vd bs bss h i1 hp rfl i2 hi hd hn
  refine ⟨h', a1, ⟨Nat.lt_of_lt_of_le hp a3, vf, vn, vb, vf', vn', vb', i1.keep (a4 pI hp (i2.off i1.ty (by decide))), a2, i3.keepD i2 i4 a3 a4, i4, i5.keep a3 fun k hk hu => a4 k hk (i2.off hu (by decide))⟩, a5, fun k t hk ht _ e2 => a4 k hk (i2.off ht e2)⟩
theorem ImgY.put {n : Nat} {h : AH} {pI : Nat} {x y : SI} {bss was : List (List Nat)} {fb : List Nat} (hP : PutYC call) (hI : ImgY n h pI x y bss was fb) (i : Nat) (hi : i < bss.length) (vd : Value) (bs : List Nat) (hd : Bks h vd bs) (hn : n ≤ h.next) :
    ∃ h', call 45 [pv pI 0, iv i, vd] h = some (.tuple #[], h') ∧ ImgY n h' pI x y (bss.set i bs) was fb ∧ Grow n h h' := by
  obtain ⟨hp, vf, vn, vb, vf', vn', vb', i1, i2, i3, i4, i5⟩ := hI
  obtain ⟨h', a1, a2, a3, a4, a5⟩ := hP pI n i _ vb vd bs bss h i1 hp rfl i2 hi hd hn
  refine ⟨h', a1, ⟨Nat.lt_of_lt_of_le hp a3, vf, vn, vb, vf', vn', vb', i1.keep (a4 pI hp (i2.off i1.ty (by decide))), a2, i3.keepD i2 i4 a3 a4, i4, i5.keep a3 fun k hk hu => a4 k hk (i2.off hu (by decide))⟩, a5⟩
theorem ImgY.sup {n : Nat} {h : AH} {pI : Nat} {x y : SI} {bss was : List (List Nat)} {fb : List Nat} (hI : ImgY n h pI x y bss was fb) (s : SI) (hn : n ≤ pI) :
    ∃ h', evStore T0 36 (pv pI 0) (siV s) h = some h' ∧ ImgY n h' pI s y bss was fb ∧ Grow n h h' ∧ One pI h h' := by
  obtain ⟨hp, vf, vn, vb, vf', vn', vb', i1, i2, i3, i4, i5⟩ := hI
  obtain ⟨h', a1, a2, a3⟩ := imx_sup (x := s) i1
  exact ⟨h', a1, ⟨by rw [a3.next]; exact hp, vf, vn, vb, vf', vn', vb', a2, i2.one a3 i1.ty (by decide) (by decide), i3.one a3 i1.ty (by decide) (by decide), i4, i5.keep (Nat.le_of_eq a3.next.symm) fun k hk hu => a3.keep k (tyAt.ne hu i1.ty (by decide))⟩, a3.grow hn, a3⟩
theorem ImgY.keepS {n p5 : Nat} {h h' : AH} {pI : Nat} {x y : SI} {bss was : List (List Nat)} {fb : List Nat} (hI : ImgY n h pI x y bss was fb) (o : One p5 h h') (t : tyAt h p5 36) : ImgY n h' pI x y bss was fb := by
  obtain ⟨hp, vf, vn, vb, vf', vn', vb', i1, i2, i3, i4, i5⟩ := hI
  exact ⟨by rw [o.next]; exact hp, vf, vn, vb, vf', vn', vb', i1.one o (tyAt.ne i1.ty t (by decide)), i2.one o t (by decide) (by decide), i3.one o t (by decide) (by decide), i4, i5.keep (Nat.le_of_eq o.next.symm) fun k hk hu => o.keep k (tyAt.ne hu t (by decide))⟩
theorem plan_ss : planB (regOps Tryz.f20 [1, 1, 1, 0, 0]) 35 = some ([.one 0, .one 1, .one 2, .one 3, .one 4, .one 5, .one 6, .one 7, .one 8, .one 9, .one 10, .one 11, .one 12], []) := by kernel_rfl
def okSet (s x : SI) : Bool := okI s && decide (s.s = x.s)
def SetR (n : Nat) (h' : AH) (pI : Nat) (x y s : SI) (bss was : List (List Nat)) (fb : List Nat) (r : Value) : Prop :=
  (okSet s x = false ∧ r = iv 2 ∧ ImgY n h' pI x y bss was fb) ∨ (okSet s x = true ∧ r = iv 0 ∧ ImgY n h' pI s y (bss.set 0 (svB s.sv)) was fb)
abbrev YSetC (call : Abs.Callee) : Prop := ∀ (n pI : Nat) (x y s : SI) (bss was : List (List Nat)) (fb : List Nat) (h : AH), ImgY n h pI x y bss was fb → n ≤ pI → 0 < bss.length → ∃ r h', call 20 [pv pI 0, siV s] h = some (r, h') ∧ SetR n h' pI x y s bss was fb r ∧ Grow n h h' ∧ KeepT h h'
theorem YSet_S (hE : GEncC call 64) (hP : PutYC call) (n pI : Nat) (x y s : SI) (bss was : List (List Nat)) (fb : List Nat) (h : AH) (hI : ImgY n h pI x y bss was fb) (hn : n ≤ pI) (h0 : 0 < bss.length) :
    ∃ r h', frameB T0 X0 call 3000 20 [pv pI 0, siV s] h = some (r, h') ∧ SetR n h' pI x y s bss was fb r ∧ Grow n h h' ∧ KeepT h h' := by
  have hp := hI.1
  generalize hh1 : h.new (.cells (PM.ofList (siL s)) (siL s).length 36 0 0 .ex) = h1
  have g1 : Grow h.next h h1 := by rw [← hh1]; exact Grow.new _ _
  have n1 : h1.next = h.next + 1 := by rw [← hh1]; rfl
  have s1 : SiB h1 h.next s := by rw [← hh1]; exact BoxL.new _ _ _
  have ls1 := s1.loads
  obtain ⟨r2, h2, a1, a2, a3⟩ := hE s h1
  have n2 := a2.next
  have G2 : Grow h.next h h2 := g1.trans a2 (by omega)
  have hI2 := hI.grow G2
  have s2 : SiB h2 h.next s := BoxL.grow s1 a2 (by omega)
  have ls2 := s2.loads
  have lm : evLoad T0 3 (pv pI 0) h2 = some (iv x.s) := by
    obtain ⟨_, vf, vn, vb, vf', vn', vb', i1, _⟩ := hI2
    exact i1.load agg_int rfl
  have hpl := plan_ss
  simp only [regOps, part, Tryz.f20, sub] at hpl
  rw [frameB_eq ft20 rfl rfl]
  rcases a3 with ⟨k1, rfl⟩ | ⟨k1, v', p', rfl, k2, k3, k4⟩
  · refine ⟨iv 2, h2, ?_, .inl ⟨by unfold okSet; rw [k1]; rfl, rfl, hI2⟩, G2.less (by omega), .grow G2⟩
    simp only [Tryz.f20, symM, opFn, Nat.reduceLT, Nat.reduceBEq, symM, box_Si, hh1, ptr_eql, ls1, evCall_fn ft64 rfl, a1]
    rw [codeB_draw, draw_plan hpl rfl]
    simp only [drawAll, opFn, Nat.reduceLT, Nat.reduceBEq, bin_neq, show ((2 : Int) == 0) = false from rfl]
    exact retB_one ft20 rfl get_same
  · by_cases hq : s.s = x.s
    · obtain ⟨h3, c1, c2, c3, c4⟩ := hI2.sup s hn
      have n3 := c4.next
      have s3 := svB_ok s.sv
      have hv2 : Bks h2 v' (svB s.sv) := ⟨by omega, by omega, s3.2, p', k3, k4⟩
      have hv3 : Bks h3 v' (svB s.sv) := hv2.keep (Nat.le_of_eq n3.symm) fun k hk hu => c4.keep k (by
        obtain ⟨_, vf, vn, vb, vf', vn', vb', i1, _⟩ := hI2
        exact tyAt.ne hu i1.ty (by decide))
      obtain ⟨h4, d1, d2, d3, d4⟩ := c2.putK hP 0 h0 v' _ hv3 (by have := c2.1; omega)
      have k34 : KeepT h2 h3 := fun k t hk ht e1 _ => c4.keep k (by
        obtain ⟨_, vf, vn, vb, vf', vn', vb', i1, _⟩ := hI2
        exact tyAt.ne ht i1.ty e1)
      have d1 : call 45 [pv pI 0, iv 0, v'] h3 = some (.tuple #[], h4) := d1
      refine ⟨iv 0, h4, ?_, .inr ⟨by unfold okSet; rw [k1, decide_eq_true hq]; rfl, rfl, d2⟩, ((G2.less (by omega)).trans c3 (Nat.le_refl _)).trans d3 (Nat.le_refl _), ((KeepT.grow G2).trans (k34) (by omega)).trans d4 (by omega)⟩
      have hz : (s.s == x.s) = true := by rw [hq]; simp
      simp only [Tryz.f20, symM, opFn, Nat.reduceLT, Nat.reduceBEq, symM, box_Si, hh1, ptr_eql, ls1, evCall_fn ft64 rfl, a1]
      rw [codeB_draw, draw_plan hpl rfl]
      simp only [drawAll, opFn, Nat.reduceLT, Nat.reduceBEq, bin_neq, show ((0 : Int) == 0) = true from rfl, field_Su0, field_I, field_st, nil_pv, ls2, lm, hz]
      simp only [symM, opFn, Nat.reduceLT, Nat.reduceBEq, symM, c1, evCall_fn ft45 rfl, d1]
      exact retB_one ft20 rfl get_same
    · refine ⟨iv 2, h2, ?_, .inl ⟨by unfold okSet; rw [decide_eq_false hq, Bool.and_false], rfl, hI2⟩, G2.less (by omega), .grow G2⟩
      have hz : (s.s == x.s) = false := by simp [hq]
      simp only [Tryz.f20, symM, opFn, Nat.reduceLT, Nat.reduceBEq, symM, box_Si, hh1, ptr_eql, ls1, evCall_fn ft64 rfl, a1]
      rw [codeB_draw, draw_plan hpl rfl]
      simp only [drawAll, opFn, Nat.reduceLT, Nat.reduceBEq, bin_neq, show ((0 : Int) == 0) = true from rfl, field_Su0, field_I, field_st, nil_pv, ls2, lm, hz]
      exact retB_one ft20 rfl get_same
end
end Go.Proofs.YtjdhdhmoedlfdaaGreat.Abs
namespace Go.Proofs.YtjdhdhmoedlfdaaGreat.Abs
open Go Go.Proofs
noncomputable section
variable {call : Abs.Callee}
set_option maxRecDepth 10000
theorem und_writes : und T0 61 = some (.slice 117) := by kernel_rfl
theorem sz_Write : szOf T0 117 = some 2 := by kernel_rfl
theorem tt_Write : T0.tt.get 117 = some (infoOf 117) := by kernel_rfl
theorem ti_Write : (infoOf 117).zero = some (.agg #[iv 0, nilV]) ∧ (infoOf 117).size = 2 ∧ (infoOf 117).bytes ≤ 64 := ⟨by kernel_rfl, by kernel_rfl, Nat.le_of_ble_eq_true (by kernel_rfl)⟩
def OwnW (n : Nat) (h : AH) (v : Value) (k : Nat) : Prop := ∃ cs, OwnC 2 n h v k cs 117 ∧ cs.all oneCell = true
theorem OwnW.nil (n : Nat) (h : AH) : OwnW n h nilV 0 := ⟨[], .inl ⟨rfl, rfl, rfl⟩, rfl⟩
theorem OwnW.len {n k : Nat} {h h' : AH} {v : Value} {ty : TypeId} (ho : OwnW n h v k) : evBuiltin T0 .len #[61] ty [v] h' = some (.value (iv k), h') := by
  obtain ⟨cs, ho, _⟩ := ho
  rcases ho with ⟨rfl, rfl, _⟩ | ⟨b, c, kd, cap, _, _, rfl, _⟩
  · exact len_slice und_writes
  · exact len_slice und_writes
theorem OwnW.one1 {n k : Nat} {h : AH} {v : Value} (ho : OwnW n h v k) : oneCell v = true ∧ v.cells.toList = [v] := by
  obtain ⟨cs, ho, _⟩ := ho
  rcases ho with ⟨rfl, _⟩ | ⟨b, c, kd, cap, _, _, rfl, _⟩ <;> exact ⟨rfl, rfl⟩
theorem OwnW.grow {n k : Nat} {h h' : AH} {v : Value} (ho : OwnW n h v k) (g : Grow h.next h h') : OwnW n h' v k := by
  obtain ⟨cs, ho, h1⟩ := ho
  exact ⟨cs, ho.grow g, h1⟩
theorem OwnW.less {n m k : Nat} {h : AH} {v : Value} (ho : OwnW m h v k) (hn : n ≤ m) : OwnW n h v k := by
  obtain ⟨cs, ho, h1⟩ := ho
  exact ⟨cs, ho.less hn, h1⟩
theorem bs_w {a : Nat} {d : Value} {h : AH} (hd : oneCell d = true ∧ d.cells.toList = [d]) : evBuildSlice T0 61 1 [(0, .agg #[iv a, d])] h = some (.slice (some ⟨h.next, 0, none⟩) 1 1, h.new (.cells (PM.ofList [iv a, d]) 2 117 0 0 .ex)) := by
  unfold evBuildSlice
  simp only [und_writes, sz_Write, show zeroOf T0 117 = some (.agg #[iv 0, nilV]) from by kernel_rfl]
  rfl
theorem OwnW.append {n k : Nat} {h : AH} {v d : Value} (ho : OwnW n h v k) (a : Nat) (hd : oneCell d = true ∧ d.cells.toList = [d]) (hl : k < 1000) (hn : n ≤ h.next) (ty : TypeId) :
    ∃ v' h', evBuiltin T0 .append #[61, 61] ty [v, .slice (some ⟨h.next, 0, none⟩) 1 1] (h.new (.cells (PM.ofList [iv a, d]) 2 117 0 0 .ex)) = some (.value v', h') ∧ OwnW n h' v' (k + 1) ∧ Grow n h h' := by
  obtain ⟨cs, ho, h1⟩ := ho
  have g := Grow.new h (.cells (PM.ofList [iv a, d]) 2 117 0 0 .ex)
  have h2 : [iv a, d].all oneCell = true := by show (true && (oneCell d && true)) = true; rw [hd.1]; rfl
  obtain ⟨v', h', e1, e2, e3, _⟩ := append_gen und_writes tt_Write ti_Write.1 ti_Write.2.1 ti_Write.2.2 (ho.grow g)
    (appended_slice (k := 1) (cap := 1) (new := [iv a, d]) und_writes (get_new_same _ _) (by rw [ti_Write.2.1]; rfl) (by rw [ti_Write.2.1]; exact Nat.le_refl _) (fun j w hj => by rw [PM.get_ofList]; exact hj)) rfl h2 (by omega) (Nat.le_succ_of_le hn) ty
  exact ⟨v', h', e1, ⟨cs ++ [iv a, d], e2, by rw [List.all_append, h1, h2]; rfl⟩, (g.less hn).trans e3 (Nat.le_refl _)⟩
noncomputable def bodyBs : Code := part Tryz.f12 [1, 1, 1, 0, 1, 0, 0]
abbrev EBs : Env := ⟨12, 25, none⟩
theorem bsLp (hCl : BCloneC call) (n : Nat) (vb : Value) (bss : List (List Nat)) (h0 : AH) (hb0 : BL n h0 vb bss) (hl : bss.length < 900) :
    ∀ (k i : Nat) (acc : Value) (h : AH) (tm : PM Value) (N : Nat), i + k = bss.length → k + 60 ≤ N → Grow h0.next h0 h → BL h0.next h acc (bss.take i) →
      tm.get 3 = some acc → tm.get 12 = some vb → tm.get 13 = some (iv bss.length) → tm.get 14 = some (iv i) →
      ∃ tm' h', codeB T0 X0 call N EBs (.loop bodyBs) tm h [] = .jump (.exit 0) tm' h' [] ∧ ((∃ v', tm'.get 3 = some v' ∧ BL h0.next h' v' bss) ∧ Grow h0.next h h') := by
  intro k
  induction k with
  | zero =>
    intro i acc h tm N hi hN hg ha g3 g12 g13 g14
    obtain ⟨N, rfl⟩ : ∃ a, N = a + 60 := ⟨N - 60, by omega⟩
    have hiB : i = bss.length := by omega
    subst hiB
    rw [List.take_length] at ha
    apply Exists.intro; apply Exists.intro
    refine ⟨?_, ⟨acc, ?_, ha⟩, Grow.refl _ _⟩
    · rw [codeB_loop]
      simp only [bodyBs, part, Tryz.f12, sub, symM, opFn, Nat.reduceLT, symM, g13, g14, bin_lss, decide_eq_false (show ¬ (bss.length : Int) < (bss.length : Nat) by omega)]
      rfl
    · simp only [symM, Nat.reduceBEq, g3]
  | succ k ih =>
    intro i acc h tm N hi hN hg ha g3 g12 g13 g14
    obtain ⟨N, rfl⟩ : ∃ a, N = a + 60 := ⟨N - 60, by omega⟩
    have hil : i < bss.length := by omega
    have hx : bss[i]? = some bss[i] := List.getElem?_eq_getElem hil
    obtain ⟨p, w, a1, a2, a3⟩ := (hb0.grow hg).at hx
    obtain ⟨w1, h1, b1, b2, b3⟩ := a3.clone hCl
    have n0 := hg.next
    have n1 := b3.next
    obtain ⟨v2, h2, c1, c2, c3, c4, _⟩ := (ha.grow b3).append b2 (by simp; omega) (by omega) 22
    rw [show bss.take i ++ [bss[i]] = bss.take (i + 1) from (List.take_succ_eq_append_getElem hil).symm] at c2
    rw [show N + 60 = (N + 59) + 1 from rfl, codeB_loop]
    simp only [bodyBs, part, Tryz.f12, sub, symM, opFn, Nat.reduceLT, Nat.reduceBEq, symM, g3, g12, g13, g14, bin_lss, decide_eq_true (show (i : Int) < (bss.length : Nat) by omega), a1, a2, evCall_fn ft29 rfl, b1, bs_bk b2.one1.1, c1, bin_add, wadd1 (show i ≤ 400000 by omega)]
    have G : Grow h0.next h h2 := (b3.less n0).trans c3 (Nat.le_refl _)
    exact wrapE (ih (i + 1) v2 h2 _ (N + 59) (by omega) (by omega) (hg.trans G (Nat.le_refl _)) c2 (by simp only [symM, Nat.reduceBEq]) (by simp only [symM, Nat.reduceBEq, g12]) (by simp only [symM, Nat.reduceBEq, g13]) get_same) G
abbrev YBlocksC (call : Abs.Callee) : Prop := ∀ (n pI : Nat) (x y : SI) (bss was : List (List Nat)) (fb : List Nat) (h : AH), ImgY n h pI x y bss was fb → bss.length < 900 → ∃ v' h', call 12 [pv pI 0] h = some (v', h') ∧ BL h.next h' v' bss ∧ Grow h.next h h'
theorem YBlocks_S (hCl : BCloneC call) (n pI : Nat) (x y : SI) (bss was : List (List Nat)) (fb : List Nat) (h : AH) (hI : ImgY n h pI x y bss was fb) (hl : bss.length < 900) :
    ∃ v' h', frameB T0 X0 call 3000 12 [pv pI 0] h = some (v', h') ∧ BL h.next h' v' bss ∧ Grow h.next h h' := by
  obtain ⟨hp, vf, vn, vb, vf', vn', vb', i1, i2, i3, i4, i5⟩ := hI
  have ld := (imx_loads i1).2.2.1
  have hlen : ∀ ty h', evBuiltin T0 .len #[22] ty [vb] h' = some (.value (iv bss.length), h') := fun ty h' => i2.len ty
  have q0 : BL h.next h nilV (bss.take 0) := ⟨[], Own.nil _ _ _, rfl, fun i w bs hi _ => by simp at hi⟩
  rw [frameB_eq ft12 rfl rfl]
  simp only [Tryz.f12, symM, opFn, Nat.reduceLT, Nat.reduceBEq, symM, symL, ptr_eql, nil_pv, field_I, field_st, ld, hlen]
  generalize hX : codeB T0 X0 call _ EBs (.loop _) _ _ _ = X
  obtain ⟨t2, h2, e1, ⟨v2, e2, e3⟩, e4⟩ := use_exit hX (bsLp hCl n vb bss h i2 hl bss.length 0 nilV h _ _ (by omega) (by omega) (Grow.refl _ _) q0 (by simp only [symM, Nat.reduceBEq]) (by simp only [symM, Nat.reduceBEq]) (by simp only [symM, Nat.reduceBEq]) (by simp only [symM]; rfl))
  clear hX
  subst e1
  refine ⟨v2, h2, ?_, e3, e4⟩
  simp only [symM, opFn, Nat.reduceLT, symM, symL, e2]
  exact retB_one ft12 rfl get_same
noncomputable def bodyCh : Code := part Tryz.f23 [1, 1, 1, 0, 1, 0, 0]
abbrev ECh : Env := ⟨23, 49, none⟩
theorem chLpY (hE : BEqC call) (n pI : Nat) (x y : SI) (bss was : List (List Nat)) (h : AH) (vf vn vb vf' vn' vb' va : Value) (i1 : BoxL h pI 69 (imgX x vf vn vb (stX y vf' vn' vb'))) (i2 : BL n h vb bss) (i3 : BL n h vb' was) (hl : bss.length < 900) (hw : ∀ i, 1 ≤ i → i < bss.length → was[i]? = bss[i]?) (hl2 : bss.length ≤ was.length) :
    ∀ (k i : Nat) (tm : PM Value) (N : Nat), 1 ≤ i → i + k = bss.length → k + 60 ≤ N → tm.get 0 = some (pv pI 0) → tm.get 3 = some va → tm.get 12 = some vb → tm.get 13 = some (iv bss.length) → tm.get 14 = some (iv i) →
      ∃ tm' h', codeB T0 X0 call N ECh (.loop bodyCh) tm h [] = .jump (.exit 0) tm' h' [] ∧ (h' = h ∧ tm'.get 3 = some va) := by
  intro k
  induction k with
  | zero =>
    intro i tm N h1 hi hN g0 g3 g12 g13 g14
    obtain ⟨N, rfl⟩ : ∃ a, N = a + 60 := ⟨N - 60, by omega⟩
    have hiB : i = bss.length := by omega
    subst hiB
    apply Exists.intro; apply Exists.intro
    refine ⟨?_, rfl, ?_⟩
    · rw [codeB_loop]
      simp only [bodyCh, part, Tryz.f23, sub, symM, opFn, Nat.reduceLT, symM, g13, g14, bin_lss, decide_eq_false (show ¬ (bss.length : Int) < (bss.length : Nat) by omega)]
      rfl
    · simp only [symM, Nat.reduceBEq, g3]
  | succ k ih =>
    intro i tm N h1 hi hN g0 g3 g12 g13 g14
    obtain ⟨N, rfl⟩ : ∃ a, N = a + 60 := ⟨N - 60, by omega⟩
    have hil : i < bss.length := by omega
    have hx : bss[i]? = some bss[i] := List.getElem?_eq_getElem hil
    obtain ⟨p, w, a1, a2, a3⟩ := i2.at hx
    obtain ⟨q, u, b1, b2, b3⟩ := i3.at ((hw i h1 hil).trans hx)
    have ldw : evLoad T0 22 (pv pI 15) h = some vb' := i1.load agg_blocks rfl
    have hlen : ∀ ty h', evBuiltin T0 .len #[22] ty [vb'] h' = some (.value (iv was.length), h') := fun ty h' => i3.len ty
    have he := hE _ _ w u _ _ h a3.2.2.1 b3.2.2.1 a3.row b3.row
    rw [decide_eq_true rfl] at he
    rw [show N + 60 = (N + 59) + 1 from rfl, codeB_loop]
    simp only [bodyCh, part, Tryz.f23, sub, symM, opFn, Nat.reduceLT, Nat.reduceBEq, symM, g0, g12, g13, g14, bin_lss, decide_eq_true (show (i : Int) < (bss.length : Nat) by omega), a1, a2, nil_pv, field_I, field_st, ldw, hlen, bin_geq, decide_eq_false (show ¬ (i : Int) ≥ (was.length : Nat) by omega), b1, b2, evCall_fn ft71 rfl, he, bin_add, wadd1 (show i ≤ 400000 by omega)]
    exact ih (i + 1) _ (N + 59) (by omega) (by omega) (by omega) (by simp only [symM, Nat.reduceBEq, g0]) (by simp only [symM, Nat.reduceBEq, g3]) (by simp only [symM, Nat.reduceBEq, g12]) (by simp only [symM, Nat.reduceBEq, g13]) get_same
theorem build_Wr {a : Nat} {d : Value} {h : AH} (hd : SLv d) : evBuild T0 117 [(0, iv a), (1, d)] h = some (.agg #[iv a, d], h) := by
  obtain ⟨_, _, _, rfl⟩ := hd
  kernel_rfl
abbrev YChangesC (call : Abs.Callee) : Prop := ∀ (n pI : Nat) (x y : SI) (bss was : List (List Nat)) (fb : List Nat) (h : AH), ImgY n h pI x y bss was fb → bss.length < 900 → 0 < bss.length → (∀ i, 1 ≤ i → i < bss.length → was[i]? = bss[i]?) → bss.length ≤ was.length → ∃ v' k h', call 23 [pv pI 0] h = some (v', h') ∧ OwnW h.next h' v' k ∧ k ≤ 1 ∧ Grow h.next h h'
theorem YChanges_S (hE : BEqC call) (hCl : BCloneC call) (n pI : Nat) (x y : SI) (bss was : List (List Nat)) (fb : List Nat) (h : AH) (hI : ImgY n h pI x y bss was fb) (hl : bss.length < 900) (h0 : 0 < bss.length) (hw : ∀ i, 1 ≤ i → i < bss.length → was[i]? = bss[i]?) (hl2 : bss.length ≤ was.length) :
    ∃ v' k h', frameB T0 X0 call 3000 23 [pv pI 0] h = some (v', h') ∧ OwnW h.next h' v' k ∧ k ≤ 1 ∧ Grow h.next h h' := by
  obtain ⟨hp, vf, vn, vb, vf', vn', vb', i1, i2, i3, i4, i5⟩ := hI
  have ld := (imx_loads i1).2.2.1
  have hlen : ∀ ty h', evBuiltin T0 .len #[22] ty [vb] h' = some (.value (iv bss.length), h') := fun ty h' => i2.len ty
  have hlen' : ∀ ty h', evBuiltin T0 .len #[22] ty [vb'] h' = some (.value (iv was.length), h') := fun ty h' => i3.len ty
  have ldw : evLoad T0 22 (pv pI 15) h = some vb' := i1.load agg_blocks rfl
  have hx : bss[0]? = some bss[0] := List.getElem?_eq_getElem h0
  have hy : was[0]? = some was[0] := List.getElem?_eq_getElem (by omega)
  obtain ⟨p, w, a1, a2, a3⟩ := i2.at hx
  obtain ⟨q, u, b1, b2, b3⟩ := i3.at hy
  have a1 : evIndexAddr T0 22 vb (iv 0) = some p := a1
  have b1 : evIndexAddr T0 22 vb' (iv 0) = some q := b1
  have he := hE _ _ w u _ _ h a3.2.2.1 b3.2.2.1 a3.row b3.row
  have z1 : IntKind.i64.wrap (0 + 1) = ((1 : Nat) : Int) := by decide
  rw [frameB_eq ft23 rfl rfl]
  simp only [Tryz.f23, symM, opFn, Nat.reduceLT, Nat.reduceBEq, symM, symL, ptr_eql, nil_pv, field_I, field_st, ld, hlen]
  by_cases hq : bss[0] = was[0]
  · rw [decide_eq_true hq] at he
    generalize hX : codeB T0 X0 call _ ECh (.loop _) _ _ _ = X
    obtain ⟨t2, h2, e1, e2, e3⟩ := use_exit hX (i := 0) (Q := fun tm' h' => h' = h ∧ tm'.get 3 = some nilV) (by
      rw [codeB_loop]
      simp only [symM, opFn, Nat.reduceLT, Nat.reduceBEq, symM, bin_lss, decide_eq_true (show (0 : Int) < (bss.length : Nat) by omega), a1, a2, nil_pv, field_I, field_st, ldw, hlen', bin_geq, decide_eq_false (show ¬ (0 : Int) ≥ (was.length : Nat) by omega), b1, b2, evCall_fn ft71 rfl, he, bin_add, z1]
      exact chLpY hE n pI x y bss was h vf vn vb vf' vn' vb' nilV i1 i2 i3 hl hw hl2 (bss.length - 1) 1 _ _ (by omega) (by omega) (by omega) (by simp only [symM, Nat.reduceBEq]) (by simp only [symM, Nat.reduceBEq]) (by simp only [symM, Nat.reduceBEq]) (by simp only [symM, Nat.reduceBEq]) get_same)
    clear hX
    subst e1 e2
    refine ⟨nilV, 0, h2, ?_, OwnW.nil _ _, by omega, Grow.refl _ _⟩
    simp only [symM, opFn, Nat.reduceLT, symM, symL, e3]
    exact retB_one ft23 rfl get_same
  · rw [decide_eq_false hq] at he
    obtain ⟨w1, h1, c1, c2, c3⟩ := a3.clone hCl
    have n1 := c3.next
    obtain ⟨v2, h2, d1, d2, d3⟩ := (OwnW.nil h.next h1).append 0 ⟨c2.one1.1, c2.one1.2.1⟩ (by omega) n1 61
    have G2 : Grow h.next h h2 := c3.trans d3 (Nat.le_refl _)
    have d1 : evBuiltin T0 .append #[61, 61] 61 [nilV, .slice (some ⟨h1.next, 0, none⟩) 1 1] (h1.new (.cells (PM.ofList [iv 0, w1]) 2 117 0 0 .ex)) = some (.value v2, h2) := d1
    have bw : evBuildSlice T0 61 1 [(0, .agg #[iv 0, w1])] h1 = some (.slice (some ⟨h1.next, 0, none⟩) 1 1, h1.new (.cells (PM.ofList [iv 0, w1]) 2 117 0 0 .ex)) := bs_w (a := 0) ⟨c2.one1.1, c2.one1.2.1⟩
    have bd : ∀ h, evBuild T0 117 [(0, iv 0), (1, w1)] h = some (.agg #[iv 0, w1], h) := fun h => build_Wr (a := 0) c2.sl
    generalize hX : codeB T0 X0 call _ ECh (.loop _) _ _ _ = X
    obtain ⟨t2, h3, e1, e2, e3⟩ := use_exit hX (i := 0) (Q := fun tm' h' => h' = h2 ∧ tm'.get 3 = some v2) (by
      rw [codeB_loop]
      simp only [symM, opFn, Nat.reduceLT, Nat.reduceBEq, symM, bin_lss, decide_eq_true (show (0 : Int) < (bss.length : Nat) by omega), a1, a2, nil_pv, field_I, field_st, ldw, hlen', bin_geq, decide_eq_false (show ¬ (0 : Int) ≥ (was.length : Nat) by omega), b1, b2, evCall_fn ft71 rfl, he, evCall_fn ft29 rfl, c1, bd, bw, d1, bin_add, z1]
      exact chLpY hE n pI x y bss was h2 vf vn vb vf' vn' vb' v2 (i1.grow G2 hp) (i2.grow G2) (i3.grow G2) hl hw hl2 (bss.length - 1) 1 _ _ (by omega) (by omega) (by omega) (by simp only [symM, Nat.reduceBEq]) (by simp only [symM, Nat.reduceBEq]) (by simp only [symM, Nat.reduceBEq]) (by simp only [symM, Nat.reduceBEq]) get_same)
    clear hX
    subst e1 e2
    refine ⟨v2, 1, h3, ?_, d2, by omega, G2⟩
    simp only [symM, opFn, Nat.reduceLT, symM, symL, e3]
    exact retB_one ft23 rfl get_same
end
end Go.Proofs.YtjdhdhmoedlfdaaGreat.Abs
namespace Go.Proofs.YtjdhdhmoedlfdaaGreat.Abs
open Go Go.Proofs
noncomputable section
variable {call : Abs.Callee}
set_option maxRecDepth 10000
theorem ft68 : T0.ft.get 68 = some Tryz.f68 := by kernel_rfl
abbrev GRes1C (call : Abs.Callee) : Prop := ∀ (v : Value) (bs : List Nat) (h : AH), EB h v bs → call 68 [v] h = some (.bool (!len64 bs), h)
theorem GRes1_S (v : Value) (bs : List Nat) (h : AH) (hw : EB h v bs) : frameB T0 X0 call 3000 68 [v] h = some (.bool (!len64 bs), h) := by
  rw [frameB_eq ft68 rfl rfl]
  simp only [Tryz.f68, symM, opFn, Nat.reduceLT, Nat.reduceBEq, symM, hw.1, bin_neq, len64_int]
  exact retB_one ft68 rfl get_same
theorem grbLp (hO : GRes1C call) (v : Value) (bss : List (List Nat)) (h : AH) (hv : AB h v bss) (hl : bss.length < XB) :
    ∀ (l : List (List Nat)) (i : Nat) (tm : PM Value) (N : Nat), bss.drop i = l → i + l.length = bss.length → l.length + 60 ≤ N → tm.get 0 = some v → tm.get 1 = some (.func (.func 68) #[] #[]) → tm.get 7 = some (iv bss.length) → tm.get 8 = some (iv i) →
      ∃ tm', (codeB T0 X0 call N EIdxB (.loop bodyIB) tm h [] = .jump .ret tm' h [] ∧ tm'.get 4 = some (iv (idxN l i))) ∨ (codeB T0 X0 call N EIdxB (.loop bodyIB) tm h [] = .jump (.exit 0) tm' h [] ∧ idxN l i = -1) := by
  have hclo : ∀ (args : List Value) (h : AH), evCall T0 X0 (.func (.func 68) #[] #[]) args h = some (.enter 68 (args ++ []), h) := fun args h => evCall_clo (l := []) ft68 rfl
  rw [XB_val] at hl
  intro l
  induction l with
  | nil =>
    intro i tm N hd hi hN g0 g1 g7 g8
    obtain ⟨N, rfl⟩ : ∃ a, N = a + 60 := ⟨N - 60, by simp at hN; omega⟩
    apply Exists.intro
    right
    refine ⟨?_, rfl⟩
    rw [codeB_loop]
    simp only [bodyIB, part, Tryz.f72, sub, symM, opFn, Nat.reduceLT, symM, g7, g8, bin_lss, decide_eq_false (show ¬ (i : Int) < (bss.length : Nat) by simp at hi; omega)]
    rfl
  | cons bs l ih =>
    intro i tm N hd hi hN g0 g1 g7 g8
    obtain ⟨N, rfl⟩ : ∃ a, N = a + 60 := ⟨N - 60, by simp at hN; omega⟩
    have hx1 : bss[i]? = some bs := by have := congrArg (fun l => l[0]?) hd; simpa using this
    have hil : i < bss.length := (List.getElem?_eq_some_iff.1 hx1).1
    obtain ⟨p, w, a1, a2, a3⟩ := hv.at hx1
    have hc := hO w bs h a3
    cases hq : len64 bs with
    | false =>
      rw [hq] at hc
      apply Exists.intro
      left
      apply And.intro
      · rw [codeB_loop]
        simp only [bodyIB, part, Tryz.f72, sub, symM, opFn, Nat.reduceLT, Nat.reduceBEq, symM, g0, g1, g7, g8, bin_lss, decide_eq_true (show (i : Int) < (bss.length : Nat) by omega), a1, a2, hclo, List.append_nil, hc]
        rfl
      · simp only [symM, idxN, hq, cond_false]
    | true =>
      rw [hq] at hc
      rw [show N + 60 = (N + 59) + 1 from rfl, codeB_loop]
      simp only [bodyIB, part, Tryz.f72, sub, symM, opFn, Nat.reduceLT, Nat.reduceBEq, symM, g0, g1, g7, g8, bin_lss, decide_eq_true (show (i : Int) < (bss.length : Nat) by omega), a1, a2, hclo, List.append_nil, hc, bin_add, wadd1x (show i + 1 < 9223372036854775808 by omega)]
      rw [show idxN (bs :: l) i = idxN l (i + 1) from by rw [idxN, hq]; rfl]
      exact ih (i + 1) _ (N + 59) (by rw [← List.drop_drop, hd]; rfl) (by simp at hi ⊢; omega) (by simp at hN ⊢; omega) (by simp only [symM, Nat.reduceBEq, g0]) (by simp only [symM, Nat.reduceBEq, g1]) (by simp only [symM, Nat.reduceBEq, g7]) get_same
abbrev GIdxRC (call : Abs.Callee) (B : Nat) : Prop := ∀ (v : Value) (bss : List (List Nat)) (h : AH), AB h v bss → bss.length ≤ B → call 72 [v, .func (.func 68) #[] #[]] h = some (iv (idxN bss 0), h)
theorem GIdxR_S (hO : GRes1C call) (v : Value) (bss : List (List Nat)) (h : AH) (hv : AB h v bss) (hl : bss.length < XB) (M : Nat) (hM : bss.length ≤ M) :
    frameB T0 X0 call (M + 3000) 72 [v, .func (.func 68) #[] #[]] h = some (iv (idxN bss 0), h) := by
  rw [frameB_eq ft72 rfl rfl]
  simp only [Tryz.f72, symM, opFn, Nat.reduceLT, Nat.reduceBEq, symM, symL, hv.len]
  refine bind_loopL (b := bodyIB) (Q := fun x => ∃ tm', (x = .jump .ret tm' h [] ∧ tm'.get 4 = some (iv (idxN bss 0))) ∨ (x = .jump (.exit 0) tm' h [] ∧ idxN bss 0 = -1)) (P := fun x => endF T0 72 x = some (iv (idxN bss 0), h)) ?_ ?_
  · exact grbLp hO v bss h hv hl bss 0 _ _ rfl (by simp) (by omega) (by simp only [symM, Nat.reduceBEq]) (by simp only [symM, Nat.reduceBEq]) (by simp only [symM, Nat.reduceBEq]) (by simp only [symM]; rfl)
  · intro x ⟨tm', hx⟩
    rcases hx with ⟨rfl, h4⟩ | ⟨rfl, h4⟩
    · simp only [symM]
      exact retB_one ft72 rfl h4
    · rw [h4]
      simp only [symM]
      exact retB_one ft72 rfl get_same
abbrev GContRC (call : Abs.Callee) (B : Nat) : Prop := ∀ (v : Value) (bss : List (List Nat)) (h : AH), AB h v bss → bss.length ≤ B → call 24 [v, .func (.func 68) #[] #[]] h = some (.bool (bss.any fun bs => !len64 bs), h)
theorem GContR_S (v : Value) (bss : List (List Nat)) (h : AH) (hI : call 72 [v, .func (.func 68) #[] #[]] h = some (iv (idxN bss 0), h)) :
    frameB T0 X0 call 3000 24 [v, .func (.func 68) #[] #[]] h = some (.bool (bss.any fun bs => !len64 bs), h) := by
  rw [frameB_eq ft24 rfl rfl]
  simp only [Tryz.f24, symM, opFn, Nat.reduceLT, Nat.reduceBEq, symM, evCall_fn ft72 rfl, hI, bin_geq, idxN_any]
  exact retB_one ft24 rfl get_same
def WL (h : AH) (v : Value) (bss : List (List Nat)) : Prop :=
  (∃ b k cap, v = .slice (some ⟨b, 0, none⟩) k cap) ∧ ∃ vs, Row h.next h v vs 57 ∧ vs.length = bss.length ∧ ∀ (i : Nat) (w : Value) (bs : List Nat), vs[i]? = some w → bss[i]? = some bs → Bks h w bs
theorem appended_row {h : AH} {v z : Value} {vs : List Value} (hw : Row h.next h v vs 57) : appendedA T0 22 (infoOf 57) z v h = some (vs.length, vs) := by
  rcases hw with ⟨rfl, rfl⟩ | ⟨b, o, cap, c, m, lo, hi, kd, el, rfl, h4, h5, h6, h7⟩
  · unfold appendedA
    simp only [und_blocks, lenOfA]
    rfl
  · unfold appendedA
    simp only [und_blocks, lenOfA]
    have hold : firstA (infoOf 57).size vs.length h (.slice (some ⟨b, o, none⟩) vs.length cap) = some vs := by
      unfold firstA
      by_cases hk0 : vs.length = 0
      · rw [hk0, show vs = [] from List.length_eq_zero_iff.1 hk0]
        rfl
      · show ifB (Nat.beq vs.length 0) (some []) (ifB (Nat.ble vs.length vs.length) (loadRow h b o (vs.length * (infoOf 57).size)) none) = some vs
        rw [nbF (by simpa using hk0), ifB_false, Nat.ble_eq_true_of_le (Nat.le_refl _), ifB_true, ti_bytes.2.1, Nat.mul_one]
        exact loadRow_of (l := vs) h5 h6 h7
    rw [hold]
    simp only
    rw [ti_bytes.2.1, Nat.mul_one, Nat.beq_refl, ifB_true]
theorem WL.grow {h h' : AH} {v : Value} {bss : List (List Nat)} (hb : WL h v bss) (g : Grow h.next h h') : WL h' v bss := by
  obtain ⟨q, vs, h1, h2, h3⟩ := hb
  exact ⟨q, vs, h1.growN g, h2, fun i w bs hw hb => (h3 i w bs hw hb).grow g⟩
theorem CloneBW_S (v : Value) (bss : List (List Nat)) (h : AH) (hb : WL h v bss) (hl : bss.length < 1000) :
    ∃ v' h', frameB T0 X0 call 3000 69 [v] h = some (v', h') ∧ BL h.next h' v' bss ∧ Grow h.next h h' := by
  obtain ⟨a, l, cc, hv⟩ := hb.1
  have g1 := Grow.new h (.cells (PM.ofList []) 0 57 0 0 .ex)
  have ho : OwnC 1 h.next (h.new (.cells (PM.ofList []) 0 57 0 0 .ex)) (.slice (some ⟨h.next, 0, none⟩) 0 0) 0 [] 57 := .inr ⟨h.next, PM.ofList [], .ex, 0, Nat.le_refl _, Nat.lt_succ_self _, rfl, get_new_same _ _, rfl, fun i x hx => by simp at hx, .inl ⟨rfl, rfl⟩⟩
  obtain ⟨_, vs, b1, b2, b3⟩ := hb.grow g1
  have hall : vs.all oneCell = true := by
    rw [List.all_eq_true]
    intro x hx
    obtain ⟨i, hi, rfl⟩ := List.getElem_of_mem hx
    exact (b3 i _ _ (List.getElem?_eq_getElem hi) (List.getElem?_eq_getElem (by rw [← b2]; exact hi))).one1.1
  obtain ⟨v', h', e1, e2, e3, _⟩ := append_gen und_blocks tt_bytes ti_bytes.1 ti_bytes.2.1 ti_bytes.2.2 ho (appended_row b1) (Nat.mul_one _).symm hall (by omega) g1.next 22
  refine ⟨v', h', ?_, ⟨vs, by have := e2.own; simpa using this, b2, fun i w bs p q => (b3 i w bs p q).keep e3.next fun k hk hu => e3.keep k ?_⟩, g1.trans e3 (Nat.le_refl _)⟩
  · subst hv
    rw [frameB_eq ft69 rfl rfl]
    simp only [Tryz.f69, symM, opFn, Nat.reduceLT, Nat.reduceBEq, symM, nil_eqBB, bs_bb0, e1]
    exact retB_one ft69 rfl get_same
  · have hne : k ≠ h.next := tyAt.ne hu (⟨_, _, _, _, _, get_new_same _ _⟩ : tyAt (h.new (.cells (PM.ofList []) 0 57 0 0 .ex)) h.next 57) (by decide)
    have : k < h.next + 1 := hk
    omega
abbrev CloBWC (call : Abs.Callee) : Prop := ∀ (v : Value) (bss : List (List Nat)) (h : AH), WL h v bss → bss.length < 1000 → ∃ v' h', call 69 [v] h = some (v', h') ∧ BL h.next h' v' bss ∧ Grow h.next h h'
theorem BL.cut {n sz : Nat} {h : AH} {v : Value} {bss : List (List Nat)} (hb : BL n h v bss) (h0 : bss.length ≠ 0) (hs : sz ≤ bss.length) (hl : bss.length < 1000) :
    ∃ w, evSliceX T0 22 v none (some (iv sz)) none h = some (w, h) ∧ WL h w (bss.take sz) ∧ (sz = bss.length → w = v) := by
  obtain ⟨vs, h1, h2, h3⟩ := hb
  rcases h1 with ⟨_, q⟩ | ⟨b, c, kd, cap, q1, q2, rfl, q4, q5, q6⟩
  · rw [q] at h2; simp at h2; omega
  · have hrow : ∀ w, Row h.next h (.slice (some ⟨b, 0, none⟩) sz w) (vs.take sz) 57 := fun w =>
      .inr ⟨b, 0, w, c, _, 0, 0, kd, _, by rw [List.length_take, show min sz vs.length = sz by omega], q2, q4, by rw [List.length_take]; omega, fun i x hi => by
        rw [Nat.zero_add]
        rw [List.getElem?_take] at hi
        split at hi
        · exact q5 _ _ hi
        · cases hi⟩
    have hw : ∀ w, WL h (.slice (some ⟨b, 0, none⟩) sz w) (bss.take sz) := fun w => ⟨⟨b, sz, w, rfl⟩, vs.take sz, hrow w, by rw [List.length_take, List.length_take, h2], fun i x bs hx hy => by
      rw [List.getElem?_take] at hx hy
      split at hx
      · rename_i hi
        rw [if_pos hi] at hy
        exact h3 _ x bs hx hy
      · cases hx⟩
    have hvn : (vs.length == 0) = false := by simp; intro e; rw [e] at h2; simp at h2; omega
    rcases q6 with ⟨rfl, rfl⟩ | ⟨rfl, rfl⟩
    · refine ⟨_, ?_, hw vs.length, fun e => by rw [e, h2]⟩
      have hk : capOf vs.length = vs.length := capOf_lt (by rw [XB_val]; omega)
      have hbnd : boundsA vs.length vs.length none (some (iv sz)) none = some (0, sz, vs.length) := by
        simp only [boundsA, boundA, show natOf (iv (sz : Int)) = some sz from rfl, Nat.ble_eq_true_of_le (show sz ≤ vs.length by omega), ifB_true]
      simp only [evSliceX, evSlice, und_blocks, sz_bytes, evSliceS, hk, hbnd, Nat.ble_eq_true_of_le (show sz ≤ vs.length by omega), ifB_true, ble_lt' (show vs.length < XB by rw [XB_val]; omega), ifB_false, offS, nbF hvn, Nat.mul_one, Nat.zero_add, Nat.sub_zero]
    · refine ⟨_, ?_, hw (XB + vs.length), fun e => by rw [e, h2]⟩
      have hbnd : boundsA vs.length vs.length none (some (iv sz)) none = some (0, sz, vs.length) := by
        simp only [boundsA, boundA, show natOf (iv (sz : Int)) = some sz from rfl, Nat.ble_eq_true_of_le (show sz ≤ vs.length by omega), ifB_true]
      have hls : looseSz T0 h b 1 = true := by
        unfold looseSz
        rw [q4]
        simp only [sz_bytes]
        rfl
      simp only [evSliceX, evSlice, und_blocks, sz_bytes, evSliceS, capOf_ge, hbnd, Nat.ble_eq_true_of_le (show sz ≤ vs.length by omega), ifB_true, Nat.ble_eq_true_of_le (show XB ≤ XB + vs.length by omega), hls, offS, nbF hvn, ifB_false, Nat.mul_one, Nat.zero_add, Nat.sub_zero]
theorem BL.append2 {n : Nat} {h : AH} {v w : Value} {bs : List Nat} {bss : List (List Nat)} (hb : BL n h v bss) (hw : Bks h w bs) (hl : bss.length < 1000) (hn : n ≤ h.next) (ty : TypeId) :
    ∃ v' h', evBuiltin T0 .append #[22, 22] ty [v, .slice (some ⟨h.next, 0, none⟩) 1 1] (h.new (.cells (PM.ofList [w]) 1 57 0 0 .ex)) = some (.value v', h') ∧ BL h.next h' v' (bss ++ [bs]) ∧ Grow n h h' ∧ (∀ k, k < h.next → Off v k → h'.get k = h.get k) := by
  obtain ⟨vs, a1, a2, a3⟩ := hb
  obtain ⟨v', h', e1, e2, e3, e4⟩ := append_one2 und_blocks tt_bytes ti_bytes.1 ti_bytes.2.1 ti_bytes.2.2 a1 hw.one1.1 (by omega) hn ty
  have ku : ∀ k, k < h.next → tyAt h k 5 → h'.get k = h.get k := fun k hk hu => e4 k hk (a1.offT hu (by decide))
  refine ⟨v', h', e1, ⟨vs ++ [w], e2, by simp [a2], ?_⟩, e3, e4⟩
  intro i x cs hx hc
  by_cases hi : i < vs.length
  · rw [List.getElem?_append_left hi] at hx
    rw [List.getElem?_append_left (by rw [← a2]; exact hi)] at hc
    exact (a3 i x cs hx hc).keep e3.next ku
  · rw [List.getElem?_append_right (by omega)] at hx
    rw [List.getElem?_append_right (by omega), ← a2] at hc
    have h0 : i - vs.length = 0 := by
      have := (List.getElem?_eq_some_iff.1 hx).1
      simp at this; omega
    rw [h0] at hx hc
    cases hx; cases hc
    exact hw.keep e3.next ku
theorem imx_wb {h : AH} {pI : Nat} {x y : SI} {vf vn vb vf' vn' vb' v : Value} (hI : BoxL h pI 69 (imgX x vf vn vb (stX y vf' vn' vb'))) (hv : SLv v) :
    ∃ h', evStore T0 22 (pv pI 15) v h = some h' ∧ BoxL h' pI 69 (imgX x vf vn vb (stX y vf' vn' v)) ∧ One pI h h' := by
  obtain ⟨h', s1, s2, s3, s4⟩ := BoxL.store (n := pI) (o := 15) (v := v) hI (ws := [v]) sz_bb hv.one1.2.1 (by simp) (by simp [hv.one1.1]) (by simp [imgX, siL, stX]) (Nat.le_refl _)
  exact ⟨h', s1, s2, s4, evStore_keep s1⟩
theorem imx_size {h : AH} {pI : Nat} {x : SI} {vf vn vb : Value} {ws : List Value} (k : Int) (hI : BoxL h pI 69 (imgX x vf vn vb ws)) :
    ∃ h', evStore T0 3 (pv pI 0) (iv k) h = some h' ∧ BoxL h' pI 69 (imgX { x with s := k } vf vn vb ws) ∧ One pI h h' := by
  obtain ⟨h', s1, s2, s3, s4⟩ := BoxL.store (n := pI) (o := 0) (v := iv k) hI (ws := [iv k]) sz_int rfl (by simp) rfl (by simp [imgX, siL]) (Nat.le_refl _)
  exact ⟨h', s1, s2, s4, evStore_keep s1⟩
end
end Go.Proofs.YtjdhdhmoedlfdaaGreat.Abs
namespace Go.Proofs.YtjdhdhmoedlfdaaGreat.Abs
open Go Go.Proofs
noncomputable section
variable {call : Abs.Callee}
set_option maxRecDepth 10000
noncomputable def bodyRz : Code := part Tryz.f22 [1, 1, 1, 0, 1, 0, 0]
abbrev ERz : Env := ⟨22, 131, none⟩
theorem plan_z3 : planB (regOps Tryz.f22 [1, 1, 0]) 131 = some ([.one 0, .one 1, .one 2, .one 3, .one 4, .one 5, .one 6, .one 7, .one 8, .one 9, .one 10, .one 11, .one 12, .one 13, .one 14, .one 15, .eff [] 16 []], []) := by kernel_rfl
theorem plan_z7 : planB (regOps Tryz.f22 [1, 1, 1, 0, 1, 0, 0, 1, 1, 0, 0, 1, 0]) 131 = some ([.one 0, .one 1, .one 2, .one 3, .one 4, .one 5, .one 6, .eff [] 7 [0, 1, 2, 3, 4, 5], .eff [8] 9 [0], .one 10, .one 11, .one 12, .eff [] 13 []], []) := by kernel_rfl
theorem plan_z8 : planB (regOps Tryz.f22 [1, 1, 1, 0, 1, 0, 0, 1, 1, 0, 0, 1, 1, 0]) 131 = some ([.one 0, .one 1, .one 2, .one 3, .one 4, .one 5, .one 6, .one 7, .one 8, .one 9, .one 10, .one 11, .one 12, .one 13, .one 14], []) := by kernel_rfl
theorem plan_z9 : planB (regOps Tryz.f22 [1, 1, 1, 0, 1, 0, 0, 1, 1, 0, 0, 1, 1, 1, 0]) 131 = some ([.one 0, .one 1, .one 2, .one 3, .one 4, .one 5, .one 6, .eff [] 7 [0, 1, 2, 3, 4, 5], .eff [8] 9 [0], .one 10, .one 11, .one 12, .eff [] 13 []], []) := by kernel_rfl
theorem field_Su8 {b : Nat} : evFieldAddr T0 36 (pv b 8) 0 = some (pv b 8) := by kernel_rfl
theorem rzLp (hCl : WCloneC call) (n pI : Nat) (x y : SI) (bss was more : List (List Nat)) (fb : List Nat) (vm sz : Value) (hxs : x.s = (bss.length : Int)) (hws : was.length = bss.length) (hL : bss.length + more.length ≤ 480) (hb0 : bss.length ≠ 0) (h64 : ∀ bs ∈ more, bs.length = 64 ∧ ∀ x ∈ bs, x < 256) (hnI : n ≤ pI) (h0 : AH) (hn0 : n = h0.next) (hv0 : WB h0 vm more) :
    ∀ (k i : Nat) (h : AH) (tm : PM Value) (N : Nat), i + k = more.length → k + 60 ≤ N → Grow n h0 h → ImgY n h pI x y (bss ++ more.take i) (was ++ more.take i) fb →
      tm.get 0 = some (pv pI 0) → tm.get 1 = some sz → tm.get 53 = some vm → tm.get 54 = some (iv more.length) → tm.get 55 = some (iv i) →
      ∃ tm' h', codeB T0 X0 call N ERz (.loop bodyRz) tm h [] = .jump (.exit 0) tm' h' [] ∧ ((tm'.get 0 = some (pv pI 0) ∧ tm'.get 1 = some sz ∧ ImgY n h' pI x y (bss ++ more) (was ++ more) fb) ∧ Grow n h h') := by
  intro k
  induction k with
  | zero =>
    intro i h tm N hi hN hG hI g0 g1 g53 g54 g55
    obtain ⟨N, rfl⟩ : ∃ a, N = a + 60 := ⟨N - 60, by omega⟩
    have hiB : i = more.length := by omega
    rw [List.take_of_length_le (by omega)] at hI
    apply Exists.intro; apply Exists.intro
    refine ⟨?_, ⟨?_, ?_, hI⟩, Grow.refl _ _⟩
    · rw [codeB_loop]
      simp only [bodyRz, part, Tryz.f22, sub, symM, opFn, Nat.reduceLT, symM, g54, g55, bin_lss, decide_eq_false (show ¬ (i : Int) < (more.length : Nat) by omega)]
      rfl
    · simp only [symM, Nat.reduceBEq, g0]
    · simp only [symM, Nat.reduceBEq, g1]
  | succ k ih =>
    intro i h tm N hi hN hG hI g0 g1 g53 g54 g55
    obtain ⟨N, rfl⟩ : ∃ a, N = a + 60 := ⟨N - 60, by omega⟩
    obtain ⟨hp, vf, vn, vb, vf', vn', vb', i1, i2, i3, i4, i5⟩ := hI
    have hil : i < more.length := by omega
    have hxi : more[i]? = some more[i] := List.getElem?_eq_getElem hil
    obtain ⟨m1, m2⟩ := h64 _ (List.getElem_mem hil)
    obtain ⟨p, w, a1, _, a2⟩ := hv0.ats hxi
    obtain ⟨a3, a4⟩ := a2 h (hn0 ▸ hG)
    have nn := hG.next
    have tl : (bss ++ more.take i).length = bss.length + i := by simp; omega
    have tw : (was ++ more.take i).length = bss.length + i := by simp; omega
    obtain ⟨w', h1, b1, b2, b3⟩ := hCl w _ h a4 (by omega) (by omega) m2
    have n1 := b3.next
    have i11 := i1.grow b3 hp
    have i21 := i2.grow b3
    have i31 := i3.grow b3
    have i51 := i5.grow b3
    obtain ⟨v2, h2, c1, c2, c3, c4⟩ := i21.append2 b2 (by omega) (by omega) 22
    have n2 := c3.next
    have i12 := i11.keep (c4 pI (by omega) (i21.off i11.ty (by decide)))
    have i32 := i31.keepD i21 i4 n2 c4
    have i52 : Bks h2 vf fb := i51.keep n2 fun k hk hu => c4 k hk (i21.off hu (by decide))
    have d2 : Dis vb' v2 := i31.dis c2
    have sl2 : SLv v2 := c2.sl (by rw [List.length_append]; show _ + 1 ≠ 0; omega)
    obtain ⟨h3, e1, e2, e3⟩ := imx_blocks i12 sl2
    have n3 := e3.next
    have c23 : BL n h3 v2 (bss ++ more.take i ++ [more[i]]) := (c2.one e3 i12.ty (by decide) (by decide)).less (by omega)
    have i33 := i32.one e3 i12.ty (by decide) (by decide)
    have i53 : Bks h3 vf fb := i52.keep (Nat.le_of_eq n3.symm) fun k hk hu => e3.keep k (tyAt.ne hu i12.ty (by decide))
    have G3 : Grow n h h3 := ((b3.less (by omega)).trans c3 (Nat.le_refl _)).trans (e3.grow hnI) (Nat.le_refl _)
    have G03 : Grow n h0 h3 := hG.trans G3 (Nat.le_refl _)
    obtain ⟨_, a43⟩ := a2 h3 (hn0 ▸ G03)
    obtain ⟨w4, h4, f1, f2, f3⟩ := hCl w _ h3 a43 (by omega) (by omega) m2
    have n4 := f3.next
    have i14 := e2.grow f3 (by omega)
    have i24 := c23.grow f3
    have i34 := i33.grow f3
    have i54 := i53.grow f3
    obtain ⟨v5, h5, q1, q2, q3, q4⟩ := i34.append2 f2 (by omega) (by omega) 22
    have n5 := q3.next
    have i15 := i14.keep (q4 pI (by omega) (i34.off i14.ty (by decide)))
    have i25 := i24.keepD i34 d2 n5 q4
    have i55 : Bks h5 vf fb := i54.keep n5 fun k hk hu => q4 k hk (i34.off hu (by decide))
    have d5 : Dis v2 v5 := i24.dis q2
    have sl5 : SLv v5 := q2.sl (by rw [List.length_append]; show _ + 1 ≠ 0; omega)
    obtain ⟨h6, r1, r2, r3⟩ := imx_wb i15 sl5
    have n6 := r3.next
    have i26 := i25.one r3 i15.ty (by decide) (by decide)
    have q26 : BL n h6 v5 (was ++ more.take i ++ [more[i]]) := (q2.one r3 i15.ty (by decide) (by decide)).less (by omega)
    have i56 : Bks h6 vf fb := i55.keep (Nat.le_of_eq n6.symm) fun k hk hu => r3.keep k (tyAt.ne hu i15.ty (by decide))
    have G6 : Grow n h h6 := ((G3.trans (f3.less (by omega)) (Nat.le_refl _)).trans q3 (Nat.le_refl _)).trans (r3.grow hnI) (Nat.le_refl _)
    have et : more.take i ++ [more[i]] = more.take (i + 1) := (List.take_succ_eq_append_getElem hil).symm
    have hI6 : ImgY n h6 pI x y (bss ++ more.take (i + 1)) (was ++ more.take (i + 1)) fb := by
      rw [List.append_assoc, et] at i26 q26
      exact ⟨by omega, vf, vn, v2, vf', vn', v5, r2, i26, q26, d5, i56⟩
    have ld : evLoad T0 22 (pv pI 7) h = some vb := (imx_loads i1).2.2.1
    have ld1 : evLoad T0 22 (pv pI 7) h1 = some vb := (imx_loads i11).2.2.1
    have ls3 : evLoad T0 3 (pv pI 0) h3 = some (iv x.s) := e2.load agg_int rfl
    have lw3 : evLoad T0 22 (pv pI 15) h3 = some vb' := e2.load agg_blocks rfl
    have lw4 : evLoad T0 22 (pv pI 15) h4 = some vb' := i14.load agg_blocks rfl
    have hlw : ∀ ty h', evBuiltin T0 .len #[22] ty [vb'] h' = some (.value (iv (bss.length + i : Nat)), h') := fun ty h' => by rw [← tw]; exact i3.len ty
    have hew : eqV w w = true := a4.row.eqv
    have hs8 : IntKind.i64.wrap (x.s + (i : Int)) = ((bss.length + i : Nat) : Int) := by rw [hxs, wz (by omega)]; omega
    have heq : (((bss.length + i : Nat) : Int) == ((bss.length + i : Nat) : Int)) = true := by simp
    have hp7 := plan_z7
    simp only [regOps, part, Tryz.f22, sub] at hp7
    have hp8 := plan_z8
    simp only [regOps, part, Tryz.f22, sub] at hp8
    have hp9 := plan_z9
    simp only [regOps, part, Tryz.f22, sub] at hp9
    rw [show N + 60 = (N + 59) + 1 from rfl, codeB_loop]
    simp only [bodyRz, part, Tryz.f22, sub, symM, opFn, Nat.reduceLT, Nat.reduceBEq, symM, g53, g54, g55, bin_lss, decide_eq_true (show (i : Int) < (more.length : Nat) by omega), a1, a3]
    rw [codeB_draw, draw_plan hp7 rfl]
    simp only [drawAll, opFn, Nat.reduceBEq, nil_pv, g0, field_I, field_st, ld, ld1, i2.eqv, evCall_fn ft29 rfl, b1, effE_cons, goAB_some (bs_bk b2.one1.1), c1, e1]
    rw [draw_plan hp8 rfl]
    simp only [drawAll, opFn, Nat.reduceBEq, nil_pv, g0, field_I, field_st, field_Su0, ls3, lw3, hlw, bin_add, hs8, bin_eql, heq]
    rw [draw_plan hp9 rfl]
    simp only [drawAll, opFn, Nat.reduceLT, Nat.reduceBEq, nil_pv, g0, g55, field_I, field_st, lw3, lw4, i3.eqv, evCall_fn ft29 rfl, f1, effE_cons, goAB_some (bs_bk f2.one1.1), q1, r1, bin_add, wadd1 (show i ≤ 400000 by omega)]
    exact wrapE (ih (i + 1) h6 _ (N + 59) (by omega) (by omega) (hG.trans G6 (Nat.le_refl _)) hI6 (by simp only [symM, Nat.reduceBEq, g0]) (by simp only [symM, Nat.reduceBEq, g1]) (by simp only [symM, Nat.reduceBEq, g53]) (by simp only [symM, Nat.reduceBEq, g54]) get_same) G6
end
end Go.Proofs.YtjdhdhmoedlfdaaGreat.Abs
namespace Go.Proofs.YtjdhdhmoedlfdaaGreat.Abs
open Go Go.Proofs
noncomputable section
variable {call : Abs.Callee}
set_option maxRecDepth 10000
def okRz (L : Nat) (size : Int) (more : List (List Nat)) : Bool := decide (64 ≤ size ∧ size ≤ 480) && (decide (more.length = (size - L).toNat) && !(more.any fun bs => !len64 bs))
def sizeI (x : SI) (k : Int) : SI := { x with s := k }
def ResR (n : Nat) (h' : AH) (pI : Nat) (x y : SI) (bss was : List (List Nat)) (fb : List Nat) (size : Int) (more : List (List Nat)) (r : Value) : Prop :=
  (okRz bss.length size more = false ∧ r = iv 1 ∧ ImgY n h' pI x y bss was fb) ∨ (okRz bss.length size more = true ∧ r = iv 0 ∧ ImgY n h' pI (sizeI x size) y (((bss ++ more).take size.toNat).set 0 (svB (sizeI x size).sv)) (was ++ more) fb)
abbrev YResC (call : Abs.Callee) (B : Nat) : Prop := ∀ (n pI : Nat) (x y : SI) (bss was more : List (List Nat)) (fb : List Nat) (vm : Value) (size : Int) (h0 h : AH), n = h0.next → Grow n h0 h → AB h0 vm more → (∀ bs ∈ more, ∀ x ∈ bs, x < 256) → more.length ≤ B → ImgY n h pI x y bss was fb → n ≤ pI → okI x = true → x.s = (bss.length : Int) → y.s = (was.length : Int) → was.length = bss.length →
  ∃ r h', call 22 [pv pI 0, iv size, vm] h = some (r, h') ∧ ResR n h' pI x y bss was fb size more r ∧ Grow n h h'
set_option maxHeartbeats 800000 in
theorem YRes_S (B : Nat) (hCo : GContRC call B) (hCl : WCloneC call) (hBW : CloBWC call) (hE : GEncC call 64) (hMu : MustC call) (hP : PutYC call) (n pI : Nat) (x y : SI) (bss was more : List (List Nat)) (fb : List Nat) (vm : Value) (size : Int) (h0 h : AH) (hn0 : n = h0.next) (hG : Grow n h0 h) (hm : AB h0 vm more) (hmb : ∀ bs ∈ more, ∀ x ∈ bs, x < 256) (hmB : more.length ≤ B) (hI : ImgY n h pI x y bss was fb) (hnI : n ≤ pI) (hok : okI x = true) (hxs : x.s = (bss.length : Int)) (hys : y.s = (was.length : Int)) (hws : was.length = bss.length) :
    ∃ r h', frameB T0 X0 call 3000 22 [pv pI 0, iv size, vm] h = some (r, h') ∧ ResR n h' pI x y bss was fb size more r ∧ Grow n h h' := by
  have hmh := hm.grow (hn0 ▸ hG)
  have hlen : ∀ ty h', evBuiltin T0 .len #[22] ty [vm] h' = some (.value (iv more.length), h') := fun ty h' => hm.len ty
  have hL := (okI_true hok).1
  rw [hxs] at hL
  have cc := hCo vm more h hmh hmB
  by_cases s1 : size < 64
  · refine ⟨iv 1, h, ?_, .inl ⟨by unfold okRz; rw [decide_eq_false (by omega)]; rfl, rfl, hI⟩, Grow.refl _ _⟩
    rw [frameB_eq ft22 rfl rfl]
    simp only [Tryz.f22, symM, opFn, Nat.reduceLT, Nat.reduceBEq, symM, ptr_eql, bin_lss, decide_eq_true s1]
    exact retB_one ft22 rfl get_same
  by_cases s2 : 480 < size
  · refine ⟨iv 1, h, ?_, .inl ⟨by unfold okRz; rw [decide_eq_false (by omega)]; rfl, rfl, hI⟩, Grow.refl _ _⟩
    rw [frameB_eq ft22 rfl rfl]
    simp only [Tryz.f22, symM, opFn, Nat.reduceLT, Nat.reduceBEq, symM, ptr_eql, bin_lss, decide_eq_false s1, bin_gtr, decide_eq_true s2]
    exact retB_one ft22 rfl get_same
  obtain ⟨z, rfl⟩ : ∃ z : Nat, size = (z : Int) := ⟨size.toNat, by omega⟩
  have lm : evLoad T0 3 (pv pI 0) h = some (iv x.s) := by
    obtain ⟨_, vf, vn, vb, vf', vn', vb', i1, _⟩ := hI
    exact i1.load agg_int rfl
  have w1 : IntKind.i64.wrap ((z : Int) - x.s) = (z : Int) - (bss.length : Int) := by rw [hxs, wz (by omega)]
  have hmx : (if (0 : Int) > (z : Int) - (bss.length : Int) then (0 : Int) else (z : Int) - (bss.length : Int)) = ((((z : Int) - (bss.length : Int)).toNat : Nat) : Int) := by split <;> omega
  by_cases s3 : more.length = ((z : Int) - (bss.length : Int)).toNat
  case neg =>
    have hne : (((more.length : Nat) : Int) == ((((z : Int) - (bss.length : Int)).toNat : Nat) : Int)) = false := by rw [int_ne, decide_eq_false s3]
    refine ⟨iv 1, h, ?_, .inl ⟨by unfold okRz; rw [decide_eq_false s3]; simp, rfl, hI⟩, Grow.refl _ _⟩
    rw [frameB_eq ft22 rfl rfl]
    simp only [Tryz.f22, symM, opFn, Nat.reduceLT, Nat.reduceBEq, symM, ptr_eql, bin_lss, decide_eq_false s1, bin_gtr, decide_eq_false s2, hlen, nil_pv, field_I, field_st, field_Su0, lm, bin_sub, w1, bi_max, hmx, bin_neq, hne]
    exact retB_one ft22 rfl get_same
  have hne : (((more.length : Nat) : Int) == ((((z : Int) - (bss.length : Int)).toNat : Nat) : Int)) = true := by rw [int_ne, decide_eq_true s3]
  cases s4 : (more.any fun bs => !len64 bs) with
  | true =>
    rw [s4] at cc
    refine ⟨iv 1, h, ?_, .inl ⟨by unfold okRz; rw [s4]; simp, rfl, hI⟩, Grow.refl _ _⟩
    rw [frameB_eq ft22 rfl rfl]
    simp only [Tryz.f22, symM, opFn, Nat.reduceLT, Nat.reduceBEq, symM, ptr_eql, bin_lss, decide_eq_false s1, bin_gtr, decide_eq_false s2, hlen, nil_pv, field_I, field_st, field_Su0, lm, bin_sub, w1, bi_max, hmx, bin_neq, hne, evCall_fn ft24 rfl, cc]
    exact retB_one ft22 rfl get_same
  | false =>
  rw [s4] at cc
  have okE : okRz bss.length (z : Int) more = true := by unfold okRz; rw [s4, decide_eq_true s3, decide_eq_true (by omega)]; rfl
  have h64 : ∀ bs ∈ more, bs.length = 64 ∧ ∀ x ∈ bs, x < 256 := fun bs hb => ⟨any64 s4 bs hb, hmb bs hb⟩
  have hv0 : WB h0 vm more := hm.wb fun bs hb => (h64 bs hb).1
  obtain ⟨hp, vf, vn, vb, vf', vn', vb', i1, i2, i3, i4, i5⟩ := hI
  have lw : evLoad T0 22 (pv pI 15) h = some vb' := i1.load agg_blocks rfl
  have ly : evLoad T0 3 (pv pI 8) h = some (iv (was.length : Nat)) := by rw [← hys]; exact i1.load agg_int rfl
  obtain ⟨w, b1, _, b2⟩ := i3.cut (sz := was.length) (by omega) (Nat.le_refl _) (by omega)
  rw [b2 rfl] at b1
  obtain ⟨h1, c1, c2, c3⟩ := imx_wb i1 (i3.sl (by omega))
  have n1 := c3.next
  have hI1 : ImgY n h1 pI x y (bss ++ more.take 0) (was ++ more.take 0) fb := by
    rw [List.take_zero, List.append_nil, List.append_nil]
    exact ⟨by omega, vf, vn, vb, vf', vn', vb', c2, i2.one c3 i1.ty (by decide) (by decide), i3.one c3 i1.ty (by decide) (by decide), i4, i5.keep (Nat.le_of_eq n1.symm) fun k hk hu => c3.keep k (tyAt.ne hu i1.ty (by decide))⟩
  have G1 : Grow n h h1 := c3.grow hnI
  have hev : eqV vb' vb' = true := i3.eqv
  have hp3 := plan_z3
  simp only [regOps, part, Tryz.f22, sub] at hp3
  rw [frameB_eq ft22 rfl rfl]
  simp only [Tryz.f22, symM, opFn, Nat.reduceLT, Nat.reduceBEq, symM, ptr_eql, bin_lss, decide_eq_false s1, bin_gtr, decide_eq_false s2, hlen, nil_pv, field_I, field_st, field_Su0, lm, bin_sub, w1, bi_max, hmx, bin_neq, hne, evCall_fn ft24 rfl, cc]
  rw [codeB_draw, draw_plan hp3 rfl]
  simp only [drawAll, opFn, Nat.reduceLT, Nat.reduceBEq, nil_pv, field_I, field_st, field_Su8, lw, ly, ev3, evOpt, b1, c1, hlen]
  simp only [symL]
  generalize hX : codeB T0 X0 call _ ERz (.loop _) _ _ _ = X
  obtain ⟨t2, h2, d1, ⟨d2, d3, hI2⟩, d4⟩ := use_exit hX (rzLp hCl n pI x y bss was more fb vm (iv z) hxs hws (by omega) (by omega) h64 hnI h0 hn0 hv0 more.length 0 h1 _ _ (by omega) (by omega) (hG.trans G1 (Nat.le_refl _)) hI1 (by simp only [symM, Nat.reduceBEq]) (by simp only [symM, Nat.reduceBEq]) (by simp only [symM, Nat.reduceBEq]) (by simp only [symM, Nat.reduceBEq]) (by simp only [symM]; rfl))
  clear hX
  subst d1
  have G2 : Grow n h h2 := G1.trans d4 (Nat.le_refl _)
  obtain ⟨hp2, vf2, vn2, vb2, vf2', vn2', vb2', j1, j2, j3, j4, j5⟩ := hI2
  obtain ⟨h3, e1, e2, e3⟩ := imx_size (z : Int) j1
  have n3 := e3.next
  have j23 := j2.one e3 j1.ty (by decide) (by decide)
  have j33 := j3.one e3 j1.ty (by decide) (by decide)
  have j53 : Bks h3 vf2 fb := j5.keep (Nat.le_of_eq n3.symm) fun k hk hu => e3.keep k (tyAt.ne hu j1.ty (by decide))
  have l3 : evLoad T0 22 (pv pI 7) h3 = some vb2 := (imx_loads e2).2.2.1
  have hal : (bss ++ more).length = bss.length + more.length := List.length_append
  obtain ⟨w4, f1, f2, _⟩ := j23.cut (sz := z) (by omega) (by omega) (by omega)
  have htl : ((bss ++ more).take z).length = z := by rw [List.length_take]; omega
  obtain ⟨v4, h4, g1, g2, g3⟩ := hBW w4 _ h3 f2 (by omega)
  have n4 := g3.next
  have k14 := e2.grow g3 (by omega)
  have k34 := j33.grow g3
  have k54 := j53.grow g3
  obtain ⟨h5, o1, o2, o3⟩ := imx_blocks k14 (g2.sl (by omega))
  have n5 := o3.next
  have hI5 : ImgY n h5 pI (sizeI x z) y ((bss ++ more).take z) (was ++ more) fb :=
    ⟨by omega, vf2, vn2, v4, vf2', vn2', vb2', o2, (g2.one o3 k14.ty (by decide) (by decide)).less (by have := hG.next; have := G2.next; omega), k34.one o3 k14.ty (by decide) (by decide), (j33.dis g2).symm, k54.keep (Nat.le_of_eq n5.symm) fun k hk hu => o3.keep k (tyAt.ne hu k14.ty (by decide))⟩
  have nn := hG.next
  have nn2 := G2.next
  have G5 : Grow n h h5 := ((G2.trans (e3.grow hnI) (Nat.le_refl _)).trans (g3.less (by omega)) (Nat.le_refl _)).trans (o3.grow hnI) (Nat.le_refl _)
  have l5 : evLoad T0 36 (pv pI 0) h5 = some (siV (sizeI x z)) := (imx_loads o2).2.2.2.1
  have okz : okI (sizeI x z) = true := by
    have := okI_true hok
    unfold okI sizeI
    simp only [decide_eq_true this.2.1, decide_eq_true this.2.2.1, decide_eq_true this.2.2.2.1, decide_eq_true this.2.2.2.2, Bool.and_true]
    exact decide_eq_true (by omega)
  obtain ⟨r6, h6, p1, p2, p3⟩ := hE (sizeI x z) h5
  have n6 := p2.next
  rcases p3 with ⟨q1, _⟩ | ⟨_, v6, b6, rfl, q2, q3, q4⟩
  · rw [okz] at q1; cases q1
  have sv := svB_ok (sizeI x z).sv
  have hv6 : Bks h6 v6 (svB (sizeI x z).sv) := ⟨by omega, by omega, sv.2, b6, q3, q4⟩
  have hI6 := hI5.grow p2
  have G6 : Grow n h h6 := G5.trans (p2.less (by have := G5.next; omega)) (Nat.le_refl _)
  obtain ⟨h7, u1, u2, u3⟩ := hI6.put hP 0 (by omega) v6 _ hv6 (by have := G6.next; omega)
  have u1 : call 45 [pv pI 0, iv 0, v6] h6 = some (.tuple #[], h7) := u1
  have hmu := hMu v6 h6
  refine ⟨iv 0, h7, ?_, .inr ⟨okE, rfl, by rw [Int.toNat_natCast]; exact u2⟩, G6.trans u3 (Nat.le_refl _)⟩
  simp only [symM, opFn, Nat.reduceLT, Nat.reduceBEq, symM, symL, d2, d3, nil_pv, field_I, field_st, field_Su0, e1, l3, ev3, evOpt, f1, evCall_fn ft69 rfl, g1, o1, l5, evCall_fn ft64 rfl, p1, evCall_fn ft70 rfl, hmu, evCall_fn ft45 rfl, u1]
  exact retB_one ft22 rfl get_same
end
end Go.Proofs.YtjdhdhmoedlfdaaGreat.Abs
