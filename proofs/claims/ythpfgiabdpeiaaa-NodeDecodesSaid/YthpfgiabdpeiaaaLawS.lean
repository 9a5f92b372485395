
/- NodeDecodes: what the law answers, for every memory. -/
import Derived.Test.YthpfgiabdpeiaaaDec
import Derived.Test.YthpfgiabdpeiaaaAbsZN
namespace Go.Proofs.Ythpfgiabdpeiaaa.Abs
open Go Go.Proofs
noncomputable section
theorem ft3 : T0.ft.get 3 = some Try.f3 := by kernel_rfl
theorem ft6 : T0.ft.get 6 = some Try.f6 := by kernel_rfl
def awS : Sums := addS 6 trueT noSums
abbrev C (d : Nat) : Abs.Callee := callB T0 X0 awS 3000 d
theorem C_f {f : Nat} (hf : Nat.beq f 6 = false) (d : Nat) (args : List Value) (h : AH) : C (d + 1) f args h = frameB T0 X0 (C d) 3000 f args h := by
  have hn : awS f = none := by unfold awS addS; rw [hf]; rfl
  show (match awS f with
    | some g => (match g args h with
      | some r => some r
      | none => frameB T0 X0 (C d) 3000 f args h)
    | none => frameB T0 X0 (C d) 3000 f args h) = _
  rw [hn]
theorem C_aw (d : Nat) (hd : 1 ≤ d) (h : AH) : C d 6 [] h = some (.bool true, h) := by
  obtain ⟨e, rfl⟩ : ∃ e, d = e + 1 := ⟨d - 1, by omega⟩
  rfl
theorem at1 {d k : Nat} (h : k + 1 ≤ d) : ∃ e, d = e + 1 ∧ k ≤ e := ⟨d - 1, by omega, by omega⟩
set_option maxRecDepth 10000
theorem s_Abs (d : Nat) (hd : 1 ≤ d) (x : Nat) (h : AH) (hx : zok x = true) : C d 60 [fl x] h = some (fl x, h) := by
  obtain ⟨e, rfl, _⟩ := at1 hd
  rw [C_f rfl]; exact Abs_S x hx h
theorem s_Trunc (d : Nat) (hd : 1 ≤ d) (x : Int) (h : AH) (hx : zok x = true) : C d 61 [fl x] h = some (fl x, h) := by
  obtain ⟨e, rfl, _⟩ := at1 hd
  rw [C_f rfl]; exact Trunc_S x hx h
theorem s_whole (d : Nat) (hd : 2 ≤ d) (x : Nat) (h : AH) (hx : x ≤ 1048576) : C d 59 [fl x] h = some (.bool true, h) := by
  obtain ⟨e, rfl, he⟩ := at1 hd
  rw [C_f rfl]; exact whole_S (s_Abs e he) (s_Trunc e he) x hx h
theorem s_Whole (d : Nat) (hd : 3 ≤ d) (x y : Nat) (h : AH) (hx : x ≤ 1048576) (hy : y ≤ 1048576) : C d 57 [cx x y] h = some (.bool true, h) := by
  obtain ⟨e, rfl, he⟩ := at1 hd
  rw [C_f rfl]; exact Whole_S (s_whole e he) x y hx hy h
theorem s_RSound (d : Nat) (hd : 4 ≤ d) (x y : Nat) (h : AH) (hx : x ≤ 1048576) (hy : y ≤ 1048576) : C d 51 [cx x y] h = some (.bool (runOK x y), h) := by
  obtain ⟨e, rfl, he⟩ := at1 hd
  rw [C_f rfl]; exact Sound_S (s_Whole e he) x y hx hy h
theorem s_parts (d : Nat) (hd : 1 ≤ d) (x y : Nat) (h : AH) (hx : x ≤ 1048576) (hy : y ≤ 1048576) : C d 52 [cx x y] h = some (.tuple #[iv x, iv y], h) := by
  obtain ⟨e, rfl, he⟩ := at1 hd
  rw [C_f rfl]; exact parts_S x y hx hy h
theorem s_Parts (d : Nat) (hd : 5 ≤ d) (x y : Nat) (h : AH) (hx : x ≤ 1048576) (hy : y ≤ 1048576) : C d 43 [cx x y] h = some (partsV x y, h) := by
  obtain ⟨e, rfl, he⟩ := at1 hd
  rw [C_f rfl]; exact Parts_S (s_RSound e he) (s_parts e (by omega)) x y hx hy h
theorem s_make1 (d : Nat) (hd : 1 ≤ d) (x y : Int) (h : AH) (hx : zok x = true) (hy : zok y = true) : C d 54 [iv x, iv y] h = some (make1V x y, h) := by
  obtain ⟨e, rfl, he⟩ := at1 hd
  rw [C_f rfl]; exact make1_S x y hx hy h
theorem s_Meet (d : Nat) (hd : 5 ≤ d) (r x : XV) (h : AH) (hr : runOK r.x r.y = true) (hx : runOK x.x x.y = true) :
    ∃ a b : Int, C d 46 [cx r.x r.y, cx x.x x.y] h = some (make1V a b, h) ∧ zok a = true ∧ zok b = true ∧ decide (0 < b) = meetX r x := by
  obtain ⟨e, rfl, he⟩ := at1 hd
  rw [C_f rfl]; exact Meet_S (s_RSound e he) (s_parts e (by omega)) (s_make1 e (by omega)) r x hr hx h
theorem s_Ext1 (d : Nat) (hd : 6 ≤ d) (r x : XV) (hr : runOK r.x r.y = true) (hx : runOK x.x x.y = true) (b : Nat) (h : AH) (hb : BoxL h b 36 [iv x.a, cx x.x x.y]) :
    C d 45 [cx r.x r.y, pv b 0] h = some (.bool (meetX r x), h) := by
  obtain ⟨e, rfl, he⟩ := at1 hd
  rw [C_f rfl]; exact Ext1_S (s_Meet e he) r x hr hx b h hb
def meetP (x : XV) : Value → Bool
  | .complex .f64 a b => (match dz a, dz b with
    | some u, some w => decide (u < x.x + x.y ∧ (x.x : Int) < u + w)
    | _, _ => false)
  | _ => false
theorem meetP_cx (r x : XV) (hr : runOK r.x r.y = true) : meetP x (cx r.x r.y) = meetX r x := by
  have hr2 : 1 ≤ r.y ∧ r.x + r.y ≤ 480 := by simpa [runOK] using hr
  unfold meetP meetX
  simp only [dz_zd (zok_k (x := (r.x : Int)) (by omega)), dz_zd (zok_k (x := (r.y : Int)) (by omega))]
  rw [Bool.eq_iff_iff]
  simp only [decide_eq_true_eq]
  omega
theorem s_IndexE (d : Nat) (hd : 7 ≤ d) (v : Value) (prev : List XV) (x : XV) (n0 : Nat) (h : AH) (b : Nat) (hv : Row n0 h v (runsV prev) 34) (hl : prev.length < 200) (hb : BoxL h b 36 [iv x.a, cx x.x x.y]) (hp : ∀ r ∈ prev, runOK r.x r.y = true) (hx : runOK x.x x.y = true) :
    C d 53 [v, .func (.func 45) #[] #[pv b 0]] h = some (iv (idxF (meetP x) (runsV prev) 0), h) := by
  obtain ⟨e, rfl, he⟩ := at1 hd
  rw [C_f rfl]
  refine Index_S v (runsV prev) n0 h 45 [pv b 0] _ _ ft45 rfl (meetP x) hv (by simp [runsV]; omega) (fun y hy => ?_)
  simp only [runsV, List.mem_map] at hy
  obtain ⟨r, hr, rfl⟩ := hy
  rw [s_Ext1 e he r x (hp r hr) hx b h hb, meetP_cx r x (hp r hr)]
theorem s_ContE (d : Nat) (hd : 8 ≤ d) (v : Value) (prev : List XV) (x : XV) (n0 : Nat) (h : AH) (b : Nat) (hv : Row n0 h v (runsV prev) 34) (hl : prev.length < 200) (hb : BoxL h b 36 [iv x.a, cx x.x x.y]) (hp : ∀ r ∈ prev, runOK r.x r.y = true) (hx : runOK x.x x.y = true) :
    C d 44 [v, .func (.func 45) #[] #[pv b 0]] h = some (.bool (prev.any fun r => meetX r x), h) := by
  obtain ⟨e, rfl, he⟩ := at1 hd
  rw [C_f rfl, Contains_S v _ (runsV prev) (meetP x) h (s_IndexE e he v prev x n0 h b hv hl hb hp hx)]
  congr 3
  unfold runsV
  rw [List.any_map]
  rw [Bool.eq_iff_iff]
  simp only [List.any_eq_true, Function.comp_apply]
  exact ⟨fun ⟨r, h1, h2⟩ => ⟨r, h1, by rwa [meetP_cx r x (hp r h1)] at h2⟩, fun ⟨r, h1, h2⟩ => ⟨r, h1, by rwa [meetP_cx r x (hp r h1)]⟩⟩
theorem s_Extents (d : Nat) (hd : 9 ≤ d) (v : Value) (xs : List XV) (n0 : Nat) (h : AH) (hn : n0 ≤ h.next) (hx : ∀ x ∈ xs, okX x) (hL : xs.length ≤ 96) (hv : RowE n0 h v xs) : ∃ h', C d 34 [v] h = some (.bool (extG 0 (-1) [] xs), h') ∧ Grow h.next h h' := by
  obtain ⟨e, rfl, he⟩ := at1 hd
  rw [C_f rfl]; exact Extents_S (s_Parts e (by omega)) (s_ContE e he) v xs n0 h hn hx hL hv
/- Sums and numbers. -/
theorem s_mod (d : Nat) (hd : 1 ≤ d) (z : Int) (h : AH) (h1 : -65521 < z) (h2 : z < 1000000) : C d 58 [fl z] h = some (fl (z % 65521), h) := by
  obtain ⟨e, rfl, he⟩ := at1 hd
  rw [C_f rfl]; exact mod_S z h1 h2 h
theorem s_reduce (d : Nat) (hd : 2 ≤ d) (x y : Int) (h : AH) (hx1 : -65521 < x) (hx2 : x < 1000000) (hy1 : -65521 < y) (hy2 : y < 1000000) : C d 55 [cx x y] h = some (cx (x % 65521) (y % 65521), h) := by
  obtain ⟨e, rfl, he⟩ := at1 hd
  rw [C_f rfl]; exact reduce_S (s_mod e he) x y hx1 hx2 hy1 hy2 h
theorem s_step (d : Nat) (hd : 3 ≤ d) (s : Nat × Nat) (x : Nat) (h : AH) (h1 : s.1 < 65521) (h2 : s.2 < 65521) (hx : x < 256) : C d 48 [cx s.1 s.2, .int .u8 x] h = some (cx (spinStep s x).1 (spinStep s x).2, h) := by
  obtain ⟨e, rfl, he⟩ := at1 hd
  rw [C_f rfl]; exact step_S (s_reduce e he) s x h1 h2 hx h
theorem s_sum (d : Nat) (hd : 1 ≤ d) (s : Nat × Nat) (h : AH) (h1 : s.1 < 65521) (h2 : s.2 < 65521) : C d 49 [cx s.1 s.2] h = some (wv (spinU s), h) := by
  obtain ⟨e, rfl, he⟩ := at1 hd
  rw [C_f rfl]; exact sum_S s h1 h2 h
theorem s_from (d : Nat) (hd : 3 ≤ d) (h : AH) : C d 47 [wv 65536] h = some (cx ((1 : Nat) : Int) ((0 : Nat) : Int), h) := by
  obtain ⟨e, rfl, he⟩ := at1 hd
  rw [C_f rfl]; exact from_S (s_reduce e he) h
theorem s_More (d : Nat) (hd : 4 ≤ d) (bs : List Nat) (v : Value) (h : AH) (hbs : ∀ x ∈ bs, x < 256) (hl : bs.length ≤ 1000) (hv : Row h.next h v (bytesV bs) 5) : C d 36 [wv 65536, v] h = some (wv (spinU (spinN bs)), h) := by
  obtain ⟨e, rfl, he⟩ := at1 hd
  rw [C_f rfl]; exact More_S (s_from e he) (s_step e he) (s_sum e (by omega)) bs hbs hl v _ h hv
theorem s_Sum (d : Nat) (hd : 5 ≤ d) (bs : List Nat) (v : Value) (h : AH) (hbs : ∀ x ∈ bs, x < 256) (hl : bs.length ≤ 1000) (hv : Row h.next h v (bytesV bs) 5) : C d 23 [v] h = some (wv (spinU (spinN bs)), h) := by
  obtain ⟨e, rfl, he⟩ := at1 hd
  rw [C_f rfl]; exact Sum_S (s_More e he) bs hbs hl v h hv
theorem s_rMore (d : Nat) (hd : 1 ≤ d) (bs : List Nat) (v : Value) (h : AH) (hbs : ∀ x ∈ bs, x < 256) (hl : bs.length ≤ 1000) (hv : Row h.next h v (bytesV bs) 5) : C d 40 [wv 65536, v] h = some (wv (spinU (spinN bs)), h) := by
  obtain ⟨e, rfl, he⟩ := at1 hd
  rw [C_f rfl]; exact rMore_S bs hbs hl v _ h hv
theorem s_rSum (d : Nat) (hd : 2 ≤ d) (bs : List Nat) (v : Value) (h : AH) (hbs : ∀ x ∈ bs, x < 256) (hl : bs.length ≤ 1000) (hv : Row h.next h v (bytesV bs) 5) : C d 28 [v] h = some (wv (spinU (spinN bs)), h) := by
  obtain ⟨e, rfl, he⟩ := at1 hd
  rw [C_f rfl]; exact rSum_S (s_rMore e he) bs hbs hl v h hv
theorem s_get (d : Nat) (hd : 1 ≤ d) (x y : Nat) (v : Value) (n0 : Nat) (h : AH) (hx : x < 256) (hy : y < 256) (hv : Row n0 h v (bytesV [x, y]) 5) : C d 18 [v] h = some (iv (num2 x y), h) := by
  obtain ⟨e, rfl, he⟩ := at1 hd
  rw [C_f rfl]; exact get_S x y hx hy v n0 h hv
theorem s_Num (d : Nat) (hd : 2 ≤ d) : NumC (C d) 8 := by
  intro bs i v n0 h hbs hi hl hv
  obtain ⟨e, rfl, he⟩ := at1 hd
  rw [C_f rfl]; exact Num_S (s_get e he) bs hbs i hi hl v n0 h hv
theorem s_Nums (d : Nat) (hd : 3 ≤ d) : NumsC (C d) := by
  intro bs v a cnt n0 h hbs hl hal hn hv
  obtain ⟨e, rfl, he⟩ := at1 hd
  rw [C_f rfl]; exact Nums_S (s_Num e he) bs hbs hl v a cnt n0 hal h hn hv
theorem s_rNum (d : Nat) (hd : 1 ≤ d) : NumC (C d) 13 := by
  intro bs i v n0 h hbs hi hl hv
  obtain ⟨e, rfl, he⟩ := at1 hd
  rw [C_f rfl]; exact rNum_S bs hbs i hi hl v n0 h hv
theorem s_GetExt (d : Nat) (hd : 1 ≤ d) : GetC (C d) := by
  intro bs v n0 h hbs hl hv hn
  obtain ⟨e, rfl, he⟩ := at1 hd
  rw [C_f rfl]; exact GetExt_S bs hbs hl v n0 h hv hn
theorem s_rGetExt (d : Nat) (hd : 2 ≤ d) : rGetC (C d) := by
  intro bs v n0 h hbs hl hl2 hv hn
  obtain ⟨e, rfl, he⟩ := at1 hd
  rw [C_f rfl]; exact rGetExt_S (s_rNum e he) bs hbs hl hl2 v n0 h hv hn
theorem s_rPut (d : Nat) (hd : 1 ≤ d) (n size n0 : Nat) (bs : List Nat) (v : Value) (h : AH) (hn32 : n < 4294967296) (hs : size ≤ 4) (hl : bs.length < 400) (hn : n0 ≤ h.next) (ho : Own n0 h v (bytesV bs) 5) :
    ∃ v' h', C d 25 [v, iv n, iv size] h = some (v', h') ∧ Own n0 h' v' (bytesV (bs ++ leN n size)) 5 ∧ Grow n0 h h' ∧ (∀ k, k < h.next → Off v k → h'.get k = h.get k) ∧ (0 < size → Own h.next h' v' (bytesV (bs ++ leN n size)) 5) := by
  obtain ⟨e, rfl, he⟩ := at1 hd
  rw [C_f rfl]; exact rPut_S n size hn32 hs n0 bs v h hl hn ho
theorem s_put (d : Nat) (hd : 1 ≤ d) (n n0 : Nat) (rest : List Nat) (v : Value) (h : AH) (hn32 : n < 4294967296) (hr : rest.length = 4) (hn : n0 ≤ h.next) (ho : Own n0 h v (bytesV rest) 5) : ∃ h', C d 35 [v, wv n] h = some (.tuple #[], h') ∧ Own n0 h' v (bytesV (leN n 4)) 5 ∧ Grow n0 h h' := by
  obtain ⟨e, rfl, he⟩ := at1 hd
  rw [C_f rfl]; exact put_S n hn32 n0 rest hr v h hn ho
theorem s_Put32 (d : Nat) (hd : 2 ≤ d) (n : Nat) (h : AH) (hn32 : n < 4294967296) : ∃ v' h', C d 22 [wv n] h = some (v', h') ∧ Own h.next h' v' (bytesV (leN n 4)) 5 ∧ Grow h.next h h' := by
  obtain ⟨e, rfl, he⟩ := at1 hd
  rw [C_f rfl]; exact Put32_S (s_put e he) n hn32 h
theorem s_PutExt (d : Nat) (hd : 1 ≤ d) (x : XV) (h : AH) (hx : okX x) : ∃ v' h', C d 20 [extV x] h = some (v', h') ∧ Own h.next h' v' (bytesV (encX x)) 5 ∧ Grow h.next h h' := by
  obtain ⟨e, rfl, he⟩ := at1 hd
  rw [C_f rfl]; exact PutExt_S x hx h
theorem s_rpart (d : Nat) (hd : 1 ≤ d) (x : Nat) (h : AH) (hx : x ≤ 1048576) : C d 56 [fl x] h = some (.tuple #[iv x, .bool true], h) := by
  obtain ⟨e, rfl, he⟩ := at1 hd
  rw [C_f rfl]; exact rpart_S x hx h
theorem s_rOf (d : Nat) (hd : 2 ≤ d) (x y : Nat) (h : AH) (hx : x ≤ 1048576) (hy : y ≤ 1048576) : ∃ h', C d 50 [cx x y] h = some (.tuple #[zv x y, .bool true], h') ∧ Grow h.next h h' := by
  obtain ⟨e, rfl, he⟩ := at1 hd
  rw [C_f rfl]; exact rOf_S (s_rpart e he) x y hx hy h
theorem s_rParts (d : Nat) (hd : 3 ≤ d) (x y : Nat) (h : AH) (hx : x ≤ 1048576) (hy : y ≤ 1048576) : ∃ h', C d 39 [cx x y] h = some (.tuple #[iv x, iv y, .bool (runOK x y)], h') ∧ Grow h.next h h' := by
  obtain ⟨e, rfl, he⟩ := at1 hd
  rw [C_f rfl]; exact rParts_S x y h (s_rOf e he x y h hx hy) hx hy
theorem s_rPutExt (d : Nat) (hd : 4 ≤ d) (x : XV) (n0 : Nat) (bs : List Nat) (v : Value) (h : AH) (hx : okX x) (hl : bs.length < 300) (hn : n0 ≤ h.next) (ho : Own n0 h v (bytesV bs) 5) :
    ∃ v' h', C d 26 [v, extV x] h = some (v', h') ∧ Own n0 h' v' (bytesV (bs ++ encX x)) 5 ∧ Grow n0 h h' := by
  obtain ⟨e, rfl, he⟩ := at1 hd
  rw [C_f rfl]; exact rPutExt_S (s_rPut e (by omega)) (s_rParts e he) x hx n0 bs v h hl hn ho
/- Nodes. -/
theorem s_Equal (d : Nat) (hd : 1 ≤ d) (v w : Value) (xs ys : List XV) (n0 : Nat) (h : AH) (hv : RowE n0 h v xs) (hw : RowE n0 h w ys) (hx : ∀ x ∈ xs, okE x) (hy : ∀ y ∈ ys, okE y) (hL : xs.length < 1000) : C d 29 [v, w] h = some (.bool (eqL xs ys), h) := by
  obtain ⟨e, rfl, he⟩ := at1 hd
  rw [C_f rfl]; exact Equal_S v w xs ys n0 h hv hw hx hy hL
theorem s_SameE (d : Nat) (hd : 1 ≤ d) (v w : Value) (xs ys : List XV) (n0 : Nat) (h : AH) (hv : RowE n0 h v xs) (hw : RowE n0 h w ys) (hx : ∀ x ∈ xs, okE x) (hy : ∀ y ∈ ys, okE y) (hL : xs.length < 1000) : C d 17 [v, w] h = some (.bool (eqL xs ys), h) := by
  obtain ⟨e, rfl, he⟩ := at1 hd
  rw [C_f rfl]; exact SameE_S v w xs ys n0 h hv hw hx hy hL
theorem s_Same (d : Nat) (hd : 2 ≤ d) (n m : NV) (v w : Value) (xs ys : List XV) (n0 : Nat) (h : AH) (hv : RowE n0 h v xs) (hw : RowE n0 h w ys) (hx : ∀ x ∈ xs, okE x) (hy : ∀ y ∈ ys, okE y) (hL : xs.length < 1000) (hn : n0 ≤ h.next) :
    ∃ h', C d 16 [nodeV n v, nodeV m w] h = some (.bool (sameN n m && eqL xs ys), h') ∧ Grow h.next h h' := by
  obtain ⟨e, rfl, he⟩ := at1 hd
  rw [C_f rfl]; exact Same_S (s_Equal e he) n m v w xs ys n0 h hv hw hx hy hL hn
theorem s_rSame (d : Nat) (hd : 2 ≤ d) (n m : NV) (v w : Value) (xs ys : List XV) (n0 : Nat) (h : AH) (hv : RowE n0 h v xs) (hw : RowE n0 h w ys) (hx : ∀ x ∈ xs, okE x) (hy : ∀ y ∈ ys, okE y) (hL : xs.length < 1000) (hn : n0 ≤ h.next) :
    ∃ h', C d 7 [nodeV n v, nodeV m w] h = some (.bool (sameN n m && eqL xs ys), h') ∧ Grow h.next h h' := by
  obtain ⟨e, rfl, he⟩ := at1 hd
  rw [C_f rfl]; exact rSame_S (s_SameE e he) n m v w xs ys n0 h hv hw hx hy hL hn
theorem s_Data (d : Nat) (hd : 1 ≤ d) (n : Nat) (h : AH) : C d 42 [iv n] h = some (.bool (dataN n), h) := by
  obtain ⟨e, rfl, he⟩ := at1 hd
  rw [C_f rfl]; exact Data_S n h
theorem s_rData (d : Nat) (hd : 1 ≤ d) (n : Nat) (h : AH) : C d 37 [iv n] h = some (.bool (dataN n), h) := by
  obtain ⟨e, rfl, he⟩ := at1 hd
  rw [C_f rfl]; exact rData_S n h
theorem s_named (d : Nat) (hd : 2 ≤ d) (n : Nat) (h : AH) : C d 32 [iv n] h = some (.bool (namedN n), h) := by
  obtain ⟨e, rfl, he⟩ := at1 hd
  rw [C_f rfl]; exact named_S (s_Data e he) n h
theorem s_Snd1 (d : Nat) (hd : 3 ≤ d) (n : Nat) (h : AH) : C d 31 [iv n] h = some (.bool (!namedN n), h) := by
  obtain ⟨e, rfl, he⟩ := at1 hd
  rw [C_f rfl]; exact Snd1_S (s_named e he) n h
theorem s_Snd2 (d : Nat) (hd : 1 ≤ d) (n : Nat) (h : AH) : C d 33 [iv n] h = some (.bool (!decide (n = 0)), h) := by
  obtain ⟨e, rfl, he⟩ := at1 hd
  rw [C_f rfl]; exact Snd2_S n h
def natP (p : Nat → Bool) : Value → Bool
  | .int _ n => p n.toNat
  | _ => false
theorem any_natP (p : Nat → Bool) (L : List Nat) : (intsV L).any (natP p) = L.any p := by
  unfold intsV; rw [List.any_map]; rfl
theorem s_Cont1 (d : Nat) (hd : 5 ≤ d) (v : Value) (L : List Nat) (n0 : Nat) (h : AH) (hv : Row n0 h v (intsV L) 3) (hl : L.length < 100) : C d 30 [v, .func (.func 31) #[] #[]] h = some (.bool (L.any fun p => !namedN p), h) := by
  obtain ⟨e, rfl, he⟩ := at1 hd
  obtain ⟨e, rfl, he⟩ := at1 he
  rw [C_f rfl, ← any_natP]
  refine ContainsI_S v _ (intsV L) (natP fun p => !namedN p) h ?_
  rw [C_f rfl]
  refine IndexI_S v (intsV L) n0 h 31 [] _ _ ft31 rfl _ hv (by simp [intsV]; omega) (fun x hx => ?_)
  simp only [intsV, List.mem_map] at hx
  obtain ⟨n, _, rfl⟩ := hx
  exact s_Snd1 e (by omega) n h
theorem s_Cont2 (d : Nat) (hd : 5 ≤ d) (v : Value) (L : List Nat) (n0 : Nat) (h : AH) (hv : Row n0 h v (intsV L) 3) (hl : L.length < 100) : C d 30 [v, .func (.func 33) #[] #[]] h = some (.bool (L.any fun p => !decide (p = 0)), h) := by
  obtain ⟨e, rfl, he⟩ := at1 hd
  obtain ⟨e, rfl, he⟩ := at1 he
  rw [C_f rfl, ← any_natP]
  refine ContainsI_S v _ (intsV L) (natP fun p => !decide (p = 0)) h ?_
  rw [C_f rfl]
  refine IndexI_S v (intsV L) n0 h 33 [] _ _ ft33 rfl _ hv (by simp [intsV]; omega) (fun x hx => ?_)
  simp only [intsV, List.mem_map] at hx
  obtain ⟨n, _, rfl⟩ := hx
  exact s_Snd2 e (by omega) n h
theorem s_pointers (d : Nat) (hd : 1 ≤ d) (n : NV) (w : Value) (h : AH) : ∃ v' h', C d 21 [nodeV n w] h = some (v', h') ∧ Own h.next h' v' (intsV (ptrs n)) 3 ∧ Grow h.next h h' := by
  obtain ⟨e, rfl, he⟩ := at1 hd
  rw [C_f rfl]; exact pointers_S n w h
theorem s_all (d : Nat) (hd : 1 ≤ d) (n : NV) (w : Value) (h : AH) : ∃ v' h', C d 27 [nodeV n w] h = some (v', h') ∧ Own h.next h' v' (intsV (ptrs n)) 3 ∧ Grow h.next h h' := by
  obtain ⟨e, rfl, he⟩ := at1 hd
  rw [C_f rfl]; exact all_S n w h
theorem s_rExtents (d : Nat) (hd : 4 ≤ d) (v : Value) (xs : List XV) (n0 : Nat) (h : AH) (hn : n0 ≤ h.next) (hx : ∀ x ∈ xs, okX x) (hL : xs.length ≤ 96) (hv : RowE n0 h v xs) : ∃ h', C d 38 [v] h = some (.bool (extG 0 (-1) [] xs), h') ∧ Grow h.next h h' := by
  obtain ⟨e, rfl, he⟩ := at1 hd
  rw [C_f rfl]; exact rExtents_S (s_rParts e he) v xs n0 h hn hx hL hv
theorem s_Snd (d : Nat) (hd : 10 ≤ d) (n : NV) (v : Value) (xs : List XV) (n0 : Nat) (h : AH) (hv : RowE n0 h v xs) (hx : ∀ x ∈ xs, okX x) (hL : xs.length ≤ 96) (hn : n0 ≤ h.next) : ∃ h', C d 19 [nodeV n v] h = some (.bool (soundN n xs), h') ∧ Grow h.next h h' := by
  obtain ⟨e, rfl, he⟩ := at1 hd
  rw [C_f rfl]
  refine Snd_S (fun n v xs n0 h hv hx hL hn => ?_) (s_pointers e (by omega)) (s_Cont1 e (by omega)) (s_Cont2 e (by omega)) (s_named e (by omega)) (s_Extents e he) n v xs n0 h hv hx hL hn
  exact s_Same e (by omega) n NV.zero v nilV xs [] n0 h hv (RowE.nil _ _) hx (by simp) hL hn
theorem s_rSnd (d : Nat) (hd : 5 ≤ d) (n : NV) (v : Value) (xs : List XV) (n0 : Nat) (h : AH) (hv : RowE n0 h v xs) (hx : ∀ x ∈ xs, okX x) (hL : xs.length ≤ 96) (hn : n0 ≤ h.next) : ∃ h', C d 24 [nodeV n v] h = some (.bool (soundN n xs), h') ∧ Grow h.next h h' := by
  obtain ⟨e, rfl, he⟩ := at1 hd
  rw [C_f rfl]
  refine rSnd_S (fun n v xs n0 h hv hx hL hn => ?_) (s_all e (by omega)) (s_rData e (by omega)) (s_rExtents e he) n v xs n0 h hv hx hL hn
  exact s_rSame e (by omega) n NV.zero v nilV xs [] n0 h hv (RowE.nil _ _) hx (by simp) hL hn
theorem s_Enc (d : Nat) (hd : 11 ≤ d) : EncC (C d) 11 := by
  intro n v xs n0 h _ hv hx hL hn
  obtain ⟨e, rfl, he⟩ := at1 hd
  rw [C_f rfl]; exact Enc_S (s_PutExt e (by omega)) (s_pointers e (by omega)) (s_Snd e he) (s_Sum e (by omega)) (s_Put32 e (by omega)) n v xs n0 h hv hx (by omega) hn
theorem s_rEnc (d : Nat) (hd : 6 ≤ d) : EncC (C d) 15 := by
  intro n v xs n0 h hok hv hx hL hn
  obtain ⟨e, rfl, he⟩ := at1 hd
  rw [C_f rfl]; exact rEnc_S (s_rPut e (by omega)) (s_rPutExt e (by omega)) (s_all e (by omega)) (s_rSnd e he) (s_rSum e (by omega)) n hok v xs n0 h hv hx hL hn
theorem s_BEqual (d : Nat) (hd : 1 ≤ d) : BEqC (C d) := by
  intro l m v w n0 n1 h hl hm hv hw
  obtain ⟨e, rfl, he⟩ := at1 hd
  rw [C_f rfl]; exact BEqual_S l m hl hm v w n0 n1 h hv hw
theorem s_Dec (d : Nat) (hd : 12 ≤ d) (bs : List Nat) (hbs : ∀ x ∈ bs, x < 256) (v : Value) (n0 : Nat) (h : AH) (hn : n0 ≤ h.next) (hr : Row n0 h v (bytesV bs) 5) (hv : bs.length = 32 → RowX n0 h v bs) :
    ∃ r h', C d 4 [v] h = some (r, h') ∧ Grow h.next h h' ∧ DecR h.next h' bs r := by
  obtain ⟨e, rfl, he⟩ := at1 hd
  rw [C_f rfl]
  by_cases hl : bs.length = 32
  · exact Dec_S (s_Num e (by omega)) (s_GetExt e (by omega)) (s_Nums e (by omega)) (s_Enc e he) (s_BEqual e (by omega)) bs hbs hl v n0 h hn (hv hl)
  · exact Dec_len bs hl v n0 h hr
theorem s_rDec (d : Nat) (hd : 7 ≤ d) (bs : List Nat) (hbs : ∀ x ∈ bs, x < 256) (v : Value) (n0 : Nat) (h : AH) (hn : n0 ≤ h.next) (hr : Row n0 h v (bytesV bs) 5) (hv : bs.length = 32 → RowX n0 h v bs) :
    ∃ r h', C d 5 [v] h = some (r, h') ∧ Grow h.next h h' ∧ DecR h.next h' bs r := by
  obtain ⟨e, rfl, he⟩ := at1 hd
  rw [C_f rfl]
  by_cases hl : bs.length = 32
  · exact rDec_S (s_rNum e (by omega)) (s_rGetExt e (by omega)) (s_rEnc e he) bs hbs hl v n0 h hn (hv hl)
  · exact rDec_len bs hl v n0 h hr
theorem eqL_refl (xs : List XV) : eqL xs xs = true := by
  induction xs with
  | nil => rfl
  | cons x xs ih => rw [eqL, ih]; simp [eqE]
theorem sameN_refl (n : NV) : sameN n n = true := by unfold sameN eqA; simp
end
end Go.Proofs.Ythpfgiabdpeiaaa.Abs
namespace Go.Proofs.Ythpfgiabdpeiaaa.Abs
open Go Go.Proofs
noncomputable section
set_option maxRecDepth 10000
def ansN (bs : List Nat) : NV := if decOK bs = true then decN bs else NV.zero
def ansX (bs : List Nat) : List XV := if decOK bs = true then decX bs else []
def ansE (bs : List Nat) : Int := if decOK bs = true then 0 else 2
theorem DecR.form {n : Nat} {h : AH} {bs : List Nat} {r : Value} (hr : DecR n h bs r) : ∃ v, r = .tuple #[nodeV (ansN bs) v, iv (ansE bs)] ∧ OwnE n h v (ansX bs) := by
  rcases hr with ⟨q1, rfl⟩ | ⟨q1, v, rfl, q2⟩
  · have q : ¬ decOK bs = true := by rw [q1]; simp
    unfold ansN ansX ansE
    rw [if_neg q, if_neg q, if_neg q]
    exact ⟨nilV, rfl, OwnE.nil _ _⟩
  · unfold ansN ansX ansE
    rw [if_pos q1, if_pos q1, if_pos q1]
    exact ⟨v, rfl, q2⟩
theorem ansX_ok {bs : List Nat} (hbs : ∀ x ∈ bs, x < 256) : ∀ x ∈ ansX bs, okE x := by
  unfold ansX
  split
  · exact fun x hx => (decX_ok hbs x hx).e
  · simp
theorem ansX_len (bs : List Nat) : (ansX bs).length ≤ 3 := by
  unfold ansX
  split
  · exact decX_len bs
  · simp
theorem law_S (bs : List Nat) (hbs : ∀ x ∈ bs, x < 256) (v : Value) (h : AH) (hr : Row h.next h v (bytesV bs) 5) (hv : bs.length = 32 → RowX h.next h v bs) : ∃ h', C 20 3 [v] h = some (.bool true, h') := by
  rw [C_f rfl, frameB_eq ft3 rfl rfl]
  obtain ⟨r, h1, c1, g1, d1⟩ := s_Dec 19 (by omega) bs hbs v h.next h (Nat.le_refl _) hr hv
  obtain ⟨v1, rfl, o1⟩ := d1.form
  generalize hh2 : h1.new (.cells (PM.ofList (nodeL NV.zero nilV)) 12 26 0 0 .ex) = h2
  have g2 : Grow h1.next h1 h2 := by rw [← hh2]; exact Grow.new _ _
  have b2 : NodeB h2 h1.next NV.zero nilV := by rw [← hh2]; exact NodeB.new _ _ _
  have n2 : h2.next = h1.next + 1 := by rw [← hh2]; rfl
  obtain ⟨h3, s1, s2, s3, s4⟩ := b2.storeAll (k := h1.next) (ansN bs) (f := v1) o1.one (Nat.le_refl _)
  have g13 : Grow h1.next h1 h3 := g2.trans s3 (Nat.le_refl _)
  have g03 : Grow h.next h h3 := g1.trans g13 g1.next
  have n13 := g13.next
  obtain ⟨r4, h4, c4, g4, d4⟩ := s_rDec 19 (by omega) bs hbs v h3.next h3 (Nat.le_refl _) ((hr.grow g03 (Nat.le_refl _)).more g03.next) (fun q => ((hv q).grow g03 (Nat.le_refl _)).more g03.next)
  obtain ⟨v4, rfl, o4⟩ := d4.form
  generalize hh5 : h4.new (.cells (PM.ofList (nodeL NV.zero nilV)) 12 26 0 0 .ex) = h5
  have g5 : Grow h4.next h4 h5 := by rw [← hh5]; exact Grow.new _ _
  have b5 : NodeB h5 h4.next NV.zero nilV := by rw [← hh5]; exact NodeB.new _ _ _
  obtain ⟨h6, t1, t2, t3, t4⟩ := b5.storeAll (k := h4.next) (ansN bs) (f := v4) o4.one (Nat.le_refl _)
  have g46 : Grow h4.next h4 h6 := g5.trans t3 (Nat.le_refl _)
  have g36 : Grow h3.next h3 h6 := g4.trans g46 g4.next
  have g16 : Grow h1.next h1 h6 := g13.trans g36 n13
  have bA : NodeB h6 h1.next (ansN bs) v1 := s2.grow g36 (by omega)
  obtain ⟨h7, c7, g7⟩ := s_rSame 19 (by omega) (ansN bs) (ansN bs) v1 v4 (ansX bs) (ansX bs) h6.next h6 ((o1.row.grow g16 (Nat.le_refl _)).more g16.next) ((o4.row.grow g46 (Nat.le_refl _)).more g46.next) (ansX_ok hbs) (ansX_ok hbs) (by have := ansX_len bs; omega) (Nat.le_refl _)
  rw [sameN_refl, eqL_refl] at c7
  have c7 : C 19 7 [nodeV (ansN bs) v1, nodeV (ansN bs) v4] h6 = some (.bool true, h7) := c7
  refine ⟨h7, ?_⟩
  simp only [Try.f3, symM, opFn, Nat.reduceLT, Nat.reduceBEq, symM, evCall_fn ft4 rfl, c1, alloc_N, hh2, s1, evCall_fn ft5 rfl, c4, hh5, t1, evCall_fn ft6 rfl, C_aw 19 (by omega), bin_eql, beq_self_eq_true, bA.loads, t2.loads, evCall_fn ft7 rfl, c7]
  exact retB_one ft3 rfl get_same
end
end Go.Proofs.Ythpfgiabdpeiaaa.Abs
