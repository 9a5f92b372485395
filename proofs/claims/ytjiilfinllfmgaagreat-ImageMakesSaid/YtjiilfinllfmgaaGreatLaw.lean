
/- ImageMakes: the contracts, joined. -/
import Derived.Test.YtjiilfinllfmgaaGreatEmpty
namespace Go.Proofs.YtjiilfinllfmgaaGreat.Abs
open Go Go.Proofs
noncomputable section
variable {call : Abs.Callee}
set_option maxRecDepth 10000
theorem ft3 : T0.ft.get 3 = some Tryz.f3 := by kernel_rfl
theorem ft5 : T0.ft.get 5 = some Tryz.f5 := by kernel_rfl
def awS : Sums := addS 5 trueT noSums
abbrev C (d : Nat) : Abs.Callee := callB T0 X0 awS 3000 d
theorem C_f {f : Nat} (hf : Nat.beq f 5 = false) (d : Nat) (args : List Value) (h : AH) : C (d + 1) f args h = frameB T0 X0 (C d) 3000 f args h := by
  have hn : awS f = none := by unfold awS addS; rw [hf]; rfl
  show (match awS f with
    | some g => (match g args h with
      | some r => some r
      | none => frameB T0 X0 (C d) 3000 f args h)
    | none => frameB T0 X0 (C d) 3000 f args h) = _
  rw [hn]
theorem C_aw (d : Nat) (hd : 1 ≤ d) (h : AH) : C d 5 [] h = some (.bool true, h) := by
  obtain ⟨e, rfl⟩ : ∃ e, d = e + 1 := ⟨d - 1, by omega⟩
  rfl
theorem at1 {d k : Nat} (h : k + 1 ≤ d) : ∃ e, d = e + 1 ∧ k ≤ e := ⟨d - 1, by omega, by omega⟩
theorem s_Abs (d : Nat) (hd : 1 ≤ d) (x : Nat) (h : AH) (hx : zok x = true) : C d 183 [fl x] h = some (fl x, h) := by
  obtain ⟨e, rfl, _⟩ := at1 hd
  rw [C_f rfl]; exact Abs_S x hx h
theorem s_Trunc (d : Nat) (hd : 1 ≤ d) (x : Int) (h : AH) (hx : zok x = true) : C d 184 [fl x] h = some (fl x, h) := by
  obtain ⟨e, rfl, _⟩ := at1 hd
  rw [C_f rfl]; exact Trunc_S x hx h
theorem s_whole (d : Nat) (hd : 2 ≤ d) (x : Nat) (h : AH) (hx : x ≤ 1048576) : C d 160 [fl x] h = some (.bool true, h) := by
  obtain ⟨e, rfl, he⟩ := at1 hd
  rw [C_f rfl]; exact whole_S (s_Abs e he) (s_Trunc e he) x hx h
theorem s_Whole (d : Nat) (hd : 3 ≤ d) (x y : Nat) (h : AH) (hx : x ≤ 1048576) (hy : y ≤ 1048576) : C d 125 [cx x y] h = some (.bool true, h) := by
  obtain ⟨e, rfl, he⟩ := at1 hd
  rw [C_f rfl]; exact Whole_S (s_whole e he) x y hx hy h
theorem s_RSound (d : Nat) (hd : 4 ≤ d) (x y : Nat) (h : AH) (hx : x ≤ 1048576) (hy : y ≤ 1048576) : C d 71 [cx x y] h = some (.bool (runOK x y), h) := by
  obtain ⟨e, rfl, he⟩ := at1 hd
  rw [C_f rfl]; exact Sound_S (s_Whole e he) x y hx hy h
theorem s_parts (d : Nat) (hd : 1 ≤ d) (x y : Nat) (h : AH) (hx : x ≤ 1048576) (hy : y ≤ 1048576) : C d 72 [cx x y] h = some (.tuple #[iv x, iv y], h) := by
  obtain ⟨e, rfl, he⟩ := at1 hd
  rw [C_f rfl]; exact parts_S x y hx hy h
theorem s_Parts (d : Nat) (hd : 5 ≤ d) (x y : Nat) (h : AH) (hx : x ≤ 1048576) (hy : y ≤ 1048576) : C d 30 [cx x y] h = some (partsV x y, h) := by
  obtain ⟨e, rfl, he⟩ := at1 hd
  rw [C_f rfl]; exact Parts_S (s_RSound e he) (s_parts e (by omega)) x y hx hy h
theorem s_make1 (d : Nat) (hd : 1 ≤ d) (x y : Int) (h : AH) (hx : zok x = true) (hy : zok y = true) : C d 124 [iv x, iv y] h = some (make1V x y, h) := by
  obtain ⟨e, rfl, he⟩ := at1 hd
  rw [C_f rfl]; exact make1_S x y hx hy h
theorem s_Meet (d : Nat) (hd : 5 ≤ d) (r x : XV) (h : AH) (hr : runOK r.x r.y = true) (hx : runOK x.x x.y = true) :
    ∃ a b : Int, C d 136 [cx r.x r.y, cx x.x x.y] h = some (make1V a b, h) ∧ zok a = true ∧ zok b = true ∧ decide (0 < b) = meetX r x := by
  obtain ⟨e, rfl, he⟩ := at1 hd
  rw [C_f rfl]; exact Meet_S (s_RSound e he) (s_parts e (by omega)) (s_make1 e (by omega)) r x hr hx h
theorem s_Ext1 (d : Nat) (hd : 6 ≤ d) (r x : XV) (hr : runOK r.x r.y = true) (hx : runOK x.x x.y = true) (b : Nat) (h : AH) (hb : BoxL h b 104 [iv x.a, cx x.x x.y]) :
    C d 135 [cx r.x r.y, pv b 0] h = some (.bool (meetX r x), h) := by
  obtain ⟨e, rfl, he⟩ := at1 hd
  rw [C_f rfl]; exact Ext1_S (s_Meet e he) r x hr hx b h hb
def meetP (x : XV) : Value → Bool
  | .complex .f64 a b => (match dz a, dz b with
    | some u, some w => decide (u < x.x + x.y ∧ (x.x : Int) < u + w)
    | _, _ => false)
  | _ => false
theorem meetP_cx (r x : XV) (hr : runOK r.x r.y = true) : meetP x (cx r.x r.y) = meetX r x := by
  have hr2 : 1 ≤ r.y ∧ r.x + r.y ≤ 480 := by simpa [runOK] using hr
  unfold meetP meetX
  simp only [dz_zd (zok_k (x := (r.x : Int)) (by omega)), dz_zd (zok_k (x := (r.y : Int)) (by omega))]
  rw [Bool.eq_iff_iff]
  simp only [decide_eq_true_eq]
  omega
theorem s_IndexE (d : Nat) (hd : 7 ≤ d) (v : Value) (prev : List XV) (x : XV) (n0 : Nat) (h : AH) (b : Nat) (hv : Row n0 h v (runsV prev) 47) (hl : prev.length < 200) (hb : BoxL h b 104 [iv x.a, cx x.x x.y]) (hp : ∀ r ∈ prev, runOK r.x r.y = true) (hx : runOK x.x x.y = true) :
    C d 127 [v, .func (.func 135) #[] #[pv b 0]] h = some (iv (idxF (meetP x) (runsV prev) 0), h) := by
  obtain ⟨e, rfl, he⟩ := at1 hd
  rw [C_f rfl]
  refine Index_S v (runsV prev) n0 h 135 [pv b 0] _ _ ft135 rfl (meetP x) hv (by simp [runsV]; omega) (fun y hy => ?_)
  simp only [runsV, List.mem_map] at hy
  obtain ⟨r, hr, rfl⟩ := hy
  rw [s_Ext1 e he r x (hp r hr) hx b h hb, meetP_cx r x (hp r hr)]
theorem s_ContE (d : Nat) (hd : 8 ≤ d) (v : Value) (prev : List XV) (x : XV) (n0 : Nat) (h : AH) (b : Nat) (hv : Row n0 h v (runsV prev) 47) (hl : prev.length < 200) (hb : BoxL h b 104 [iv x.a, cx x.x x.y]) (hp : ∀ r ∈ prev, runOK r.x r.y = true) (hx : runOK x.x x.y = true) :
    C d 134 [v, .func (.func 135) #[] #[pv b 0]] h = some (.bool (prev.any fun r => meetX r x), h) := by
  obtain ⟨e, rfl, he⟩ := at1 hd
  rw [C_f rfl, Contains_S v _ (runsV prev) (meetP x) h (s_IndexE e he v prev x n0 h b hv hl hb hp hx)]
  congr 3
  unfold runsV
  rw [List.any_map]
  rw [Bool.eq_iff_iff]
  simp only [List.any_eq_true, Function.comp_apply]
  exact ⟨fun ⟨r, h1, h2⟩ => ⟨r, h1, by rwa [meetP_cx r x (hp r h1)] at h2⟩, fun ⟨r, h1, h2⟩ => ⟨r, h1, by rwa [meetP_cx r x (hp r h1)]⟩⟩
theorem s_Extents (d : Nat) (hd : 9 ≤ d) (v : Value) (xs : List XV) (n0 : Nat) (h : AH) (hn : n0 ≤ h.next) (hx : ∀ x ∈ xs, okX x) (hL : xs.length ≤ 96) (hv : RowE n0 h v xs) : ∃ h', C d 97 [v] h = some (.bool (extG 0 (-1) [] xs), h') ∧ Grow h.next h h' := by
  obtain ⟨e, rfl, he⟩ := at1 hd
  rw [C_f rfl]; exact Extents_S (s_Parts e (by omega)) (s_ContE e he) v xs n0 h hn hx hL hv
/- Sums and numbers. -/
theorem s_mod (d : Nat) (hd : 1 ≤ d) (z : Int) (h : AH) (h1 : -65521 < z) (h2 : z < 1000000) : C d 196 [fl z] h = some (fl (z % 65521), h) := by
  obtain ⟨e, rfl, he⟩ := at1 hd
  rw [C_f rfl]; exact mod_S z h1 h2 h
theorem s_reduce (d : Nat) (hd : 2 ≤ d) (x y : Int) (h : AH) (hx1 : -65521 < x) (hx2 : x < 1000000) (hy1 : -65521 < y) (hy2 : y < 1000000) : C d 185 [cx x y] h = some (cx (x % 65521) (y % 65521), h) := by
  obtain ⟨e, rfl, he⟩ := at1 hd
  rw [C_f rfl]; exact reduce_S (s_mod e he) x y hx1 hx2 hy1 hy2 h
theorem s_step (d : Nat) (hd : 3 ≤ d) (s : Nat × Nat) (x : Nat) (h : AH) (h1 : s.1 < 65521) (h2 : s.2 < 65521) (hx : x < 256) : C d 162 [cx s.1 s.2, .int .u8 x] h = some (cx (spinStep s x).1 (spinStep s x).2, h) := by
  obtain ⟨e, rfl, he⟩ := at1 hd
  rw [C_f rfl]; exact step_S (s_reduce e he) s x h1 h2 hx h
theorem s_sum (d : Nat) (hd : 1 ≤ d) (s : Nat × Nat) (h : AH) (h1 : s.1 < 65521) (h2 : s.2 < 65521) : C d 163 [cx s.1 s.2] h = some (wv (spinU s), h) := by
  obtain ⟨e, rfl, he⟩ := at1 hd
  rw [C_f rfl]; exact sum_S s h1 h2 h
theorem s_from (d : Nat) (hd : 3 ≤ d) (h : AH) : C d 161 [wv 65536] h = some (cx ((1 : Nat) : Int) ((0 : Nat) : Int), h) := by
  obtain ⟨e, rfl, he⟩ := at1 hd
  rw [C_f rfl]; exact from_S (s_reduce e he) h
theorem s_More (d : Nat) (hd : 4 ≤ d) (bs : List Nat) (v : Value) (h : AH) (hbs : ∀ x ∈ bs, x < 256) (hl : bs.length ≤ 1000) (hv : Row h.next h v (bytesV bs) 5) : C d 126 [wv 65536, v] h = some (wv (spinU (spinN bs)), h) := by
  obtain ⟨e, rfl, he⟩ := at1 hd
  rw [C_f rfl]; exact More_S (s_from e he) (s_step e he) (s_sum e (by omega)) bs hbs hl v _ h hv
theorem s_Sum (d : Nat) (hd : 5 ≤ d) (bs : List Nat) (v : Value) (h : AH) (hbs : ∀ x ∈ bs, x < 256) (hl : bs.length ≤ 1000) (hv : Row h.next h v (bytesV bs) 5) : C d 79 [v] h = some (wv (spinU (spinN bs)), h) := by
  obtain ⟨e, rfl, he⟩ := at1 hd
  rw [C_f rfl]; exact Sum_S (s_More e he) bs hbs hl v h hv
theorem s_rMore (d : Nat) (hd : 1 ≤ d) (bs : List Nat) (v : Value) (h : AH) (hbs : ∀ x ∈ bs, x < 256) (hl : bs.length ≤ 1000) (hv : Row h.next h v (bytesV bs) 5) : C d 120 [wv 65536, v] h = some (wv (spinU (spinN bs)), h) := by
  obtain ⟨e, rfl, he⟩ := at1 hd
  rw [C_f rfl]; exact rMore_S bs hbs hl v _ h hv
theorem s_rSum (d : Nat) (hd : 2 ≤ d) (bs : List Nat) (v : Value) (h : AH) (hbs : ∀ x ∈ bs, x < 256) (hl : bs.length ≤ 1000) (hv : Row h.next h v (bytesV bs) 5) : C d 65 [v] h = some (wv (spinU (spinN bs)), h) := by
  obtain ⟨e, rfl, he⟩ := at1 hd
  rw [C_f rfl]; exact rSum_S (s_rMore e he) bs hbs hl v h hv
theorem s_rPut (d : Nat) (hd : 1 ≤ d) (n size n0 : Nat) (bs : List Nat) (v : Value) (h : AH) (hn32 : n < 4294967296) (hs : size ≤ 4) (hl : bs.length < 400) (hn : n0 ≤ h.next) (ho : Own n0 h v (bytesV bs) 5) :
    ∃ v' h', C d 61 [v, iv n, iv size] h = some (v', h') ∧ Own n0 h' v' (bytesV (bs ++ leN n size)) 5 ∧ Grow n0 h h' ∧ (∀ k, k < h.next → Off v k → h'.get k = h.get k) ∧ (0 < size → Own h.next h' v' (bytesV (bs ++ leN n size)) 5) := by
  obtain ⟨e, rfl, he⟩ := at1 hd
  rw [C_f rfl]; exact rPut_S n size hn32 hs n0 bs v h hl hn ho
theorem s_put (d : Nat) (hd : 1 ≤ d) (n n0 : Nat) (rest : List Nat) (v : Value) (h : AH) (hn32 : n < 4294967296) (hr : rest.length = 4) (hn : n0 ≤ h.next) (ho : Own n0 h v (bytesV rest) 5) : ∃ h', C d 73 [v, wv n] h = some (.tuple #[], h') ∧ Own n0 h' v (bytesV (leN n 4)) 5 ∧ Grow n0 h h' := by
  obtain ⟨e, rfl, he⟩ := at1 hd
  rw [C_f rfl]; exact put_S n hn32 n0 rest hr v h hn ho
theorem s_Put32 (d : Nat) (hd : 2 ≤ d) (n : Nat) (h : AH) (hn32 : n < 4294967296) : ∃ v' h', C d 78 [wv n] h = some (v', h') ∧ Own h.next h' v' (bytesV (leN n 4)) 5 ∧ Grow h.next h h' := by
  obtain ⟨e, rfl, he⟩ := at1 hd
  rw [C_f rfl]; exact Put32_S (s_put e he) n hn32 h
theorem s_PutExt (d : Nat) (hd : 1 ≤ d) (x : XV) (h : AH) (hx : okX x) : ∃ v' h', C d 76 [extV x] h = some (v', h') ∧ Own h.next h' v' (bytesV (encX x)) 5 ∧ Grow h.next h h' := by
  obtain ⟨e, rfl, he⟩ := at1 hd
  rw [C_f rfl]; exact PutExt_S x hx h
theorem s_rpart (d : Nat) (hd : 1 ≤ d) (x : Nat) (h : AH) (hx : x ≤ 1048576) : C d 182 [fl x] h = some (.tuple #[iv x, .bool true], h) := by
  obtain ⟨e, rfl, he⟩ := at1 hd
  rw [C_f rfl]; exact rpart_S x hx h
theorem s_rOf (d : Nat) (hd : 2 ≤ d) (x y : Nat) (h : AH) (hx : x ≤ 1048576) (hy : y ≤ 1048576) : ∃ h', C d 158 [cx x y] h = some (.tuple #[zv x y, .bool true], h') ∧ Grow h.next h h' := by
  obtain ⟨e, rfl, he⟩ := at1 hd
  rw [C_f rfl]; exact rOf_S (s_rpart e he) x y hx hy h
theorem s_rParts (d : Nat) (hd : 3 ≤ d) (x y : Nat) (h : AH) (hx : x ≤ 1048576) (hy : y ≤ 1048576) : ∃ h', C d 118 [cx x y] h = some (.tuple #[iv x, iv y, .bool (runOK x y)], h') ∧ Grow h.next h h' := by
  obtain ⟨e, rfl, he⟩ := at1 hd
  rw [C_f rfl]; exact rParts_S x y h (s_rOf e he x y h hx hy) hx hy
theorem s_rPutExt (d : Nat) (hd : 4 ≤ d) (x : XV) (n0 : Nat) (bs : List Nat) (v : Value) (h : AH) (hx : okX x) (hl : bs.length < 300) (hn : n0 ≤ h.next) (ho : Own n0 h v (bytesV bs) 5) :
    ∃ v' h', C d 67 [v, extV x] h = some (v', h') ∧ Own n0 h' v' (bytesV (bs ++ encX x)) 5 ∧ Grow n0 h h' := by
  obtain ⟨e, rfl, he⟩ := at1 hd
  rw [C_f rfl]; exact rPutExt_S (s_rPut e (by omega)) (s_rParts e he) x hx n0 bs v h hl hn ho
/- Nodes. -/
theorem s_Equal (d : Nat) (hd : 1 ≤ d) (v w : Value) (xs ys : List XV) (n0 : Nat) (h : AH) (hv : RowE n0 h v xs) (hw : RowE n0 h w ys) (hx : ∀ x ∈ xs, okE x) (hy : ∀ y ∈ ys, okE y) (hL : xs.length < 1000) : C d 133 [v, w] h = some (.bool (eqL xs ys), h) := by
  obtain ⟨e, rfl, he⟩ := at1 hd
  rw [C_f rfl]; exact Equal_S v w xs ys n0 h hv hw hx hy hL
theorem s_SameE (d : Nat) (hd : 1 ≤ d) (v w : Value) (xs ys : List XV) (n0 : Nat) (h : AH) (hv : RowE n0 h v xs) (hw : RowE n0 h w ys) (hx : ∀ x ∈ xs, okE x) (hy : ∀ y ∈ ys, okE y) (hL : xs.length < 1000) : C d 159 [v, w] h = some (.bool (eqL xs ys), h) := by
  obtain ⟨e, rfl, he⟩ := at1 hd
  rw [C_f rfl]; exact SameE_S v w xs ys n0 h hv hw hx hy hL
theorem s_Same (d : Nat) (hd : 2 ≤ d) (n m : NV) (v w : Value) (xs ys : List XV) (n0 : Nat) (h : AH) (hv : RowE n0 h v xs) (hw : RowE n0 h w ys) (hx : ∀ x ∈ xs, okE x) (hy : ∀ y ∈ ys, okE y) (hL : xs.length < 1000) (hn : n0 ≤ h.next) :
    ∃ h', C d 93 [nodeV n v, nodeV m w] h = some (.bool (sameN n m && eqL xs ys), h') ∧ Grow h.next h h' := by
  obtain ⟨e, rfl, he⟩ := at1 hd
  rw [C_f rfl]; exact Same_S (s_Equal e he) n m v w xs ys n0 h hv hw hx hy hL hn
theorem s_rSame (d : Nat) (hd : 2 ≤ d) (n m : NV) (v w : Value) (xs ys : List XV) (n0 : Nat) (h : AH) (hv : RowE n0 h v xs) (hw : RowE n0 h w ys) (hx : ∀ x ∈ xs, okE x) (hy : ∀ y ∈ ys, okE y) (hL : xs.length < 1000) (hn : n0 ≤ h.next) :
    ∃ h', C d 121 [nodeV n v, nodeV m w] h = some (.bool (sameN n m && eqL xs ys), h') ∧ Grow h.next h h' := by
  obtain ⟨e, rfl, he⟩ := at1 hd
  rw [C_f rfl]; exact rSame_S (s_SameE e he) n m v w xs ys n0 h hv hw hx hy hL hn
theorem s_Data (d : Nat) (hd : 1 ≤ d) (n : Nat) (h : AH) : C d 102 [iv n] h = some (.bool (dataN n), h) := by
  obtain ⟨e, rfl, he⟩ := at1 hd
  rw [C_f rfl]; exact Data_S n h
theorem s_rData (d : Nat) (hd : 1 ≤ d) (n : Nat) (h : AH) : C d 122 [iv n] h = some (.bool (dataN n), h) := by
  obtain ⟨e, rfl, he⟩ := at1 hd
  rw [C_f rfl]; exact rData_S n h
theorem s_named (d : Nat) (hd : 2 ≤ d) (n : Nat) (h : AH) : C d 95 [iv n] h = some (.bool (namedN n), h) := by
  obtain ⟨e, rfl, he⟩ := at1 hd
  rw [C_f rfl]; exact named_S (s_Data e he) n h
theorem s_Snd1 (d : Nat) (hd : 3 ≤ d) (n : Nat) (h : AH) : C d 94 [iv n] h = some (.bool (!namedN n), h) := by
  obtain ⟨e, rfl, he⟩ := at1 hd
  rw [C_f rfl]; exact Snd1_S (s_named e he) n h
theorem s_Snd2 (d : Nat) (hd : 1 ≤ d) (n : Nat) (h : AH) : C d 96 [iv n] h = some (.bool (!decide (n = 0)), h) := by
  obtain ⟨e, rfl, he⟩ := at1 hd
  rw [C_f rfl]; exact Snd2_S n h
def natP (p : Nat → Bool) : Value → Bool
  | .int _ n => p n.toNat
  | _ => false
theorem any_natP (p : Nat → Bool) (L : List Nat) : (intsV L).any (natP p) = L.any p := by
  unfold intsV; rw [List.any_map]; rfl
theorem s_Cont1 (d : Nat) (hd : 5 ≤ d) (v : Value) (L : List Nat) (n0 : Nat) (h : AH) (hv : Row n0 h v (intsV L) 3) (hl : L.length < 100) : C d 45 [v, .func (.func 94) #[] #[]] h = some (.bool (L.any fun p => !namedN p), h) := by
  obtain ⟨e, rfl, he⟩ := at1 hd
  obtain ⟨e, rfl, he⟩ := at1 he
  rw [C_f rfl, ← any_natP]
  refine ContainsI_S v _ (intsV L) (natP fun p => !namedN p) h ?_
  rw [C_f rfl]
  refine IndexI_S v (intsV L) n0 h 94 [] _ _ ft94 rfl _ hv (by simp [intsV]; omega) (fun x hx => ?_)
  simp only [intsV, List.mem_map] at hx
  obtain ⟨n, _, rfl⟩ := hx
  exact s_Snd1 e (by omega) n h
theorem s_Cont2 (d : Nat) (hd : 5 ≤ d) (v : Value) (L : List Nat) (n0 : Nat) (h : AH) (hv : Row n0 h v (intsV L) 3) (hl : L.length < 100) : C d 45 [v, .func (.func 96) #[] #[]] h = some (.bool (L.any fun p => !decide (p = 0)), h) := by
  obtain ⟨e, rfl, he⟩ := at1 hd
  obtain ⟨e, rfl, he⟩ := at1 he
  rw [C_f rfl, ← any_natP]
  refine ContainsI_S v _ (intsV L) (natP fun p => !decide (p = 0)) h ?_
  rw [C_f rfl]
  refine IndexI_S v (intsV L) n0 h 96 [] _ _ ft96 rfl _ hv (by simp [intsV]; omega) (fun x hx => ?_)
  simp only [intsV, List.mem_map] at hx
  obtain ⟨n, _, rfl⟩ := hx
  exact s_Snd2 e (by omega) n h
theorem s_pointers (d : Nat) (hd : 1 ≤ d) (n : NV) (w : Value) (h : AH) : ∃ v' h', C d 77 [nodeV n w] h = some (v', h') ∧ Own h.next h' v' (intsV (ptrs n)) 3 ∧ Grow h.next h h' := by
  obtain ⟨e, rfl, he⟩ := at1 hd
  rw [C_f rfl]; exact pointers_S n w h
theorem s_all (d : Nat) (hd : 1 ≤ d) (n : NV) (w : Value) (h : AH) : ∃ v' h', C d 68 [nodeV n w] h = some (v', h') ∧ Own h.next h' v' (intsV (ptrs n)) 3 ∧ Grow h.next h h' := by
  obtain ⟨e, rfl, he⟩ := at1 hd
  rw [C_f rfl]; exact all_S n w h
theorem s_rExtents (d : Nat) (hd : 4 ≤ d) (v : Value) (xs : List XV) (n0 : Nat) (h : AH) (hn : n0 ≤ h.next) (hx : ∀ x ∈ xs, okX x) (hL : xs.length ≤ 96) (hv : RowE n0 h v xs) : ∃ h', C d 123 [v] h = some (.bool (extG 0 (-1) [] xs), h') ∧ Grow h.next h h' := by
  obtain ⟨e, rfl, he⟩ := at1 hd
  rw [C_f rfl]; exact rExtents_S (s_rParts e he) v xs n0 h hn hx hL hv
theorem s_Snd (d : Nat) (hd : 10 ≤ d) (n : NV) (v : Value) (xs : List XV) (n0 : Nat) (h : AH) (hv : RowE n0 h v xs) (hx : ∀ x ∈ xs, okX x) (hL : xs.length ≤ 96) (hn : n0 ≤ h.next) : ∃ h', C d 43 [nodeV n v] h = some (.bool (soundN n xs), h') ∧ Grow h.next h h' := by
  obtain ⟨e, rfl, he⟩ := at1 hd
  rw [C_f rfl]
  refine Snd_S (fun n v xs n0 h hv hx hL hn => ?_) (s_pointers e (by omega)) (s_Cont1 e (by omega)) (s_Cont2 e (by omega)) (s_named e (by omega)) (s_Extents e he) n v xs n0 h hv hx hL hn
  exact s_Same e (by omega) n NV.zero v nilV xs [] n0 h hv (RowE.nil _ _) hx (by simp) hL hn
theorem s_rSnd (d : Nat) (hd : 5 ≤ d) (n : NV) (v : Value) (xs : List XV) (n0 : Nat) (h : AH) (hv : RowE n0 h v xs) (hx : ∀ x ∈ xs, okX x) (hL : xs.length ≤ 96) (hn : n0 ≤ h.next) : ∃ h', C d 66 [nodeV n v] h = some (.bool (soundN n xs), h') ∧ Grow h.next h h' := by
  obtain ⟨e, rfl, he⟩ := at1 hd
  rw [C_f rfl]
  refine rSnd_S (fun n v xs n0 h hv hx hL hn => ?_) (s_all e (by omega)) (s_rData e (by omega)) (s_rExtents e he) n v xs n0 h hv hx hL hn
  exact s_rSame e (by omega) n NV.zero v nilV xs [] n0 h hv (RowE.nil _ _) hx (by simp) hL hn
theorem eqL_refl (xs : List XV) : eqL xs xs = true := by
  induction xs with
  | nil => rfl
  | cons x xs ih => rw [eqL, ih]; simp [eqE]
theorem sameN_refl (n : NV) : sameN n n = true := by unfold sameN eqA; simp
theorem s_EncM (d : Nat) (hd : 11 ≤ d) : EncC (C d) 38 := by
  intro n h hs hok
  obtain ⟨e, rfl, he⟩ := at1 hd
  rw [C_f rfl]
  obtain ⟨r, h', e1, e2, e3⟩ := Enc_S (s_PutExt e (by omega)) (s_pointers e (by omega)) (s_Snd e he) (s_Sum e (by omega)) (s_Put32 e (by omega)) n nilV [] h.next h (RowE.nil _ _) (by simp) (by simp) (Nat.le_refl _)
  rcases e3 with ⟨q, _⟩ | ⟨_, v', rfl, q⟩
  · rw [hs] at q; cases q
  · exact ⟨v', h', e1, q, e2⟩
theorem s_rEncM (d : Nat) (hd : 6 ≤ d) : EncC (C d) 26 := by
  intro n h hs hok
  obtain ⟨e, rfl, he⟩ := at1 hd
  rw [C_f rfl]
  obtain ⟨r, h', e1, e2, e3⟩ := rEnc_S (s_rPut e (by omega)) (s_rPutExt e (by omega)) (s_all e (by omega)) (s_rSnd e he) (s_rSum e (by omega)) n hok nilV [] h.next h (RowE.nil _ _) (by simp) (by simp) (Nat.le_refl _)
  rcases e3 with ⟨q, _⟩ | ⟨_, v', rfl, q⟩
  · rw [hs] at q; cases q
  · exact ⟨v', h', e1, q, e2⟩
theorem s_BEq (d : Nat) (hd : 1 ≤ d) : BEqC (C d) := by
  intro l m v w n0 n1 h hl hm hv hw
  obtain ⟨e, rfl, he⟩ := at1 hd
  rw [C_f rfl]; exact BEqual_S l m hl hm v w n0 n1 h hv hw
/- Pages. -/
theorem s_BClone (d : Nat) (hd : 1 ≤ d) : BCloneC (C d) := by
  intro p v bs h ho hp h0 hl
  obtain ⟨e, rfl, he⟩ := at1 hd
  rw [C_f rfl]; exact BCloneV_S p v bs h ho hp h0 hl
theorem s_putV (d : Nat) (hd : 1 ≤ d) : PutVC (C d) := by
  intro n p o l cap bs h hl hol hb
  obtain ⟨e, rfl, he⟩ := at1 hd
  rw [C_f rfl]; exact putV_S n p o l cap bs hl hol h hb
theorem s_putI (d : Nat) (hd : 1 ≤ d) : PutIC (C d) := by
  intro P n p o l cap h hl hst hb
  obtain ⟨e, rfl, he⟩ := at1 hd
  rw [C_f rfl]; exact putI_S P n p o l cap hl hst h hb
theorem s_NewPage (d : Nat) (hd : 1 ≤ d) : NewPageC (C d) := by
  intro nm h hn h0 h256
  obtain ⟨e, rfl, he⟩ := at1 hd
  rw [C_f rfl]; exact NewPageV_S nm h hn h0 h256
theorem s_SetV (d : Nat) (hd : 2 ≤ d) : SetVC (C d) := by
  intro b p at_ size lb ns bs h hbp hs ha hn hL hpg hr hlb
  obtain ⟨e, rfl, he⟩ := at1 hd
  rw [C_f rfl]; exact SetV_S (s_putV e he) b p at_ size lb ns bs h hbp hs ha hn hL hpg hr hlb
theorem s_SumC (d : Nat) (hd : 5 ≤ d) : SumC (C d) 79 := fun bs v h hb hl hr => s_Sum d hd bs v h hb hl hr
theorem s_rSumC (d : Nat) (hd : 2 ≤ d) : SumC (C d) 65 := fun bs v h hb hl hr => s_rSum d hd bs v h hb hl hr
theorem s_FSeal (d : Nat) (hd : 6 ≤ d) (p : Nat) (bs : List Nat) (h : AH) (hl : bs.length = 64) (hb : ∀ x ∈ bs, x < 256) (ho : BlkV h p bs) (hp : p < h.next) :
    ∃ v' p' h', C d 74 [.slice (some ⟨p, 0, none⟩) 64 64] h = some (.tuple #[v', iv 0], h') ∧ h.next ≤ p' ∧ p' < h'.next ∧ OwnB p' h' v' (sealB bs) ∧ Grow h.next h h' := by
  obtain ⟨e, rfl, he⟩ := at1 hd
  rw [C_f rfl]; exact SealV_S (s_BClone e (by omega)) (s_SumC e he) (s_putI e (by omega)) p bs h hl hb ho hp
theorem s_PSeal (d : Nat) (hd : 7 ≤ d) : PSealC (C d) := by
  intro b p bs h hpg hp
  obtain ⟨e, rfl, he⟩ := at1 hd
  rw [C_f rfl]; exact PSealV_S (s_FSeal e he) b p bs h hpg hp
theorem s_in (d : Nat) (hd : 1 ≤ d) : InC (C d) 31 := by
  intro a lo hi h h1 h2
  obtain ⟨e, rfl, he⟩ := at1 hd
  rw [C_f rfl]; exact in_S a lo hi h h1 h2
theorem s_rin (d : Nat) (hd : 1 ≤ d) : InC (C d) 60 := by
  intro a lo hi h h1 h2
  obtain ⟨e, rfl, he⟩ := at1 hd
  rw [C_f rfl]; exact rin_S a lo hi h h1 h2
theorem s_sound (d : Nat) (hd : 2 ≤ d) (b f : Nat) (h : AH) (h1 : 64 ≤ b) (h2 : b ≤ 480) (h3 : 1 ≤ f) (h4 : f ≤ 2) : ∃ h', C d 75 [supV b f] h = some (.bool true, h') ∧ Grow h.next h h' := by
  obtain ⟨e, rfl, he⟩ := at1 hd
  rw [C_f rfl]; exact SupSound_S (s_in e he) b f h h1 h2 h3 h4
theorem s_PutHead (d : Nat) (hd : 8 ≤ d) : PutHC (C d) := by
  intro h
  obtain ⟨e, rfl, he⟩ := at1 hd
  rw [C_f rfl]; exact PutHead_S (s_in e (by omega)) (s_NewPage e (by omega)) (s_SetV e (by omega)) (s_PSeal e he) h
theorem s_SEnc (d : Nat) (hd : 8 ≤ d) : SEncC (C d) := by
  intro B f h h1 h2 h3 h4
  obtain ⟨e, rfl, he⟩ := at1 hd
  rw [C_f rfl]; exact SEnc_S (s_sound e (by omega)) (s_NewPage e (by omega)) (s_SetV e (by omega)) (s_PSeal e he) B f h h1 h2 h3 h4
/- The document. -/
theorem s_rPutC (d : Nat) (hd : 1 ≤ d) : RPutC (C d) := fun n size n0 bs v h h1 h2 h3 h4 h5 => s_rPut d hd n size n0 bs v h h1 h2 h3 h4 h5
theorem s_rSeal (d : Nat) (hd : 3 ≤ d) : RSealC (C d) := by
  intro n0 bs v h hl h0 hb ho
  obtain ⟨e, rfl, he⟩ := at1 hd
  rw [C_f rfl]; exact rSeal_S (s_rPutC e (by omega)) (s_rSumC e he) n0 bs v h hl h0 hb ho
theorem s_rPutHead (d : Nat) (hd : 4 ≤ d) : RPHC (C d) := by
  intro h
  obtain ⟨e, rfl, he⟩ := at1 hd
  rw [C_f rfl]; exact rPutHead_S (s_rin e (by omega)) (s_rPutC e (by omega)) (s_rSeal e he) h
theorem s_rSEnc (d : Nat) (hd : 4 ≤ d) : RSEC (C d) := by
  intro B f h h1 h2 h3 h4
  obtain ⟨e, rfl, he⟩ := at1 hd
  rw [C_f rfl]; exact rSEnc_S (s_rin e (by omega)) (s_rPutC e (by omega)) (s_rSeal e he) B f h h1 h2 h3 h4
/- Flags. -/
theorem s_New (d : Nat) (hd : 1 ≤ d) : NewC (C d) := by
  intro h
  obtain ⟨e, rfl, he⟩ := at1 hd
  rw [C_f rfl]; exact New_S h
theorem s_Mark (d : Nat) (hd : 6 ≤ d) : MarkC (C d) 12 := by
  intro p b v h ho hp hb hb2
  obtain ⟨e, rfl, he⟩ := at1 hd
  rw [C_f rfl]; exact Mark_S (s_BClone e (by omega)) (s_Parts e he) p b v h ho hp hb hb2
theorem s_pow (d : Nat) (hd : 1 ≤ d) : PowC (C d) := by
  intro n h hn
  obtain ⟨e, rfl, he⟩ := at1 hd
  rw [C_f rfl]; exact rpower_S n hn h
theorem s_rBlocks (d : Nat) (hd : 4 ≤ d) (b : Nat) (h : AH) (hb : BoxL h b 47 [cx ((0 : Nat) : Int) ((59 : Nat) : Int)]) (hb2 : b < h.next) :
    ∃ v' h', C d 62 [.slice (some ⟨b, 0, none⟩) 1 1] h = some (.tuple #[v', .bool true], h') ∧ Own h.next h' v' (boolsV (ltF 59) 0 480) 4 ∧ Grow h.next h h' := by
  obtain ⟨e, rfl, he⟩ := at1 hd
  rw [C_f rfl]; exact rBlocks_S (fun x y h hx hy => s_rParts e he x y h hx hy) b h hb hb2
theorem s_Up (d : Nat) (hd : 2 ≤ d) (bs : List Nat) (m : Value) (h : AH) (hbs : ∀ x ∈ bs, x < 256) (hl : bs.length = 60) (hm : Row h.next h m (bytesV bs) 5) : ∃ v h', C d 63 [m] h = some (v, h') ∧ Own h.next h' v (boolsV (bitB bs) 0 480) 4 ∧ Grow h.next h h' := by
  obtain ⟨e, rfl, he⟩ := at1 hd
  rw [C_f rfl]; exact Up_S bs hbs hl m h hm (s_pow e he)
theorem s_Map (d : Nat) (hd : 2 ≤ d) (r : Value) (h : AH) (hr : Row h.next h r (boolsV (ltF 59) 0 480) 4) : ∃ v' p' h', C d 64 [r] h = some (v', h') ∧ h.next ≤ p' ∧ p' < h'.next ∧ OwnB p' h' v' (markL 59) ∧ Grow h.next h h' := by
  obtain ⟨e, rfl, he⟩ := at1 hd
  rw [C_f rfl]; exact rMap_S (s_pow e he) r h hr
theorem s_rMark (d : Nat) (hd : 5 ≤ d) : MarkC (C d) 23 := by
  intro p b v h ho hp hb hb2
  obtain ⟨e, rfl, he⟩ := at1 hd
  rw [C_f rfl]; exact rMark_S (s_rBlocks e he) (s_Up e (by omega)) (s_Map e (by omega)) p b v h ho hp hb hb2
theorem s_rRun (d : Nat) (hd : 1 ≤ d) (h : AH) : C d 24 [iv 0, iv 59] h = some (cx ((0 : Nat) : Int) ((59 : Nat) : Int), h) := by
  obtain ⟨e, rfl, he⟩ := at1 hd
  rw [C_f rfl, rRun_S 0 59 (by decide) (by decide) h]; rfl
theorem s_up (d : Nat) (hd : 1 ≤ d) (bs : List Nat) (hbs : ∀ x ∈ bs, x < 256) (m : Value) (k n : Nat) (h : AH) (hm : Row k h m (bytesV bs) 5) (hn : n / 8 < bs.length) (hn2 : n < 9000) : C d 69 [m, iv n] h = some (.bool (bitB bs n), h) := by
  obtain ⟨e, rfl, he⟩ := at1 hd
  rw [C_f rfl]; exact up_S bs hbs m k n h hm hn hn2
theorem s_Of (d : Nat) (hd : 2 ≤ d) (x y : Nat) (h : AH) (hy : 1 ≤ y) (hxy : x + y ≤ 480) : C d 70 [iv x, iv y] h = some (.tuple #[cx x y, iv 0], h) := by
  obtain ⟨e, rfl, he⟩ := at1 hd
  rw [C_f rfl]; exact Of_S (s_make1 e he) x y hy hxy h
theorem s_Down (d : Nat) (hd : 3 ≤ d) : DownC (C d) := by
  intro bs m h a b hbs hm
  obtain ⟨e, rfl, he⟩ := at1 hd
  rw [C_f rfl]; exact Down_S bs m h a b hm (fun n h' hn hl hr => s_up e (by omega) bs hbs m _ n h' hr (by omega) (by omega)) (s_Of e he)
/- The image. -/
theorem s_must (d : Nat) (hd : 1 ≤ d) : MustC (C d) := by
  intro v h
  obtain ⟨e, rfl, he⟩ := at1 hd
  rw [C_f rfl]; exact must_S v h
theorem s_putIm (d : Nat) (hd : 2 ≤ d) : PutIm (C d) := by
  intro pI n i L vb vd bs bss h hI hpI h7 hb hi hbd hn
  obtain ⟨e, rfl, he⟩ := at1 hd
  rw [C_f rfl]; exact put_S' (s_BClone e he) (s_BEq e he) pI n i L vb vd bs bss h hI hpI h7 hb hi hbd hn
theorem s_Write (d : Nat) (hd : 12 ≤ d) : WriteC (C d) := by
  intro pI pn n B f vf vb ws bss h k1 k2 hf1 hf2 hI hpI hNs hpn hF hb hl hn
  obtain ⟨e, rfl, he⟩ := at1 hd
  rw [C_f rfl]; exact Write_S (s_SEnc e (by omega)) (s_NewPage e (by omega)) (s_PSeal e (by omega)) (s_EncM e he) (s_must e (by omega)) (s_putIm e (by omega)) pI pn n B f k1 k2 hf1 hf2 vf vb ws bss h hI hpI hNs hpn hF hb hl hn
theorem s_CloneN (d : Nat) (hd : 1 ≤ d) : CloNC (C d) := by
  intro pn a h hb hp
  obtain ⟨e, rfl, he⟩ := at1 hd
  rw [C_f rfl]; exact CloneN_S pn a h hb hp
theorem s_CloneBB (d : Nat) (hd : 1 ≤ d) : CloBC (C d) := by
  intro n v bss h hb h0 hl
  obtain ⟨e, rfl, he⟩ := at1 hd
  rw [C_f rfl]; exact CloneBB_S n v bss h hb h0 hl
theorem s_Copy (d : Nat) (hd : 2 ≤ d) : CopyC (C d) := by
  intro pn n B f vf vb fb bss h hNs hpn hF hb h0 hl
  obtain ⟨e, rfl, he⟩ := at1 hd
  rw [C_f rfl]; exact Copy_S (s_BClone e he) (s_CloneN e he) (s_CloneBB e he) pn n B f vf vb fb bss h hNs hpn hF hb h0 hl
theorem s_Settle (d : Nat) (hd : 3 ≤ d) : SettleC (C d) := by
  intro pI pn n B f vf vb fb ws bss h hw hI hpI hnI hNs hpn hF hb h0 hl
  obtain ⟨e, rfl, he⟩ := at1 hd
  rw [C_f rfl]; exact Settle_S (s_Copy e he) pI pn n B f vf vb fb ws hw bss h hI hpI hnI hNs hpn hF hb h0 hl
theorem s_Make (d : Nat) (hd : 13 ≤ d) (B f : Nat) (k1 : 64 ≤ B) (k2 : B ≤ 480) (hf1 : 1 ≤ f) (hf2 : f ≤ 2) (h : AH) :
    ∃ pI h', C d 4 [iv B, iv f] h = some (.tuple #[pv pI 0, iv 0], h') ∧ ImgOK h.next h' pI B f (madeL B f) ∧ Grow h.next h h' := by
  obtain ⟨e, rfl, he⟩ := at1 hd
  rw [C_f rfl]; exact Make_S (s_New e (by omega)) (s_Mark e (by omega)) (s_PutHead e (by omega)) (s_Write e he) (s_Settle e (by omega)) B f k1 k2 hf1 hf2 h
theorem s_MakeBad (d : Nat) (hd : 1 ≤ d) (B f : Int) (h : AH) (hb : okMake B f = false) : C d 4 [iv B, iv f] h = some (.tuple #[.pointer none, iv 1], h) := by
  obtain ⟨e, rfl, he⟩ := at1 hd
  rw [C_f rfl]; exact Make_bad B f h hb
theorem s_Empty (d : Nat) (hd : 7 ≤ d) (B f : Nat) (k1 : 64 ≤ B) (k2 : B ≤ 480) (hf1 : 1 ≤ f) (hf2 : f ≤ 2) (h : AH) :
    ∃ v' h', C d 8 [iv B, iv f] h = some (v', h') ∧ BL h.next h' v' (madeL B f) ∧ Grow h.next h h' := by
  obtain ⟨e, rfl, he⟩ := at1 hd
  rw [C_f rfl]; exact Empty_S (s_rSEnc e (by omega)) (s_rPutHead e (by omega)) (s_rRun e (by omega)) (s_rMark e (by omega)) (s_rSeal e (by omega)) (s_rEncM e he) B f k1 k2 hf1 hf2 h
end
end Go.Proofs.YtjiilfinllfmgaaGreat.Abs
namespace Go.Proofs.YtjiilfinllfmgaaGreat.Abs
open Go Go.Proofs
noncomputable section
set_option maxRecDepth 10000
theorem Bks.mono {h : AH} {w : Value} {bs : List Nat} (hb : Bks h w bs) : Bks h w bs := hb
theorem ImgOK.grow {n pI B f : Nat} {h h' : AH} {bss : List (List Nat)} (hI : ImgOK n h pI B f bss) (g : Grow h.next h h') : ImgOK n h' pI B f bss := by
  obtain ⟨hp, vf, vn, vb, vf', vn', vb', i1, i2, i3, i4⟩ := hI
  exact ⟨Nat.lt_of_lt_of_le hp g.next, vf, vn, vb, vf', vn', vb', i1.grow g hp, i2.grow g, i3.grow g, i4.grow g⟩
theorem s_Img (d : Nat) (hd : 4 ≤ d) (n pI B f : Nat) (k1 : 64 ≤ B) (k2 : B ≤ 480) (h : AH) (hI : ImgOK n h pI B f (madeL B f)) :
    (∃ v' h', C d 7 [pv pI 0] h = some (v', h') ∧ BL h.next h' v' (madeL B f) ∧ Grow h.next h h') ∧
    (∃ h', C d 9 [pv pI 0] h = some (supV B f, h') ∧ Grow h.next h h') ∧
    (∃ h', C d 10 [pv pI 0] h = some (iv (B - 59 : Nat), h') ∧ Grow h.next h h') ∧
    C d 11 [pv pI 0] h = some (nilV, h) := by
  obtain ⟨e, rfl, he⟩ := at1 hd
  have hl : (madeL B f).length < 900 := by rw [madeL_len]; omega
  have hlim : ∀ (n pI B f : Nat) (bss : List (List Nat)) (h : AH), ImgOK n h pI B f bss → C e 28 [pv pI 0] h = some (iv B, h) := by
    intro n pI B f bss h hI
    obtain ⟨e2, rfl, he2⟩ := at1 he
    rw [C_f rfl]; exact limit_S n pI B f bss h hI
  refine ⟨?_, ?_, ?_, ?_⟩
  · rw [C_f rfl]; exact Blocks_S (s_BClone e (by omega)) n pI B f _ h hI hl
  · rw [C_f rfl]; exact Super_S n pI B f _ h hI
  · rw [C_f rfl]; exact Free_S hlim (s_Down e he) n pI B f k1 k2 _ h hI
  · rw [C_f rfl]; exact Changes_S (s_BEq e (by omega)) n pI B f _ h hI hl
theorem s_BSame (d : Nat) (hd : 1 ≤ d) (n m : Nat) (v w : Value) (bss : List (List Nat)) (h : AH) (hv : BL n h v bss) (hw : BL m h w bss) (hl : bss.length < 900) : C d 6 [v, w] h = some (.bool true, h) := by
  obtain ⟨e, rfl, he⟩ := at1 hd
  rw [C_f rfl]; exact BSame_S n m v w bss h hv hw hl
theorem nil_eql0 {p q : Operand} {h : AH} : evBin T0 .eql 22 p q (.pointer none) (.pointer none) h = some (.bool true) := by kernel_rfl
theorem field_Sz {b f : Nat} : evField T0 32 (supV b f) 0 = some (iv b) := by kernel_rfl
theorem law_bad (B f : Int) (h : AH) (hb : okMake B f = false) : ∃ h', C 20 3 [iv B, iv f] h = some (.bool true, h') := by
  have cm := s_MakeBad 19 (by omega) B f h hb
  have hb : B < 64 ∨ 480 < B ∨ (f ≠ 1 ∧ f ≠ 2) := by
    unfold okMake at hb
    exact Classical.byContradiction fun q => by rw [decide_eq_true q] at hb; cases hb
  refine ⟨h, ?_⟩
  rw [C_f rfl, frameB_eq ft3 rfl rfl]
  have aw := C_aw 19 (by omega) h
  by_cases h1 : B < 64
  · simp only [Tryz.f3, symM, opFn, Nat.reduceLT, Nat.reduceBEq, symM, evCall_fn ft4 rfl, cm, bin_lss, decide_eq_true h1, evCall_fn ft5 rfl, aw, bin_eql, show ((1 : Int) == 1) = true from rfl, nil_eql0]
    exact retB_one ft3 rfl get_same
  · by_cases h2 : B > 480
    · simp only [Tryz.f3, symM, opFn, Nat.reduceLT, Nat.reduceBEq, symM, evCall_fn ft4 rfl, cm, bin_lss, decide_eq_false h1, bin_gtr, decide_eq_true h2, evCall_fn ft5 rfl, aw, bin_eql, show ((1 : Int) == 1) = true from rfl, nil_eql0]
      exact retB_one ft3 rfl get_same
    · have h3 : f ≠ 1 ∧ f ≠ 2 := by rcases hb with q | q | q; exact absurd q h1; exact absurd q h2; exact q
      have e1 : (f == 1) = false := by simpa using h3.1
      have e2 : (f == 2) = false := by simpa using h3.2
      simp only [Tryz.f3, symM, opFn, Nat.reduceLT, Nat.reduceBEq, symM, evCall_fn ft4 rfl, cm, bin_lss, decide_eq_false h1, bin_gtr, decide_eq_false h2, bin_neq, e1, e2, evCall_fn ft5 rfl, aw, bin_eql, show ((1 : Int) == 1) = true from rfl, nil_eql0]
      exact retB_one ft3 rfl get_same
theorem law_good (B f : Nat) (h : AH) (k1 : 64 ≤ B) (k2 : B ≤ 480) (hf1 : 1 ≤ f) (hf2 : f ≤ 2) : ∃ h', C 20 3 [iv B, iv f] h = some (.bool true, h') := by
  obtain ⟨pI, h1, a1, a2, a3⟩ := s_Make 19 (by omega) B f k1 k2 hf1 hf2 h
  have aw := C_aw 19 (by omega) h1
  obtain ⟨⟨v, h2, b1, b2, b3⟩, _⟩ := s_Img 19 (by omega) _ pI B f k1 k2 h1 a2
  obtain ⟨w, h3, c1, c2, c3⟩ := s_Empty 19 (by omega) B f k1 k2 hf1 hf2 h2
  have hs := s_BSame 19 (by omega) _ _ v w _ h3 (b2.grow c3) c2 (by rw [madeL_len]; omega)
  have G3 : Grow h1.next h1 h3 := b3.trans c3 b3.next
  obtain ⟨_, ⟨h4, d1, d2⟩, _⟩ := s_Img 19 (by omega) _ pI B f k1 k2 h3 (a2.grow G3)
  have G4 : Grow h1.next h1 h4 := G3.trans d2 G3.next
  obtain ⟨_, _, ⟨h5, e1, e2⟩, _⟩ := s_Img 19 (by omega) _ pI B f k1 k2 h4 (a2.grow G4)
  have G5 : Grow h1.next h1 h5 := G4.trans e2 G4.next
  obtain ⟨_, _, _, f1⟩ := s_Img 19 (by omega) _ pI B f k1 k2 h5 (a2.grow G5)
  have hb1 : ¬ (B : Int) < 64 := by omega
  have hb2 : ¬ (B : Int) > 480 := by omega
  have hff : (!(f : Int) == 1) = false ∨ ((!(f : Int) == 1) = true ∧ (!(f : Int) == 2) = false) := by
    have : f = 1 ∨ f = 2 := by omega
    rcases this with rfl | rfl
    · exact .inl rfl
    · exact .inr ⟨rfl, rfl⟩
  have ws : IntKind.i64.wrap ((B : Int) - 59) = ((B - 59 : Nat) : Int) := by rw [wz (by omega)]; omega
  have hlen : ∀ ty h', evBuiltin T0 .len #[35] ty [nilV] h' = some (.value (iv 0), h') := fun ty h' => by kernel_rfl
  refine ⟨h5, ?_⟩
  rw [C_f rfl, frameB_eq ft3 rfl rfl]
  rcases hff with hff | ⟨hff, hff2⟩
  · simp only [Tryz.f3, symM, opFn, Nat.reduceLT, Nat.reduceBEq, symM, evCall_fn ft4 rfl, a1, bin_lss, decide_eq_false hb1, bin_gtr, decide_eq_false hb2, bin_neq, hff, evCall_fn ft5 rfl, aw, bin_eql, show ((0 : Int) == 0) = true from rfl, ptr_neq, evCall_fn ft7 rfl, b1, evCall_fn ft8 rfl, c1, evCall_fn ft6 rfl, hs, evCall_fn ft9 rfl, d1, field_Sz, beq_self_eq_true, evCall_fn ft10 rfl, e1, bin_sub, ws, evCall_fn ft11 rfl, f1, hlen]
    exact retB_one ft3 rfl get_same
  · simp only [Tryz.f3, symM, opFn, Nat.reduceLT, Nat.reduceBEq, symM, evCall_fn ft4 rfl, a1, bin_lss, decide_eq_false hb1, bin_gtr, decide_eq_false hb2, bin_neq, hff, hff2, evCall_fn ft5 rfl, aw, bin_eql, show ((0 : Int) == 0) = true from rfl, ptr_neq, evCall_fn ft7 rfl, b1, evCall_fn ft8 rfl, c1, evCall_fn ft6 rfl, hs, evCall_fn ft9 rfl, d1, field_Sz, beq_self_eq_true, evCall_fn ft10 rfl, e1, bin_sub, ws, evCall_fn ft11 rfl, f1, hlen]
    exact retB_one ft3 rfl get_same
theorem law_S (B f : Int) (h : AH) : ∃ h', C 20 3 [iv B, iv f] h = some (.bool true, h') := by
  cases hb : okMake B f with
  | false => exact law_bad B f h hb
  | true =>
    have hq : ¬ (B < 64 ∨ 480 < B ∨ (f ≠ 1 ∧ f ≠ 2)) := by unfold okMake at hb; exact of_decide_eq_true hb
    obtain ⟨b, rfl⟩ := Int.eq_ofNat_of_zero_le (show 0 ≤ B by omega)
    obtain ⟨g, rfl⟩ := Int.eq_ofNat_of_zero_le (show 0 ≤ f by omega)
    exact law_good b g h (by omega) (by omega) (by omega) (by omega)
end
end Go.Proofs.YtjiilfinllfmgaaGreat.Abs
