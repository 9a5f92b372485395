
/- CheckEmpty: the contracts, joined. -/
import Derived.Test.YtonfgflgnnkniaaGreatWalk
namespace Go.Proofs.YtonfgflgnnkniaaGreat.Abs
open Go Go.Proofs
noncomputable section
variable {call : Abs.Callee}
set_option maxRecDepth 10000
abbrev C (d : Nat) : Abs.Callee := callB T0 X0 noSums 3000 d
theorem C_f {f : Nat} (_hf : f = f) (d : Nat) (args : List Value) (h : AH) : C (d + 1) f args h = frameB T0 X0 (C d) 3000 f args h := rfl
theorem at1 {d k : Nat} (h : k + 1 ≤ d) : ∃ e, d = e + 1 ∧ k ≤ e := ⟨d - 1, by omega, by omega⟩
theorem s_Abs (d : Nat) (hd : 1 ≤ d) (x : Nat) (h : AH) (hx : zok x = true) : C d 138 [fl x] h = some (fl x, h) := by
  obtain ⟨e, rfl, _⟩ := at1 hd
  rw [C_f rfl]; exact Abs_S x hx h
theorem s_Trunc (d : Nat) (hd : 1 ≤ d) (x : Int) (h : AH) (hx : zok x = true) : C d 139 [fl x] h = some (fl x, h) := by
  obtain ⟨e, rfl, _⟩ := at1 hd
  rw [C_f rfl]; exact Trunc_S x hx h
theorem s_whole (d : Nat) (hd : 2 ≤ d) (x : Nat) (h : AH) (hx : x ≤ 1048576) : C d 120 [fl x] h = some (.bool true, h) := by
  obtain ⟨e, rfl, he⟩ := at1 hd
  rw [C_f rfl]; exact whole_S (s_Abs e he) (s_Trunc e he) x hx h
theorem s_Whole (d : Nat) (hd : 3 ≤ d) (x y : Nat) (h : AH) (hx : x ≤ 1048576) (hy : y ≤ 1048576) : C d 84 [cx x y] h = some (.bool true, h) := by
  obtain ⟨e, rfl, he⟩ := at1 hd
  rw [C_f rfl]; exact Whole_S (s_whole e he) x y hx hy h
theorem s_RSound (d : Nat) (hd : 4 ≤ d) (x y : Nat) (h : AH) (hx : x ≤ 1048576) (hy : y ≤ 1048576) : C d 43 [cx x y] h = some (.bool (runOK x y), h) := by
  obtain ⟨e, rfl, he⟩ := at1 hd
  rw [C_f rfl]; exact Sound_S (s_Whole e he) x y hx hy h
theorem s_parts (d : Nat) (hd : 1 ≤ d) (x y : Nat) (h : AH) (hx : x ≤ 1048576) (hy : y ≤ 1048576) : C d 44 [cx x y] h = some (.tuple #[iv x, iv y], h) := by
  obtain ⟨e, rfl, he⟩ := at1 hd
  rw [C_f rfl]; exact parts_S x y hx hy h
theorem s_Parts (d : Nat) (hd : 5 ≤ d) (x y : Nat) (h : AH) (hx : x ≤ 1048576) (hy : y ≤ 1048576) : C d 19 [cx x y] h = some (partsV x y, h) := by
  obtain ⟨e, rfl, he⟩ := at1 hd
  rw [C_f rfl]; exact Parts_S (s_RSound e he) (s_parts e (by omega)) x y hx hy h
theorem s_make1 (d : Nat) (hd : 1 ≤ d) (x y : Int) (h : AH) (hx : zok x = true) (hy : zok y = true) : C d 141 [iv x, iv y] h = some (make1V x y, h) := by
  obtain ⟨e, rfl, he⟩ := at1 hd
  rw [C_f rfl]; exact make1_S x y hx hy h
theorem s_Meet (d : Nat) (hd : 5 ≤ d) (r x : XV) (h : AH) (hr : runOK r.x r.y = true) (hx : runOK x.x x.y = true) :
    ∃ a b : Int, C d 124 [cx r.x r.y, cx x.x x.y] h = some (make1V a b, h) ∧ zok a = true ∧ zok b = true ∧ decide (0 < b) = meetX r x := by
  obtain ⟨e, rfl, he⟩ := at1 hd
  rw [C_f rfl]; exact Meet_S (s_RSound e he) (s_parts e (by omega)) (s_make1 e (by omega)) r x hr hx h
theorem s_Ext1 (d : Nat) (hd : 6 ≤ d) (r x : XV) (hr : runOK r.x r.y = true) (hx : runOK x.x x.y = true) (b : Nat) (h : AH) (hb : BoxL h b 99 [iv x.a, cx x.x x.y]) :
    C d 123 [cx r.x r.y, pv b 0] h = some (.bool (meetX r x), h) := by
  obtain ⟨e, rfl, he⟩ := at1 hd
  rw [C_f rfl]; exact Ext1_S (s_Meet e he) r x hr hx b h hb
def meetP (x : XV) : Value → Bool
  | .complex .f64 a b => (match dz a, dz b with
    | some u, some w => decide (u < x.x + x.y ∧ (x.x : Int) < u + w)
    | _, _ => false)
  | _ => false
theorem meetP_cx (r x : XV) (hr : runOK r.x r.y = true) : meetP x (cx r.x r.y) = meetX r x := by
  have hr2 : 1 ≤ r.y ∧ r.x + r.y ≤ 480 := by simpa [runOK] using hr
  unfold meetP meetX
  simp only [dz_zd (zok_k (x := (r.x : Int)) (by omega)), dz_zd (zok_k (x := (r.y : Int)) (by omega))]
  rw [Bool.eq_iff_iff]
  simp only [decide_eq_true_eq]
  omega
theorem s_IndexE (d : Nat) (hd : 7 ≤ d) (v : Value) (prev : List XV) (x : XV) (n0 : Nat) (h : AH) (b : Nat) (hv : Row n0 h v (runsV prev) 47) (hl : prev.length < 200) (hb : BoxL h b 99 [iv x.a, cx x.x x.y]) (hp : ∀ r ∈ prev, runOK r.x r.y = true) (hx : runOK x.x x.y = true) :
    C d 140 [v, .func (.func 123) #[] #[pv b 0]] h = some (iv (idxF (meetP x) (runsV prev) 0), h) := by
  obtain ⟨e, rfl, he⟩ := at1 hd
  rw [C_f rfl]
  refine Index_S v (runsV prev) n0 h 123 [pv b 0] _ _ ft123 rfl (meetP x) hv (by simp [runsV]; omega) (fun y hy => ?_)
  simp only [runsV, List.mem_map] at hy
  obtain ⟨r, hr, rfl⟩ := hy
  rw [s_Ext1 e he r x (hp r hr) hx b h hb, meetP_cx r x (hp r hr)]
theorem s_ContE (d : Nat) (hd : 8 ≤ d) (v : Value) (prev : List XV) (x : XV) (n0 : Nat) (h : AH) (b : Nat) (hv : Row n0 h v (runsV prev) 47) (hl : prev.length < 200) (hb : BoxL h b 99 [iv x.a, cx x.x x.y]) (hp : ∀ r ∈ prev, runOK r.x r.y = true) (hx : runOK x.x x.y = true) :
    C d 122 [v, .func (.func 123) #[] #[pv b 0]] h = some (.bool (prev.any fun r => meetX r x), h) := by
  obtain ⟨e, rfl, he⟩ := at1 hd
  rw [C_f rfl, Contains_S v _ (runsV prev) (meetP x) h (s_IndexE e he v prev x n0 h b hv hl hb hp hx)]
  congr 3
  unfold runsV
  rw [List.any_map]
  rw [Bool.eq_iff_iff]
  simp only [List.any_eq_true, Function.comp_apply]
  exact ⟨fun ⟨r, h1, h2⟩ => ⟨r, h1, by rwa [meetP_cx r x (hp r h1)] at h2⟩, fun ⟨r, h1, h2⟩ => ⟨r, h1, by rwa [meetP_cx r x (hp r h1)]⟩⟩
theorem s_Extents (d : Nat) (hd : 9 ≤ d) (v : Value) (xs : List XV) (n0 : Nat) (h : AH) (hn : n0 ≤ h.next) (hx : ∀ x ∈ xs, okX x) (hL : xs.length ≤ 96) (hv : RowE n0 h v xs) : ∃ h', C d 89 [v] h = some (.bool (extG 0 (-1) [] xs), h') ∧ Grow h.next h h' := by
  obtain ⟨e, rfl, he⟩ := at1 hd
  rw [C_f rfl]; exact Extents_S (s_Parts e (by omega)) (s_ContE e he) v xs n0 h hn hx hL hv
/- Sums and numbers. -/
theorem s_mod (d : Nat) (hd : 1 ≤ d) (z : Int) (h : AH) (h1 : -65521 < z) (h2 : z < 1000000) : C d 151 [fl z] h = some (fl (z % 65521), h) := by
  obtain ⟨e, rfl, he⟩ := at1 hd
  rw [C_f rfl]; exact mod_S z h1 h2 h
theorem s_reduce (d : Nat) (hd : 2 ≤ d) (x y : Int) (h : AH) (hx1 : -65521 < x) (hx2 : x < 1000000) (hy1 : -65521 < y) (hy2 : y < 1000000) : C d 142 [cx x y] h = some (cx (x % 65521) (y % 65521), h) := by
  obtain ⟨e, rfl, he⟩ := at1 hd
  rw [C_f rfl]; exact reduce_S (s_mod e he) x y hx1 hx2 hy1 hy2 h
theorem s_step (d : Nat) (hd : 3 ≤ d) (s : Nat × Nat) (x : Nat) (h : AH) (h1 : s.1 < 65521) (h2 : s.2 < 65521) (hx : x < 256) : C d 126 [cx s.1 s.2, .int .u8 x] h = some (cx (spinStep s x).1 (spinStep s x).2, h) := by
  obtain ⟨e, rfl, he⟩ := at1 hd
  rw [C_f rfl]; exact step_S (s_reduce e he) s x h1 h2 hx h
theorem s_sum (d : Nat) (hd : 1 ≤ d) (s : Nat × Nat) (h : AH) (h1 : s.1 < 65521) (h2 : s.2 < 65521) : C d 127 [cx s.1 s.2] h = some (wv (spinU s), h) := by
  obtain ⟨e, rfl, he⟩ := at1 hd
  rw [C_f rfl]; exact sum_S s h1 h2 h
theorem s_from (d : Nat) (hd : 3 ≤ d) (h : AH) : C d 125 [wv 65536] h = some (cx ((1 : Nat) : Int) ((0 : Nat) : Int), h) := by
  obtain ⟨e, rfl, he⟩ := at1 hd
  rw [C_f rfl]; exact from_S (s_reduce e he) h
theorem s_More (d : Nat) (hd : 4 ≤ d) (bs : List Nat) (v : Value) (h : AH) (hbs : ∀ x ∈ bs, x < 256) (hl : bs.length ≤ 1000) (hv : Row h.next h v (bytesV bs) 5) : C d 90 [wv 65536, v] h = some (wv (spinU (spinN bs)), h) := by
  obtain ⟨e, rfl, he⟩ := at1 hd
  rw [C_f rfl]; exact More_S (s_from e he) (s_step e he) (s_sum e (by omega)) bs hbs hl v _ h hv
theorem s_Sum (d : Nat) (hd : 5 ≤ d) (bs : List Nat) (v : Value) (h : AH) (hbs : ∀ x ∈ bs, x < 256) (hl : bs.length ≤ 1000) (hv : Row h.next h v (bytesV bs) 5) : C d 53 [v] h = some (wv (spinU (spinN bs)), h) := by
  obtain ⟨e, rfl, he⟩ := at1 hd
  rw [C_f rfl]; exact Sum_S (s_More e he) bs hbs hl v h hv
theorem s_rMore (d : Nat) (hd : 1 ≤ d) (bs : List Nat) (v : Value) (h : AH) (hbs : ∀ x ∈ bs, x < 256) (hl : bs.length ≤ 1000) (hv : Row h.next h v (bytesV bs) 5) : C d 93 [wv 65536, v] h = some (wv (spinU (spinN bs)), h) := by
  obtain ⟨e, rfl, he⟩ := at1 hd
  rw [C_f rfl]; exact rMore_S bs hbs hl v _ h hv
theorem s_rSum (d : Nat) (hd : 2 ≤ d) (bs : List Nat) (v : Value) (h : AH) (hbs : ∀ x ∈ bs, x < 256) (hl : bs.length ≤ 1000) (hv : Row h.next h v (bytesV bs) 5) : C d 61 [v] h = some (wv (spinU (spinN bs)), h) := by
  obtain ⟨e, rfl, he⟩ := at1 hd
  rw [C_f rfl]; exact rSum_S (s_rMore e he) bs hbs hl v h hv
theorem s_rPut (d : Nat) (hd : 1 ≤ d) (n size n0 : Nat) (bs : List Nat) (v : Value) (h : AH) (hn32 : n < 4294967296) (hs : size ≤ 4) (hl : bs.length < 400) (hn : n0 ≤ h.next) (ho : Own n0 h v (bytesV bs) 5) :
    ∃ v' h', C d 57 [v, iv n, iv size] h = some (v', h') ∧ Own n0 h' v' (bytesV (bs ++ leN n size)) 5 ∧ Grow n0 h h' ∧ (∀ k, k < h.next → Off v k → h'.get k = h.get k) ∧ (0 < size → Own h.next h' v' (bytesV (bs ++ leN n size)) 5) := by
  obtain ⟨e, rfl, he⟩ := at1 hd
  rw [C_f rfl]; exact rPut_S n size hn32 hs n0 bs v h hl hn ho
theorem s_put (d : Nat) (hd : 1 ≤ d) (n n0 : Nat) (rest : List Nat) (v : Value) (h : AH) (hn32 : n < 4294967296) (hr : rest.length = 4) (hn : n0 ≤ h.next) (ho : Own n0 h v (bytesV rest) 5) : ∃ h', C d 45 [v, wv n] h = some (.tuple #[], h') ∧ Own n0 h' v (bytesV (leN n 4)) 5 ∧ Grow n0 h h' := by
  obtain ⟨e, rfl, he⟩ := at1 hd
  rw [C_f rfl]; exact put_S n hn32 n0 rest hr v h hn ho
theorem s_Put32 (d : Nat) (hd : 2 ≤ d) (n : Nat) (h : AH) (hn32 : n < 4294967296) : ∃ v' h', C d 52 [wv n] h = some (v', h') ∧ Own h.next h' v' (bytesV (leN n 4)) 5 ∧ Grow h.next h h' := by
  obtain ⟨e, rfl, he⟩ := at1 hd
  rw [C_f rfl]; exact Put32_S (s_put e he) n hn32 h
theorem s_PutExt (d : Nat) (hd : 1 ≤ d) (x : XV) (h : AH) (hx : okX x) : ∃ v' h', C d 50 [extV x] h = some (v', h') ∧ Own h.next h' v' (bytesV (encX x)) 5 ∧ Grow h.next h h' := by
  obtain ⟨e, rfl, he⟩ := at1 hd
  rw [C_f rfl]; exact PutExt_S x hx h
theorem s_rpart (d : Nat) (hd : 1 ≤ d) (x : Nat) (h : AH) (hx : x ≤ 1048576) : C d 143 [fl x] h = some (.tuple #[iv x, .bool true], h) := by
  obtain ⟨e, rfl, he⟩ := at1 hd
  rw [C_f rfl]; exact rpart_S x hx h
theorem s_rOf (d : Nat) (hd : 2 ≤ d) (x y : Nat) (h : AH) (hx : x ≤ 1048576) (hy : y ≤ 1048576) : ∃ h', C d 128 [cx x y] h = some (.tuple #[zv x y, .bool true], h') ∧ Grow h.next h h' := by
  obtain ⟨e, rfl, he⟩ := at1 hd
  rw [C_f rfl]; exact rOf_S (s_rpart e he) x y hx hy h
theorem s_rParts (d : Nat) (hd : 3 ≤ d) (x y : Nat) (h : AH) (hx : x ≤ 1048576) (hy : y ≤ 1048576) : ∃ h', C d 91 [cx x y] h = some (.tuple #[iv x, iv y, .bool (runOK x y)], h') ∧ Grow h.next h h' := by
  obtain ⟨e, rfl, he⟩ := at1 hd
  rw [C_f rfl]; exact rParts_S x y h (s_rOf e he x y h hx hy) hx hy
theorem s_rPutExt (d : Nat) (hd : 4 ≤ d) (x : XV) (n0 : Nat) (bs : List Nat) (v : Value) (h : AH) (hx : okX x) (hl : bs.length < 300) (hn : n0 ≤ h.next) (ho : Own n0 h v (bytesV bs) 5) :
    ∃ v' h', C d 63 [v, extV x] h = some (v', h') ∧ Own n0 h' v' (bytesV (bs ++ encX x)) 5 ∧ Grow n0 h h' := by
  obtain ⟨e, rfl, he⟩ := at1 hd
  rw [C_f rfl]; exact rPutExt_S (s_rPut e (by omega)) (s_rParts e he) x hx n0 bs v h hl hn ho
/- Nodes. -/
theorem s_Equal (d : Nat) (hd : 1 ≤ d) (v w : Value) (xs ys : List XV) (n0 : Nat) (h : AH) (hv : RowE n0 h v xs) (hw : RowE n0 h w ys) (hx : ∀ x ∈ xs, okE x) (hy : ∀ y ∈ ys, okE y) (hL : xs.length < 1000) : C d 121 [v, w] h = some (.bool (eqL xs ys), h) := by
  obtain ⟨e, rfl, he⟩ := at1 hd
  rw [C_f rfl]; exact Equal_S v w xs ys n0 h hv hw hx hy hL
theorem s_SameE (d : Nat) (hd : 1 ≤ d) (v w : Value) (xs ys : List XV) (n0 : Nat) (h : AH) (hv : RowE n0 h v xs) (hw : RowE n0 h w ys) (hx : ∀ x ∈ xs, okE x) (hy : ∀ y ∈ ys, okE y) (hL : xs.length < 1000) : C d 129 [v, w] h = some (.bool (eqL xs ys), h) := by
  obtain ⟨e, rfl, he⟩ := at1 hd
  rw [C_f rfl]; exact SameE_S v w xs ys n0 h hv hw hx hy hL
theorem s_Same (d : Nat) (hd : 2 ≤ d) (n m : NV) (v w : Value) (xs ys : List XV) (n0 : Nat) (h : AH) (hv : RowE n0 h v xs) (hw : RowE n0 h w ys) (hx : ∀ x ∈ xs, okE x) (hy : ∀ y ∈ ys, okE y) (hL : xs.length < 1000) (hn : n0 ≤ h.next) :
    ∃ h', C d 85 [nodeV n v, nodeV m w] h = some (.bool (sameN n m && eqL xs ys), h') ∧ Grow h.next h h' := by
  obtain ⟨e, rfl, he⟩ := at1 hd
  rw [C_f rfl]; exact Same_S (s_Equal e he) n m v w xs ys n0 h hv hw hx hy hL hn
theorem s_rSame (d : Nat) (hd : 2 ≤ d) (n m : NV) (v w : Value) (xs ys : List XV) (n0 : Nat) (h : AH) (hv : RowE n0 h v xs) (hw : RowE n0 h w ys) (hx : ∀ x ∈ xs, okE x) (hy : ∀ y ∈ ys, okE y) (hL : xs.length < 1000) (hn : n0 ≤ h.next) :
    ∃ h', C d 94 [nodeV n v, nodeV m w] h = some (.bool (sameN n m && eqL xs ys), h') ∧ Grow h.next h h' := by
  obtain ⟨e, rfl, he⟩ := at1 hd
  rw [C_f rfl]; exact rSame_S (s_SameE e he) n m v w xs ys n0 h hv hw hx hy hL hn
theorem s_Data (d : Nat) (hd : 1 ≤ d) (n : Nat) (h : AH) : C d 110 [iv n] h = some (.bool (dataN n), h) := by
  obtain ⟨e, rfl, he⟩ := at1 hd
  rw [C_f rfl]; exact Data_S n h
theorem s_rData (d : Nat) (hd : 1 ≤ d) (n : Nat) (h : AH) : C d 95 [iv n] h = some (.bool (dataN n), h) := by
  obtain ⟨e, rfl, he⟩ := at1 hd
  rw [C_f rfl]; exact rData_S n h
theorem s_named (d : Nat) (hd : 2 ≤ d) (n : Nat) (h : AH) : C d 87 [iv n] h = some (.bool (namedN n), h) := by
  obtain ⟨e, rfl, he⟩ := at1 hd
  rw [C_f rfl]; exact named_S (s_Data e he) n h
theorem s_Snd1 (d : Nat) (hd : 3 ≤ d) (n : Nat) (h : AH) : C d 86 [iv n] h = some (.bool (!namedN n), h) := by
  obtain ⟨e, rfl, he⟩ := at1 hd
  rw [C_f rfl]; exact Snd1_S (s_named e he) n h
theorem s_Snd2 (d : Nat) (hd : 1 ≤ d) (n : Nat) (h : AH) : C d 88 [iv n] h = some (.bool (!decide (n = 0)), h) := by
  obtain ⟨e, rfl, he⟩ := at1 hd
  rw [C_f rfl]; exact Snd2_S n h
def natP (p : Nat → Bool) : Value → Bool
  | .int _ n => p n.toNat
  | _ => false
theorem any_natP (p : Nat → Bool) (L : List Nat) : (intsV L).any (natP p) = L.any p := by
  unfold intsV; rw [List.any_map]; rfl
theorem s_Cont1 (d : Nat) (hd : 5 ≤ d) (v : Value) (L : List Nat) (n0 : Nat) (h : AH) (hv : Row n0 h v (intsV L) 3) (hl : L.length < 100) : C d 75 [v, .func (.func 86) #[] #[]] h = some (.bool (L.any fun p => !namedN p), h) := by
  obtain ⟨e, rfl, he⟩ := at1 hd
  obtain ⟨e, rfl, he⟩ := at1 he
  rw [C_f rfl, ← any_natP]
  refine ContainsI_S v _ (intsV L) (natP fun p => !namedN p) h ?_
  rw [C_f rfl]
  refine IndexI_S v (intsV L) n0 h 86 [] _ _ ft86 rfl _ hv (by simp [intsV]; omega) (fun x hx => ?_)
  simp only [intsV, List.mem_map] at hx
  obtain ⟨n, _, rfl⟩ := hx
  exact s_Snd1 e (by omega) n h
theorem s_Cont2 (d : Nat) (hd : 5 ≤ d) (v : Value) (L : List Nat) (n0 : Nat) (h : AH) (hv : Row n0 h v (intsV L) 3) (hl : L.length < 100) : C d 75 [v, .func (.func 88) #[] #[]] h = some (.bool (L.any fun p => !decide (p = 0)), h) := by
  obtain ⟨e, rfl, he⟩ := at1 hd
  obtain ⟨e, rfl, he⟩ := at1 he
  rw [C_f rfl, ← any_natP]
  refine ContainsI_S v _ (intsV L) (natP fun p => !decide (p = 0)) h ?_
  rw [C_f rfl]
  refine IndexI_S v (intsV L) n0 h 88 [] _ _ ft88 rfl _ hv (by simp [intsV]; omega) (fun x hx => ?_)
  simp only [intsV, List.mem_map] at hx
  obtain ⟨n, _, rfl⟩ := hx
  exact s_Snd2 e (by omega) n h
theorem s_pointers (d : Nat) (hd : 1 ≤ d) (n : NV) (w : Value) (h : AH) : ∃ v' h', C d 51 [nodeV n w] h = some (v', h') ∧ Own h.next h' v' (intsV (ptrs n)) 3 ∧ Grow h.next h h' := by
  obtain ⟨e, rfl, he⟩ := at1 hd
  rw [C_f rfl]; exact pointers_S n w h
theorem s_all (d : Nat) (hd : 1 ≤ d) (n : NV) (w : Value) (h : AH) : ∃ v' h', C d 64 [nodeV n w] h = some (v', h') ∧ Own h.next h' v' (intsV (ptrs n)) 3 ∧ Grow h.next h h' := by
  obtain ⟨e, rfl, he⟩ := at1 hd
  rw [C_f rfl]; exact all_S n w h
theorem s_rExtents (d : Nat) (hd : 4 ≤ d) (v : Value) (xs : List XV) (n0 : Nat) (h : AH) (hn : n0 ≤ h.next) (hx : ∀ x ∈ xs, okX x) (hL : xs.length ≤ 96) (hv : RowE n0 h v xs) : ∃ h', C d 96 [v] h = some (.bool (extG 0 (-1) [] xs), h') ∧ Grow h.next h h' := by
  obtain ⟨e, rfl, he⟩ := at1 hd
  rw [C_f rfl]; exact rExtents_S (s_rParts e he) v xs n0 h hn hx hL hv
theorem s_Snd (d : Nat) (hd : 10 ≤ d) (n : NV) (v : Value) (xs : List XV) (n0 : Nat) (h : AH) (hv : RowE n0 h v xs) (hx : ∀ x ∈ xs, okX x) (hL : xs.length ≤ 96) (hn : n0 ≤ h.next) : ∃ h', C d 49 [nodeV n v] h = some (.bool (soundN n xs), h') ∧ Grow h.next h h' := by
  obtain ⟨e, rfl, he⟩ := at1 hd
  rw [C_f rfl]
  refine Snd_S (fun n v xs n0 h hv hx hL hn => ?_) (s_pointers e (by omega)) (s_Cont1 e (by omega)) (s_Cont2 e (by omega)) (s_named e (by omega)) (s_Extents e he) n v xs n0 h hv hx hL hn
  exact s_Same e (by omega) n NV.zero v nilV xs [] n0 h hv (RowE.nil _ _) hx (by simp) hL hn
theorem s_rSnd (d : Nat) (hd : 5 ≤ d) (n : NV) (v : Value) (xs : List XV) (n0 : Nat) (h : AH) (hv : RowE n0 h v xs) (hx : ∀ x ∈ xs, okX x) (hL : xs.length ≤ 96) (hn : n0 ≤ h.next) : ∃ h', C d 62 [nodeV n v] h = some (.bool (soundN n xs), h') ∧ Grow h.next h h' := by
  obtain ⟨e, rfl, he⟩ := at1 hd
  rw [C_f rfl]
  refine rSnd_S (fun n v xs n0 h hv hx hL hn => ?_) (s_all e (by omega)) (s_rData e (by omega)) (s_rExtents e he) n v xs n0 h hv hx hL hn
  exact s_rSame e (by omega) n NV.zero v nilV xs [] n0 h hv (RowE.nil _ _) hx (by simp) hL hn
theorem eqL_refl (xs : List XV) : eqL xs xs = true := by
  induction xs with
  | nil => rfl
  | cons x xs ih => rw [eqL, ih]; simp [eqE]
theorem sameN_refl (n : NV) : sameN n n = true := by unfold sameN eqA; simp
theorem s_EncM (d : Nat) (hd : 11 ≤ d) : EncC (C d) 27 := by
  intro n h hs hok
  obtain ⟨e, rfl, he⟩ := at1 hd
  rw [C_f rfl]
  obtain ⟨r, h', e1, e2, e3⟩ := Enc_S (s_PutExt e (by omega)) (s_pointers e (by omega)) (s_Snd e he) (s_Sum e (by omega)) (s_Put32 e (by omega)) n nilV [] h.next h (RowE.nil _ _) (by simp) (by simp) (Nat.le_refl _)
  rcases e3 with ⟨q, _⟩ | ⟨_, v', rfl, q⟩
  · rw [hs] at q; cases q
  · exact ⟨v', h', e1, q, e2⟩
theorem s_rEncM (d : Nat) (hd : 6 ≤ d) : EncC (C d) 34 := by
  intro n h hs hok
  obtain ⟨e, rfl, he⟩ := at1 hd
  rw [C_f rfl]
  obtain ⟨r, h', e1, e2, e3⟩ := rEnc_S (s_rPut e (by omega)) (s_rPutExt e (by omega)) (s_all e (by omega)) (s_rSnd e he) (s_rSum e (by omega)) n hok nilV [] h.next h (RowE.nil _ _) (by simp) (by simp) (Nat.le_refl _)
  rcases e3 with ⟨q, _⟩ | ⟨_, v', rfl, q⟩
  · rw [hs] at q; cases q
  · exact ⟨v', h', e1, q, e2⟩
theorem s_BEq (d : Nat) (hd : 1 ≤ d) : BEqC (C d) := by
  intro l m v w n0 n1 h hl hm hv hw
  obtain ⟨e, rfl, he⟩ := at1 hd
  rw [C_f rfl]; exact BEqual_S l m hl hm v w n0 n1 h hv hw
/- Pages. -/
theorem s_BClone (d : Nat) (hd : 1 ≤ d) : BCloneC (C d) := by
  intro p v bs h ho hp h0 hl
  obtain ⟨e, rfl, he⟩ := at1 hd
  rw [C_f rfl]; exact BCloneV_S p v bs h ho hp h0 hl
theorem s_putV (d : Nat) (hd : 1 ≤ d) : PutVC (C d) := by
  intro n p o l cap bs h hl hol hb
  obtain ⟨e, rfl, he⟩ := at1 hd
  rw [C_f rfl]; exact putV_S n p o l cap bs hl hol h hb
theorem s_putI (d : Nat) (hd : 1 ≤ d) : PutIC (C d) := by
  intro P n p o l cap h hl hst hb
  obtain ⟨e, rfl, he⟩ := at1 hd
  rw [C_f rfl]; exact putI_S P n p o l cap hl hst h hb
theorem s_NewPage (d : Nat) (hd : 1 ≤ d) : NewPageC (C d) := by
  intro nm h hn h0 h256
  obtain ⟨e, rfl, he⟩ := at1 hd
  rw [C_f rfl]; exact NewPageV_S nm h hn h0 h256
theorem s_SetV (d : Nat) (hd : 2 ≤ d) : SetVC (C d) := by
  intro b p at_ size lb ns bs h hbp hs ha hn hL hpg hr hlb
  obtain ⟨e, rfl, he⟩ := at1 hd
  rw [C_f rfl]; exact SetV_S (s_putV e he) b p at_ size lb ns bs h hbp hs ha hn hL hpg hr hlb
theorem s_SumC (d : Nat) (hd : 5 ≤ d) : SumC (C d) 53 := fun bs v h hb hl hr => s_Sum d hd bs v h hb hl hr
theorem s_rSumC (d : Nat) (hd : 2 ≤ d) : SumC (C d) 61 := fun bs v h hb hl hr => s_rSum d hd bs v h hb hl hr
theorem s_FSeal (d : Nat) (hd : 6 ≤ d) (p : Nat) (bs : List Nat) (h : AH) (hl : bs.length = 64) (hb : ∀ x ∈ bs, x < 256) (ho : BlkV h p bs) (hp : p < h.next) :
    ∃ v' p' h', C d 46 [.slice (some ⟨p, 0, none⟩) 64 64] h = some (.tuple #[v', iv 0], h') ∧ h.next ≤ p' ∧ p' < h'.next ∧ OwnB p' h' v' (sealB bs) ∧ Grow h.next h h' := by
  obtain ⟨e, rfl, he⟩ := at1 hd
  rw [C_f rfl]; exact SealV_S (s_BClone e (by omega)) (s_SumC e he) (s_putI e (by omega)) p bs h hl hb ho hp
theorem s_PSeal (d : Nat) (hd : 7 ≤ d) : PSealC (C d) := by
  intro b p bs h hpg hp
  obtain ⟨e, rfl, he⟩ := at1 hd
  rw [C_f rfl]; exact PSealV_S (s_FSeal e he) b p bs h hpg hp
theorem s_in (d : Nat) (hd : 1 ≤ d) : InC (C d) 20 := by
  intro a lo hi h h1 h2
  obtain ⟨e, rfl, he⟩ := at1 hd
  rw [C_f rfl]; exact in_S a lo hi h h1 h2
theorem s_rin (d : Nat) (hd : 1 ≤ d) : InC (C d) 56 := by
  intro a lo hi h h1 h2
  obtain ⟨e, rfl, he⟩ := at1 hd
  rw [C_f rfl]; exact rin_S a lo hi h h1 h2
theorem s_sound (d : Nat) (hd : 2 ≤ d) (b f : Nat) (h : AH) (h1 : 64 ≤ b) (h2 : b ≤ 480) (h3 : 1 ≤ f) (h4 : f ≤ 2) : ∃ h', C d 48 [supV b f] h = some (.bool true, h') ∧ Grow h.next h h' := by
  obtain ⟨e, rfl, he⟩ := at1 hd
  rw [C_f rfl]; exact SupSound_S (s_in e he) b f h h1 h2 h3 h4
theorem s_PutHead (d : Nat) (hd : 8 ≤ d) : PutHC (C d) := by
  intro h
  obtain ⟨e, rfl, he⟩ := at1 hd
  rw [C_f rfl]; exact PutHead_S (s_in e (by omega)) (s_NewPage e (by omega)) (s_SetV e (by omega)) (s_PSeal e he) h
theorem s_SEnc (d : Nat) (hd : 8 ≤ d) : SEncC (C d) := by
  intro B f h h1 h2 h3 h4
  obtain ⟨e, rfl, he⟩ := at1 hd
  rw [C_f rfl]; exact SEnc_S (s_sound e (by omega)) (s_NewPage e (by omega)) (s_SetV e (by omega)) (s_PSeal e he) B f h h1 h2 h3 h4
/- The document. -/
theorem s_rPutC (d : Nat) (hd : 1 ≤ d) : RPutC (C d) := fun n size n0 bs v h h1 h2 h3 h4 h5 => s_rPut d hd n size n0 bs v h h1 h2 h3 h4 h5
theorem s_rSeal (d : Nat) (hd : 3 ≤ d) : RSealC (C d) := by
  intro n0 bs v h hl h0 hb ho
  obtain ⟨e, rfl, he⟩ := at1 hd
  rw [C_f rfl]; exact rSeal_S (s_rPutC e (by omega)) (s_rSumC e he) n0 bs v h hl h0 hb ho
theorem s_rPutHead (d : Nat) (hd : 4 ≤ d) : RPHC (C d) := by
  intro h
  obtain ⟨e, rfl, he⟩ := at1 hd
  rw [C_f rfl]; exact rPutHead_S (s_rin e (by omega)) (s_rPutC e (by omega)) (s_rSeal e he) h
theorem s_rSEnc (d : Nat) (hd : 4 ≤ d) : RSEC (C d) := by
  intro B f h h1 h2 h3 h4
  obtain ⟨e, rfl, he⟩ := at1 hd
  rw [C_f rfl]; exact rSEnc_S (s_rin e (by omega)) (s_rPutC e (by omega)) (s_rSeal e he) B f h h1 h2 h3 h4
/- Flags. -/
theorem s_New (d : Nat) (hd : 1 ≤ d) : NewC (C d) := by
  intro h
  obtain ⟨e, rfl, he⟩ := at1 hd
  rw [C_f rfl]; exact New_S h
theorem s_Mark (d : Nat) (hd : 6 ≤ d) : MarkC (C d) 9 := by
  intro p b v h ho hp hb hb2
  obtain ⟨e, rfl, he⟩ := at1 hd
  rw [C_f rfl]; exact Mark_S (s_BClone e (by omega)) (s_Parts e he) p b v h ho hp hb hb2
theorem s_pow (d : Nat) (hd : 1 ≤ d) : PowC (C d) := by
  intro n h hn
  obtain ⟨e, rfl, he⟩ := at1 hd
  rw [C_f rfl]; exact rpower_S n hn h
theorem s_rBlocks (d : Nat) (hd : 4 ≤ d) (b : Nat) (h : AH) (hb : BoxL h b 47 [cx ((0 : Nat) : Int) ((59 : Nat) : Int)]) (hb2 : b < h.next) :
    ∃ v' h', C d 58 [.slice (some ⟨b, 0, none⟩) 1 1] h = some (.tuple #[v', .bool true], h') ∧ Own h.next h' v' (boolsV (ltF 59) 0 480) 4 ∧ Grow h.next h h' := by
  obtain ⟨e, rfl, he⟩ := at1 hd
  rw [C_f rfl]; exact rBlocks_S (fun x y h hx hy => s_rParts e he x y h hx hy) b h hb hb2
theorem s_Up (d : Nat) (hd : 2 ≤ d) (bs : List Nat) (m : Value) (h : AH) (hbs : ∀ x ∈ bs, x < 256) (hl : bs.length = 60) (hm : Row h.next h m (bytesV bs) 5) : ∃ v h', C d 59 [m] h = some (v, h') ∧ Own h.next h' v (boolsV (bitB bs) 0 480) 4 ∧ Grow h.next h h' := by
  obtain ⟨e, rfl, he⟩ := at1 hd
  rw [C_f rfl]; exact Up_S bs hbs hl m h hm (s_pow e he)
theorem s_Map (d : Nat) (hd : 2 ≤ d) (r : Value) (h : AH) (hr : Row h.next h r (boolsV (ltF 59) 0 480) 4) : ∃ v' p' h', C d 60 [r] h = some (v', h') ∧ h.next ≤ p' ∧ p' < h'.next ∧ OwnB p' h' v' (markL 59) ∧ Grow h.next h h' := by
  obtain ⟨e, rfl, he⟩ := at1 hd
  rw [C_f rfl]; exact rMap_S (s_pow e he) r h hr
theorem s_rMark (d : Nat) (hd : 5 ≤ d) : MarkC (C d) 31 := by
  intro p b v h ho hp hb hb2
  obtain ⟨e, rfl, he⟩ := at1 hd
  rw [C_f rfl]; exact rMark_S (s_rBlocks e he) (s_Up e (by omega)) (s_Map e (by omega)) p b v h ho hp hb hb2
theorem s_rRun (d : Nat) (hd : 1 ≤ d) (h : AH) : C d 32 [iv 0, iv 59] h = some (cx ((0 : Nat) : Int) ((59 : Nat) : Int), h) := by
  obtain ⟨e, rfl, he⟩ := at1 hd
  rw [C_f rfl, rRun_S 0 59 (by decide) (by decide) h]; rfl
theorem s_up (d : Nat) (hd : 1 ≤ d) (bs : List Nat) (hbs : ∀ x ∈ bs, x < 256) (m : Value) (k n : Nat) (h : AH) (hm : Row k h m (bytesV bs) 5) (hn : n / 8 < bs.length) (hn2 : n < 9000) : C d 42 [m, iv n] h = some (.bool (bitB bs n), h) := by
  obtain ⟨e, rfl, he⟩ := at1 hd
  rw [C_f rfl]; exact up_S bs hbs m k n h hm hn hn2
/- The image. -/
theorem s_must (d : Nat) (hd : 1 ≤ d) : MustC (C d) := by
  intro v h
  obtain ⟨e, rfl, he⟩ := at1 hd
  rw [C_f rfl]; exact must_S v h
theorem s_putIm (d : Nat) (hd : 2 ≤ d) : PutIm (C d) := by
  intro pI n i L vb vd bs bss h hI hpI h7 hb hi hbd hn
  obtain ⟨e, rfl, he⟩ := at1 hd
  rw [C_f rfl]; exact put_S' (s_BClone e he) (s_BEq e he) pI n i L vb vd bs bss h hI hpI h7 hb hi hbd hn
theorem s_Write (d : Nat) (hd : 12 ≤ d) : WriteC (C d) := by
  intro pI pn n B f vf vb ws bss h k1 k2 hf1 hf2 hI hpI hNs hpn hF hb hl hn
  obtain ⟨e, rfl, he⟩ := at1 hd
  rw [C_f rfl]; exact Write_S (s_SEnc e (by omega)) (s_NewPage e (by omega)) (s_PSeal e (by omega)) (s_EncM e he) (s_must e (by omega)) (s_putIm e (by omega)) pI pn n B f k1 k2 hf1 hf2 vf vb ws bss h hI hpI hNs hpn hF hb hl hn
theorem s_CloneN (d : Nat) (hd : 1 ≤ d) : CloNC (C d) := by
  intro pn a h hb hp
  obtain ⟨e, rfl, he⟩ := at1 hd
  rw [C_f rfl]; exact CloneN_S pn a h hb hp
theorem s_CloneBB (d : Nat) (hd : 1 ≤ d) : CloBC (C d) := by
  intro n v bss h hb h0 hl
  obtain ⟨e, rfl, he⟩ := at1 hd
  rw [C_f rfl]; exact CloneBB_S n v bss h hb h0 hl
theorem s_Copy (d : Nat) (hd : 2 ≤ d) : CopyC (C d) := by
  intro pn n B f vf vb fb bss h hNs hpn hF hb h0 hl
  obtain ⟨e, rfl, he⟩ := at1 hd
  rw [C_f rfl]; exact Copy_S (s_BClone e he) (s_CloneN e he) (s_CloneBB e he) pn n B f vf vb fb bss h hNs hpn hF hb h0 hl
theorem s_Settle (d : Nat) (hd : 3 ≤ d) : SettleC (C d) := by
  intro pI pn n B f vf vb fb ws bss h hw hI hpI hnI hNs hpn hF hb h0 hl
  obtain ⟨e, rfl, he⟩ := at1 hd
  rw [C_f rfl]; exact Settle_S (s_Copy e he) pI pn n B f vf vb fb ws hw bss h hI hpI hnI hNs hpn hF hb h0 hl
theorem s_Make (d : Nat) (hd : 13 ≤ d) (B f : Nat) (k1 : 64 ≤ B) (k2 : B ≤ 480) (hf1 : 1 ≤ f) (hf2 : f ≤ 2) (h : AH) :
    ∃ pI h', C d 4 [iv B, iv f] h = some (.tuple #[pv pI 0, iv 0], h') ∧ ImgOK h.next h' pI B f (madeL B f) ∧ Grow h.next h h' := by
  obtain ⟨e, rfl, he⟩ := at1 hd
  rw [C_f rfl]; exact Make_S (s_New e (by omega)) (s_Mark e (by omega)) (s_PutHead e (by omega)) (s_Write e he) (s_Settle e (by omega)) B f k1 k2 hf1 hf2 h
theorem s_MakeBad (d : Nat) (hd : 1 ≤ d) (B f : Int) (h : AH) (hb : okMake B f = false) : C d 4 [iv B, iv f] h = some (.tuple #[.pointer none, iv 1], h) := by
  obtain ⟨e, rfl, he⟩ := at1 hd
  rw [C_f rfl]; exact Make_bad B f h hb
theorem s_Empty (d : Nat) (hd : 7 ≤ d) (B f : Nat) (k1 : 64 ≤ B) (k2 : B ≤ 480) (hf1 : 1 ≤ f) (hf2 : f ≤ 2) (h : AH) :
    ∃ v' h', C d 14 [iv B, iv f] h = some (v', h') ∧ BL h.next h' v' (madeL B f) ∧ Grow h.next h h' := by
  obtain ⟨e, rfl, he⟩ := at1 hd
  rw [C_f rfl]; exact Empty_S (s_rSEnc e (by omega)) (s_rPutHead e (by omega)) (s_rRun e (by omega)) (s_rMark e (by omega)) (s_rSeal e (by omega)) (s_rEncM e he) B f k1 k2 hf1 hf2 h
end
end Go.Proofs.YtonfgflgnnkniaaGreat.Abs
namespace Go.Proofs.YtonfgflgnnkniaaGreat.Abs
open Go Go.Proofs
noncomputable section
variable {call : Abs.Callee}
set_option maxRecDepth 10000
theorem ft3 : T0.ft.get 3 = some Tryz.f3 := by kernel_rfl
theorem ft5 : T0.ft.get 5 = some Tryz.f5 := by kernel_rfl
theorem s_get (d : Nat) (hd : 1 ≤ d) (x y : Nat) (v : Value) (n0 : Nat) (h : AH) (hx : x < 256) (hy : y < 256) (hv : Row n0 h v (bytesV [x, y]) 5) : C d 99 [v] h = some (iv (num2 x y), h) := by
  obtain ⟨e, rfl, he⟩ := at1 hd
  rw [C_f rfl]; exact get_S x y hx hy v n0 h hv
theorem s_Num (d : Nat) (hd : 2 ≤ d) : NumC (C d) 98 := by
  intro bs i v n0 h hbs hi hl hv
  obtain ⟨e, rfl, he⟩ := at1 hd
  rw [C_f rfl]; exact Num_S (s_get e he) bs hbs i hi hl v n0 h hv
theorem s_Nums (d : Nat) (hd : 3 ≤ d) : NumsC (C d) := by
  intro bs v a cnt n0 h hbs hl hal hn hv
  obtain ⟨e, rfl, he⟩ := at1 hd
  rw [C_f rfl]; exact Nums_S (s_Num e he) bs hbs hl v a cnt n0 hal h hn hv
theorem s_GetExt (d : Nat) (hd : 1 ≤ d) : GetC (C d) := by
  intro bs v n0 h hbs hl hv hn
  obtain ⟨e, rfl, he⟩ := at1 hd
  rw [C_f rfl]; exact GetExt_S bs hbs hl v n0 h hv hn
theorem s_Enc (d : Nat) (hd : 11 ≤ d) : DEncC (C d) 27 := by
  intro n v xs n0 h _ hv hx hL hn
  obtain ⟨e, rfl, he⟩ := at1 hd
  rw [C_f rfl]; exact Enc_S (s_PutExt e (by omega)) (s_pointers e (by omega)) (s_Snd e he) (s_Sum e (by omega)) (s_Put32 e (by omega)) n v xs n0 h hv hx (by omega) hn
theorem s_Nd (d : Nat) (hd : 12 ≤ d) : NdC (C d) := by
  intro f i v h h1 h2 hv
  obtain ⟨e, rfl, he⟩ := at1 hd
  obtain ⟨q1, q2, q3⟩ := dec_at f i h1 h2
  obtain ⟨r, h', e1, e2, e3⟩ := Dec_S (call := C e) (s_Num e (by omega)) (s_GetExt e (by omega)) (s_Nums e (by omega)) (s_Enc e he) (s_BEq e (by omega)) (encN (nodeAt (rootN f) i) []) (encN_lt _) (encN_len _) v h.next h (Nat.le_refl _) hv
  rcases e3 with ⟨q, _⟩ | ⟨_, w, rfl, _, hw⟩
  · rw [q1] at q; cases q
  · rw [hw q2, q3] at e1
    exact ⟨h', by rw [C_f rfl]; exact e1, e2⟩
theorem s_getG (d : Nat) (hd : 1 ≤ d) : GetGC (C d) := by
  intro bs v h hbs hl hv
  obtain ⟨e, rfl, he⟩ := at1 hd
  rw [C_f rfl]; exact getG_S bs hbs hl v h hv
theorem s_NumG (d : Nat) (hd : 2 ≤ d) : NumGC (C d) := by
  intro bs i s v h hbs hs hs4 hi hl hv
  obtain ⟨e, rfl, he⟩ := at1 hd
  rw [C_f rfl]; exact NumG_S (s_getG e he) bs hbs i s hs hs4 hi hl v h hv
theorem s_Sealed (d : Nat) (hd : 6 ≤ d) : SealedC (C d) := by
  intro bs v h hl hbs hv
  obtain ⟨e, rfl, he⟩ := at1 hd
  rw [C_f rfl]; exact Sealed_S (s_getG e (by omega)) (s_SumC e he) bs hl hbs v h hv
theorem s_SDec (d : Nat) (hd : 9 ≤ d) : SDecC (C d) := by
  intro B f v h k1 k2 h1 h2 hv
  obtain ⟨e, rfl, he⟩ := at1 hd
  rw [C_f rfl]; exact SDec_S (s_Sealed e (by omega)) (s_NumG e (by omega)) (s_SEnc e he) (s_BEq e (by omega)) B f k1 k2 h1 h2 v h hv
theorem s_GHead (d : Nat) (hd : 9 ≤ d) : GHeadC (C d) := by
  intro v h hv
  obtain ⟨e, rfl, he⟩ := at1 hd
  rw [C_f rfl]; exact GetHead_S (s_Sealed e (by omega)) (s_NumG e (by omega)) (s_PutHead e he) (s_BEq e (by omega)) v h hv
theorem s_Open1 (d : Nat) (hd : 1 ≤ d) : Open1C (C d) := by
  intro v bs h hv hl
  obtain ⟨e, rfl, he⟩ := at1 hd
  rw [C_f rfl]; exact Open1_S v bs h hv hl
theorem s_ContB (d : Nat) (hd : 3 ≤ d) : ContBC (C d) := by
  intro v bss h hv hl h64
  obtain ⟨e, rfl, he⟩ := at1 hd
  rw [C_f rfl]
  refine ContB_S (fun v bss h hv hl h64 => ?_) v bss h hv hl h64
  obtain ⟨e, rfl, he⟩ := at1 (k := 1) (by omega : 2 ≤ e)
  rw [C_f rfl]; exact IdxB_S (s_Open1 e (by omega)) v bss h hv hl h64
theorem s_WClone (d : Nat) (hd : 1 ≤ d) : WCloneC (C d) := by
  intro v bs h hv h0 hl hb
  obtain ⟨e, rfl, he⟩ := at1 hd
  rw [C_f rfl]; exact WClone_S v bs h hv h0 hl hb
theorem s_CloN2 (d : Nat) (hd : 1 ≤ d) : CloN2C (C d) := by
  intro n k v cs h hv hk hk2 hall
  obtain ⟨e, rfl, he⟩ := at1 hd
  rw [C_f rfl]; exact CloneN2_S n k v cs h hv hk hk2 hall
theorem s_Copy2 (d : Nat) (hd : 2 ≤ d) : Copy2C (C d) := by
  intro n B f vf vn vb fb bss h hvn hNc hF hb h0 hl
  obtain ⟨e, rfl, he⟩ := at1 hd
  rw [C_f rfl]; exact Copy2_S (s_BClone e he) (s_CloN2 e he) (s_CloneBB e he) n B f vf vn vb fb bss h hvn hNc hF hb h0 hl
theorem s_Settle2 (d : Nat) (hd : 3 ≤ d) : Settle2C (C d) := by
  intro pI n B f vf vn vb fb ws bss h hw hI hpI hnI hvn hNc hF hb h0 hl
  obtain ⟨e, rfl, he⟩ := at1 hd
  rw [C_f rfl]; exact Settle2_S (s_Copy2 e he) pI n B f vf vn vb fb ws hw bss h hI hpI hnI hvn hNc hF hb h0 hl
theorem s_Open (d : Nat) (hd : 13 ≤ d) : OpenC (C d) := by
  intro B f v h k1 k2 h1 h2 hv
  obtain ⟨e, rfl, he⟩ := at1 hd
  rw [C_f rfl]; exact Open_S (s_ContB e (by omega)) (s_SDec e (by omega)) (s_GHead e (by omega)) (s_Sealed e (by omega)) (s_New e (by omega)) (s_WClone e (by omega)) (s_Nd e he) (s_Settle2 e (by omega)) B f k1 k2 h1 h2 v h hv
theorem s_IData (d : Nat) (hd : 1 ≤ d) : DataC (C d) := by
  intro pI B f bss h hI hl hl2
  obtain ⟨e, rfl, he⟩ := at1 hd
  rw [C_f rfl]; exact Data_S2 pI B f bss h hI hl hl2
theorem s_CloneI (d : Nat) (hd : 1 ≤ d) : CloneIC (C d) := by
  intro b o cap l ls n h hr hn hall hl
  obtain ⟨e, rfl, he⟩ := at1 hd
  rw [C_f rfl]; exact CloneI_S b o cap l ls n h hr hn hall hl
theorem s_Trim (d : Nat) (hd : 2 ≤ d) : TrimC (C d) := by
  intro l n v h hn hr hl
  obtain ⟨e, rfl, he⟩ := at1 hd
  rw [C_f rfl]; exact Trim_S (s_CloneI e he) l n v h hn hr hl
theorem s_Page (d : Nat) (hd : 1 ≤ d) : PageC (C d) := by
  intro r h
  obtain ⟨e, rfl, he⟩ := at1 hd
  rw [C_f rfl]; exact page0_S r h
theorem s_PtrE (d : Nat) (hd : 1 ≤ d) : PtrEC (C d) := by
  intro v h hv
  obtain ⟨e, rfl, he⟩ := at1 hd
  rw [C_f rfl]; exact PtrE_S v h hv
theorem s_Concat (d : Nat) (hd : 2 ≤ d) : ConcatC (C d) := by
  intro x y b h hb hx hy
  obtain ⟨e, rfl, he⟩ := at1 hd
  rw [C_f rfl]
  refine Concat_S (fun h => ?_) x y b h hb hx hy
  obtain ⟨e, rfl, he⟩ := at1 he
  rw [C_f rfl]; exact Grow0_S h
theorem s_Apart (d : Nat) (hd : 3 ≤ d) : ApartC (C d) := by
  intro x y h hx hy
  obtain ⟨e, rfl, he⟩ := at1 hd
  rw [C_f rfl]; exact Apart_S (s_Concat e he) x y h hx hy
theorem s_TRead (d : Nat) (hd : 4 ≤ d) : TReadC (C d) := by
  intro w h hw
  obtain ⟨e, rfl, he⟩ := at1 hd
  rw [C_f rfl]; exact TRead_S (s_CloneI e (by omega)) (s_Page e (by omega)) (s_Trim e (by omega)) (s_PtrE e (by omega)) (s_Apart e he) w h hw
theorem s_Ext0 (d : Nat) (hd : 9 ≤ d) : Ext0C (C d) := fun h => s_Extents d hd nilV [] h.next h (Nat.le_refl _) (by simp) (by simp) (RowE.nil _ _)
theorem s_CloE0 (d : Nat) (hd : 1 ≤ d) : CloE0C (C d) := by
  intro h
  obtain ⟨e, rfl, he⟩ := at1 hd
  rw [C_f rfl]; exact CloneE_S h
theorem IdxF0_S (f : Value) (h : AH) : frameB T0 X0 call 3000 115 [nilV, f] h = some (iv (-1), h) := by
  rw [frameB_eq ft115 rfl rfl]
  simp only [Tryz.f115, symM, opFn, Nat.reduceLT, Nat.reduceBEq, symM, symL, EmpI.nil.len, codeB_loop, bin_lss, show decide ((0 : Int) < 0) = false from rfl]
  exact retB_one ft115 rfl get_same
theorem s_ContI0 (d : Nat) (hd : 2 ≤ d) : ContI0C (C d) := by
  intro f h
  obtain ⟨e, rfl, he⟩ := at1 hd
  rw [C_f rfl]
  refine ContainsI_S nilV f [] (fun _ => false) h ?_
  obtain ⟨e, rfl, he⟩ := at1 he
  rw [C_f rfl]; exact IdxF0_S f h
theorem s_CRead (d : Nat) (hd : 10 ≤ d) : CReadC (C d) := by
  intro w h
  obtain ⟨e, rfl, he⟩ := at1 hd
  rw [C_f rfl]; exact CRead_S (s_CloE0 e (by omega)) (s_Ext0 e he) (s_ContI0 e (by omega)) w h
theorem s_To (d : Nat) (hd : 11 ≤ d) : ToC (C d) := by
  intro h
  obtain ⟨e, rfl, he⟩ := at1 hd
  rw [C_f rfl]
  refine To_S (fun h => ?_) (fun h => ?_) (s_Trim e (by omega)) h
  · obtain ⟨e, rfl, he⟩ := at1 he
    rw [C_f rfl]; exact ESound_S (s_Ext0 e (by omega)) h
  · obtain ⟨e, rfl, he⟩ := at1 he
    rw [C_f rfl]; exact to0_S h
theorem s_Node (d : Nat) (hd : 12 ≤ d) : NodeC (C d) := by
  intro pI B f i h k1 k2 h1 h2 hi hI
  obtain ⟨e, rfl, he⟩ := at1 hd
  rw [C_f rfl]; exact Node_S (s_IData e (by omega)) (s_TRead e (by omega)) (s_CRead e (by omega)) (s_To e he) (s_Concat e (by omega)) (s_ContI0 e (by omega)) (s_CloE0 e (by omega)) pI B f i k1 k2 h1 h2 hi h hI
theorem s_fail (d : Nat) (hd : 1 ≤ d) : FailC (C d) := by
  intro pW pI vB vU ls h hw
  obtain ⟨e, rfl, he⟩ := at1 hd
  rw [C_f rfl]; exact fail_S pW pI vB vU ls h hw
theorem s_need (d : Nat) (hd : 1 ≤ d) : NeedWC (C d) := by
  intro p v h hv
  obtain ⟨e, rfl, he⟩ := at1 hd
  rw [C_f rfl]; exact need_S p v h hv
theorem s_ContI (d : Nat) (hd : 2 ≤ d) : ContIC (C d) := by
  intro v h hv
  obtain ⟨e, rfl, he⟩ := at1 hd
  rw [C_f rfl]
  refine ContI_S (fun v h hv => ?_) v h hv
  obtain ⟨e, rfl, he⟩ := at1 he
  rw [C_f rfl]; exact IdxI0_S v h hv
theorem s_ConcatE (d : Nat) (hd : 2 ≤ d) : ConcatEC (C d) := by
  intro h
  obtain ⟨e, rfl, he⟩ := at1 hd
  rw [C_f rfl]
  refine ConcatE_S (fun h => ?_) h
  obtain ⟨e, rfl, he⟩ := at1 he
  rw [C_f rfl]; exact GrowE_S h
theorem s_dir (d : Nat) (hd : 3 ≤ d) : DirC (C d) := by
  intro pW pI f vB vU x ls h hx hp hw
  obtain ⟨e, rfl, he⟩ := at1 hd
  rw [C_f rfl]; exact dir_S (s_fail e (by omega)) (s_ContI e (by omega)) (s_ConcatE e (by omega)) pW pI f vB vU x ls h hx hp hw
theorem s_wnode (d : Nat) (hd : 13 ≤ d) : WnodeC (C d) := by
  intro pW pI B f vB vU l h k1 k2 h1 h2 hI hp hw
  obtain ⟨e, rfl, he⟩ := at1 hd
  rw [C_f rfl]; exact wnode_S (s_fail e (by omega)) (s_Node e he) (s_need e (by omega)) (s_dir e (by omega)) pW pI B f k1 k2 h1 h2 vB vU l h hI hp hw
theorem s_Super (d : Nat) (hd : 1 ≤ d) : SuperRC (C d) := by
  intro pI B f bss h hI
  obtain ⟨e, rfl, he⟩ := at1 hd
  rw [C_f rfl]; exact SuperR_S pI B f bss h hI
theorem s_formats (d : Nat) (hd : 13 ≤ d) : FormC (C d) := by
  intro pW pI B f vB vU hA h k1 k2 h1 h2 hI hAp hG hp hw
  obtain ⟨e, rfl, he⟩ := at1 hd
  rw [C_f rfl]; exact formats_S (s_fail e (by omega)) (s_Node e he) (s_Super e (by omega)) pW pI B f k1 k2 h1 h2 vB vU hA h hI hAp hG hp hw
theorem s_jobs (d : Nat) (hd : 2 ≤ d) : JobsC (C d) := by
  intro pW pI B f vB vU ls h h1 h2 hI hp hw
  obtain ⟨e, rfl, he⟩ := at1 hd
  rw [C_f rfl]; exact jobs_S (s_fail e he) (s_Super e he) pW pI B f h1 h2 vB vU ls h hI hp hw
theorem s_EqB (d : Nat) (hd : 1 ≤ d) : EqBC (C d) := by
  intro n m v w bs h hv hw hl
  obtain ⟨e, rfl, he⟩ := at1 hd
  rw [C_f rfl]; exact EqB_S n m v w bs h hv hw hl
theorem s_CUp (d : Nat) (hd : 2 ≤ d) : CUpC (C d) := by
  intro bs m k n h hbs hm hl hn
  obtain ⟨e, rfl, he⟩ := at1 hd
  rw [C_f rfl]; exact CUp_S (fun bs m k n h hbs hm hn hn2 => s_up e he bs hbs m k n h hm hn hn2) bs hbs m k n h hm hl hn
theorem s_walk (d : Nat) (hd : 14 ≤ d) : WalkC (C d) := by
  intro B f v h k1 k2 h1 h2 hv
  obtain ⟨e, rfl, he⟩ := at1 hd
  rw [C_f rfl]; exact walk_S (s_Open e he) (s_New e (by omega)) (s_Mark e (by omega)) (s_Node e (by omega)) (s_fail e (by omega)) (s_wnode e he) (s_formats e he) (s_jobs e (by omega)) (s_EqB e (by omega)) B f k1 k2 h1 h2 v h hv
theorem s_Check (d : Nat) (hd : 15 ≤ d) (B f : Nat) (k1 : 64 ≤ B) (k2 : B ≤ 480) (hf1 : 1 ≤ f) (hf2 : f ≤ 2) (v : Value) (h : AH) (hv : WB h v (madeL B f)) :
    ∃ h', C d 6 [v] h = some (.tuple #[iv f, iv 0], h') ∧ Grow h.next h h' := by
  obtain ⟨e, rfl, he⟩ := at1 hd
  rw [C_f rfl]; exact Check_S (s_walk e he) (s_Super e (by omega)) B f k1 k2 hf1 hf2 v h hv
theorem s_Used (d : Nat) (hd : 15 ≤ d) (B f : Nat) (k1 : 64 ≤ B) (k2 : B ≤ 480) (hf1 : 1 ≤ f) (hf2 : f ≤ 2) (v : Value) (h : AH) (hv : WB h v (madeL B f)) :
    ∃ w h', C d 8 [v] h = some (.tuple #[w, iv 0], h') ∧ Own h.next h' w (intsV (List.range 59)) 3 ∧ Grow h.next h h' := by
  obtain ⟨e, rfl, he⟩ := at1 hd
  rw [C_f rfl]; exact Used_S (s_walk e he) (s_CUp e (by omega)) B f k1 k2 hf1 hf2 v h hv
/- The law. -/
theorem s_awake (d : Nat) (hd : 16 ≤ d) (h : AH) : ∃ h', C d 5 [] h = some (.bool true, h') ∧ Grow h.next h h' := by
  obtain ⟨e, rfl, he⟩ := at1 hd
  obtain ⟨v1, h1, a1, a2, a3⟩ := s_Empty e (by omega) 70 2 (by decide) (by decide) (by decide) (by decide) h
  obtain ⟨h2, b1, b2⟩ := s_Check e he 70 2 (by decide) (by decide) (by decide) (by decide) v1 h1 a2.wb
  obtain ⟨v3, h3, c1, c2, c3⟩ := s_Empty e (by omega) 70 1 (by decide) (by decide) (by decide) (by decide) h2
  obtain ⟨w, h4, d1, d2, d3⟩ := s_Used e he 70 1 (by decide) (by decide) (by decide) (by decide) v3 h3 c2.wb
  have a1 : C e 14 [iv 70, iv 2] h = some (v1, h1) := a1
  have b1 : C e 6 [v1] h1 = some (.tuple #[iv 2, iv 0], h2) := b1
  have c1 : C e 14 [iv 70, iv 1] h2 = some (v3, h3) := c1
  have hlen : ∀ ty h', evBuiltin T0 .len #[32] ty [w] h' = some (.value (iv 59), h') := fun ty h' => by rw [d2.row.len und_ints, intsV_len, List.length_range]; rfl
  refine ⟨h4, ?_, ((a3.trans b2 a3.next).trans c3 (Nat.le_trans a3.next b2.next)).trans d3 (Nat.le_trans (Nat.le_trans a3.next b2.next) c3.next)⟩
  rw [C_f rfl, frameB_eq ft5 rfl rfl]
  simp only [Tryz.f5, symM, opFn, Nat.reduceLT, Nat.reduceBEq, symM, evCall_fn ft14 rfl, a1, c1, evCall_fn ft6 rfl, b1, evCall_fn ft8 rfl, d1, bin_eql, show ((0 : Int) == 0) = true from rfl, show ((2 : Int) == 2) = true from rfl, hlen, show ((59 : Int) == 59) = true from rfl]
  exact retB_one ft5 rfl get_same
theorem s_Blocks (d : Nat) (hd : 2 ≤ d) (n pI B f : Nat) (k1 : 64 ≤ B) (k2 : B ≤ 480) (h : AH) (hI : ImgOK n h pI B f (madeL B f)) :
    ∃ v' h', C d 7 [pv pI 0] h = some (v', h') ∧ BL h.next h' v' (madeL B f) ∧ Grow h.next h h' := by
  obtain ⟨e, rfl, he⟩ := at1 hd
  rw [C_f rfl]; exact Blocks_S (s_BClone e (by omega)) n pI B f _ h hI (by rw [madeL_len]; omega)
theorem ImgOK.grow {n pI B f : Nat} {h h' : AH} {bss : List (List Nat)} (hI : ImgOK n h pI B f bss) (g : Grow h.next h h') : ImgOK n h' pI B f bss := by
  obtain ⟨hp, vf, vn, vb, vf', vn', vb', i1, i2, i3, i4⟩ := hI
  exact ⟨Nat.lt_of_lt_of_le hp g.next, vf, vn, vb, vf', vn', vb', i1.grow g hp, i2.grow g, i3.grow g, i4.grow g⟩
theorem und_u16 : und T0 22 = some (.int .u16) := by kernel_rfl
theorem law_S (s : Nat) (hs : s < 65536) (b : Bool) (h : AH) : ∃ h', C 20 3 [.int .u16 (s : Int), .bool b] h = some (.bool true, h') := by
  have k1 : 64 ≤ s % 417 + 64 := by omega
  have k2 : s % 417 + 64 ≤ 480 := by have := Nat.mod_lt s (show 0 < 417 by decide); omega
  generalize hB : s % 417 + 64 = B at k1 k2
  obtain ⟨f, hf1, hf2, hf⟩ : ∃ f : Nat, 1 ≤ f ∧ f ≤ 2 ∧ f = if b then 2 else 1 := by cases b <;> exact ⟨_, by decide, by decide, rfl⟩
  obtain ⟨pI, h1, a1, a2, a3⟩ := s_Make 19 (by omega) B f k1 k2 hf1 hf2 h
  obtain ⟨h2, b1, b2⟩ := s_awake 19 (by omega) h1
  have I2 := a2.grow b2
  obtain ⟨v3, h3, c1, c2, c3⟩ := s_Blocks 19 (by omega) _ pI B f k1 k2 h2 I2
  obtain ⟨h4, d1, d2⟩ := s_Check 19 (by omega) B f k1 k2 hf1 hf2 v3 h3 c2.wb
  have I4 := (I2.grow c3).grow d2
  obtain ⟨v5, h5, e1, e2, e3⟩ := s_Blocks 19 (by omega) _ pI B f k1 k2 h4 I4
  obtain ⟨w, h6, f1, f2, f3⟩ := s_Used 19 (by omega) B f k1 k2 hf1 hf2 v5 h5 e2.wb
  have hlen : ∀ ty h', evBuiltin T0 .len #[32] ty [w] h' = some (.value (iv 59), h') := fun ty h' => by rw [f2.row.len und_ints, intsV_len, List.length_range]; rfl
  obtain ⟨p, i1, i2⟩ := f2.row.at und_ints sz_int agg_int (i := 58) (x := iv 58) rfl
  have i1 : evIndexAddr T0 32 w (iv 58) = some p := i1
  have rm : ∀ p q h, evBin T0 .rem 22 p q (.int .u16 (s : Int)) (.int .u16 417) h = some (.int .u16 ((s % 417 : Nat) : Int)) := fun p q h => bin_rem (n := 417) (by decide)
  have hm := Nat.mod_lt s (show 0 < 417 by decide)
  have w1 : IntKind.i64.wrap ((s % 417 : Nat) : Int) = ((s % 417 : Nat) : Int) := wz (by omega)
  have w2 : IntKind.i64.wrap (((s % 417 : Nat) : Int) + 64) = (B : Int) := by rw [wz (by omega)]; omega
  refine ⟨h6, ?_⟩
  rw [C_f rfl, frameB_eq ft3 rfl rfl]
  cases b with
  | true =>
    have hf : f = 2 := hf
    subst hf
    have a1 : C 19 4 [iv B, iv 2] h = some (.tuple #[pv pI 0, iv 0], h1) := a1
    have d1 : C 19 6 [v3] h3 = some (.tuple #[iv 2, iv 0], h4) := d1
    simp only [Tryz.f3, symM, opFn, Nat.reduceLT, Nat.reduceBEq, symM, rm, conv_i2i und_u16 und_int, w1, bin_add, w2, evCall_fn ft4 rfl, a1, evCall_fn ft5 rfl, b1, bin_neq, show ((0 : Int) == 0) = true from rfl, ptr_eql, evCall_fn ft7 rfl, c1, evCall_fn ft6 rfl, d1, e1, evCall_fn ft8 rfl, f1, bin_eql, show ((2 : Int) == 2) = true from rfl, hlen, show ((59 : Int) == 59) = true from rfl, i1, i2, show ((58 : Int) == 58) = true from rfl]
    exact retB_one ft3 rfl get_same
  | false =>
    have hf : f = 1 := hf
    subst hf
    have a1 : C 19 4 [iv B, iv 1] h = some (.tuple #[pv pI 0, iv 0], h1) := a1
    have d1 : C 19 6 [v3] h3 = some (.tuple #[iv 1, iv 0], h4) := d1
    simp only [Tryz.f3, symM, opFn, Nat.reduceLT, Nat.reduceBEq, symM, rm, conv_i2i und_u16 und_int, w1, bin_add, w2, evCall_fn ft4 rfl, a1, evCall_fn ft5 rfl, b1, bin_neq, show ((0 : Int) == 0) = true from rfl, ptr_eql, evCall_fn ft7 rfl, c1, evCall_fn ft6 rfl, d1, e1, evCall_fn ft8 rfl, f1, bin_eql, show ((1 : Int) == 1) = true from rfl, hlen, show ((59 : Int) == 59) = true from rfl, i1, i2, show ((58 : Int) == 58) = true from rfl]
    exact retB_one ft3 rfl get_same
end
end Go.Proofs.YtonfgflgnnkniaaGreat.Abs
