
/- Blocks of bytes that are written field by field. -/
import Derived.Test.YtglmahefcdhmgaaFresh
import Derived.Test.YtglmahefcdhmgaaStr
namespace Go.Proofs.Ytglmahefcdhmgaa.Abs
open Go Go.Proofs
noncomputable section
variable {call : Abs.Callee}
set_option maxRecDepth 10000
theorem ft18 : T0.ft.get 18 = some Try.f18 := by kernel_rfl
theorem ft19 : T0.ft.get 19 = some Try.f19 := by kernel_rfl
theorem ft20 : T0.ft.get 20 = some Try.f20 := by kernel_rfl
theorem ft22 : T0.ft.get 22 = some Try.f22 := by kernel_rfl
theorem ft40 : T0.ft.get 40 = some Try.f40 := by kernel_rfl
theorem ft53 : T0.ft.get 53 = some Try.f53 := by kernel_rfl
/-- A block of 64 bytes. -/
def Blk (h : AH) (p : Nat) : Prop := ∃ bs : List Nat, bs.length = 64 ∧ (∀ x ∈ bs, x < 256) ∧ BoxL h p 5 (bytesV bs)
theorem Blk.grow {n : Nat} {h h' : AH} {p : Nat} (hb : Blk h p) (g : Grow n h h') (hn : p < n) : Blk h' p := by
  obtain ⟨bs, h1, h2, h3⟩ := hb
  exact ⟨bs, h1, h2, h3.grow g hn⟩
/-- What a change of one block leaves alone. -/
structure One (p : Nat) (h h' : AH) : Prop where
  next : h'.next = h.next
  keep : ∀ k, k ≠ p → h'.get k = h.get k
theorem One.refl (p : Nat) (h : AH) : One p h h := ⟨rfl, fun _ _ => rfl⟩
theorem One.trans {p : Nat} {a b c : AH} (h : One p a b) (h' : One p b c) : One p a c := ⟨h'.next.trans h.next, fun k hk => (h'.keep k hk).trans (h.keep k hk)⟩
theorem One.grow {p n : Nat} {h h' : AH} (o : One p h h') (hn : n ≤ p) : Grow n h h' := ⟨Nat.le_of_eq o.next.symm, fun k hk => o.keep k (by omega)⟩
theorem bytesV_set {bs : List Nat} {i x : Nat} (hi : i < bs.length) : (bytesV bs).take i ++ [bv x] ++ (bytesV bs).drop (i + 1) = bytesV (bs.set i x) := by
  unfold bytesV
  rw [List.set_eq_take_append_cons_drop, if_pos hi]
  simp
theorem Blk.store {h : AH} {p i x : Nat} (hb : Blk h p) (hi : i < 64) (hx : x < 256) : ∃ h', evStore T0 5 (pv p i) (bv x) h = some h' ∧ Blk h' p ∧ One p h h' := by
  obtain ⟨bs, h1, h2, h3⟩ := hb
  obtain ⟨h', s1, s2, s3, s4⟩ := h3.store (n := 0) (t := 5) (ws := [bv x]) (o := i) (v := bv x) sz_u8 rfl (by simp) rfl (by simp [bytesV]; omega) (Nat.zero_le _)
  refine ⟨h', s1, ⟨bs.set i x, by simpa using h1, ?_, by rw [← bytesV_set (by omega)]; exact s2⟩, s4, evStore_keep s1⟩
  intro y hy
  rcases List.mem_or_eq_of_mem_set hy with hy | hy
  · exact h2 y hy
  · omega
theorem putLw (n : Nat) (p o l cap : Nat) (hl : l ≤ 4) (hol : o + l ≤ 64) : ∀ (k i : Nat) (h : AH) (tm : PM Value) (N : Nat), i + k = l → k + 30 ≤ N → Blk h p →
    tm.get 0 = some (.slice (some ⟨p, o, none⟩) l cap) → tm.get 1 = some (wv n) → tm.get 6 = some (iv l) → tm.get 7 = some (iv i) →
    ∃ tm' h', codeB T0 X0 call N Eput (.loop bodyput) tm h [] = .jump (.exit 0) tm' h' [] ∧ (Blk h' p ∧ One p h h') := by
  intro k
  induction k with
  | zero =>
    intro i h tm N hi hN ho g0 g1 g6 g7
    obtain ⟨N, rfl⟩ : ∃ a, N = a + 30 := ⟨N - 30, by omega⟩
    apply Exists.intro; apply Exists.intro; apply And.intro
    · rw [codeB_loop]
      simp only [bodyput, part, Try.f39, sub, symM, opFn, Nat.reduceLT, g6, g7, bin_lss, decide_eq_false (show ¬ (i : Int) < (l : Nat) by omega)]
      rfl
    · exact ⟨ho, One.refl _ _⟩
  | succ k ih =>
    intro i h tm N hi hN ho g0 g1 g6 g7
    obtain ⟨N, rfl⟩ : ∃ a, N = a + 30 := ⟨N - 30, by omega⟩
    obtain ⟨h1, e2, e3, e4⟩ := ho.store (i := o + i * 1) (x := n / 256 ^ i % 256) (by omega) (Nat.mod_lt _ (by decide))
    have e1 : evIndexAddr T0 60 (.slice (some ⟨p, o, none⟩) l cap) (iv i) = some (pv p (o + i * 1)) := idx_slice und_bytes sz_u8 (by omega)
    obtain ⟨tm2, h2, q1, q3, q4⟩ := ih (i + 1) h1
      (((((((((((tm.set 8 (.bool true)).set 9 (iv i)).set 4 (iv i)).set 10 (.slice (some ⟨p, o, none⟩) l cap)).set 11 (iv i)).set 12 (wv n)).set 13 (iv i)).set 14 (iv (8 * i : Nat))).set 15 (wv (n / 256 ^ i : Nat))).set 16 (.int .u8 (n / 256 ^ i % 256 : Nat))).set 17 (pv p (o + i * 1)) |>.set 18 (iv ((i + 1 : Nat) : Int)) |>.set 7 (iv ((i + 1 : Nat) : Int))) (N + 29) (by omega) (by omega) e3
      (by simp only [symM, Nat.reduceBEq, g0]) (by simp only [symM, Nat.reduceBEq, g1]) (by simp only [symM, Nat.reduceBEq, g6]) get_same
    refine ⟨tm2, h2, ?_, q3, e4.trans q4⟩
    rw [show N + 30 = (N + 29) + 1 from rfl, codeB_loop, ← q1]
    have m8 : IntKind.i64.wrap (8 * (i : Int)) = ((8 * i : Nat) : Int) := by rw [wz (by omega)]; omega
    have s8 : ∀ p q h, evBin T0 .shr 85 p q (wv n) (iv (8 * i : Nat)) h = some (wv (n / 256 ^ i : Nat)) := fun p q h => by
      rw [bin_shr (show 8 * i < IntKind.u32.bits by show 8 * i < 32; omega), shr_pow]
    simp only [bodyput, part, Try.f39, sub, symM, opFn, Nat.reduceLT, Nat.reduceBEq, symM, g0, g1, g6, g7, bin_lss, decide_eq_true (show (i : Int) < (l : Nat) by omega), conv_i2i und_u32' und_u8, bin_mul, m8, s8, wu8m, e1, e2, bin_add, wadd1 (show i ≤ 400000 by omega)]
theorem putW_S (n : Nat) (p o l cap : Nat) (hl : l ≤ 4) (hol : o + l ≤ 64) (h : AH) (hb : Blk h p) :
    ∃ h', frameB T0 X0 call 3000 39 [.slice (some ⟨p, o, none⟩) l cap, wv n] h = some (.tuple #[], h') ∧ Blk h' p ∧ One p h h' := by
  rw [frameB_eq ft39 rfl rfl]
  have hlen : ∀ ty h', evBuiltin T0 .len #[60] ty [.slice (some ⟨p, o, none⟩) l cap] h' = some (.value (iv l), h') := fun ty h' => len_slice und_bytes
  simp only [Try.f39, symM, opFn, Nat.reduceLT, symL, hlen]
  generalize hX : codeB T0 X0 call _ Eput (.loop _) _ _ _ = X
  obtain ⟨t1, h1, e1, e3, e4⟩ := use_exit hX (putLw n p o l cap hl hol l 0 h _ _ (by omega) (by omega) hb (by simp only [symM, Nat.reduceBEq]) (by simp only [symM, Nat.reduceBEq]) (by simp only [symM, Nat.reduceBEq]) (by simp only [symM]; rfl))
  clear hX
  subst e1
  refine ⟨h1, ?_, e3, e4⟩
  simp only [symM, symL]
  exact retB_zero ft39 rfl
theorem cut_b {p lo hi : Nat} {h : AH} (hlo : lo < 64) (hh : lo ≤ hi) (hi64 : hi ≤ 64) : evSliceX T0 60 (.slice (some ⟨p, 0, none⟩) 64 64) (some (iv lo)) (some (iv hi)) none h = some (.slice (some ⟨p, lo, none⟩) (hi - lo) (64 - lo), h) := by
  have hbnd : boundsA 64 64 (some (iv (lo : Int))) (some (iv (hi : Int))) none = some (lo, hi, 64) := by
    simp only [boundsA, boundA, show natOf (iv (lo : Int)) = some lo from rfl, show natOf (iv (hi : Int)) = some hi from rfl, Nat.ble_eq_true_of_le hh, Nat.ble_eq_true_of_le hi64, ifB_true]
  simp only [evSliceX, evSlice, und_bytes, sz_u8, evSliceS, capOf_lt (show 64 < XB by rw [XB_val]; omega), hbnd, Nat.ble_eq_true_of_le hi64, ifB_true, ble_lt' (show 64 < XB by rw [XB_val]; omega), ifB_false, offS, show Nat.beq 64 lo = false from nbF (by simp; omega), Nat.mul_one, Nat.zero_add]
theorem cut_b1 {p lo : Nat} {h : AH} (hlo : lo < 64) : evSliceX T0 60 (.slice (some ⟨p, 0, none⟩) 64 64) (some (iv lo)) none none h = some (.slice (some ⟨p, lo, none⟩) (64 - lo) (64 - lo), h) := by
  have hbnd : boundsA 64 64 (some (iv (lo : Int))) none none = some (lo, 64, 64) := by
    simp only [boundsA, boundA, show natOf (iv (lo : Int)) = some lo from rfl, Nat.ble_eq_true_of_le (Nat.le_of_lt hlo), ifB_true]
  simp only [evSliceX, evSlice, und_bytes, sz_u8, evSliceS, capOf_lt (show 64 < XB by rw [XB_val]; omega), hbnd, Nat.ble_eq_true_of_le (Nat.le_refl 64), ifB_true, ble_lt' (show 64 < XB by rw [XB_val]; omega), ifB_false, offS, show Nat.beq 64 lo = false from nbF (by simp; omega), Nat.mul_one, Nat.zero_add]
theorem cut_b0 {p hi : Nat} {h : AH} (hi64 : hi ≤ 64) : evSliceX T0 60 (.slice (some ⟨p, 0, none⟩) 64 64) none (some (iv hi)) none h = some (.slice (some ⟨p, 0, none⟩) hi 64, h) := by
  have hbnd : boundsA 64 64 none (some (iv (hi : Int))) none = some (0, hi, 64) := by
    simp only [boundsA, boundA, show natOf (iv (hi : Int)) = some hi from rfl, Nat.ble_eq_true_of_le hi64, ifB_true]
  simp only [evSliceX, evSlice, und_bytes, sz_u8, evSliceS, capOf_lt (show 64 < XB by rw [XB_val]; omega), hbnd, Nat.ble_eq_true_of_le hi64, ifB_true, ble_lt' (show 64 < XB by rw [XB_val]; omega), ifB_false, offS]
  rfl
/-- A page. -/
def PageB (h : AH) (b p : Nat) : Prop := BoxL h b 83 [.slice (some ⟨p, 0, none⟩) 64 64] ∧ Blk h p
theorem PageB.grow {n : Nat} {h h' : AH} {b p : Nat} (hb : PageB h b p) (g : Grow n h h') (hn : b < n) (hp : p < n) : PageB h' b p := ⟨hb.1.grow g hn, hb.2.grow g hp⟩
theorem BoxL.one {h h' : AH} {b el p : Nat} {l : List Value} (hb : BoxL h b el l) (o : One p h h') (hn : b ≠ p) : BoxL h' b el l := by
  obtain ⟨c, h1, h2⟩ := hb
  exact ⟨c, (o.keep b hn).trans h1, h2⟩
theorem field_Pg {b : Nat} : evFieldAddr T0 83 (pv b 0) 0 = some (pv b 0) := by kernel_rfl
theorem agg_bytes : aggT T0 60 = some false := by kernel_rfl
theorem nil_pv {b o : Nat} : evNilCheck (pv b o) = some (pv b o) := rfl
theorem strB_nil : (.string ⟨#[]⟩ : Value) = strB [] := rfl
theorem NewPage_S (h : AH) : ∃ b p h', frameB T0 X0 call 3000 18 [.string ⟨#[]⟩] h = some (pv b 0, h') ∧ h.next ≤ b ∧ h.next ≤ p ∧ b ≠ p ∧ b < h'.next ∧ p < h'.next ∧ PageB h' b p ∧ Grow h.next h h' := by
  obtain ⟨h1, e1, e2, e3⟩ := make_bytes (h := h) (k := 64) (by omega)
  have e1 : evMakeSlice T0 60 (iv 64) (iv 64) h = _ := e1
  generalize hh2 : h1.new (.cells (PM.ofList [.slice (some ⟨h.next, 0, none⟩) 64 64]) 1 83 0 0 .ex) = h2
  have g2 : Grow h1.next h1 h2 := by rw [← hh2]; exact Grow.new _ _
  have hb2 : BoxL h2 h1.next 83 [.slice (some ⟨h.next, 0, none⟩) 64 64] := by rw [← hh2]; exact BoxL.new _ _ _
  have n2 : h2.next = h1.next + 1 := by rw [← hh2]; rfl
  have hbk : Blk h1 h.next ∧ h.next < h1.next := by
    rcases e2 with ⟨q, _⟩ | ⟨b', c, kd, cap, h3, h4, h5, h6, h7, h8⟩
    · cases q
    · cases h5
      rcases h8 with ⟨rfl, _⟩ | ⟨_, h8⟩
      · exact ⟨⟨List.replicate 64 0, by simp, by simp, c, h6, h7⟩, h4⟩
      · exfalso
        have : XB + (bytesV (List.replicate 64 0)).length = 64 := h8.symm
        rw [XB_val] at this; omega
  have hbd : evBuild T0 83 [(0, .slice (some ⟨h.next, 0, none⟩) 64 64)] h1 = some (.agg #[.slice (some ⟨h.next, 0, none⟩) 64 64], h1) := by kernel_rfl
  have hbx : ∀ h v, rp (some (evNewVar h 83 (.agg #[v]))) = some (.value (pv h.next 0), h.new (.cells (PM.ofList [v]) 1 83 0 0 .ex)) := fun h v => rfl
  have hcp : evBuiltin T0 .copy #[60, 9] 3 [.slice (some ⟨h.next, 0, none⟩) 64 64, .string ⟨#[]⟩] h2 = some (.value (iv 0), h2) := by kernel_rfl
  refine ⟨h1.next, h.next, h2, ?_, e3.next, Nat.le_refl _, by omega, by omega, by omega, ⟨hb2, hbk.1.grow g2 hbk.2⟩, e3.trans g2 e3.next⟩
  rw [frameB_eq ft18 rfl rfl]
  simp only [Try.f18, symM, opFn, Nat.reduceLT, Nat.reduceBEq, symM, nil_pv, e1, hbd, hbx, hh2, field_Pg, hb2.load agg_bytes (i := 0) rfl, hcp]
  exact retB_one ft18 rfl get_same
theorem wrap32 (n : Nat) (h : n < 4294967296) : IntKind.u32.wrap (n : Int) = (n : Int) := by
  rw [IntKind.wrap]; simp [IntKind.bits, IntKind.signed]; omega
noncomputable def bodySet : Code := part Try.f19 [1, 0, 1, 0, 0]
theorem Set_S (hP : ∀ (n p o l cap : Nat) (h : AH), l ≤ 4 → o + l ≤ 64 → Blk h p → ∃ h', call 39 [.slice (some ⟨p, o, none⟩) l cap, wv n] h = some (.tuple #[], h') ∧ Blk h' p ∧ One p h h')
    (b p at_ size n n0 : Nat) (lv : Value) (h : AH) (hbp : b ≠ p) (hs : size ≤ 4) (ha : at_ + size ≤ 60) (hn : n < 4294967296) (hpg : PageB h b p) (hl : Row n0 h lv [iv n] 3) :
    ∃ h', frameB T0 X0 call 3000 19 [pv b 0, iv at_, iv size, lv] h = some (pv b 0, h') ∧ PageB h' b p ∧ One p h h' := by
  obtain ⟨q, i1, i2⟩ := hl.at und_ints sz_int agg_int (i := 0) rfl
  have i1 : evIndexAddr T0 34 lv (iv 0) = some q := i1
  have hlen : ∀ ty h', evBuiltin T0 .len #[34] ty [lv] h' = some (.value (iv 1), h') := fun ty h' => hl.len und_ints
  have hc : evSliceX T0 60 (.slice (some ⟨p, 0, none⟩) 64 64) (some (iv at_)) (some (iv ((at_ + size : Nat) : Int))) none h = some (.slice (some ⟨p, at_, none⟩) (at_ + size - at_) (64 - at_), h) := cut_b (by omega) (by omega) (by omega)
  rw [show at_ + size - at_ = size by omega] at hc
  obtain ⟨h', c1, c2, c3⟩ := hP n p at_ size (64 - at_) h hs (by omega) hpg.2
  have m0 : IntKind.i64.wrap (0 * (size : Int)) = 0 := by rw [Int.zero_mul]; decide
  have m1 : IntKind.i64.wrap ((at_ : Int) + 0) = (at_ : Int) := by rw [Int.add_zero]; exact wz (by omega)
  have m2 : IntKind.i64.wrap ((at_ : Int) + (size : Int)) = ((at_ + size : Nat) : Int) := wadd (by omega)
  have w1 : IntKind.i64.wrap (0 + 1) = 1 := by decide
  refine ⟨h', ?_, ⟨hpg.1.one c3 hbp, c2⟩, c3⟩
  rw [frameB_eq ft19 rfl rfl]
  simp only [Try.f19, symM, opFn, Nat.reduceLT, Nat.reduceBEq, symL, symM, codeB_loop, hlen, bin_lss, show decide ((0 : Int) < 1) = true from rfl, show decide ((1 : Int) < 1) = false from rfl, i1, i2, nil_pv, field_Pg, hpg.1.load agg_bytes (i := 0) rfl, bin_mul, m0, bin_add, m1, m2, ev3, evOpt, hc, conv_i2i und_int und_u32', wrap32 n hn, evCall_fn ft39 rfl, c1, w1]
  exact retB_one ft19 rfl get_same
theorem byteVals_of {bs : List Nat} (h : ∀ x ∈ bs, x < 256) : byteVals (bs.map fun (x : Nat) => UInt8.ofNat x) = bytesV bs := by
  unfold byteVals bytesV
  rw [List.map_map]
  apply List.map_congr_left
  intro x hx
  have := h x hx
  simp only [Function.comp_apply]
  rw [UInt8.toNat_ofNat_of_lt' (by simpa using this)]
theorem Blk.copy4 {h : AH} {p at_ l : Nat} {bs : List Nat} (hb : Blk h p) (h4 : bs.length = 4) (h256 : ∀ x ∈ bs, x < 256) (ha : at_ + 4 ≤ 64) (hl : 4 ≤ l) {ty : TypeId} :
    ∃ h', evBuiltin T0 .copy #[60, 9] ty [.slice (some ⟨p, at_, none⟩) l l, strB bs] h = some (.value (iv 4), h') ∧ Blk h' p ∧ One p h h' := by
  obtain ⟨cs, c1, c2, c3⟩ := hb
  obtain ⟨b0, b1, b2, b3, rfl⟩ : ∃ b0 b1 b2 b3, bs = [b0, b1, b2, b3] := by
    match bs, h4 with
    | [b0, b1, b2, b3], _ => exact ⟨b0, b1, b2, b3, rfl⟩
  obtain ⟨h', s1, s2, s3, s4⟩ := c3.store (n := 0) (t := 35) (ws := [bv b0, bv b1, bv b2, bv b3]) (o := at_) (v := .agg #[bv b0, bv b1, bv b2, bv b3]) sz_arr4 rfl (by simp) rfl (by simp [bytesV]; omega) (Nat.zero_le _)
  have hk := evStore_keep s1
  have hrow : storeRow p at_ [bv b0, bv b1, bv b2, bv b3] h = some h' := by
    simp only [evStore, storeVarA, sz_arr4] at s1
    exact s1
  have hr : (bytesV cs).take at_ ++ [bv b0, bv b1, bv b2, bv b3] ++ (bytesV cs).drop (at_ + 4) = bytesV (cs.take at_ ++ [b0, b1, b2, b3] ++ cs.drop (at_ + 4)) := by
    unfold bytesV; simp
  refine ⟨h', ?_, ⟨_, ?_, ?_, by rw [← hr]; exact s2⟩, s4, hk⟩
  · have hlen : lenOfA (strB [b0, b1, b2, b3]) = some 4 := rfl
    have hmin : Nat.min 4 l = 4 := Nat.min_eq_left hl
    have hf : firstA 1 4 h (strB [b0, b1, b2, b3]) = some [bv b0, bv b1, bv b2, bv b3] := by
      show some (byteVals (([b0, b1, b2, b3].map fun (x : Nat) => UInt8.ofNat x).toArray.toList.take 4)) = _
      rw [show (([b0, b1, b2, b3].map fun (x : Nat) => UInt8.ofNat x).toArray.toList.take 4) = ([b0, b1, b2, b3].map fun (x : Nat) => UInt8.ofNat x) from rfl, byteVals_of h256]
      rfl
    have hlt : Nat.blt 0 l = true := by simpa [Nat.blt] using Nat.ble_eq_true_of_le (show 1 ≤ l by omega)
    show (match evCopy T0 #[60, 9] (.slice (some ⟨p, at_, none⟩) l l) (strB [b0, b1, b2, b3]) h with
      | some p => some (Out.value p.1, p.2)
      | none => none) = _
    simp only [evCopy, show (#[60, 9] : Array TypeId)[0]? = some 60 from rfl, und_bytes, sz_u8, hlen, hmin, hf, hlt, ifB_true, hrow]
    rfl
  · simp only [List.length_append, List.length_take, List.length_drop, List.length_cons, List.length_nil]; omega
  · intro x hx
    simp only [List.mem_append] at hx
    rcases hx with (hx | hx) | hx
    · exact c2 x (List.mem_of_mem_take hx)
    · exact h256 x hx
    · exact c2 x (List.mem_of_mem_drop hx)
theorem Text_S (b p at_ : Nat) (bs : List Nat) (h : AH) (hbp : b ≠ p) (h4 : bs.length = 4) (h256 : ∀ x ∈ bs, x < 256) (ha : at_ + 4 ≤ 60) (hpg : PageB h b p) :
    ∃ h', frameB T0 X0 call 3000 20 [pv b 0, iv at_, strB bs] h = some (pv b 0, h') ∧ PageB h' b p ∧ One p h h' := by
  obtain ⟨h', c1, c2, c3⟩ := hpg.2.copy4 (at_ := at_) (l := 64 - at_) h4 h256 (by omega) (by omega) (ty := 3)
  refine ⟨h', ?_, ⟨hpg.1.one c3 hbp, c2⟩, c3⟩
  rw [frameB_eq ft20 rfl rfl]
  simp only [Try.f20, symM, opFn, Nat.reduceLT, Nat.reduceBEq, symM, nil_pv, field_Pg, hpg.1.load agg_bytes (i := 0) rfl, ev3, evOpt, cut_b1 (show at_ < 64 by omega), c1]
  exact retB_one ft20 rfl get_same
end
end Go.Proofs.Ytglmahefcdhmgaa.Abs
namespace Go.Proofs.Ytglmahefcdhmgaa.Abs
open Go Go.Proofs
noncomputable section
variable {call : Abs.Callee}
set_option maxRecDepth 10000
/-- Where bytes may be put, whatever is known of the memory. -/
theorem putLg (P : AH → Prop) (n : Nat) (p o l cap : Nat) (hl : l ≤ 4) (hst : ∀ h i x, P h → i < l → x < 256 → ∃ h', evStore T0 5 (pv p (o + i * 1)) (bv x) h = some h' ∧ P h' ∧ One p h h') : ∀ (k i : Nat) (h : AH) (tm : PM Value) (N : Nat), i + k = l → k + 30 ≤ N → P h →
    tm.get 0 = some (.slice (some ⟨p, o, none⟩) l cap) → tm.get 1 = some (wv n) → tm.get 6 = some (iv l) → tm.get 7 = some (iv i) →
    ∃ tm' h', codeB T0 X0 call N Eput (.loop bodyput) tm h [] = .jump (.exit 0) tm' h' [] ∧ (P h' ∧ One p h h') := by
  intro k
  induction k with
  | zero =>
    intro i h tm N hi hN ho g0 g1 g6 g7
    obtain ⟨N, rfl⟩ : ∃ a, N = a + 30 := ⟨N - 30, by omega⟩
    apply Exists.intro; apply Exists.intro; apply And.intro
    · rw [codeB_loop]
      simp only [bodyput, part, Try.f39, sub, symM, opFn, Nat.reduceLT, g6, g7, bin_lss, decide_eq_false (show ¬ (i : Int) < (l : Nat) by omega)]
      rfl
    · exact ⟨ho, One.refl _ _⟩
  | succ k ih =>
    intro i h tm N hi hN ho g0 g1 g6 g7
    obtain ⟨N, rfl⟩ : ∃ a, N = a + 30 := ⟨N - 30, by omega⟩
    obtain ⟨h1, e2, e3, e4⟩ := hst h i (n / 256 ^ i % 256) ho (by omega) (Nat.mod_lt _ (by decide))
    have e1 : evIndexAddr T0 60 (.slice (some ⟨p, o, none⟩) l cap) (iv i) = some (pv p (o + i * 1)) := idx_slice und_bytes sz_u8 (by omega)
    obtain ⟨tm2, h2, q1, q3, q4⟩ := ih (i + 1) h1
      (((((((((((tm.set 8 (.bool true)).set 9 (iv i)).set 4 (iv i)).set 10 (.slice (some ⟨p, o, none⟩) l cap)).set 11 (iv i)).set 12 (wv n)).set 13 (iv i)).set 14 (iv (8 * i : Nat))).set 15 (wv (n / 256 ^ i : Nat))).set 16 (.int .u8 (n / 256 ^ i % 256 : Nat))).set 17 (pv p (o + i * 1)) |>.set 18 (iv ((i + 1 : Nat) : Int)) |>.set 7 (iv ((i + 1 : Nat) : Int))) (N + 29) (by omega) (by omega) e3
      (by simp only [symM, Nat.reduceBEq, g0]) (by simp only [symM, Nat.reduceBEq, g1]) (by simp only [symM, Nat.reduceBEq, g6]) get_same
    refine ⟨tm2, h2, ?_, q3, e4.trans q4⟩
    rw [show N + 30 = (N + 29) + 1 from rfl, codeB_loop, ← q1]
    have m8 : IntKind.i64.wrap (8 * (i : Int)) = ((8 * i : Nat) : Int) := by rw [wz (by omega)]; omega
    have s8 : ∀ p q h, evBin T0 .shr 85 p q (wv n) (iv (8 * i : Nat)) h = some (wv (n / 256 ^ i : Nat)) := fun p q h => by
      rw [bin_shr (show 8 * i < IntKind.u32.bits by show 8 * i < 32; omega), shr_pow]
    simp only [bodyput, part, Try.f39, sub, symM, opFn, Nat.reduceLT, Nat.reduceBEq, symM, g0, g1, g6, g7, bin_lss, decide_eq_true (show (i : Int) < (l : Nat) by omega), conv_i2i und_u32' und_u8, bin_mul, m8, s8, wu8m, e1, e2, bin_add, wadd1 (show i ≤ 400000 by omega)]
theorem putG_S (P : AH → Prop) (n : Nat) (p o l cap : Nat) (hl : l ≤ 4) (hst : ∀ h i x, P h → i < l → x < 256 → ∃ h', evStore T0 5 (pv p (o + i * 1)) (bv x) h = some h' ∧ P h' ∧ One p h h') (h : AH) (hb : P h) :
    ∃ h', frameB T0 X0 call 3000 39 [.slice (some ⟨p, o, none⟩) l cap, wv n] h = some (.tuple #[], h') ∧ P h' ∧ One p h h' := by
  rw [frameB_eq ft39 rfl rfl]
  have hlen : ∀ ty h', evBuiltin T0 .len #[60] ty [.slice (some ⟨p, o, none⟩) l cap] h' = some (.value (iv l), h') := fun ty h' => len_slice und_bytes
  simp only [Try.f39, symM, opFn, Nat.reduceLT, symL, hlen]
  generalize hX : codeB T0 X0 call _ Eput (.loop _) _ _ _ = X
  obtain ⟨t1, h1, e1, e3, e4⟩ := use_exit hX (putLg P n p o l cap hl hst l 0 h _ _ (by omega) (by omega) hb (by simp only [symM, Nat.reduceBEq]) (by simp only [symM, Nat.reduceBEq]) (by simp only [symM, Nat.reduceBEq]) (by simp only [symM]; rfl))
  clear hX
  subst e1
  refine ⟨h1, ?_, e3, e4⟩
  simp only [symM, symL]
  exact retB_zero ft39 rfl
abbrev PutC (call : Abs.Callee) : Prop := ∀ (P : AH → Prop) (n p o l cap : Nat) (h : AH), l ≤ 4 → (∀ h i x, P h → i < l → x < 256 → ∃ h', evStore T0 5 (pv p (o + i * 1)) (bv x) h = some h' ∧ P h' ∧ One p h h') → P h →
  ∃ h', call 39 [.slice (some ⟨p, o, none⟩) l cap, wv n] h = some (.tuple #[], h') ∧ P h' ∧ One p h h'
theorem nil_eqF {b o l c : Nat} {p q : Operand} {h : AH} : evBin T0 .eql 60 p q (.slice (some ⟨b, o, none⟩) l c) nilV h = some (.bool false) := by kernel_rfl
theorem bs_b0 {h : AH} : evBuildSlice T0 60 0 [] h = some (.slice (some ⟨h.next, 0, none⟩) 0 0, h.new (.cells (PM.ofList []) 0 5 0 0 .ex)) := by kernel_rfl
theorem BClone_S (p n0 : Nat) (bs : List Nat) (h : AH) (hl : bs.length = 64) (hb : BoxL h p 5 (bytesV bs)) (hp : p < h.next) :
    ∃ v' h', frameB T0 X0 call 3000 53 [.slice (some ⟨p, 0, none⟩) 64 64] h = some (v', h') ∧ Own h.next h' v' (bytesV bs) 5 ∧ Grow h.next h h' := by
  have g1 := Grow.new h (.cells (PM.ofList []) 0 5 0 0 .ex)
  have ho : OwnC 1 h.next (h.new (.cells (PM.ofList []) 0 5 0 0 .ex)) (.slice (some ⟨h.next, 0, none⟩) 0 0) 0 [] 5 := .inr ⟨h.next, PM.ofList [], .ex, 0, Nat.le_refl _, Nat.lt_succ_self _, rfl, get_new_same _ _, rfl, fun i x hx => by simp at hx, .inl ⟨rfl, rfl⟩⟩
  obtain ⟨c, c1, c2⟩ := hb.grow g1 hp
  obtain ⟨v', h', e1, e2, e3, e4, e5⟩ := append_gen und_bytes tt_u8 ti_u8.1 ti_u8.2.1 ti_u8.2.2 ho (appended_slice (k := 64) (cap := 64) (new := bytesV bs) und_bytes c1 (by rw [bytesV_len, hl, ti_u8.2.1]) (by rw [bytesV_len, hl, ti_u8.2.1]; exact Nat.le_refl _) c2) (by rw [bytesV_len, hl]) (bytesV_one bs) (by omega) g1.next 60
  refine ⟨v', h', ?_, ?_, g1.trans e3 (Nat.le_refl _)⟩
  · rw [frameB_eq ft53 rfl rfl]
    simp only [Try.f53, symM, opFn, Nat.reduceLT, Nat.reduceBEq, symM, nil_eqF, bs_b0, e1]
    exact retB_one ft53 rfl get_same
  · have := e2.own
    simpa using this
theorem plan_Seal : planB (regOps Try.f40 [1, 1, 1, 0]) 17 = some ([.one 0, .one 1, .one 2, .one 3, .eff [] 4 [0, 1], .eff [] 5 []], []) := by kernel_rfl
/-- The last four of 64 bytes of our own. -/
theorem own_tail {n0 : Nat} {h : AH} {v : Value} {bs : List Nat} (hl : bs.length = 64) (ho : Own n0 h v (bytesV bs) 5) :
    ∃ q cap capw, v = .slice (some ⟨q, 0, none⟩) 64 cap ∧ n0 ≤ q ∧ q < h.next ∧ (∀ h2, h2.get q = h.get q → evSliceX T0 60 v (some (iv 60)) none none h2 = some (.slice (some ⟨q, 60, none⟩) 4 capw, h2)) := by
  rcases ho with ⟨_, q⟩ | ⟨q, c, kd, cap, h1, h2, h3, h4, h5, h6⟩
  · have := congrArg List.length q
    rw [bytesV_len, hl] at this; simp at this
  · rw [bytesV_len, hl] at h3
    subst h3
    rw [bytesV_len, hl] at h4 h6
    rcases h6 with ⟨rfl, rfl⟩ | ⟨rfl, rfl⟩
    · exact ⟨q, 64, 4, rfl, h1, h2, fun h2 _ => cut_b1 (lo := 60) (by omega)⟩
    · refine ⟨q, XB + 64, XB + 4, rfl, h1, h2, fun h2 e => ?_⟩
      have hbnd : boundsA 64 64 (some (iv ((60 : Nat) : Int))) none none = some (60, 64, 64) := rfl
      have hls : looseSz T0 h2 q 1 = true := by
        unfold looseSz
        rw [e, h4]
        simp only [sz_u8]
        rfl
      show evSliceX T0 60 (.slice (some ⟨q, 0, none⟩) 64 (XB + 64)) (some (iv ((60 : Nat) : Int))) none none h2 = _
      simp only [evSliceX, evSlice, und_bytes, sz_u8, evSliceS, capOf_ge, hbnd, Nat.ble_eq_true_of_le (Nat.le_refl 64), ifB_true, Nat.ble_eq_true_of_le (show XB ≤ XB + 64 by omega), hls, offS, show Nat.beq 64 60 = false from rfl, ifB_false]
theorem Seal_S (hCl : ∀ (p : Nat) (bs : List Nat) (h : AH), bs.length = 64 → BoxL h p 5 (bytesV bs) → p < h.next → ∃ v' h', call 53 [.slice (some ⟨p, 0, none⟩) 64 64] h = some (v', h') ∧ Own h.next h' v' (bytesV bs) 5 ∧ Grow h.next h h')
    (hSum : ∀ (bs : List Nat) (v : Value) (h : AH), (∀ x ∈ bs, x < 256) → bs.length ≤ 1000 → Row h.next h v (bytesV bs) 5 → call 54 [v] h = some (wv (spinU (spinN bs)), h))
    (hP : PutC call) (p : Nat) (h : AH) (hb : Blk h p) (hp : p < h.next) :
    ∃ q cap h', frameB T0 X0 call 3000 40 [.slice (some ⟨p, 0, none⟩) 64 64] h = some (.tuple #[.slice (some ⟨q, 0, none⟩) 64 cap, iv 0], h') ∧ h.next ≤ q ∧ q < h'.next ∧ Grow h.next h h' := by
  obtain ⟨bs, b1, b2, b3⟩ := hb
  obtain ⟨v1, h1, c1, o1, g1⟩ := hCl p bs h b1 b3 hp
  obtain ⟨q, cap, capw, rfl, q1, q2, q3⟩ := own_tail b1 o1
  have hcut := q3 h1 rfl
  have hb1 : BoxL h1 p 5 (bytesV bs) := b3.grow g1 hp
  have hcut2 : evSliceX T0 60 (.slice (some ⟨p, 0, none⟩) 64 64) none (some (iv 60)) none h1 = some (.slice (some ⟨p, 0, none⟩) 60 64, h1) := cut_b0 (hi := 60) (by omega)
  have hrow : Row h1.next h1 (.slice (some ⟨p, 0, none⟩) 60 64) (bytesV (bs.take 60)) 5 := by
    obtain ⟨c, d1, d2⟩ := hb1
    refine .inr ⟨p, 0, 64, c, _, 0, 0, .ex, _, by rw [bytesV_len, List.length_take, b1]; rfl, Nat.lt_of_lt_of_le hp g1.next, d1, by rw [bytesV_len, bytesV_len, List.length_take, b1]; decide, fun i x hi => ?_⟩
    rw [Nat.zero_add]
    refine d2 i x ?_
    unfold bytesV at hi ⊢
    rw [List.map_take] at hi
    rw [List.getElem?_take] at hi
    split at hi
    · exact hi
    · cases hi
  have hs := hSum (bs.take 60) (.slice (some ⟨p, 0, none⟩) 60 64) h1 (fun x hx => b2 x (List.mem_of_mem_take hx)) (by simp; omega) hrow
  have hst : ∀ (h : AH) (i x : Nat), (∃ L : List Nat, L.length = 64 ∧ Own 0 h (.slice (some ⟨q, 0, none⟩) 64 cap) (bytesV L) 5) → i < 4 → x < 256 → ∃ h', evStore T0 5 (pv q (60 + i * 1)) (bv x) h = some h' ∧ (∃ L : List Nat, L.length = 64 ∧ Own 0 h' (.slice (some ⟨q, 0, none⟩) 64 cap) (bytesV L) 5) ∧ One q h h' := by
    rintro h i x ⟨L, hL⟩ hi hx
    obtain ⟨y, hy⟩ : ∃ y, (bytesV L)[60 + i]? = some y := ⟨_, List.getElem?_eq_getElem (by rw [bytesV_len]; omega)⟩
    obtain ⟨pp, h', s1, s2, s3, s4, s5, s6⟩ := hL.2.store2 und_bytes sz_u8 (x := bv x) rfl hy
    have s1' : evIndexAddr T0 60 (.slice (some ⟨q, 0, none⟩) 64 cap) (iv ((60 + i : Nat) : Int)) = some (pv q (0 + (60 + i) * 1)) := idx_slice und_bytes sz_u8 (by omega)
    rw [s1'] at s1
    cases s1
    rw [show 0 + (60 + i) * 1 = 60 + i * 1 by omega] at s2
    refine ⟨h', s2, ⟨L.set (60 + i) x, by simpa using hL.1, ?_⟩, s5, evStore_keep s2⟩
    rw [show bytesV (L.set (60 + i) x) = (bytesV L).set (60 + i) (bv x) by unfold bytesV; rw [List.map_set]]
    exact s3
  obtain ⟨h2, e1, e2, e3⟩ := hP (fun h => ∃ L : List Nat, L.length = 64 ∧ Own 0 h (.slice (some ⟨q, 0, none⟩) 64 cap) (bytesV L) 5) (spinU (spinN (bs.take 60))) q 60 4 capw h1 (by omega) hst ⟨bs, b1, o1.less (Nat.zero_le _)⟩
  · have g2 : Grow h.next h1 h2 := e3.grow q1
    refine ⟨q, cap, h2, ?_, q1, by rw [e3.next]; exact q2, g1.trans g2 (Nat.le_refl _)⟩
    have hp4 := plan_Seal
    simp only [regOps, part, Try.f40, sub] at hp4
    have hlen : ∀ ty h', evBuiltin T0 .len #[60] ty [.slice (some ⟨p, 0, none⟩) 64 64] h' = some (.value (iv 64), h') := fun ty h' => len_slice und_bytes
    rw [frameB_eq ft40 rfl rfl]
    simp only [Try.f40, symM, opFn, Nat.reduceLT, Nat.reduceBEq, symM, hlen, bin_neq, show ((64 : Int) == 64) = true from rfl, evCall_fn ft53 rfl, c1]
    rw [codeB_draw, draw_plan hp4 rfl]
    simp only [drawAll, opFn, Nat.reduceLT, Nat.reduceBEq, ev3, evOpt, hcut, hcut2, evCall_fn ft54' rfl, hs, effE_cons, evCall_fn ft39 rfl, e1]
    exact retB_two ft40 rfl (by simp only [symM, Nat.reduceBEq]) get_same
end
end Go.Proofs.Ytglmahefcdhmgaa.Abs
