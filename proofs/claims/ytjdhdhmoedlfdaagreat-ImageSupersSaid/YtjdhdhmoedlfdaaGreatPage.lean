
/- Pages with what they hold. -/
import Derived.Test.YtjdhdhmoedlfdaaGreatStr
namespace Go.Proofs.YtjdhdhmoedlfdaaGreat.Abs
open Go Go.Proofs
noncomputable section
variable {call : Abs.Callee}
set_option maxRecDepth 10000
theorem ft46 : T0.ft.get 46 = some Tryz.f46 := by kernel_rfl
theorem ft134 : T0.ft.get 134 = some Tryz.f134 := by kernel_rfl
theorem ft47 : T0.ft.get 47 = some Tryz.f47 := by kernel_rfl
theorem ft109 : T0.ft.get 109 = some Tryz.f109 := by kernel_rfl
theorem ft29 : T0.ft.get 29 = some Tryz.f29 := by kernel_rfl
structure One (p : Nat) (h h' : AH) : Prop where
  next : h'.next = h.next
  keep : ∀ k, k ≠ p → h'.get k = h.get k
theorem One.refl (p : Nat) (h : AH) : One p h h := ⟨rfl, fun _ _ => rfl⟩
theorem One.trans {p : Nat} {a b c : AH} (h : One p a b) (h' : One p b c) : One p a c := ⟨h'.next.trans h.next, fun k hk => (h'.keep k hk).trans (h.keep k hk)⟩
theorem One.grow {p n : Nat} {h h' : AH} (o : One p h h') (hn : n ≤ p) : Grow n h h' := ⟨Nat.le_of_eq o.next.symm, fun k hk => o.keep k (by omega)⟩
theorem BoxL.one {h h' : AH} {b el p : Nat} {l : List Value} (hb : BoxL h b el l) (o : One p h h') (hn : b ≠ p) : BoxL h' b el l := by
  obtain ⟨c, h1, h2⟩ := hb
  exact ⟨c, (o.keep b hn).trans h1, h2⟩
theorem BoxL.keep {h h' : AH} {b el : Nat} {l : List Value} (hb : BoxL h b el l) (e : h'.get b = h.get b) : BoxL h' b el l := by
  obtain ⟨c, h1, h2⟩ := hb
  exact ⟨c, e.trans h1, h2⟩
def setAt (bs : List Nat) (at_ : Nat) (l : List Nat) : List Nat := bs.take at_ ++ l ++ bs.drop (at_ + l.length)
theorem setAt_len {bs l : List Nat} {at_ : Nat} (h : at_ + l.length ≤ bs.length) : (setAt bs at_ l).length = bs.length := by unfold setAt; simp; omega
theorem setAt_lt {bs l : List Nat} {at_ : Nat} (hb : ∀ x ∈ bs, x < 256) (hl : ∀ x ∈ l, x < 256) : ∀ x ∈ setAt bs at_ l, x < 256 := by
  intro x hx
  unfold setAt at hx
  simp only [List.mem_append] at hx
  rcases hx with (hx | hx) | hx
  · exact hb x (List.mem_of_mem_take hx)
  · exact hl x hx
  · exact hb x (List.mem_of_mem_drop hx)
theorem BoxL.storeRow {h : AH} {b el o : Nat} {l ws : List Value} (hb : BoxL h b el l) (hall : ws.all oneCell = true) (ho : o + ws.length ≤ l.length) :
    ∃ h', storeRow b o ws h = some h' ∧ BoxL h' b el (l.take o ++ ws ++ l.drop (o + ws.length)) ∧ One b h h' := by
  obtain ⟨c, h1, h2⟩ := hb
  have hlen : (l.take o ++ ws ++ l.drop (o + ws.length)).length = l.length := by simp; omega
  have hw : writable o ws.length l.length 0 0 = true := by
    unfold writable
    simp; omega
  refine ⟨h.set b (.cells (storeN c o ws) l.length el 0 0 .ex), ?_, ⟨_, by rw [AH.get_set, if_pos rfl, hlen], ?_⟩, rfl, fun k hk => by rw [AH.get_set, if_neg hk]⟩
  · simp only [Abs.storeRow, h1, hw, hall, Bool.and_self, ifB_true]
  · intro i x hi
    rw [storeN_get]
    by_cases c1 : i < o
    · rw [if_neg (by omega)]
      refine h2 i x ?_
      rw [List.append_assoc, List.getElem?_append_left (by simp; omega), List.getElem?_take, if_pos c1] at hi
      exact hi
    · by_cases c2 : i < o + ws.length
      · rw [if_pos (by omega)]
        rw [List.append_assoc, List.getElem?_append_right (by simp; omega), List.getElem?_append_left (by simp; omega)] at hi
        rw [show (l.take o).length = o by simp; omega] at hi
        exact hi
      · rw [if_neg (by omega)]
        refine h2 i x ?_
        rw [List.getElem?_append_right (by simp; omega), List.getElem?_drop] at hi
        rw [show (l.take o ++ ws).length = o + ws.length by simp; omega] at hi
        rwa [show o + ws.length + (i - (o + ws.length)) = i by omega] at hi
theorem setAt_V {bs l : List Nat} {at_ : Nat} : (bytesV bs).take at_ ++ bytesV l ++ (bytesV bs).drop (at_ + (bytesV l).length) = bytesV (setAt bs at_ l) := by
  unfold bytesV setAt; simp
def BlkV (h : AH) (p : Nat) (bs : List Nat) : Prop := BoxL h p 5 (bytesV bs)
theorem BlkV.put {h : AH} {p at_ : Nat} {bs l : List Nat} (hb : BlkV h p bs) (ha : at_ + l.length ≤ bs.length) : ∃ h', Abs.storeRow p at_ (bytesV l) h = some h' ∧ BlkV h' p (setAt bs at_ l) ∧ One p h h' := by
  obtain ⟨h', s1, s2, s3⟩ := BoxL.storeRow (o := at_) (ws := bytesV l) hb (bytesV_one l) (by rw [bytesV_len, bytesV_len]; exact ha)
  rw [setAt_V] at s2
  exact ⟨h', s1, s2, s3⟩
theorem BlkV.grow {n : Nat} {h h' : AH} {p : Nat} {bs : List Nat} (hb : BlkV h p bs) (g : Grow n h h') (hn : p < n) : BlkV h' p bs := BoxL.grow hb g hn
theorem BlkV.row {h : AH} {p : Nat} {bs : List Nat} {cap : Nat} (hb : BlkV h p bs) (hp : p < h.next) : Row h.next h (.slice (some ⟨p, 0, none⟩) bs.length cap) (bytesV bs) 5 := by
  obtain ⟨c, h1, h2⟩ := hb
  exact .inr ⟨p, 0, cap, c, _, 0, 0, .ex, _, by rw [bytesV_len], hp, h1, by omega, fun i x hi => by rw [Nat.zero_add]; exact h2 i x hi⟩
def PageV (h : AH) (b p : Nat) (bs : List Nat) : Prop := BoxL h b 150 [.slice (some ⟨p, 0, none⟩) 64 64] ∧ (BlkV h p bs ∧ (bs.length = 64 ∧ ∀ x ∈ bs, x < 256))
theorem PageV.grow {n : Nat} {h h' : AH} {b p : Nat} {bs : List Nat} (hb : PageV h b p bs) (g : Grow n h h') (hn : b < n) (hp : p < n) : PageV h' b p bs := ⟨hb.1.grow g hn, hb.2.1.grow g hp, hb.2.2⟩
theorem field_Pg {b : Nat} : evFieldAddr T0 150 (pv b 0) 0 = some (pv b 0) := by kernel_rfl
theorem agg_bytes : aggT T0 57 = some false := by kernel_rfl
theorem nil_pv {b o : Nat} : evNilCheck (pv b o) = some (pv b o) := rfl
theorem cut_b {p lo hi : Nat} {h : AH} (hlo : lo < 64) (hh : lo ≤ hi) (hi64 : hi ≤ 64) : evSliceX T0 57 (.slice (some ⟨p, 0, none⟩) 64 64) (some (iv lo)) (some (iv hi)) none h = some (.slice (some ⟨p, lo, none⟩) (hi - lo) (64 - lo), h) := by
  have hbnd : boundsA 64 64 (some (iv (lo : Int))) (some (iv (hi : Int))) none = some (lo, hi, 64) := by
    simp only [boundsA, boundA, show natOf (iv (lo : Int)) = some lo from rfl, show natOf (iv (hi : Int)) = some hi from rfl, Nat.ble_eq_true_of_le hh, Nat.ble_eq_true_of_le hi64, ifB_true]
  simp only [evSliceX, evSlice, und_bytes, sz_u8, evSliceS, capOf_lt (show 64 < XB by rw [XB_val]; omega), hbnd, Nat.ble_eq_true_of_le hi64, ifB_true, ble_lt' (show 64 < XB by rw [XB_val]; omega), ifB_false, offS, show Nat.beq 64 lo = false from nbF (by simp; omega), Nat.mul_one, Nat.zero_add]
theorem cut_b1 {p lo : Nat} {h : AH} (hlo : lo < 64) : evSliceX T0 57 (.slice (some ⟨p, 0, none⟩) 64 64) (some (iv lo)) none none h = some (.slice (some ⟨p, lo, none⟩) (64 - lo) (64 - lo), h) := by
  have hbnd : boundsA 64 64 (some (iv (lo : Int))) none none = some (lo, 64, 64) := by
    simp only [boundsA, boundA, show natOf (iv (lo : Int)) = some lo from rfl, Nat.ble_eq_true_of_le (Nat.le_of_lt hlo), ifB_true]
  simp only [evSliceX, evSlice, und_bytes, sz_u8, evSliceS, capOf_lt (show 64 < XB by rw [XB_val]; omega), hbnd, Nat.ble_eq_true_of_le (Nat.le_refl 64), ifB_true, ble_lt' (show 64 < XB by rw [XB_val]; omega), ifB_false, offS, show Nat.beq 64 lo = false from nbF (by simp; omega), Nat.mul_one, Nat.zero_add]
theorem cut_b0 {p hi : Nat} {h : AH} (hi64 : hi ≤ 64) : evSliceX T0 57 (.slice (some ⟨p, 0, none⟩) 64 64) none (some (iv hi)) none h = some (.slice (some ⟨p, 0, none⟩) hi 64, h) := by
  have hbnd : boundsA 64 64 none (some (iv (hi : Int))) none = some (0, hi, 64) := by
    simp only [boundsA, boundA, show natOf (iv (hi : Int)) = some hi from rfl, Nat.ble_eq_true_of_le hi64, ifB_true]
  simp only [evSliceX, evSlice, und_bytes, sz_u8, evSliceS, capOf_lt (show 64 < XB by rw [XB_val]; omega), hbnd, Nat.ble_eq_true_of_le hi64, ifB_true, ble_lt' (show 64 < XB by rw [XB_val]; omega), ifB_false, offS]
  rfl
theorem byteVals_of {bs : List Nat} (h : ∀ x ∈ bs, x < 256) : byteVals (bs.map fun (x : Nat) => UInt8.ofNat x) = bytesV bs := by
  unfold byteVals bytesV
  rw [List.map_map]
  apply List.map_congr_left
  intro x hx
  have := h x hx
  simp only [Function.comp_apply]
  rw [UInt8.toNat_ofNat_of_lt' (by simpa using this)]
theorem copy_str {h : AH} {p at_ l : Nat} {bs nm : List Nat} (hb : BlkV h p bs) (h256 : ∀ x ∈ nm, x < 256) (ha : at_ + nm.length ≤ bs.length) (hl : nm.length ≤ l) (h0 : nm ≠ []) {ty : TypeId} :
    ∃ h', evBuiltin T0 .copy #[57, 9] ty [.slice (some ⟨p, at_, none⟩) l l, strB nm] h = some (.value (iv nm.length), h') ∧ BlkV h' p (setAt bs at_ nm) ∧ One p h h' := by
  obtain ⟨h', s1, s2, s3⟩ := hb.put (at_ := at_) (l := nm) ha
  refine ⟨h', ?_, s2, s3⟩
  have hlen : lenOfA (strB nm) = some nm.length := by
    show some (ByteArray.size ⟨(nm.map fun (x : Nat) => UInt8.ofNat x).toArray⟩) = _
    simp [ByteArray.size]
  have hmin : Nat.min nm.length l = nm.length := Nat.min_eq_left hl
  have hf : firstA 1 nm.length h (strB nm) = some (bytesV nm) := by
    show some (byteVals ((nm.map fun (x : Nat) => UInt8.ofNat x).toArray.toList.take nm.length)) = _
    rw [show (nm.map fun (x : Nat) => UInt8.ofNat x).toArray.toList = nm.map fun (x : Nat) => UInt8.ofNat x from rfl, List.take_of_length_le (by simp), byteVals_of h256]
  obtain ⟨y, nm', rfl⟩ : ∃ y n', nm = y :: n' := by cases nm with | nil => exact absurd rfl h0 | cons y n' => exact ⟨y, n', rfl⟩
  have hlt : Nat.blt 0 l = true := by simpa [Nat.blt] using Nat.ble_eq_true_of_le (show 1 ≤ l by simp at hl; omega)
  show (match evCopy T0 #[57, 9] (.slice (some ⟨p, at_, none⟩) l l) (strB (y :: nm')) h with
    | some p => some (Out.value p.1, p.2)
    | none => none) = _
  have s1 : Abs.storeRow p at_ (.int .u8 (y : Int) :: bytesV nm') h = some h' := s1
  have hf : firstA 1 (y :: nm').length h (strB (y :: nm')) = some (.int .u8 (y : Int) :: bytesV nm') := hf
  simp only [evCopy, show (#[57, 9] : Array TypeId)[0]? = some 57 from rfl, und_bytes, sz_u8, hlen, hmin, hf, hlt, ifB_true, s1]
end
end Go.Proofs.YtjdhdhmoedlfdaaGreat.Abs
namespace Go.Proofs.YtjdhdhmoedlfdaaGreat.Abs
open Go Go.Proofs
noncomputable section
variable {call : Abs.Callee}
set_option maxRecDepth 10000
theorem setAt_nil {bs : List Nat} {o : Nat} : setAt bs o [] = bs := by unfold setAt; simp
theorem setAt_snoc {bs l : List Nat} {o x : Nat} (h : o ≤ bs.length) : setAt (setAt bs o l) (o + l.length) [x] = setAt bs o (l ++ [x]) := by
  unfold setAt
  have h1 : (bs.take o ++ l).length = o + l.length := by simp; omega
  rw [List.take_append_of_le_length (by omega), List.take_of_length_le (by omega), List.drop_append, h1]
  have e1 : (bs.take o ++ l).drop (o + l.length + [x].length) = [] := List.drop_eq_nil_of_le (by simp; omega)
  rw [e1, show o + l.length + [x].length - (o + l.length) = 1 by simp, List.drop_drop]
  simp [Nat.add_assoc]
theorem BlkV.store {h : AH} {p i x : Nat} {bs : List Nat} (hb : BlkV h p bs) (hi : i < bs.length) : ∃ h', evStore T0 5 (pv p i) (bv x) h = some h' ∧ BlkV h' p (setAt bs i [x]) ∧ One p h h' := by
  obtain ⟨h', s1, s2, s3⟩ := hb.put (at_ := i) (l := [x]) (by simp; omega)
  have s1 : Abs.storeRow p i [bv x] h = some h' := s1
  refine ⟨h', ?_, s2, s3⟩
  simp only [evStore, storeVarA, sz_u8]
  exact s1
theorem putVl (n : Nat) (p o l cap : Nat) (bs : List Nat) (hl : l ≤ 4) (hol : o + l ≤ bs.length) : ∀ (k i : Nat) (h : AH) (tm : PM Value) (N : Nat), i + k = l → k + 30 ≤ N → BlkV h p (setAt bs o (leF n 0 i)) →
    tm.get 0 = some (.slice (some ⟨p, o, none⟩) l cap) → tm.get 1 = some (wv n) → tm.get 6 = some (iv l) → tm.get 7 = some (iv i) →
    ∃ tm' h', codeB T0 X0 call N Eput (.loop bodyput) tm h [] = .jump (.exit 0) tm' h' [] ∧ (BlkV h' p (setAt bs o (leN n l)) ∧ One p h h') := by
  intro k
  induction k with
  | zero =>
    intro i h tm N hi hN ho g0 g1 g6 g7
    obtain ⟨N, rfl⟩ : ∃ a, N = a + 30 := ⟨N - 30, by omega⟩
    have hil : i = l := by omega
    subst hil
    apply Exists.intro; apply Exists.intro; apply And.intro
    · rw [codeB_loop]
      simp only [bodyput, part, Tryz.f162, sub, symM, opFn, Nat.reduceLT, g6, g7, bin_lss, decide_eq_false (show ¬ (i : Int) < (i : Nat) by omega)]
      rfl
    · exact ⟨ho, One.refl _ _⟩
  | succ k ih =>
    intro i h tm N hi hN ho g0 g1 g6 g7
    obtain ⟨N, rfl⟩ : ∃ a, N = a + 30 := ⟨N - 30, by omega⟩
    have hli : (leF n 0 i).length = i := by simp [leF]
    obtain ⟨h1, e2, e3, e4⟩ := ho.store (i := o + i * 1) (x := n / 256 ^ i % 256) (by rw [setAt_len (by omega)]; omega)
    have e3 : BlkV h1 p (setAt bs o (leF n 0 (i + 1))) := by
      rw [leF_snoc, ← setAt_snoc (by omega), hli]
      rwa [Nat.mul_one] at e3
    have e1 : evIndexAddr T0 57 (.slice (some ⟨p, o, none⟩) l cap) (iv i) = some (pv p (o + i * 1)) := idx_slice und_bytes sz_u8 (by omega)
    obtain ⟨tm2, h2, q1, q3, q4⟩ := ih (i + 1) h1
      (((((((((((tm.set 8 (.bool true)).set 9 (iv i)).set 4 (iv i)).set 10 (.slice (some ⟨p, o, none⟩) l cap)).set 11 (iv i)).set 12 (wv n)).set 13 (iv i)).set 14 (iv (8 * i : Nat))).set 15 (wv (n / 256 ^ i : Nat))).set 16 (.int .u8 (n / 256 ^ i % 256 : Nat))).set 17 (pv p (o + i * 1)) |>.set 18 (iv ((i + 1 : Nat) : Int)) |>.set 7 (iv ((i + 1 : Nat) : Int))) (N + 29) (by omega) (by omega) e3
      (by simp only [symM, Nat.reduceBEq, g0]) (by simp only [symM, Nat.reduceBEq, g1]) (by simp only [symM, Nat.reduceBEq, g6]) get_same
    refine ⟨tm2, h2, ?_, q3, e4.trans q4⟩
    rw [show N + 30 = (N + 29) + 1 from rfl, codeB_loop, ← q1]
    have m8 : IntKind.i64.wrap (8 * (i : Int)) = ((8 * i : Nat) : Int) := by rw [wz (by omega)]; omega
    have s8 : ∀ p q h, evBin T0 .shr 122 p q (wv n) (iv (8 * i : Nat)) h = some (wv (n / 256 ^ i : Nat)) := fun p q h => by
      rw [bin_shr (show 8 * i < IntKind.u32.bits by show 8 * i < 32; omega), shr_pow]
    simp only [bodyput, part, Tryz.f162, sub, symM, opFn, Nat.reduceLT, Nat.reduceBEq, symM, g0, g1, g6, g7, bin_lss, decide_eq_true (show (i : Int) < (l : Nat) by omega), conv_i2i und_u32' und_u8, bin_mul, m8, s8, wu8m, e1, e2, bin_add, wadd1 (show i ≤ 400000 by omega)]
theorem putV_S (n : Nat) (p o l cap : Nat) (bs : List Nat) (hl : l ≤ 4) (hol : o + l ≤ bs.length) (h : AH) (hb : BlkV h p bs) :
    ∃ h', frameB T0 X0 call 3000 162 [.slice (some ⟨p, o, none⟩) l cap, wv n] h = some (.tuple #[], h') ∧ BlkV h' p (setAt bs o (leN n l)) ∧ One p h h' := by
  rw [frameB_eq ft162 rfl rfl]
  have hlen : ∀ ty h', evBuiltin T0 .len #[57] ty [.slice (some ⟨p, o, none⟩) l cap] h' = some (.value (iv l), h') := fun ty h' => len_slice und_bytes
  simp only [Tryz.f162, symM, opFn, Nat.reduceLT, symL, hlen]
  generalize hX : codeB T0 X0 call _ Eput (.loop _) _ _ _ = X
  obtain ⟨t1, h1, e1, e3, e4⟩ := use_exit hX (putVl n p o l cap bs hl hol l 0 h _ _ (by omega) (by omega) (by rw [show leF n 0 0 = [] from rfl, setAt_nil]; exact hb) (by simp only [symM, Nat.reduceBEq]) (by simp only [symM, Nat.reduceBEq]) (by simp only [symM, Nat.reduceBEq]) (by simp only [symM]; rfl))
  clear hX
  subst e1
  refine ⟨h1, ?_, e3, e4⟩
  simp only [symM, symL]
  exact retB_zero ft162 rfl
abbrev PutVC (call : Abs.Callee) : Prop := ∀ (n p o l cap : Nat) (bs : List Nat) (h : AH), l ≤ 4 → o + l ≤ bs.length → BlkV h p bs → ∃ h', call 162 [.slice (some ⟨p, o, none⟩) l cap, wv n] h = some (.tuple #[], h') ∧ BlkV h' p (setAt bs o (leN n l)) ∧ One p h h'
theorem NewPageV_S (nm : List Nat) (h : AH) (hn : nm.length ≤ 64) (h0 : nm ≠ []) (h256 : ∀ x ∈ nm, x < 256) : ∃ b p h', frameB T0 X0 call 3000 46 [strB nm] h = some (pv b 0, h') ∧ h.next ≤ b ∧ h.next ≤ p ∧ b ≠ p ∧ b < h'.next ∧ p < h'.next ∧ PageV h' b p (setAt (List.replicate 64 0) 0 nm) ∧ Grow h.next h h' := by
  obtain ⟨h1, e1, e2, e3⟩ := make_bytes (h := h) (k := 64) (by omega)
  have e1 : evMakeSlice T0 57 (iv 64) (iv 64) h = _ := e1
  generalize hh2 : h1.new (.cells (PM.ofList [.slice (some ⟨h.next, 0, none⟩) 64 64]) 1 150 0 0 .ex) = h2
  have g2 : Grow h1.next h1 h2 := by rw [← hh2]; exact Grow.new _ _
  have hb2 : BoxL h2 h1.next 150 [.slice (some ⟨h.next, 0, none⟩) 64 64] := by rw [← hh2]; exact BoxL.new _ _ _
  have n2 : h2.next = h1.next + 1 := by rw [← hh2]; rfl
  have hbk : BlkV h1 h.next (List.replicate 64 0) ∧ h.next < h1.next := by
    rcases e2 with ⟨q, _⟩ | ⟨b', c, kd, cap, h3, h4, h5, h6, h7, h8⟩
    · cases q
    · cases h5
      rcases h8 with ⟨rfl, _⟩ | ⟨_, h8⟩
      · exact ⟨⟨c, h6, h7⟩, h4⟩
      · exfalso
        have : XB + (bytesV (List.replicate 64 0)).length = 64 := h8.symm
        rw [XB_val] at this; omega
  have hbd : evBuild T0 150 [(0, .slice (some ⟨h.next, 0, none⟩) 64 64)] h1 = some (.agg #[.slice (some ⟨h.next, 0, none⟩) 64 64], h1) := by kernel_rfl
  have hbx : ∀ h v, rp (some (evNewVar h 150 (.agg #[v]))) = some (.value (pv h.next 0), h.new (.cells (PM.ofList [v]) 1 150 0 0 .ex)) := fun h v => rfl
  obtain ⟨h3, c1, c2, c3⟩ := copy_str (at_ := 0) (l := 64) (hbk.1.grow g2 hbk.2) h256 (by simp; omega) hn h0 (ty := 3)
  have hne : h1.next ≠ h.next := by omega
  refine ⟨h1.next, h.next, h3, ?_, e3.next, Nat.le_refl _, hne, by rw [c3.next]; omega, by rw [c3.next]; omega, ⟨hb2.one c3 hne, c2, ?_, ?_⟩, (e3.trans g2 e3.next).trans (c3.grow (Nat.le_refl _)) (Nat.le_refl _)⟩
  · rw [frameB_eq ft46 rfl rfl]
    simp only [Tryz.f46, symM, opFn, Nat.reduceLT, Nat.reduceBEq, symM, nil_pv, e1, hbd, hbx, hh2, field_Pg, hb2.load agg_bytes (i := 0) rfl, c1]
    exact retB_one ft46 rfl get_same
  · rw [setAt_len (by simp; omega)]; simp
  · exact setAt_lt (by simp) h256
def setsAt (size : Nat) : List Nat → Nat → List Nat → List Nat
  | bs, _, [] => bs
  | bs, at_, n :: ns => setsAt size (setAt bs at_ (leN n size)) (at_ + size) ns
noncomputable def bodySt : Code := part Tryz.f134 [1, 0, 1, 0, 0]
abbrev ESt : Env := ⟨134, 40, none⟩
abbrev listV (lb : Nat) (ns : List Nat) : Value := .slice (some ⟨lb, 0, none⟩) ns.length ns.length
theorem boxRow {h : AH} {lb : Nat} {ns : List Nat} (hb : BoxL h lb 3 (intsV ns)) : Row (lb + 1) h (listV lb ns) (intsV ns) 3 := by
  obtain ⟨c, h1, h2⟩ := hb
  exact .inr ⟨lb, 0, ns.length, c, _, 0, 0, .ex, _, by simp [intsV], Nat.lt_succ_self _, h1, by omega, fun i x hi => by rw [Nat.zero_add]; exact h2 i x hi⟩
theorem setL (hP : PutVC call) (b p at_ size lb : Nat) (ns : List Nat) (hbp : b ≠ p) (hs : size ≤ 4) (ha : at_ + ns.length * size ≤ 60) (hn : ∀ n ∈ ns, n < 4294967296) (hL : ns.length < 100) (hlb : lb ≠ p) :
    ∀ (l : List Nat) (i : Nat) (bs : List Nat) (h : AH) (tm : PM Value) (N : Nat), ns.drop i = l → i + l.length = ns.length → l.length + 60 ≤ N → PageV h b p bs → BoxL h lb 3 (intsV ns) →
      tm.get 0 = some (pv b 0) → tm.get 1 = some (iv at_) → tm.get 2 = some (iv size) → tm.get 11 = some (listV lb ns) → tm.get 12 = some (iv ns.length) → tm.get 13 = some (iv i) →
      ∃ tm' h', codeB T0 X0 call N ESt (.loop bodySt) tm h [] = .jump (.exit 0) tm' h' [] ∧ (tm'.get 0 = some (pv b 0) ∧ PageV h' b p (setsAt size bs (at_ + i * size) l) ∧ One p h h') := by
  intro l
  induction l with
  | nil =>
    intro i bs h tm N hd hi hN hpg hr g0 g1 g2 g11 g12 g13
    obtain ⟨N, rfl⟩ : ∃ a, N = a + 60 := ⟨N - 60, by simp at hN; omega⟩
    apply Exists.intro; apply Exists.intro
    refine ⟨?_, ?_, hpg, One.refl _ _⟩
    · rw [codeB_loop]
      simp only [bodySt, part, Tryz.f134, sub, symM, opFn, Nat.reduceLT, symM, g12, g13, bin_lss, decide_eq_false (show ¬ (i : Int) < (ns.length : Nat) by simp at hi; omega)]
      rfl
    · simp only [symM, Nat.reduceBEq, g0]
  | cons n l ih =>
    intro i bs h tm N hd hi hN hpg hr g0 g1 g2 g11 g12 g13
    obtain ⟨N, rfl⟩ : ∃ a, N = a + 60 := ⟨N - 60, by simp at hN; omega⟩
    have hx1 : ns[i]? = some n := by have := congrArg (fun l => l[0]?) hd; simpa using this
    have hil : i < ns.length := (List.getElem?_eq_some_iff.1 hx1).1
    have hlt := decide_eq_true (show (i : Int) < (ns.length : Nat) by omega)
    have hmul : (i + 1) * size ≤ ns.length * size := Nat.mul_le_mul_right _ hil
    have hexp : (i + 1) * size = i * size + size := Nat.succ_mul _ _
    obtain ⟨q, i1, i2⟩ := (boxRow hr).at und_ints sz_int agg_int (i := i) (x := iv n) (by simp [intsV, hx1])
    have hcast : ((i : Int) * (size : Int)) = ((i * size : Nat) : Int) := by rw [Int.natCast_mul]
    have w1 : IntKind.i64.wrap ((i : Int) * (size : Int)) = ((i * size : Nat) : Int) := by rw [hcast]; exact wz (by omega)
    have w2 : IntKind.i64.wrap ((at_ : Int) + ((i * size : Nat) : Int)) = ((at_ + i * size : Nat) : Int) := wadd (by omega)
    have w3 : IntKind.i64.wrap (((at_ + i * size : Nat) : Int) + (size : Int)) = ((at_ + i * size + size : Nat) : Int) := wadd (by omega)
    have hc : ∀ h, evSliceX T0 57 (.slice (some ⟨p, 0, none⟩) 64 64) (some (iv ((at_ + i * size : Nat) : Int))) (some (iv ((at_ + i * size + size : Nat) : Int))) none h = some (.slice (some ⟨p, at_ + i * size, none⟩) size (64 - (at_ + i * size)), h) := fun h => by
      rw [cut_b (by omega) (by omega) (by omega), show at_ + i * size + size - (at_ + i * size) = size by omega]
    obtain ⟨hb1, hb2, hb3, hb4⟩ := hpg
    obtain ⟨h', c1, c2, c3⟩ := hP n p (at_ + i * size) size (64 - (at_ + i * size)) bs h hs (by omega) hb2
    have hn32 := hn n (List.mem_of_getElem? hx1)
    have hr' : BoxL h' lb 3 (intsV ns) := hr.one c3 hlb
    have hpg' : PageV h' b p (setAt bs (at_ + i * size) (leN n size)) := ⟨hb1.one c3 hbp, c2, by rw [setAt_len (by rw [leN_len]; omega)]; exact hb3, setAt_lt hb4 (fun x hx => leN_lt hx)⟩
    rw [show N + 60 = (N + 59) + 1 from rfl, codeB_loop]
    simp only [bodySt, part, Tryz.f134, sub, symM, opFn, Nat.reduceLT, Nat.reduceBEq, symM, g0, g1, g2, g11, g12, g13, bin_lss, hlt, i1, i2, nil_pv, field_Pg, hb1.load agg_bytes (i := 0) rfl, bin_mul, w1, bin_add, w2, w3, ev3, evOpt, hc, conv_i2i und_int und_u32', wu32 hn32, evCall_fn ft162 rfl, c1, wadd1 (show i ≤ 400000 by omega)]
    obtain ⟨t, hh, u1, u2, u3, u4⟩ := ih (i + 1) _ h' (((((((((((((((((((((((((((tm.set 14 (.bool true)).set 15 (iv i)).set 16 q).set 17 (iv n)).set 9 (iv i)).set 10 (iv n)).set 18 (pv b 0)).set 19 (pv b 0)).set 20 (pv b 0)).set 21 (.slice (some ⟨p, 0, none⟩) 64 64)).set 22 (iv at_)).set 23 (iv i)).set 24 (iv size)).set 25 (iv ((i * size : Nat) : Int))).set 26 (iv ((at_ + i * size : Nat) : Int))).set 27 (iv at_)).set 28 (iv i)).set 29 (iv size)).set 30 (iv ((i * size : Nat) : Int))).set 31 (iv ((at_ + i * size : Nat) : Int))).set 32 (iv size)).set 33 (iv ((at_ + i * size + size : Nat) : Int))).set 34 (.slice (some ⟨p, at_ + i * size, none⟩) size (64 - (at_ + i * size)))).set 35 (iv n)).set 36 (wv n)).set 37 (.tuple #[])).set 38 (iv ((i + 1 : Nat) : Int)) |>.set 13 (iv ((i + 1 : Nat) : Int))) (N + 59) (by rw [← List.drop_drop, hd]; rfl) (by simp at hi ⊢; omega) (by simp at hN ⊢; omega) hpg' hr'
      (by simp only [symM, Nat.reduceBEq, g0]) (by simp only [symM, Nat.reduceBEq, g1]) (by simp only [symM, Nat.reduceBEq, g2]) (by simp only [symM, Nat.reduceBEq, g11]) (by simp only [symM, Nat.reduceBEq, g12]) get_same
    refine ⟨t, hh, u1, u2, ?_, c3.trans u4⟩
    rw [setsAt, show at_ + i * size + size = at_ + (i + 1) * size by omega]
    exact u3
theorem SetV_S (hP : PutVC call) (b p at_ size lb : Nat) (ns bs : List Nat) (h : AH) (hbp : b ≠ p) (hs : size ≤ 4) (ha : at_ + ns.length * size ≤ 60) (hn : ∀ n ∈ ns, n < 4294967296) (hL : ns.length < 100) (hpg : PageV h b p bs) (hr : BoxL h lb 3 (intsV ns)) (hlb : lb ≠ p) :
    ∃ h', frameB T0 X0 call 3000 134 [pv b 0, iv at_, iv size, listV lb ns] h = some (pv b 0, h') ∧ PageV h' b p (setsAt size bs at_ ns) ∧ One p h h' := by
  have hlen : ∀ ty h', evBuiltin T0 .len #[31] ty [listV lb ns] h' = some (.value (iv ns.length), h') := fun ty h' => len_slice und_ints
  rw [frameB_eq ft134 rfl rfl]
  simp only [Tryz.f134, symM, opFn, Nat.reduceLT, Nat.reduceBEq, symL, symM, hlen]
  generalize hX : codeB T0 X0 call _ ESt (.loop _) _ _ _ = X
  obtain ⟨t1, h1, e1, e2, e3, e4⟩ := use_exit hX (setL hP b p at_ size lb ns hbp hs ha hn hL hlb ns 0 bs h _ _ rfl (by simp) (by omega) hpg hr (by simp only [symM, Nat.reduceBEq]) (by simp only [symM, Nat.reduceBEq]) (by simp only [symM, Nat.reduceBEq]) (by simp only [symM, Nat.reduceBEq]) (by simp only [symM, Nat.reduceBEq]) (by simp only [symM]; rfl))
  clear hX
  subst e1
  rw [Nat.zero_mul, Nat.add_zero] at e3
  refine ⟨h1, ?_, e3, e4⟩
  simp only [symM, opFn, Nat.reduceLT, symL, symM, e2]
  exact retB_one ft134 rfl get_same
end
end Go.Proofs.YtjdhdhmoedlfdaaGreat.Abs
namespace Go.Proofs.YtjdhdhmoedlfdaaGreat.Abs
open Go Go.Proofs
noncomputable section
variable {call : Abs.Callee}
set_option maxRecDepth 10000
def OwnB (p : Nat) (h : AH) (v : Value) (bs : List Nat) : Prop :=
  ∃ c kd cap, v = .slice (some ⟨p, 0, none⟩) bs.length cap ∧ h.get p = some (.cells c bs.length 5 0 0 kd) ∧ (∀ (i : Nat) (x : Value), (bytesV bs)[i]? = some x → c.get i = some x) ∧ ((kd = .ex ∧ cap = bs.length) ∨ (kd = .loose ∧ cap = XB + bs.length))
theorem OwnB.own {n p : Nat} {h : AH} {v : Value} {bs : List Nat} (ho : OwnB p h v bs) (hp : p < h.next) (hn : n ≤ p) : Own n h v (bytesV bs) 5 := by
  obtain ⟨c, kd, cap, h1, h2, h3, h4⟩ := ho
  exact .inr ⟨p, c, kd, cap, hn, hp, by rw [bytesV_len]; exact h1, by rw [bytesV_len]; exact h2, h3, by rw [bytesV_len]; exact h4⟩
theorem OwnB.row {p : Nat} {h : AH} {v : Value} {bs : List Nat} (ho : OwnB p h v bs) : Row (p + 1) h v (bytesV bs) 5 := by
  obtain ⟨c, kd, cap, h1, h2, h3, h4⟩ := ho
  exact .inr ⟨p, 0, cap, c, _, 0, 0, kd, _, by rw [bytesV_len]; exact h1, Nat.lt_succ_self _, h2, by rw [bytesV_len]; omega, fun i x hi => by rw [Nat.zero_add]; exact h3 i x hi⟩
theorem Own.toB {n : Nat} {h : AH} {v : Value} {bs : List Nat} (ho : Own n h v (bytesV bs) 5) (h0 : bs.length ≠ 0) : ∃ p, n ≤ p ∧ p < h.next ∧ OwnB p h v bs := by
  rcases ho with ⟨_, q⟩ | ⟨p, c, kd, cap, h1, h2, h3, h4, h5, h6⟩
  · have := congrArg List.length q
    rw [bytesV_len] at this
    exact absurd this h0
  · rw [bytesV_len] at h3 h4 h6
    exact ⟨p, h1, h2, c, kd, cap, h3, h4, h5, h6⟩
theorem OwnB.keep {p : Nat} {h h' : AH} {v : Value} {bs : List Nat} (ho : OwnB p h v bs) (e : h'.get p = h.get p) : OwnB p h' v bs := by
  obtain ⟨c, kd, cap, h1, h2, h3⟩ := ho
  exact ⟨c, kd, cap, h1, e.trans h2, h3⟩
theorem OwnB.grow {n p : Nat} {h h' : AH} {v : Value} {bs : List Nat} (ho : OwnB p h v bs) (g : Grow n h h') (hp : p < n) : OwnB p h' v bs := ho.keep (g.keep p hp)
theorem OwnB.one1 {p : Nat} {h : AH} {v : Value} {bs : List Nat} (ho : OwnB p h v bs) : oneCell v = true ∧ v.cells.toList = [v] ∧ eqV v v = true := by
  obtain ⟨c, kd, cap, rfl, _⟩ := ho
  exact ⟨rfl, rfl, eqV_slice⟩
theorem BlkV.ownB {h : AH} {p : Nat} {bs : List Nat} (hb : BlkV h p bs) : OwnB p h (.slice (some ⟨p, 0, none⟩) bs.length bs.length) bs := by
  obtain ⟨c, h1, h2⟩ := hb
  rw [bytesV_len] at h1
  exact ⟨c, .ex, bs.length, rfl, h1, h2, .inl ⟨rfl, rfl⟩⟩
theorem nil_eqB {p : Nat} {h : AH} {v : Value} {bs : List Nat} (ho : OwnB p h v bs) {a b : Operand} {h' : AH} : evBin T0 .eql 57 a b v nilV h' = some (.bool false) := by
  obtain ⟨c, kd, cap, rfl, _⟩ := ho
  kernel_rfl
theorem bs_b0 {h : AH} : evBuildSlice T0 57 0 [] h = some (.slice (some ⟨h.next, 0, none⟩) 0 0, h.new (.cells (PM.ofList []) 0 5 0 0 .ex)) := by kernel_rfl
theorem app_first {p : Nat} {h : AH} {v : Value} {bs : List Nat} (ho : OwnB p h v bs) (hp : p < h.next) (h0 : bs.length ≠ 0) (hl : bs.length < 1000) (ty : TypeId) :
    ∃ v' p' h', evBuiltin T0 .append #[57, 57] ty [.slice (some ⟨h.next, 0, none⟩) 0 0, v] (h.new (.cells (PM.ofList []) 0 5 0 0 .ex)) = some (.value v', h') ∧ h.next ≤ p' ∧ p' < h'.next ∧ OwnB p' h' v' bs ∧ Grow h.next h h' := by
  have g1 := Grow.new h (.cells (PM.ofList []) 0 5 0 0 .ex)
  have ho1 : OwnC 1 h.next (h.new (.cells (PM.ofList []) 0 5 0 0 .ex)) (.slice (some ⟨h.next, 0, none⟩) 0 0) 0 [] 5 := .inr ⟨h.next, PM.ofList [], .ex, 0, Nat.le_refl _, Nat.lt_succ_self _, rfl, get_new_same _ _, rfl, fun i x hx => by simp at hx, .inl ⟨rfl, rfl⟩⟩
  obtain ⟨c, kd, cap, rfl, c1, c2, _⟩ := ho.grow g1 hp
  obtain ⟨v', h', e1, e2, e3, e4, e5⟩ := append_gen und_bytes tt_u8 ti_u8.1 ti_u8.2.1 ti_u8.2.2 ho1 (appended_slice (k := bs.length) (cap := cap) (new := bytesV bs) und_bytes c1 (by rw [bytesV_len, ti_u8.2.1, Nat.mul_one]) (by rw [ti_u8.2.1]; omega) c2) (by rw [bytesV_len, Nat.mul_one]) (bytesV_one bs) (by omega) g1.next ty
  have e2' : Own h.next h' v' (bytesV bs) 5 := by have := e2.own; simpa using this
  obtain ⟨p', q1, q2, q3⟩ := e2'.toB h0
  exact ⟨v', p', h', e1, q1, q2, q3, g1.trans e3 (Nat.le_refl _)⟩
theorem BCloneV_S (p : Nat) (v : Value) (bs : List Nat) (h : AH) (ho : OwnB p h v bs) (hp : p < h.next) (h0 : bs.length ≠ 0) (hl : bs.length < 1000) :
    ∃ v' p' h', frameB T0 X0 call 3000 29 [v] h = some (v', h') ∧ h.next ≤ p' ∧ p' < h'.next ∧ OwnB p' h' v' bs ∧ Grow h.next h h' := by
  obtain ⟨v', p', h', e1, e2⟩ := app_first ho hp h0 hl 57
  refine ⟨v', p', h', ?_, e2⟩
  rw [frameB_eq ft29 rfl rfl]
  simp only [Tryz.f29, symM, opFn, Nat.reduceLT, Nat.reduceBEq, symM, nil_eqB ho, bs_b0, e1]
  exact retB_one ft29 rfl get_same
abbrev BCloneC (call : Abs.Callee) : Prop := ∀ (p : Nat) (v : Value) (bs : List Nat) (h : AH), OwnB p h v bs → p < h.next → bs.length ≠ 0 → bs.length < 1000 → ∃ v' p' h', call 29 [v] h = some (v', h') ∧ h.next ≤ p' ∧ p' < h'.next ∧ OwnB p' h' v' bs ∧ Grow h.next h h'
abbrev SumC (call : Abs.Callee) (f : Nat) : Prop := ∀ (bs : List Nat) (v : Value) (h : AH), (∀ x ∈ bs, x < 256) → bs.length ≤ 1000 → Row h.next h v (bytesV bs) 5 → call f [v] h = some (wv (spinU (spinN bs)), h)
def sealB (bs : List Nat) : List Nat := bs.take 60 ++ leN (spinU (spinN (bs.take 60))) 4
theorem sealB_len {bs : List Nat} (h : 60 ≤ bs.length) : (sealB bs).length = 64 := by unfold sealB; simp [leN_len]; omega
theorem sealB_lt {bs : List Nat} (h : ∀ x ∈ bs, x < 256) : ∀ x ∈ sealB bs, x < 256 := by
  intro x hx
  unfold sealB at hx
  rcases List.mem_append.1 hx with hx | hx
  · exact h x (List.mem_of_mem_take hx)
  · exact leN_lt hx
theorem plan_Seal : planB (regOps Tryz.f109 [1, 1, 1, 0]) 17 = some ([.one 0, .one 1, .one 2, .one 3, .eff [] 4 [0, 1], .eff [] 5 []], []) := by kernel_rfl
theorem setAt_tail {bs l : List Nat} (h : bs.length = 64) (hl : l.length = 4) : setAt bs 60 l = bs.take 60 ++ l := by
  unfold setAt
  rw [hl, List.drop_eq_nil_of_le (by omega), List.append_nil]
theorem own_cut60 {p : Nat} {h : AH} {v : Value} {bs : List Nat} (hl : bs.length = 64) (ho : OwnB p h v bs) : ∃ capw, evSliceX T0 57 v (some (iv 60)) none none h = some (.slice (some ⟨p, 60, none⟩) 4 capw, h) := by
  obtain ⟨c, kd, cap, rfl, h2, h3, h4⟩ := ho
  rw [hl] at h2 h4 ⊢
  rcases h4 with ⟨rfl, rfl⟩ | ⟨rfl, rfl⟩
  · exact ⟨4, cut_b1 (lo := 60) (by omega)⟩
  · refine ⟨XB + 4, ?_⟩
    have hbnd : boundsA 64 64 (some (iv ((60 : Nat) : Int))) none none = some (60, 64, 64) := rfl
    have hls : looseSz T0 h p 1 = true := by
      unfold looseSz
      rw [h2]
      simp only [sz_u8]
      rfl
    show evSliceX T0 57 (.slice (some ⟨p, 0, none⟩) 64 (XB + 64)) (some (iv ((60 : Nat) : Int))) none none h = _
    simp only [evSliceX, evSlice, und_bytes, sz_u8, evSliceS, capOf_ge, hbnd, Nat.ble_eq_true_of_le (Nat.le_refl 64), ifB_true, Nat.ble_eq_true_of_le (show XB ≤ XB + 64 by omega), hls, offS, show Nat.beq 64 60 = false from rfl, ifB_false]
theorem OwnB.storeAt {p i x : Nat} {h : AH} {v : Value} {bs : List Nat} (ho : OwnB p h v bs) (hp : p < h.next) (hi : i < bs.length) : ∃ h', evStore T0 5 (pv p i) (bv x) h = some h' ∧ OwnB p h' v (bs.set i x) ∧ One p h h' := by
  obtain ⟨y, hy⟩ : ∃ y, (bytesV bs)[i]? = some y := ⟨_, List.getElem?_eq_getElem (by rw [bytesV_len]; omega)⟩
  obtain ⟨pp, h', s1, s2, s3, s4, s5, s6⟩ := (ho.own hp (Nat.le_refl p)).store2 und_bytes sz_u8 (x := bv x) rfl hy
  obtain ⟨c, kd, cap, rfl, h2, h3, h4⟩ := ho
  have s1' : evIndexAddr T0 57 (.slice (some ⟨p, 0, none⟩) bs.length cap) (iv (i : Int)) = some (pv p (0 + i * 1)) := idx_slice und_bytes sz_u8 hi
  rw [s1'] at s1
  cases s1
  rw [show 0 + i * 1 = i by omega] at s2
  rw [show (bytesV bs).set i (bv x) = bytesV (bs.set i x) by unfold bytesV; rw [List.map_set]] at s3
  obtain ⟨p', q1, q2, c', kd', cap', q3, q4⟩ := s3.toB (by rw [List.length_set]; omega)
  have : p' = p := by
    rw [List.length_set] at q3
    injection q3 with q3; injection q3 with q3; injection q3 with q3; exact q3.symm
  subst this
  exact ⟨h', s2, ⟨c', kd', cap', q3, q4⟩, s5, evStore_keep s2⟩
end
end Go.Proofs.YtjdhdhmoedlfdaaGreat.Abs
namespace Go.Proofs.YtjdhdhmoedlfdaaGreat.Abs
open Go Go.Proofs
noncomputable section
variable {call : Abs.Callee}
set_option maxRecDepth 10000
theorem putI (P : Nat → AH → Prop) (n p o l cap : Nat) (hl : l ≤ 4) (hst : ∀ h i, P i h → i < l → ∃ h', evStore T0 5 (pv p (o + i * 1)) (bv (n / 256 ^ i % 256)) h = some h' ∧ P (i + 1) h' ∧ One p h h') : ∀ (k i : Nat) (h : AH) (tm : PM Value) (N : Nat), i + k = l → k + 30 ≤ N → P i h →
    tm.get 0 = some (.slice (some ⟨p, o, none⟩) l cap) → tm.get 1 = some (wv n) → tm.get 6 = some (iv l) → tm.get 7 = some (iv i) →
    ∃ tm' h', codeB T0 X0 call N Eput (.loop bodyput) tm h [] = .jump (.exit 0) tm' h' [] ∧ (P l h' ∧ One p h h') := by
  intro k
  induction k with
  | zero =>
    intro i h tm N hi hN ho g0 g1 g6 g7
    obtain ⟨N, rfl⟩ : ∃ a, N = a + 30 := ⟨N - 30, by omega⟩
    have hil : i = l := by omega
    subst hil
    apply Exists.intro; apply Exists.intro; apply And.intro
    · rw [codeB_loop]
      simp only [bodyput, part, Tryz.f162, sub, symM, opFn, Nat.reduceLT, g6, g7, bin_lss, decide_eq_false (show ¬ (i : Int) < (i : Nat) by omega)]
      rfl
    · exact ⟨ho, One.refl _ _⟩
  | succ k ih =>
    intro i h tm N hi hN ho g0 g1 g6 g7
    obtain ⟨N, rfl⟩ : ∃ a, N = a + 30 := ⟨N - 30, by omega⟩
    obtain ⟨h1, e2, e3, e4⟩ := hst h i ho (by omega)
    have e1 : evIndexAddr T0 57 (.slice (some ⟨p, o, none⟩) l cap) (iv i) = some (pv p (o + i * 1)) := idx_slice und_bytes sz_u8 (by omega)
    obtain ⟨tm2, h2, q1, q3, q4⟩ := ih (i + 1) h1
      (((((((((((tm.set 8 (.bool true)).set 9 (iv i)).set 4 (iv i)).set 10 (.slice (some ⟨p, o, none⟩) l cap)).set 11 (iv i)).set 12 (wv n)).set 13 (iv i)).set 14 (iv (8 * i : Nat))).set 15 (wv (n / 256 ^ i : Nat))).set 16 (.int .u8 (n / 256 ^ i % 256 : Nat))).set 17 (pv p (o + i * 1)) |>.set 18 (iv ((i + 1 : Nat) : Int)) |>.set 7 (iv ((i + 1 : Nat) : Int))) (N + 29) (by omega) (by omega) e3
      (by simp only [symM, Nat.reduceBEq, g0]) (by simp only [symM, Nat.reduceBEq, g1]) (by simp only [symM, Nat.reduceBEq, g6]) get_same
    refine ⟨tm2, h2, ?_, q3, e4.trans q4⟩
    rw [show N + 30 = (N + 29) + 1 from rfl, codeB_loop, ← q1]
    have m8 : IntKind.i64.wrap (8 * (i : Int)) = ((8 * i : Nat) : Int) := by rw [wz (by omega)]; omega
    have s8 : ∀ p q h, evBin T0 .shr 122 p q (wv n) (iv (8 * i : Nat)) h = some (wv (n / 256 ^ i : Nat)) := fun p q h => by
      rw [bin_shr (show 8 * i < IntKind.u32.bits by show 8 * i < 32; omega), shr_pow]
    simp only [bodyput, part, Tryz.f162, sub, symM, opFn, Nat.reduceLT, Nat.reduceBEq, symM, g0, g1, g6, g7, bin_lss, decide_eq_true (show (i : Int) < (l : Nat) by omega), conv_i2i und_u32' und_u8, bin_mul, m8, s8, wu8m, e1, e2, bin_add, wadd1 (show i ≤ 400000 by omega)]
theorem putI_S (P : Nat → AH → Prop) (n p o l cap : Nat) (hl : l ≤ 4) (hst : ∀ h i, P i h → i < l → ∃ h', evStore T0 5 (pv p (o + i * 1)) (bv (n / 256 ^ i % 256)) h = some h' ∧ P (i + 1) h' ∧ One p h h') (h : AH) (hb : P 0 h) :
    ∃ h', frameB T0 X0 call 3000 162 [.slice (some ⟨p, o, none⟩) l cap, wv n] h = some (.tuple #[], h') ∧ P l h' ∧ One p h h' := by
  rw [frameB_eq ft162 rfl rfl]
  have hlen : ∀ ty h', evBuiltin T0 .len #[57] ty [.slice (some ⟨p, o, none⟩) l cap] h' = some (.value (iv l), h') := fun ty h' => len_slice und_bytes
  simp only [Tryz.f162, symM, opFn, Nat.reduceLT, symL, hlen]
  generalize hX : codeB T0 X0 call _ Eput (.loop _) _ _ _ = X
  obtain ⟨t1, h1, e1, e3, e4⟩ := use_exit hX (putI P n p o l cap hl hst l 0 h _ _ (by omega) (by omega) hb (by simp only [symM, Nat.reduceBEq]) (by simp only [symM, Nat.reduceBEq]) (by simp only [symM, Nat.reduceBEq]) (by simp only [symM]; rfl))
  clear hX
  subst e1
  refine ⟨h1, ?_, e3, e4⟩
  simp only [symM, symL]
  exact retB_zero ft162 rfl
abbrev PutIC (call : Abs.Callee) : Prop := ∀ (P : Nat → AH → Prop) (n p o l cap : Nat) (h : AH), l ≤ 4 → (∀ h i, P i h → i < l → ∃ h', evStore T0 5 (pv p (o + i * 1)) (bv (n / 256 ^ i % 256)) h = some h' ∧ P (i + 1) h' ∧ One p h h') → P 0 h →
  ∃ h', call 162 [.slice (some ⟨p, o, none⟩) l cap, wv n] h = some (.tuple #[], h') ∧ P l h' ∧ One p h h'
theorem SealV_S (hCl : BCloneC call) (hSum : SumC call 76) (hP : PutIC call) (p : Nat) (bs : List Nat) (h : AH) (hl : bs.length = 64) (hb : ∀ x ∈ bs, x < 256) (ho : BlkV h p bs) (hp : p < h.next) :
    ∃ v' p' h', frameB T0 X0 call 3000 109 [.slice (some ⟨p, 0, none⟩) 64 64] h = some (.tuple #[v', iv 0], h') ∧ h.next ≤ p' ∧ p' < h'.next ∧ OwnB p' h' v' (sealB bs) ∧ Grow h.next h h' := by
  have hob := ho.ownB
  rw [hl] at hob
  obtain ⟨v1, q, h1, c1, q1, q2, o1, g1⟩ := hCl p (.slice (some ⟨p, 0, none⟩) 64 64) bs h hob hp (by omega) (by omega)
  obtain ⟨capw, hcut⟩ := own_cut60 hl o1
  have hb1 : BlkV h1 p bs := ho.grow g1 hp
  have hcut2 : evSliceX T0 57 (.slice (some ⟨p, 0, none⟩) 64 64) none (some (iv 60)) none h1 = some (.slice (some ⟨p, 0, none⟩) 60 64, h1) := cut_b0 (hi := 60) (by omega)
  have hrow : Row h1.next h1 (.slice (some ⟨p, 0, none⟩) 60 64) (bytesV (bs.take 60)) 5 := by
    obtain ⟨c, d1, d2⟩ := hb1
    refine .inr ⟨p, 0, 64, c, _, 0, 0, .ex, _, by rw [bytesV_len, List.length_take, hl]; rfl, Nat.lt_of_lt_of_le hp g1.next, d1, by rw [bytesV_len, bytesV_len, List.length_take, hl]; decide, fun i x hi => ?_⟩
    rw [Nat.zero_add]
    refine d2 i x ?_
    unfold bytesV at hi ⊢
    rw [List.map_take] at hi
    rw [List.getElem?_take] at hi
    split at hi
    · exact hi
    · cases hi
  have hs := hSum (bs.take 60) (.slice (some ⟨p, 0, none⟩) 60 64) h1 (fun x hx => hb x (List.mem_of_mem_take hx)) (by simp; omega) hrow
  have hnx := q2
  have P1 := hP (fun i h => h.next = h1.next ∧ OwnB q h v1 (setAt bs 60 (leF (spinU (spinN (bs.take 60))) 0 i))) (spinU (spinN (bs.take 60))) q 60 4 capw h1 (by omega) (by
    rintro h i ⟨hn, hL⟩ hi
    have hli : (leF (spinU (spinN (bs.take 60))) 0 i).length = i := by simp [leF]
    obtain ⟨h', s1, s2, s3⟩ := hL.storeAt (i := 60 + i * 1) (x := spinU (spinN (bs.take 60)) / 256 ^ i % 256) (by omega) (by rw [setAt_len (by omega)]; omega)
    refine ⟨h', s1, ⟨s3.next.trans hn, ?_⟩, s3⟩
    rw [leF_snoc, ← setAt_snoc (by omega), hli]
    have e : ∀ (l : List Nat) (j x : Nat), j < l.length → l.set j x = setAt l j [x] := by
      intro l j x hj
      unfold setAt
      rw [List.set_eq_take_append_cons_drop, if_pos hj]
      simp
    rw [e _ _ _ (by rw [setAt_len (by omega)]; omega), Nat.mul_one] at s2
    exact s2) ⟨rfl, by rw [show leF (spinU (spinN (bs.take 60))) 0 0 = [] from rfl, setAt_nil]; exact o1⟩
  obtain ⟨h2, e1, ⟨_, e2⟩, e3⟩ := P1
  have e2 : OwnB q h2 v1 (sealB bs) := by
    have : setAt bs 60 (leF (spinU (spinN (bs.take 60))) 0 4) = sealB bs := by
      rw [setAt_tail hl (by simp [leF])]; rfl
    rw [← this]; exact e2
  have g2 : Grow h.next h1 h2 := e3.grow q1
  refine ⟨v1, q, h2, ?_, q1, by rw [e3.next]; exact q2, e2, g1.trans g2 (Nat.le_refl _)⟩
  have hp4 := plan_Seal
  simp only [regOps, part, Tryz.f109, sub] at hp4
  have hlen : ∀ ty h', evBuiltin T0 .len #[57] ty [.slice (some ⟨p, 0, none⟩) 64 64] h' = some (.value (iv 64), h') := fun ty h' => len_slice und_bytes
  rw [frameB_eq ft109 rfl rfl]
  simp only [Tryz.f109, symM, opFn, Nat.reduceLT, Nat.reduceBEq, symM, hlen, bin_neq, show ((64 : Int) == 64) = true from rfl, evCall_fn ft29 rfl, c1]
  rw [codeB_draw, draw_plan hp4 rfl]
  simp only [drawAll, opFn, Nat.reduceLT, Nat.reduceBEq, ev3, evOpt, hcut, hcut2, o1.one1.2.2, evCall_fn ft76 rfl, hs, effE_cons, evCall_fn ft162 rfl, e1]
  exact retB_two ft109 rfl (by simp only [symM, Nat.reduceBEq]) get_same
theorem PSealV_S (hS : ∀ (p : Nat) (bs : List Nat) (h : AH), bs.length = 64 → (∀ x ∈ bs, x < 256) → BlkV h p bs → p < h.next → ∃ v' p' h', call 109 [.slice (some ⟨p, 0, none⟩) 64 64] h = some (.tuple #[v', iv 0], h') ∧ h.next ≤ p' ∧ p' < h'.next ∧ OwnB p' h' v' (sealB bs) ∧ Grow h.next h h')
    (b p : Nat) (bs : List Nat) (h : AH) (hpg : PageV h b p bs) (hp : p < h.next) :
    ∃ v' p' h', frameB T0 X0 call 3000 47 [pv b 0] h = some (v', h') ∧ h.next ≤ p' ∧ p' < h'.next ∧ OwnB p' h' v' (sealB bs) ∧ Grow h.next h h' := by
  obtain ⟨hb1, hb2, hb3, hb4⟩ := hpg
  obtain ⟨v', p', h', c1, c2⟩ := hS p bs h hb3 hb4 hb2 hp
  refine ⟨v', p', h', ?_, c2⟩
  rw [frameB_eq ft47 rfl rfl]
  simp only [Tryz.f47, symM, opFn, Nat.reduceLT, Nat.reduceBEq, symM, nil_pv, field_Pg, hb1.load agg_bytes (i := 0) rfl, evCall_fn ft109 rfl, c1]
  exact retB_one ft47 rfl get_same
end
end Go.Proofs.YtjdhdhmoedlfdaaGreat.Abs
namespace Go.Proofs.YtjdhdhmoedlfdaaGreat.Abs
open Go Go.Proofs
noncomputable section
variable {call : Abs.Callee}
set_option maxRecDepth 10000
theorem ft136 : T0.ft.get 136 = some Tryz.f136 := by kernel_rfl
theorem ft133 : T0.ft.get 133 = some Tryz.f133 := by kernel_rfl
theorem ft74 : T0.ft.get 74 = some Tryz.f74 := by kernel_rfl
theorem ft64 : T0.ft.get 64 = some Tryz.f64 := by kernel_rfl
theorem ft65 : T0.ft.get 65 = some Tryz.f65 := by kernel_rfl
def supL (b f : Nat) : List Value := [iv b, iv f, iv 0, iv 0, iv 0]
def supV (b f : Nat) : Value := .agg (supL b f).toArray
theorem sz_Sup : szOf T0 36 = some 5 := by kernel_rfl
theorem agg_Sup : aggT T0 36 = some true := by kernel_rfl
theorem field_S {b o : Nat} : evFieldAddr T0 36 (pv b o) 0 = some (pv b o) ∧ evFieldAddr T0 36 (pv b o) 1 = some (pv b (o + 1)) ∧ evFieldAddr T0 36 (pv b o) 2 = some (pv b (o + 2)) ∧ evFieldAddr T0 36 (pv b o) 3 = some (pv b (o + 3)) ∧ evFieldAddr T0 36 (pv b o) 4 = some (pv b (o + 4)) :=
  ⟨by kernel_rfl, by kernel_rfl, by kernel_rfl, by kernel_rfl, by kernel_rfl⟩
def SupB (h : AH) (p b f : Nat) : Prop := BoxL h p 36 (supL b f)
theorem SupB.loads {h : AH} {p b f : Nat} (hb : SupB h p b f) : evLoad T0 3 (pv p 0) h = some (iv b) ∧ evLoad T0 3 (pv p (0 + 1)) h = some (iv f) ∧ evLoad T0 3 (pv p (0 + 2)) h = some (iv 0) ∧ evLoad T0 3 (pv p (0 + 3)) h = some (iv 0) ∧ evLoad T0 3 (pv p (0 + 4)) h = some (iv 0) ∧ evLoad T0 36 (pv p 0) h = some (supV b f) :=
  ⟨BoxL.load hb agg_int rfl, BoxL.load hb agg_int rfl, BoxL.load hb agg_int rfl, BoxL.load hb agg_int rfl, BoxL.load hb agg_int rfl, BoxL.loadA (o := 0) (ws := supL b f) hb agg_Sup sz_Sup (Nat.le_refl _) (fun i x hi => by rw [Nat.zero_add]; exact hi)⟩
abbrev NewPageC (call : Abs.Callee) : Prop := ∀ (nm : List Nat) (h : AH), nm.length ≤ 64 → nm ≠ [] → (∀ x ∈ nm, x < 256) → ∃ b p h', call 46 [strB nm] h = some (pv b 0, h') ∧ h.next ≤ b ∧ h.next ≤ p ∧ b ≠ p ∧ b < h'.next ∧ p < h'.next ∧ PageV h' b p (setAt (List.replicate 64 0) 0 nm) ∧ Grow h.next h h'
abbrev SetVC (call : Abs.Callee) : Prop := ∀ (b p at_ size lb : Nat) (ns bs : List Nat) (h : AH), b ≠ p → size ≤ 4 → at_ + ns.length * size ≤ 60 → (∀ n ∈ ns, n < 4294967296) → ns.length < 100 → PageV h b p bs → BoxL h lb 3 (intsV ns) → lb ≠ p →
  ∃ h', call 134 [pv b 0, iv at_, iv size, listV lb ns] h = some (pv b 0, h') ∧ PageV h' b p (setsAt size bs at_ ns) ∧ One p h h'
abbrev PSealC (call : Abs.Callee) : Prop := ∀ (b p : Nat) (bs : List Nat) (h : AH), PageV h b p bs → p < h.next → ∃ v' p' h', call 47 [pv b 0] h = some (v', h') ∧ h.next ≤ p' ∧ p' < h'.next ∧ OwnB p' h' v' (sealB bs) ∧ Grow h.next h h'
theorem PageV.one {h h' : AH} {b p q : Nat} {bs : List Nat} (hp : PageV h b p bs) (o : One q h h') (h1 : b ≠ q) (h2 : p ≠ q) : PageV h' b p bs := ⟨hp.1.one o h1, BoxL.one hp.2.1 o h2, hp.2.2⟩
theorem set_one (hS : SetVC call) (b p at_ size n0 : Nat) (ns bs : List Nat) (h : AH) (hbp : b ≠ p) (hn0b : n0 ≤ p) (hs : size ≤ 4) (ha : at_ + ns.length * size ≤ 60) (hn : ∀ n ∈ ns, n < 4294967296) (hL : ns.length < 100) (hb : b < h.next) (hp : p < h.next) (hpg : PageV h b p bs) :
    ∃ h2, call 134 [pv b 0, iv at_, iv size, .slice (some ⟨h.next, 0, none⟩) ns.length ns.length] (h.new (.cells (PM.ofList (intsV ns)) (intsV ns).length 3 0 0 .ex)) = some (pv b 0, h2) ∧ PageV h2 b p (setsAt size bs at_ ns) ∧ h.next < h2.next ∧ Grow n0 h h2 := by
  have g1 := Grow.new h (.cells (PM.ofList (intsV ns)) (intsV ns).length 3 0 0 .ex)
  obtain ⟨h2, e1, e2, e3⟩ := hS b p at_ size h.next ns bs _ hbp hs ha hn hL (hpg.grow g1 hb hp) (BoxL.new _ _ _) (by omega)
  exact ⟨h2, e1, e2, by rw [e3.next]; exact Nat.lt_succ_self _, (g1.less (by omega)).trans (e3.grow hn0b) (Nat.le_refl _)⟩
theorem sz_Head : szOf T0 73 = some 2 := by kernel_rfl
theorem field_H {b : Nat} : evFieldAddr T0 73 (pv b 0) 0 = some (pv b 0) ∧ evFieldAddr T0 73 (pv b 0) 1 = some (pv b 1) := ⟨by kernel_rfl, by kernel_rfl⟩
theorem plan_PH : planB (regOps Tryz.f74 [1, 1, 0]) 24 = some ([.one 1, .one 2, .one 5, .one 6, .eff [] 0 [1, 2, 5, 6], .eff [3] 4 [5, 6], .eff [7] 8 [], .eff [] 9 [], .one 10, .one 11], []) := by kernel_rfl
theorem bs_int3 {a b c : Int} {h : AH} : evBuildSlice T0 31 3 [(0, iv a), (1, iv b), (2, iv c)] h = some (.slice (some ⟨h.next, 0, none⟩) 3 3, h.new (.cells (PM.ofList [iv a, iv b, iv c]) 3 3 0 0 .ex)) := by
  unfold evBuildSlice
  simp only [und_ints, sz_int, zero_int]
  rfl
theorem plan_SuE : planB (regOps Tryz.f64 [1, 1, 0]) 25 = some ([.one 1, .one 2, .one 5, .one 6, .one 7, .one 8, .one 9, .one 10, .one 13, .one 14, .eff [] 0 [1, 2, 5, 6, 7, 8, 9, 10, 13, 14], .eff [3] 4 [5, 6, 7, 8, 9, 10, 13, 14], .eff [11] 12 [13, 14], .eff [15] 16 [], .eff [] 17 [], .one 18, .one 19], []) := by kernel_rfl
end
end Go.Proofs.YtjdhdhmoedlfdaaGreat.Abs
namespace Go.Proofs.YtjdhdhmoedlfdaaGreat.Abs
open Go Go.Proofs
noncomputable section
variable {call : Abs.Callee}
set_option maxRecDepth 10000
theorem ft67 : T0.ft.get 67 = some Tryz.f67 := by kernel_rfl
theorem ft21 : T0.ft.get 21 = some Tryz.f21 := by kernel_rfl
theorem ft82 : T0.ft.get 82 = some Tryz.f82 := by kernel_rfl
noncomputable def bodySl : Code := part Tryz.f67 [1, 1, 0, 0, 0]
abbrev ESl : Env := ⟨67, 20, none⟩
theorem padSl (n1 : Nat) : ∀ (k : Nat) (bs : List Nat) (w : Value) (h : AH) (tm : PM Value) (N : Nat), bs.length + k = 60 → k + 40 ≤ N → n1 ≤ h.next → Own n1 h w (bytesV bs) 5 → tm.get 3 = some w →
    ∃ tm' h', codeB T0 X0 call N ESl (.loop bodySl) tm h [] = .jump (.exit 0) tm' h' [] ∧ ((∃ w', tm'.get 3 = some w' ∧ Own n1 h' w' (bytesV (bs ++ List.replicate k 0)) 5) ∧ Grow n1 h h') := by
  intro k
  induction k with
  | zero =>
    intro bs w h tm N hk hN hn ho g3
    obtain ⟨N, rfl⟩ : ∃ a, N = a + 40 := ⟨N - 40, by omega⟩
    have hl : ∀ ty h', evBuiltin T0 .len #[57] ty [w] h' = some (.value (iv bs.length), h') := fun ty h' => by rw [ho.row.len und_bytes, bytesV_len]
    apply Exists.intro; apply Exists.intro
    refine ⟨?_, ⟨w, ?_, by simpa using ho⟩, Grow.refl _ _⟩
    · rw [codeB_loop]
      simp only [bodySl, part, Tryz.f67, sub, symM, opFn, Nat.reduceLT, symM, g3, hl, bin_lss, decide_eq_false (show ¬ (bs.length : Int) < 60 by omega)]
      rfl
    · simp only [symM, Nat.reduceBEq, g3]
  | succ k ih =>
    intro bs w h tm N hk hN hn ho g3
    obtain ⟨N, rfl⟩ : ∃ a, N = a + 40 := ⟨N - 40, by omega⟩
    have hl : ∀ ty h', evBuiltin T0 .len #[57] ty [w] h' = some (.value (iv bs.length), h') := fun ty h' => by rw [ho.row.len und_bytes, bytesV_len]
    obtain ⟨v1, h1, e1, e2', e3, e4⟩ := app_u8 ho 0 (by omega) hn 57
    have e1 : evBuiltin T0 .append #[57, 57] 57 [w, .slice (some ⟨h.next, 0, none⟩) 1 1] (h.new (.cells (PM.ofList [.int .u8 0]) 1 5 0 0 .ex)) = some (.value v1, h1) := e1
    rw [show N + 40 = (N + 39) + 1 from rfl, codeB_loop]
    simp only [bodySl, part, Tryz.f67, sub, symM, opFn, Nat.reduceLT, Nat.reduceBEq, symM, g3, hl, bin_lss, decide_eq_true (show (bs.length : Int) < 60 by omega), bs_u80, e1]
    rw [List.replicate_succ, show bs ++ 0 :: List.replicate k 0 = (bs ++ [0]) ++ List.replicate k 0 by simp]
    exact wrapE (ih (bs ++ [0]) v1 h1 _ (N + 39) (by simp; omega) (by omega) (Nat.le_trans hn e3.next) (e2'.less hn) get_same) e3
theorem cut_all {n : Nat} {h : AH} {v : Value} {bs : List Nat} (hl : bs.length = 60) (ho : Own n h v (bytesV bs) 5) : evSliceX T0 57 v none (some (iv 60)) none h = some (v, h) := by
  rcases ho with ⟨_, q⟩ | ⟨p, c, kd, cap, h1, h2, rfl, h4, h5, h6⟩
  · have := congrArg List.length q
    rw [bytesV_len, hl] at this; simp at this
  · rw [bytesV_len, hl] at h4 h6 ⊢
    have hbnd : boundsA 60 60 none (some (iv ((60 : Nat) : Int))) none = some (0, 60, 60) := rfl
    rcases h6 with ⟨rfl, rfl⟩ | ⟨rfl, rfl⟩
    · show evSliceX T0 57 (.slice (some ⟨p, 0, none⟩) 60 60) none (some (iv ((60 : Nat) : Int))) none h = _
      simp only [evSliceX, evSlice, und_bytes, sz_u8, evSliceS, capOf_lt (show 60 < XB by rw [XB_val]; omega), hbnd, Nat.ble_eq_true_of_le (Nat.le_refl 60), ifB_true, ble_lt' (show 60 < XB by rw [XB_val]; omega), ifB_false, offS]
      rfl
    · have hls : looseSz T0 h p 1 = true := by
        unfold looseSz
        rw [h4]
        simp only [sz_u8]
        rfl
      show evSliceX T0 57 (.slice (some ⟨p, 0, none⟩) 60 (XB + 60)) none (some (iv ((60 : Nat) : Int))) none h = _
      simp only [evSliceX, evSlice, und_bytes, sz_u8, evSliceS, capOf_ge, hbnd, Nat.ble_eq_true_of_le (Nat.le_refl 60), ifB_true, Nat.ble_eq_true_of_le (show XB ≤ XB + 60 by omega), hls, offS]
      rfl
def sealR (bs : List Nat) : List Nat := pad 60 bs ++ leN (spinU (spinN (pad 60 bs))) 4
abbrev RPutC (call : Abs.Callee) : Prop := ∀ (n size n0 : Nat) (bs : List Nat) (v : Value) (h : AH), n < 4294967296 → size ≤ 4 → bs.length < 400 → n0 ≤ h.next → Own n0 h v (bytesV bs) 5 → ∃ v' h', call 66 [v, iv n, iv size] h = some (v', h') ∧ Own n0 h' v' (bytesV (bs ++ leN n size)) 5 ∧ Grow n0 h h' ∧ (∀ k, k < h.next → Off v k → h'.get k = h.get k) ∧ (0 < size → Own h.next h' v' (bytesV (bs ++ leN n size)) 5)
theorem plan_RS : planB (regOps Tryz.f67 [1, 1, 1, 0]) 20 = some ([.one 0, .one 1, .one 2, .one 3, .eff [] 4 [0, 1], .one 5, .eff [] 6 [], .one 7], []) := by kernel_rfl
theorem rSeal_S (hP : RPutC call) (hSum : SumC call 135) (n0 : Nat) (bs : List Nat) (v : Value) (h : AH) (hl : bs.length ≤ 60) (h0 : bs.length ≠ 0) (hb : ∀ x ∈ bs, x < 256) (ho : Own n0 h v (bytesV bs) 5) :
    ∃ v' h', frameB T0 X0 call 3000 67 [v] h = some (v', h') ∧ Own h.next h' v' (bytesV (sealR bs)) 5 ∧ Grow h.next h h' := by
  obtain ⟨p, p1, p2, p3⟩ := ho.toB h0
  obtain ⟨v1, q, h1, a1, a2, a3, a4, a5⟩ := app_first p3 p2 h0 (by omega) 57
  have o1 : Own h.next h1 v1 (bytesV bs) 5 := a4.own a3 a2
  rw [frameB_eq ft67 rfl rfl]
  simp only [Tryz.f67, symM, opFn, Nat.reduceLT, Nat.reduceBEq, symM, symL, bs_b0, a1]
  generalize hX : codeB T0 X0 call _ ESl (.loop _) _ _ _ = X
  obtain ⟨t2, h2, b1, ⟨w, b2, b3⟩, b4⟩ := use_exit hX (padSl h.next (60 - bs.length) bs v1 h1 _ _ (by omega) (by omega) a5.next o1 get_same)
  clear hX
  subst b1
  have b3 : Own h.next h2 w (bytesV (pad 60 bs)) 5 := b3
  have lp : (pad 60 bs).length = 60 := by unfold pad; simp; omega
  have hs := hSum (pad 60 bs) w h2 (pad_lt hb) (by omega) b3.row
  have hw : IntKind.i64.wrap ((spinU (spinN (pad 60 bs)) : Nat) : Int) = ((spinU (spinN (pad 60 bs)) : Nat) : Int) := by
    have := spinU_lt (pad 60 bs)
    rw [IntWalk.i64_in _ (by omega)]
  have n2 : h.next ≤ h2.next := Nat.le_trans a5.next b4.next
  obtain ⟨v3, h3, c1, c2, c3, _⟩ := hP (spinU (spinN (pad 60 bs))) 4 h.next (pad 60 bs) w h2 (spinU_lt _) (by omega) (by omega) n2 b3
  have c1 : call 66 [w, iv (spinU (spinN (pad 60 bs)) : Nat), iv 4] h2 = some (v3, h3) := c1
  have hq := cut_all lp b3
  refine ⟨v3, h3, ?_, c2, (a5.trans b4 (Nat.le_refl _)).trans c3 (Nat.le_refl _)⟩
  have hp := plan_RS
  simp only [regOps, part, Tryz.f67, sub] at hp
  have hev : eqV w w = true := b3.eqv
  simp only [symM, symM, symL]
  rw [codeB_draw, draw_plan hp rfl]
  simp only [drawAll, opFn, Nat.reduceBEq, b2, hq, hev, ev3, evOpt, evCall_fn ft135' rfl, hs, effE_cons, conv_i2i und_u32' und_int, hw, evCall_fn ft66 rfl, c1]
  exact retB_one ft67 rfl get_same
abbrev RSealC (call : Abs.Callee) : Prop := ∀ (n0 : Nat) (bs : List Nat) (v : Value) (h : AH), bs.length ≤ 60 → bs.length ≠ 0 → (∀ x ∈ bs, x < 256) → Own n0 h v (bytesV bs) 5 → ∃ v' h', call 67 [v] h = some (v', h') ∧ Own h.next h' v' (bytesV (sealR bs)) 5 ∧ Grow h.next h h'
theorem app_str4 (a b c d : Nat) (ha : a < 256) (hb : b < 256) (hc : c < 256) (hd : d < 256) (h : AH) (ty : TypeId) :
    ∃ v' h', evBuiltin T0 .append #[57, 9] ty [.slice (some ⟨h.next, 0, none⟩) 0 0, strB [a, b, c, d]] (h.new (.cells (PM.ofList []) 0 5 0 0 .ex)) = some (.value v', h') ∧ Own h.next h' v' (bytesV [a, b, c, d]) 5 ∧ Grow h.next h h' := by
  have g1 := Grow.new h (.cells (PM.ofList []) 0 5 0 0 .ex)
  have ho : OwnC 1 h.next (h.new (.cells (PM.ofList []) 0 5 0 0 .ex)) (.slice (some ⟨h.next, 0, none⟩) 0 0) 0 [] 5 := .inr ⟨h.next, PM.ofList [], .ex, 0, Nat.le_refl _, Nat.lt_succ_self _, rfl, get_new_same _ _, rfl, fun i x hx => by simp at hx, .inl ⟨rfl, rfl⟩⟩
  have hbv : byteVals ([a, b, c, d].map fun (x : Nat) => UInt8.ofNat x) = bytesV [a, b, c, d] := byteVals_of (by intro x hx; simp at hx; omega)
  have happ : appendedA T0 9 (infoOf 5) (.int .u8 0) (strB [a, b, c, d]) (h.new (.cells (PM.ofList []) 0 5 0 0 .ex)) = some (4, bytesV [a, b, c, d]) := by
    unfold appendedA
    rw [und_string, ti_u8.2.1]
    show ifB (Nat.beq (byteVals ([a, b, c, d].map fun (x : Nat) => UInt8.ofNat x)).length (4 * 1)) (some (4, byteVals ([a, b, c, d].map fun (x : Nat) => UInt8.ofNat x))) none = _
    rw [hbv]
    rfl
  obtain ⟨v', h', e1, e2, e3, _, _⟩ := append_gen und_bytes tt_u8 ti_u8.1 ti_u8.2.1 ti_u8.2.2 ho happ (by simp [bytesV]) (bytesV_one _) (by omega) g1.next ty
  exact ⟨v', h', e1, e2.own, g1.trans e3 (Nat.le_refl _)⟩
end
end Go.Proofs.YtjdhdhmoedlfdaaGreat.Abs
namespace Go.Proofs.YtjdhdhmoedlfdaaGreat.Abs
open Go Go.Proofs
noncomputable section
variable {call : Abs.Callee}
set_option maxRecDepth 10000
def bitB (bs : List Nat) (n : Nat) : Bool := ((bs.getD (n / 8) 0 >>> (n % 8)) &&& 1) == 1
variable {call : Abs.Callee}
theorem und3 : und T0 3 = some (.int .i64) := und_int
theorem ft83 : T0.ft.get 83 = some Tryz.f83 := by kernel_rfl
variable {call : Abs.Callee}
theorem rpow0 (h : AH) : frameB T0 X0 call 3000 83 [iv 0] h = some (.int .u8 1, h) := by kernel_rfl
theorem rpow1 (h : AH) : frameB T0 X0 call 3000 83 [iv 1] h = some (.int .u8 2, h) := by kernel_rfl
theorem rpow2 (h : AH) : frameB T0 X0 call 3000 83 [iv 2] h = some (.int .u8 4, h) := by kernel_rfl
theorem rpow3 (h : AH) : frameB T0 X0 call 3000 83 [iv 3] h = some (.int .u8 8, h) := by kernel_rfl
theorem rpow4 (h : AH) : frameB T0 X0 call 3000 83 [iv 4] h = some (.int .u8 16, h) := by kernel_rfl
theorem rpow5 (h : AH) : frameB T0 X0 call 3000 83 [iv 5] h = some (.int .u8 32, h) := by kernel_rfl
theorem rpow6 (h : AH) : frameB T0 X0 call 3000 83 [iv 6] h = some (.int .u8 64, h) := by kernel_rfl
theorem rpow7 (h : AH) : frameB T0 X0 call 3000 83 [iv 7] h = some (.int .u8 128, h) := by kernel_rfl
theorem rpower_S (n : Nat) (hn : n < 8) (h : AH) : frameB T0 X0 call 3000 83 [iv n] h = some (.int .u8 ((2 ^ n : Nat) : Int), h) := by
  have hc : n = 0 ∨ n = 1 ∨ n = 2 ∨ n = 3 ∨ n = 4 ∨ n = 5 ∨ n = 6 ∨ n = 7 := by omega
  rcases hc with rfl | rfl | rfl | rfl | rfl | rfl | rfl | rfl
  · exact rpow0 h
  · exact rpow1 h
  · exact rpow2 h
  · exact rpow3 h
  · exact rpow4 h
  · exact rpow5 h
  · exact rpow6 h
  · exact rpow7 h
theorem ft36 : T0.ft.get 36 = some Tryz.f36 := by kernel_rfl
theorem Row.eqv {n : Nat} {h : AH} {v : Value} {l : List Value} {e : TypeId} (ho : Row n h v l e) : eqV v v = true := by
  rcases ho with ⟨rfl, _⟩ | ⟨b, o, cap, c, m, lo, hi, kd, el, rfl, _⟩
  · rfl
  · exact eqV_slice
noncomputable def bodyUp : Code := part Tryz.f36 [1, 1, 0, 1, 0, 0]
abbrev EUp : Env := ⟨36, 25, none⟩
theorem plan_Up : planB (part Tryz.f36 [1, 1, 0, 1, 0, 0, 1, 0, 0] |> fun | .region _ ops _ => ops | _ => #[]) 25 = some ([.one 0, .one 1, .one 2, .one 3, .one 4, .one 5, .one 6, .one 7, .eff [] 8 [0, 1, 2, 3, 4, 5], .one 9, .one 10, .one 11, .eff [12] 13 [], .one 14], []) := by kernel_rfl
theorem wrap8 (d : Nat) (h : d < 256) : IntKind.u8.wrap (d : Int) = d := IntWalk.u8_in _ (by omega)
theorem upL (bs : List Nat) (hbs : ∀ x ∈ bs, x < 256) (h60 : bs.length = 60) (m : Value) (n0 : Nat) (h0 : AH) (hn0 : n0 ≤ h0.next) (hm0 : Row n0 h0 m (bytesV bs) 5)
    (hpow : ∀ (n : Nat) h, n < 8 → call 83 [iv n] h = some (.int .u8 ((2 ^ n : Nat) : Int), h)) :
    ∀ (k i : Nat) (tm : PM Value) (h : AH) (v : Value) (N : Nat), i + k = 480 → k + 20 ≤ N → tm.get 0 = some m → tm.get 3 = some v → tm.get 4 = some (iv i) → Own n0 h v (boolsV (bitB bs) 0 i) 4 → Grow n0 h0 h →
      ∃ tm' h', codeB T0 X0 call N EUp (.loop bodyUp) tm h [] = .jump (.exit 0) tm' h' [] ∧ (∃ v', tm'.get 3 = some v' ∧ Own n0 h' v' (boolsV (bitB bs) 0 480) 4 ∧ Grow n0 h0 h') := by
  intro k
  induction k with
  | zero =>
    intro i tm h v N hi hN g0 g3 g4 hv hg
    obtain ⟨N, rfl⟩ : ∃ a, N = a + 20 := ⟨N - 20, by omega⟩
    have hlt : decide ((i : Int) < 480) = false := decide_eq_false (by omega)
    have hi2 : i = 480 := by omega
    apply Exists.intro; apply Exists.intro; apply And.intro
    · rw [codeB_loop]
      simp only [bodyUp, part, Tryz.f36, sub, symM, opFn, Nat.reduceLT, g4, bin_lss, hlt]
      rfl
    · exact ⟨v, by simp only [symM, Nat.reduceBEq, g3], by rw [← hi2]; exact hv, hg⟩
  | succ k ih =>
    intro i tm h v N hi hN g0 g3 g4 hv hg
    obtain ⟨N, rfl⟩ : ∃ a, N = a + 20 := ⟨N - 20, by omega⟩
    have hlt : decide ((i : Int) < 480) = true := decide_eq_true (by omega)
    have hm := hm0.grow hg (Nat.le_refl _)
    have hlen : i / 8 < bs.length := by omega
    obtain ⟨x, hx⟩ : ∃ x, bs[i / 8]? = some x := ⟨_, List.getElem?_eq_getElem hlen⟩
    have hx2 : x < 256 := hbs x (List.mem_of_getElem? hx)
    obtain ⟨p, e1, e2, e3⟩ := hm.at3 und_bytes sz_u8 agg_u8 (i := i / 8) (x := .int .u8 (x : Int)) (by simp [bytesV, hx])
    have hq : ∀ a b, evBin T0 .quo 3 a b (iv i) (iv 8) h = some (iv (i / 8 : Nat)) := fun a b => by
      show evBin T0 .quo 3 a b (iv i) (iv ((8 : Nat) : Int)) h = _
      rw [bin_quo (by decide), IntWalk.i64_in _ (by omega)]
    have hr : ∀ a b, evBin T0 .rem 3 a b (iv i) (iv 8) h = some (iv (i % 8 : Nat)) := fun a b => by
      show evBin T0 .rem 3 a b (iv i) (iv ((8 : Nat) : Int)) h = _
      rw [bin_rem (by decide)]
    have hpos : 2 ^ (i % 8) ≠ 0 := by have := Nat.two_pow_pos (i % 8); omega
    have hdiv : x / 2 ^ (i % 8) < 256 := Nat.lt_of_le_of_lt (Nat.div_le_self _ _) hx2
    have hd : ∀ a b, evBin T0 .quo 5 a b (.int .u8 (x : Int)) (.int .u8 ((2 ^ (i % 8) : Nat) : Int)) h = some (.int .u8 ((x / 2 ^ (i % 8) : Nat) : Int)) := fun a b => by
      rw [bin_quo hpos, wrap8 _ hdiv]
    have hm2 : ∀ a b, evBin T0 .rem 5 a b (.int .u8 ((x / 2 ^ (i % 8) : Nat) : Int)) (.int .u8 2) h = some (.int .u8 ((x / 2 ^ (i % 8) % 2 : Nat) : Int)) := fun a b => by
      show evBin T0 .rem 5 a b (.int .u8 ((x / 2 ^ (i % 8) : Nat) : Int)) (.int .u8 ((2 : Nat) : Int)) h = _
      rw [bin_rem (by decide)]
    have he : ∀ a b, evBin T0 .eql 5 a b (.int .u8 ((x / 2 ^ (i % 8) % 2 : Nat) : Int)) (.int .u8 1) h = some (.bool (bitB bs i)) := fun a b => by
      rw [bin_eql]
      have h3 : bs.getD (i / 8) 0 = x := by rw [List.getD_eq_getElem?_getD, hx]; rfl
      unfold bitB
      rw [h3, Nat.and_one_is_mod, Nat.shiftRight_eq_div_pow]
      congr 2
      rw [Bool.eq_iff_iff]
      simp only [beq_iff_eq]
      omega
    have hw : IntKind.i64.wrap ((i : Int) + 1) = ((i + 1 : Nat) : Int) := by rw [IntWalk.i64_in _ (by omega)]; simp
    obtain ⟨v2, h2', ea, eo, eg⟩ := append_one und_bools tt_bool ti_bool.1 ti_bool.2.1 ti_bool.2.2 hv (x := .bool (bitB bs i)) rfl (by rw [boolsV_len]; omega) (Nat.le_trans hn0 hg.next) 37
    have hp := plan_Up
    simp only [part, Tryz.f36, sub] at hp
    rw [show N + 20 = (N + 19) + 1 from rfl, codeB_loop]
    simp only [bodyUp, part, Tryz.f36, sub, symM, opFn, Nat.reduceLT, g4, bin_lss, hlt, codeB_draw]
    rw [draw_plan hp rfl]
    simp only [drawAll, opFn, Nat.reduceLT, Nat.reduceBEq, effE_cons, g0, g3, g4, hq, hr, e1, e2, evCall_fn ft83 rfl, hpow (i % 8) _ (Nat.mod_lt _ (by decide)), hm.eqv, hv.eqv, e3, hd, hm2, he, goAB_some bs_bool, ea, bin_add, hw]
    have hv2 : Own n0 h2' v2 (boolsV (bitB bs) 0 (i + 1)) 4 := by rw [← boolsV_snoc]; exact eo
    refine ih (i + 1) _ h2' v2 (N + 19) (by omega) (by omega) ?_ ?_ get_same hv2 (hg.trans eg (Nat.le_refl _))
    · simp only [symM, Nat.reduceBEq, g0]
    · simp only [symM, Nat.reduceBEq]
theorem Up_S (bs : List Nat) (hbs : ∀ x ∈ bs, x < 256) (h60 : bs.length = 60) (m : Value) (h : AH) (hm : Row h.next h m (bytesV bs) 5)
    (hpow : ∀ (n : Nat) h, n < 8 → call 83 [iv n] h = some (.int .u8 ((2 ^ n : Nat) : Int), h)) :
    ∃ v h', frameB T0 X0 call 3000 36 [m] h = some (v, h') ∧ Own h.next h' v (boolsV (bitB bs) 0 480) 4 ∧ Grow h.next h h' := by
  rw [frameB_eq ft36 rfl rfl]
  have g1 : Grow h.next h (h.new (.cells (PM.ofList []) 0 4 0 0 .ex)) := Grow.new _ _
  have hL := fun tm N => upL bs hbs h60 m h.next h (Nat.le_refl _) hm hpow 480 0 tm (h.new (.cells (PM.ofList []) 0 4 0 0 .ex)) (.slice (some ⟨h.next, 0, none⟩) 0 0) N (by omega)
  simp only [Tryz.f36, symM, opFn, Nat.reduceLT, bs_bool0]
  refine bind_loop (b := bodyUp) (P := fun x => ∃ v h', endF T0 36 x = some (v, h') ∧ Own h.next h' v (boolsV (bitB bs) 0 480) 4 ∧ Grow h.next h h') (hL _ _ (by omega) (by simp only [symM, Nat.reduceBEq]) (by simp only [symM, Nat.reduceBEq]) (by simp only [symM]; rfl) (Own.empty _ _ (Nat.le_refl _) _ _) g1) ?_
  intro tm' h' ⟨v', p3, p4, p5⟩
  refine ⟨v', h', ?_, p4, p5⟩
  simp only [symM, opFn, Nat.reduceLT, p3]
  exact retB_one ft36 rfl get_same
end
end Go.Proofs.YtjdhdhmoedlfdaaGreat.Abs
namespace Go.Proofs.YtjdhdhmoedlfdaaGreat.Abs
open Go Go.Proofs
noncomputable section
variable {call : Abs.Callee}
set_option maxRecDepth 10000
theorem ft30 : T0.ft.get 30 = some Tryz.f30 := by kernel_rfl
def markB (i j : Nat) : Nat := if 8 * j + 8 ≤ i then 255 else if i ≤ 8 * j then 0 else 2 ^ (i - 8 * j) - 1
def markL (i : Nat) : List Nat := (List.range 60).map (markB i)
theorem markL_0 : markL 0 = List.replicate 60 0 := by decide
theorem markL_len (i : Nat) : (markL i).length = 60 := by simp [markL]
theorem OwnB.at {p j x : Nat} {h : AH} {v : Value} {bs : List Nat} (ho : OwnB p h v bs) (hj : bs[j]? = some x) : evIndexAddr T0 57 v (iv j) = some (pv p j) ∧ evLoad T0 5 (pv p j) h = some (bv x) := by
  obtain ⟨c, kd, cap, rfl, h2, h3, h4⟩ := ho
  have hl := (List.getElem?_eq_some_iff.1 hj).1
  have s1 : evIndexAddr T0 57 (.slice (some ⟨p, 0, none⟩) bs.length cap) (iv (j : Int)) = some (pv p (0 + j * 1)) := idx_slice und_bytes sz_u8 hl
  rw [show 0 + j * 1 = j by omega] at s1
  exact ⟨s1, load_one agg_u8 h2 hl (h3 j (bv x) (by simp [bytesV, hj]))⟩
theorem New_S (h : AH) : ∃ v' p' h', frameB T0 X0 call 3000 30 [] h = some (v', h') ∧ h.next ≤ p' ∧ p' < h'.next ∧ OwnB p' h' v' (markL 0) ∧ Grow h.next h h' := by
  obtain ⟨h1, e1, e2, e3⟩ := make_bytes (h := h) (k := 60) (by omega)
  have e1 : evMakeSlice T0 57 (iv 60) (iv 60) h = _ := e1
  obtain ⟨p, q1, q2, q3⟩ := e2.toB (by simp)
  refine ⟨_, p, h1, ?_, q1, q2, by rw [markL_0]; exact q3, e3⟩
  rw [frameB_eq ft30 rfl rfl]
  simp only [Tryz.f30, symM, opFn, Nat.reduceLT, symM, e1]
  exact retB_one ft30 rfl get_same
end
end Go.Proofs.YtjdhdhmoedlfdaaGreat.Abs
namespace Go.Proofs.YtjdhdhmoedlfdaaGreat.Abs
open Go Go.Proofs
noncomputable section
variable {call : Abs.Callee}
set_option maxRecDepth 10000
abbrev PowC (call : Abs.Callee) : Prop := ∀ (n : Nat) h, n < 8 → call 83 [iv n] h = some (.int .u8 ((2 ^ n : Nat) : Int), h)
end
end Go.Proofs.YtjdhdhmoedlfdaaGreat.Abs
