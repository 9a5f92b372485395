
/- Are extents sound? The document's answer. -/
import Derived.Test.YtglmahefcdhmgaaExts
namespace Go.Proofs.Ytglmahefcdhmgaa.Abs
open Go Go.Proofs
noncomputable section
variable {call : Abs.Callee}
set_option maxRecDepth 10000
/-- The blocks of extents. -/
def markF (prev : List XV) (k : Nat) : Bool := prev.any fun r => decide (r.x ≤ k ∧ k < r.x + r.y)
def anyF (f : Nat → Bool) (a k : Nat) : Bool := (List.range' a k).any f
theorem anyF_succ (f : Nat → Bool) (a k : Nat) : anyF f a (k + 1) = (f a || anyF f (a + 1) k) := by
  unfold anyF; rw [List.range'_succ, List.any_cons]
theorem any_mark (prev : List XV) (x : XV) (hp : ∀ r ∈ prev, runOK r.x r.y = true) (hx : runOK x.x x.y = true) : anyF (markF prev) x.x x.y = prev.any fun r => meetX r x := by
  have bx := runOK_b hx
  apply Bool.eq_iff_iff.2
  unfold anyF markF meetX
  simp only [List.any_eq_true, decide_eq_true_eq]
  constructor
  · rintro ⟨k, hk, r, hr, h1, h2⟩
    rw [List.mem_range'_1] at hk
    exact ⟨r, hr, by omega, by omega⟩
  · rintro ⟨r, hr, h1, h2⟩
    have br := runOK_b (hp r hr)
    by_cases hc : r.x ≤ x.x
    · exact ⟨x.x, by rw [List.mem_range'_1]; omega, r, hr, by omega, by omega⟩
    · exact ⟨r.x, by rw [List.mem_range'_1]; omega, r, hr, by omega, by omega⟩
end
end Go.Proofs.Ytglmahefcdhmgaa.Abs
namespace Go.Proofs.Ytglmahefcdhmgaa.Abs
open Go Go.Proofs
noncomputable section
variable {call : Abs.Callee}
set_option maxRecDepth 10000
def soundN (n : NV) (xs : List XV) : Bool := if n.k = 0 then sameN n NV.zero && eqL xs [] else decide ((n.k = 1 ∨ n.k = 2) ∧ 1 ≤ n.l ∧ n.l ≤ 1000 ∧ n.s ≤ 6144) &&
  (if n.f = 1 then decide (xs.length = 0 ∧ n.c = 0) && (ptrs n).all namedN else if n.f = 2 then (ptrs n).all (fun p => decide (p = 0)) && (namedN n.c && (decide (xs.length ≤ 3) && extG 0 (-1) [] xs)) else false)
theorem not_any {α : Type} (L : List α) (p : α → Bool) : (!L.any fun x => !p x) = L.all p := by rw [List.all_eq_not_any_not]
theorem beqN (a b : Nat) : ((a : Int) == (b : Int)) = decide (a = b) := by
  by_cases h : a = b
  · rw [decide_eq_true h]; exact eqT (by omega)
  · rw [decide_eq_false h]; exact eqF (by omega)
end
end Go.Proofs.Ytglmahefcdhmgaa.Abs
namespace Go.Proofs.Ytglmahefcdhmgaa.Abs
open Go Go.Proofs
noncomputable section
variable {call : Abs.Callee}
set_option maxRecDepth 10000
def okp (f p : Nat) : Bool := decide (p = 0) || (!decide (f = 2) && dataN p)
end
end Go.Proofs.Ytglmahefcdhmgaa.Abs
namespace Go.Proofs.Ytglmahefcdhmgaa.Abs
open Go Go.Proofs
noncomputable section
variable {call : Abs.Callee}
set_option maxRecDepth 10000
theorem ft54' : T0.ft.get 54 = some Try.f54 := by kernel_rfl
def headB (n : NV) : List Nat := leN n.k 1 ++ leN n.f 1 ++ leN n.l 2 ++ leN n.s 2
def pad (m : Nat) (l : List Nat) : List Nat := l ++ List.replicate (m - l.length) 0
def bodyB (n : NV) (xs : List XV) : List Nat := if n.f = 2 then pad 18 (headB n ++ xs.flatMap encX) ++ leN n.c 2 else headB n ++ (ptrs n).flatMap fun p => leN p 2
def firstB (n : NV) (xs : List XV) : List Nat := pad 28 (bodyB n xs)
def encN (n : NV) (xs : List XV) : List Nat := firstB n xs ++ leN (spinU (spinN (firstB n xs))) 4
theorem leN_len (n k : Nat) : (leN n k).length = k := by simp [leN, leF]
theorem headB_len (n : NV) : (headB n).length = 6 := by simp [headB, leN_len]
theorem encX_len (x : XV) : (encX x).length = 4 := by simp [encX, leN_len]
theorem flat_len (xs : List XV) : (xs.flatMap encX).length = 4 * xs.length := by
  induction xs with
  | nil => rfl
  | cons x xs ih => rw [List.flatMap_cons, List.length_append, ih, encX_len, List.length_cons]; omega
theorem flatp_len (l : List Nat) : (l.flatMap fun p => leN p 2).length = 2 * l.length := by
  induction l with
  | nil => rfl
  | cons x xs ih => rw [List.flatMap_cons, List.length_append, ih, leN_len, List.length_cons]; omega
theorem leN_lt {n k x : Nat} (h : x ∈ leN n k) : x < 256 := by
  simp only [leN, leF, List.mem_map] at h
  obtain ⟨j, _, rfl⟩ := h
  exact Nat.mod_lt _ (by decide)
theorem pad_lt {m : Nat} {l : List Nat} (h : ∀ x ∈ l, x < 256) : ∀ x ∈ pad m l, x < 256 := by
  intro x hx
  unfold pad at hx
  rcases List.mem_append.1 hx with hx | hx
  · exact h x hx
  · rw [List.mem_replicate] at hx; omega
theorem headB_lt (n : NV) : ∀ x ∈ headB n, x < 256 := by
  intro x hx
  unfold headB at hx
  simp only [List.mem_append] at hx
  rcases hx with ((hx | hx) | hx) | hx <;> exact leN_lt hx
theorem encX_lt (x : XV) : ∀ y ∈ encX x, y < 256 := by
  intro y hy
  unfold encX at hy
  simp only [List.mem_append] at hy
  rcases hy with (hx | hx) | hx <;> exact leN_lt hx
theorem firstB_lt (n : NV) (xs : List XV) : ∀ x ∈ firstB n xs, x < 256 := by
  apply pad_lt
  intro x hx
  unfold bodyB at hx
  split at hx
  · rcases List.mem_append.1 hx with hx | hx
    · refine pad_lt ?_ x hx
      intro y hy
      rcases List.mem_append.1 hy with hy | hy
      · exact headB_lt n y hy
      · obtain ⟨z, _, hz⟩ := List.mem_flatMap.1 hy
        exact encX_lt z y hz
    · exact leN_lt hx
  · rcases List.mem_append.1 hx with hx | hx
    · exact headB_lt n x hx
    · obtain ⟨z, _, hz⟩ := List.mem_flatMap.1 hx
      exact leN_lt hz
theorem spinU_lt (bs : List Nat) : spinU (spinN bs) < 4294967296 := by
  have hl := spin_lt bs (1, 0) (by decide) (by decide)
  have hN : spinN bs = bs.foldl spinStep (1, 0) := rfl
  rw [hN]
  generalize bs.foldl spinStep (1, 0) = s at *
  unfold spinU
  omega
theorem wrapE {A B : PM Value → AH → Prop} {n : Nat} {a b : AH} (H : ∃ t c, A t c ∧ (B t c ∧ Grow n b c)) (g : Grow n a b) : ∃ t c, A t c ∧ (B t c ∧ Grow n a c) := by
  obtain ⟨t, c, h1, h2, h3⟩ := H
  exact ⟨t, c, h1, h2, g.trans h3 (Nat.le_refl _)⟩
theorem Own.blk {n : Nat} {h : AH} {v : Value} {l : List Value} {e : TypeId} (ho : Own n h v l e) (hl : l ≠ []) : ∃ b C, n ≤ b ∧ b < h.next ∧ h.get b = some C ∧ ∀ h', h'.get b = some C → Row (b + 1) h' v l e := by
  rcases ho with ⟨_, h0⟩ | ⟨b, c, kd, cap, h1, h2, h3, h4, h5, h6⟩
  · exact absurd h0 hl
  · exact ⟨b, _, h1, h2, h4, fun h' hg => .inr ⟨b, 0, cap, c, l.length, 0, 0, kd, e, h3, Nat.lt_succ_self _, hg, by omega, fun i x hi => by rw [Nat.zero_add]; exact h5 i x hi⟩⟩
end
end Go.Proofs.Ytglmahefcdhmgaa.Abs
namespace Go.Proofs.Ytglmahefcdhmgaa.Abs
open Go Go.Proofs
noncomputable section
variable {call : Abs.Callee}
set_option maxRecDepth 10000
/-- A node whose numbers are not too great. -/
def okN (n : NV) : Prop := n.k < 65536 ∧ n.f < 65536 ∧ n.l < 65536 ∧ n.s < 65536 ∧ n.c < 65536 ∧ ∀ p ∈ ptrs n, p < 65536
theorem bs_u80 {h : AH} : evBuildSlice T0 60 1 [(0, .int .u8 0)] h = some (.slice (some ⟨h.next, 0, none⟩) 1 1, h.new (.cells (PM.ofList [.int .u8 0]) 1 5 0 0 .ex)) := bs_one und_bytes sz_u8 zero_u8 rfl rfl
end
end Go.Proofs.Ytglmahefcdhmgaa.Abs
namespace Go.Proofs.Ytglmahefcdhmgaa.Abs
open Go Go.Proofs
noncomputable section
variable {call : Abs.Callee}
set_option maxRecDepth 10000
theorem und_string : und T0 9 = some .string := by kernel_rfl
theorem und_u8' : und T0 5 = some (.int .u8) := und_u8
def strB (bs : List Nat) : Value := .string ⟨(bs.map fun (x : Nat) => UInt8.ofNat x).toArray⟩
theorem bytesA_of (bs : List Nat) : bytesA (bytesV bs) = some (bs.map fun (x : Nat) => UInt8.ofNat x) := by
  induction bs with
  | nil => rfl
  | cons x bs ih =>
    show (match byteOf (.int .u8 (x : Int)) with | some b => (match bytesA (bytesV bs) with | some r => some (b :: r) | none => none) | none => none) = _
    rw [ih]
    rfl
theorem conv_b2s {n : Nat} {h : AH} {v : Value} {bs : List Nat} (hv : Row n h v (bytesV bs) 5) : evConvert T0 60 9 v h = some (strB bs, h) := by
  rcases hv with ⟨rfl, h0⟩ | ⟨b, o, cap, c, m, lo, hi, kd, el, rfl, h2, h3, h4, h5⟩
  · have : bs = [] := by simpa [bytesV] using h0
    subst this
    simp only [evConvert, und_bytes, und_string, und_u8, evToString]
    rfl
  · have hs : evToString h (.slice (some ⟨b, o, none⟩) (bytesV bs).length cap) = some (strB bs) := by
      have hl : (ifB (Nat.beq (bytesV bs).length 0) (some []) (loadRow h b o (bytesV bs).length)) = some (bytesV bs) := by
        cases hb : Nat.beq (bytesV bs).length 0 with
        | true =>
          have := Nat.eq_of_beq_eq_true hb
          rw [List.length_eq_zero_iff.1 this]; rfl
        | false => rw [ifB_false]; exact loadRow_of h3 h4 h5
      unfold evToString
      simp only [hl, bytesA_of]
      rfl
    simp only [evConvert, und_bytes, und_string, und_u8, hs]
theorem s_eql0 {p q : Operand} {h : AH} {a b : ByteArray} : evBin T0 .eql 9 p q (.string a) (.string b) h = some (.bool (a.toList == b.toList)) := by
  show slowBin T0 .eql 9 p q (.string a) (.string b) = _
  unfold slowBin
  rw [prun_bind, show prun T0.P (eqGuard .eql 9 p q (.string a) (.string b)) = some () from rfl, Option.bind_some]
  rfl
theorem s_neq0 {p q : Operand} {h : AH} {a b : ByteArray} : evBin T0 .neq 9 p q (.string a) (.string b) h = some (.bool (!(a.toList == b.toList))) := by
  show slowBin T0 .neq 9 p q (.string a) (.string b) = _
  unfold slowBin
  rw [prun_bind, show prun T0.P (eqGuard .neq 9 p q (.string a) (.string b)) = some () from rfl, Option.bind_some]
  rfl
theorem u8_inj {l m : List Nat} (hl : ∀ x ∈ l, x < 256) (hm : ∀ x ∈ m, x < 256) : ((l.map fun (x : Nat) => UInt8.ofNat x) = m.map fun (x : Nat) => UInt8.ofNat x) ↔ l = m := by
  constructor
  · intro h
    induction l generalizing m with
    | nil => cases m with | nil => rfl | cons y m => simp at h
    | cons x l ih =>
      cases m with
      | nil => simp at h
      | cons y m =>
        rw [List.map_cons, List.map_cons, List.cons.injEq] at h
        have hx := hl x (by simp)
        have hy := hm y (by simp)
        have h1 := congrArg UInt8.toNat h.1
        rw [UInt8.toNat_ofNat_of_lt' hx, UInt8.toNat_ofNat_of_lt' hy] at h1
        rw [h1, ih (fun z hz => hl z (by simp [hz])) (fun z hz => hm z (by simp [hz])) h.2]
  · intro h; rw [h]
theorem ba_eq {l m : List Nat} (hl : ∀ x ∈ l, x < 256) (hm : ∀ x ∈ m, x < 256) : ((⟨(l.map fun (x : Nat) => UInt8.ofNat x).toArray⟩ : ByteArray).toList == (⟨(m.map fun (x : Nat) => UInt8.ofNat x).toArray⟩ : ByteArray).toList) = decide (l = m) := by
  rw [ByteArray.toList_eq, ByteArray.toList_eq]
  show ((l.map fun (x : Nat) => UInt8.ofNat x) == (m.map fun (x : Nat) => UInt8.ofNat x)) = _
  by_cases h : l = m
  · subst h; simp
  · rw [decide_eq_false h]
    have hne : ¬ (l.map fun (x : Nat) => UInt8.ofNat x) = m.map fun (x : Nat) => UInt8.ofNat x := fun q => h ((u8_inj hl hm).1 q)
    simpa using hne
theorem s_eql {p q : Operand} {h : AH} {l m : List Nat} (hl : ∀ x ∈ l, x < 256) (hm : ∀ x ∈ m, x < 256) : evBin T0 .eql 9 p q (strB l) (strB m) h = some (.bool (decide (l = m))) := by
  unfold strB; rw [s_eql0, ba_eq hl hm]
theorem s_neq {p q : Operand} {h : AH} {l m : List Nat} (hl : ∀ x ∈ l, x < 256) (hm : ∀ x ∈ m, x < 256) : evBin T0 .neq 9 p q (strB l) (strB m) h = some (.bool (!decide (l = m))) := by
  unfold strB; rw [s_neq0, ba_eq hl hm]
/-- So many numbers of two bytes. -/
def numsAt (bs : List Nat) (a k : Nat) : List Nat := (List.range' a k 2).map (numAt bs)
theorem numsAt_snoc (bs : List Nat) (a k : Nat) : numsAt bs a (k + 1) = numsAt bs a k ++ [numAt bs (a + 2 * k)] := by
  unfold numsAt; rw [List.range'_concat, List.map_append]; simp
theorem app_int {n : Nat} {h : AH} {v : Value} {l : List Nat} (ho : Own n h v (intsV l) 3) (x : Nat) (hl : l.length < 1000) (hn : n ≤ h.next) (ty : TypeId) :
    ∃ v' h', evBuiltin T0 .append #[34, 34] ty [v, .slice (some ⟨h.next, 0, none⟩) 1 1] (h.new (.cells (PM.ofList [iv x]) 1 3 0 0 .ex)) = some (.value v', h') ∧ Own n h' v' (intsV (l ++ [x])) 3 ∧ Grow n h h' := by
  obtain ⟨v', h', e1, e2, e3⟩ := append_one und_ints tt_int ti_int.1 ti_int.2.1 ti_int.2.2 ho (x := iv x) rfl (by simp [intsV]; omega) hn ty
  exact ⟨v', h', e1, by simpa [intsV] using e2, e3⟩
end
end Go.Proofs.Ytglmahefcdhmgaa.Abs
namespace Go.Proofs.Ytglmahefcdhmgaa.Abs
open Go Go.Proofs
noncomputable section
variable {call : Abs.Callee}
set_option maxRecDepth 10000
theorem evStore_keep {T : Tab} {t : TypeId} {b o : Nat} {v : Value} {h h' : AH} (e : evStore T t (pv b o) v h = some h') : ∀ k, k ≠ b → h'.get k = h.get k := by
  intro k hk
  simp only [evStore, storeVarA] at e
  split at e
  · obtain ⟨_, e⟩ := ifB_some e
    split at e
    · cases e; rfl
    · unfold storeRow at e
      split at e
      · split at e
        · cases e
        · obtain ⟨_, e⟩ := ifB_some e
          cases e
          rw [AH.get_set, if_neg hk]
      · cases e
  · cases e
theorem OwnC.keep {s n : Nat} {h h' : AH} {v : Value} {k b : Nat} {cs : List Value} {e : TypeId} (ho : OwnC s n h v k cs e) (hb : b < n) (hn : h.next ≤ h'.next) (hg : ∀ k, k ≠ b → h'.get k = h.get k) : OwnC s n h' v k cs e := by
  rcases ho with h1 | ⟨b', c, kd, cap, h1, h2, h3, h4, h5⟩
  · exact .inl h1
  · exact .inr ⟨b', c, kd, cap, h1, Nat.lt_of_lt_of_le h2 hn, h3, (hg b' (by omega)).trans h4, h5⟩
theorem OwnE.one {n : Nat} {h : AH} {v : Value} {xs : List XV} (ho : OwnE n h v xs) : oneCell v = true := by
  rcases ho with ⟨rfl, _⟩ | ⟨b, c, kd, cap, _, _, rfl, _⟩ <;> rfl
theorem nodeL_one (n : NV) {e : Value} (he : oneCell e = true) : (nodeL n e).all oneCell = true := by
  show (true && (true && (true && (true && (true && (true && (true && (true && (true && (true && (oneCell e && (true && true)))))))))))) = true
  rw [he]; rfl
theorem NodeB.storeAll {k : Nat} {h : AH} {b : Nat} {n : NV} {e : Value} (hb : NodeB h b n e) (m : NV) {f : Value} (hf : oneCell f = true) (hn : k ≤ b) :
    ∃ h', evStore T0 37 (pv b 0) (nodeV m f) h = some h' ∧ NodeB h' b m f ∧ Grow k h h' ∧ h'.next = h.next :=
  BoxL.store hb (ws := nodeL m f) (o := 0) sz_Node rfl (by simp [nodeL]) (nodeL_one m hf) (by simp [nodeL]) hn
theorem NodeB.storeE {k : Nat} {h : AH} {b : Nat} {n : NV} {e : Value} (hb : NodeB h b n e) {f : Value} (hf : oneCell f = true) (hc : f.cells.toList = [f]) (hn : k ≤ b) :
    ∃ h', evStore T0 29 (pv b 10) f h = some h' ∧ NodeB h' b n f ∧ Grow k h h' ∧ h'.next = h.next :=
  BoxL.store hb (ws := [f]) (o := 10) sz_exts hc (by simp) (by simp [hf]) (by simp [nodeL]) hn
theorem NodeB.storeC {k : Nat} {h : AH} {b : Nat} {n : NV} {e : Value} (hb : NodeB h b n e) (c : Nat) (hn : k ≤ b) :
    ∃ h', evStore T0 3 (pv b 11) (iv c) h = some h' ∧ NodeB h' b { n with c := c } e ∧ Grow k h h' ∧ h'.next = h.next :=
  BoxL.store hb (ws := [iv c]) (o := 11) sz_int rfl (by simp) rfl (by simp [nodeL]) hn
theorem NodeB.storeSi {k : Nat} {h : AH} {b : Nat} {n : NV} {e : Value} (hb : NodeB h b n e) (c : Nat) (hn : k ≤ b) :
    ∃ h', evStore T0 3 (pv b 8) (iv c) h = some h' ∧ NodeB h' b { n with si := c } e ∧ Grow k h h' ∧ h'.next = h.next :=
  BoxL.store hb (ws := [iv c]) (o := 8) sz_int rfl (by simp) rfl (by simp [nodeL]) hn
theorem NodeB.storeDu {k : Nat} {h : AH} {b : Nat} {n : NV} {e : Value} (hb : NodeB h b n e) (c : Nat) (hn : k ≤ b) :
    ∃ h', evStore T0 3 (pv b 9) (iv c) h = some h' ∧ NodeB h' b { n with du := c } e ∧ Grow k h h' ∧ h'.next = h.next :=
  BoxL.store hb (ws := [iv c]) (o := 9) sz_int rfl (by simp) rfl (by simp [nodeL]) hn
theorem NodeB.storeArr {k : Nat} {h : AH} {b : Nat} {n : NV} {e : Value} (hb : NodeB h b n e) (p q r s : Nat) (hn : k ≤ b) :
    ∃ h', evStore T0 35 (pv b 4) (.agg #[iv p, iv q, iv r, iv s]) h = some h' ∧ NodeB h' b { n with d0 := p, d1 := q, d2 := r, d3 := s } e ∧ Grow k h h' ∧ h'.next = h.next :=
  BoxL.store hb (ws := [iv p, iv q, iv r, iv s]) (o := 4) sz_arr4 rfl (by simp) rfl (by simp [nodeL]) hn
theorem cells_slice {o : Option Addr} {l c : Nat} : (Value.slice o l c).cells.toList = [.slice o l c] := rfl
theorem OwnE.cell {n : Nat} {h : AH} {v : Value} {xs : List XV} (ho : OwnE n h v xs) : v.cells.toList = [v] := by
  rcases ho with ⟨rfl, _⟩ | ⟨b, c, kd, cap, _, _, rfl, _⟩ <;> rfl
/-- The extents of a node, of its bytes. -/
def nzX (x : XV) : Bool := !eqE x ⟨0, 0, 0⟩
def extsF (bs : List Nat) (i k : Nat) : List XV := ((List.range' i k).map fun j => extAt bs (6 + 4 * j)).filter nzX
theorem extsF_succ (bs : List Nat) (i k : Nat) : extsF bs i (k + 1) = (if nzX (extAt bs (6 + 4 * i)) then [extAt bs (6 + 4 * i)] else []) ++ extsF bs (i + 1) k := by
  unfold extsF
  rw [List.range'_succ, List.map_cons, List.filter_cons]
  split <;> simp
theorem extsF_len (bs : List Nat) (i k : Nat) : (extsF bs i k).length ≤ k := by
  unfold extsF
  exact Nat.le_trans (List.length_filter_le _ _) (by simp)
theorem extsF_ok {bs : List Nat} (hbs : ∀ x ∈ bs, x < 256) {i k : Nat} : ∀ x ∈ extsF bs i k, okX x := by
  intro x hx
  unfold extsF at hx
  have := (List.mem_filter.1 hx).1
  simp only [List.mem_map] at this
  obtain ⟨j, _, rfl⟩ := this
  exact extAt_okX hbs
/-- The node that bytes would be. -/
def decN (bs : List Nat) : NV :=
  if byteAt bs 1 = 2 then ⟨byteAt bs 0, byteAt bs 1, numAt bs 2, numAt bs 4, 0, 0, 0, 0, 0, 0, numAt bs 18⟩
  else ⟨byteAt bs 0, byteAt bs 1, numAt bs 2, numAt bs 4, numAt bs 6, numAt bs 8, numAt bs 10, numAt bs 12, numAt bs 14, numAt bs 16, 0⟩
def decX (bs : List Nat) : List XV := if byteAt bs 1 = 2 then extsF bs 0 3 else []
def decOK (bs : List Nat) : Bool := decide (bs.length = 32) && (soundN (decN bs) (decX bs) && decide (encN (decN bs) (decX bs) = bs))
theorem decN_ok {bs : List Nat} (hbs : ∀ x ∈ bs, x < 256) : okN (decN bs) := by
  have b0 := byteAt_lt hbs (i := 0); have b1 := byteAt_lt hbs (i := 1)
  have := fun i => numAt_lt hbs (i := i)
  unfold decN
  split
  · refine ⟨Nat.lt_trans b0 (by decide), Nat.lt_trans b1 (by decide), this 2, this 4, this 18, ?_⟩
    intro p hp
    simp [ptrs] at hp
    omega
  · refine ⟨Nat.lt_trans b0 (by decide), Nat.lt_trans b1 (by decide), this 2, this 4, Nat.zero_lt_succ _, ?_⟩
    intro p hp
    simp only [ptrs, List.mem_cons, List.not_mem_nil, or_false] at hp
    rcases hp with rfl | rfl | rfl | rfl | rfl | rfl <;> exact this _
theorem decX_ok {bs : List Nat} (hbs : ∀ x ∈ bs, x < 256) : ∀ x ∈ decX bs, okX x := by
  unfold decX
  split
  · exact extsF_ok hbs
  · simp
theorem decX_len (bs : List Nat) : (decX bs).length ≤ 3 := by
  unfold decX
  split
  · exact extsF_len _ _ _
  · simp
theorem win_at {bs : List Nat} {a k i : Nat} (hi : i < k) : byteAt ((bs.drop a).take k) i = byteAt bs (a + i) := by
  unfold byteAt
  rw [List.getD_eq_getElem?_getD, List.getD_eq_getElem?_getD, List.getElem?_take, if_pos hi, List.getElem?_drop]
theorem win_ext {bs : List Nat} {a k : Nat} (hk : 4 ≤ k) : extAt ((bs.drop a).take k) 0 = extAt bs a := by
  unfold extAt numAt
  rw [win_at (by omega), win_at (by omega), win_at (by omega), win_at (by omega)]
  rfl
theorem win_lt {bs : List Nat} (hbs : ∀ x ∈ bs, x < 256) {a k : Nat} : ∀ x ∈ (bs.drop a).take k, x < 256 := fun x hx => hbs x (List.mem_of_mem_drop (List.mem_of_mem_take hx))
end
end Go.Proofs.Ytglmahefcdhmgaa.Abs
