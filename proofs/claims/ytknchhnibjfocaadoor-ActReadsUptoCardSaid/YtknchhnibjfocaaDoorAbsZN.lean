/- An abstract machine: a slice of bytes that came in. -/
import Derived.Test.YtknchhnibjfocaaDoorAbsZM
import Derived.Test.YtknchhnibjfocaaDoorAbsZJ
import Derived.Test.YtknchhnibjfocaaDoorAbsZH
import Derived.ChangeSlices
namespace Go.Proofs.YtknchhnibjfocaaDoor.Abs
open Go
noncomputable section

def startW (P : Program) (c : PM Value) (n : Nat) (el : TypeId) : AH := (startH P).new (.cells c n el 0 (n + 1) .ro)
theorem startW_get {P : Program} {c : PM Value} {n el i : Nat} {o : AObj} (h : (startW P c n el).get i = some o) : i = P.globals.size ∧ o = .cells c n el 0 (n + 1) .ro := by
  unfold startW at h
  rw [AH.get_new] at h
  by_cases hi : i = (startH P).next
  · rw [if_pos hi] at h; cases h; exact ⟨hi, rfl⟩
  · rw [if_neg hi] at h
    exact absurd h (by show ¬ PM.get (PM.empty 12) i = some o; rw [PM.get_empty]; simp)
theorem HR.startW {P : Program} {w : World} {c : PM Value} {n el b o room sz : Nat} {cs : Array Value} {fz : Nat × Nat} (hw : P.globals.size ≤ w.heap.size) (hb : w.heap[b]? = some (.cells cs el fz)) (hn : o + n ≤ cs.size)
    (hc : ∀ i, i < n → ∃ v, c.get i = some v ∧ cs[o + i]? = some v ∧ flat v = true) : HR P (renK P [⟨b, o, room, sz⟩]) (startW P c n el) w := by
  have hlt : b < w.heap.size := (Array.getElem?_eq_some_iff.1 hb).1
  refine ⟨?_, ?_, ?_, ?_⟩
  · intro i x e
    obtain ⟨rfl, rfl⟩ := startW_get e
    refine ⟨⟨b, o, room, sz⟩, _, by simp [renK], hb, cs, fz.1, fz.2, rfl, hn, (fun q => by cases q), (fun q => by cases q), ?_, fun q => by omega, fun i hi _ _ => ⟨Nat.zero_le _, by omega⟩⟩
    intro i hi
    obtain ⟨v, h1, h2, h3⟩ := hc i hi
    exact ⟨v, v, h1, h2, VR.of_flat _ v h3⟩
  · intro i j x y bk bk' e1 e2 _ _ _ _
    rw [(startW_get e1).1, (startW_get e2).1]
  · intro i bk e
    show i < P.globals.size + 1 ∧ _
    unfold renK at e
    split at e
    · cases e; rename_i q; exact ⟨by omega, by show i < w.heap.size; omega⟩
    · split at e
      · rename_i q x hx
        cases e
        have := (List.getElem?_eq_some_iff.1 hx).1
        simp at this
        have h0 : i - P.globals.size = 0 := by omega
        rw [h0] at hx; simp at hx; subst hx
        exact ⟨by omega, hlt⟩
      · cases e
  · intro g hg; simp [renK, hg]
theorem calls_startW {P : Program} {f : Nat} {args : List Value} {args' : Array Value} {v : Value} {h1 : AH} {c : PM Value} {n el b o room sz : Nat} {cs : Array Value} {fz : Nat × Nat} (hf : flat v = true) (E : CallOK (mkTab P) f args (startW P c n el) v h1)
    {w : World} (hw : P.globals.size ≤ w.heap.size) (hb : w.heap[b]? = some (.cells cs el fz)) (hn : o + n ≤ cs.size) (hc : ∀ i, i < n → ∃ v, c.get i = some v ∧ cs[o + i]? = some v ∧ flat v = true)
    (ha : LR (renK P [⟨b, o, room, sz⟩]) args args'.toList) : Calls P f args' w fun e w' => e = .returned v ∧ Kept w w' := by
  intro ks
  obtain ⟨r2, w2, fr2, v2, p1, p2, p3, p4, p5, p6⟩ := E ks (renK P [⟨b, o, room, sz⟩]) w args' (HR.startW (P := P) hw hb hn hc) ha
  have := p4.flat_eq hf; subst this
  refine ⟨.returned v2, w2, fr2, ⟨rfl, p6.os, p6.size, ?_⟩, p1, p2, p3⟩
  intro i hi
  refine p6.keep i hi ?_
  intro j x bk hj hro
  obtain ⟨_, rfl⟩ := startW_get hj
  cases hro

/-- Bytes that came in. -/
theorem arg_bytes {H : Type} {enc : TypeId × Value → H} {P : Program} {W : World} {base : Nat} {t e : TypeId} {v : Value} {d : DataW H} {p : List MemPlace} (ht : P.underlying t = some (.slice e)) (he : P.underlying e = some (.int .u8)) (hc : P.cellsOf e = 1)
    (hv : Value.okWide P W .any base t v) (h : DataW.Trod enc P W 0 (fun _ => true) true t v d p) :
    ∃ bs : List Nat, (∀ x ∈ bs, x < 256) ∧ ((v = .slice none 0 0 ∧ bs = []) ∨ ∃ b o' o cap cs el fz, v = .slice (some ⟨b, o', none⟩) bs.length cap ∧ (bs.length ≠ 0 → o' = o) ∧ bs.length ≤ cap ∧ W.heap[b]? = some (.cells cs el fz) ∧ o + bs.length ≤ cs.size ∧
      ∀ (i x : Nat), bs[i]? = some x → cs[o + i]? = some (.int .u8 (x : Int))) := by
  obtain ⟨a, len, cap, rfl⟩ := WideShapes.okWide_slice ht hv
  obtain ⟨fuel, hf⟩ := h
  rcases ChangeShapes.open_ints ht he hc hf with ⟨hcs, _⟩ | ⟨a2, len2, cap2, zs, hcs, _, hle, hm, hz, _, hcell, hwf⟩
  · simp [Value.cells] at hcs
    obtain ⟨rfl, rfl, rfl⟩ := hcs
    exact ⟨[], by simp, .inl ⟨rfl, rfl⟩⟩
  · simp [Value.cells] at hcs
    obtain ⟨rfl, rfl, rfl⟩ := hcs
    simp only [Value.okWide, ht, Cell.okWide, Cell.ok] at hv
    obtain ⟨b, o, s⟩ := a2
    obtain ⟨_, _, _, hs, row, cells, hsh, hbnd⟩ := hv
    simp only at hs; subst hs
    have hnn : ∀ z ∈ zs, 0 ≤ z ∧ z ≤ 255 := by
      intro z hz
      have := hwf z hz
      simp only [Lit.wf, Bool.and_eq_true, decide_eq_true_eq] at this
      exact this
    refine ⟨(zs.take len).map Int.toNat, ?_, .inr ?_⟩
    · intro x hx
      rw [List.mem_map] at hx
      obtain ⟨z, hz1, rfl⟩ := hx
      have := hnn z (List.mem_of_mem_take hz1)
      omega
    have hlen : ((zs.take len).map Int.toNat).length = len := by
      rw [List.length_map, List.length_take]
      simp at hz
      omega
    unfold World.shape? at hsh
    cases hb : W.heap[b]? with
    | none => simp only [hb] at hsh; cases hsh
    | some ob =>
      cases ob with
      | cells cs el fz =>
        have hcs : ∀ (i : Nat), i < zs.length → cs[o + i]? = some (.int .u8 (zs.getD i 0)) := by
          intro i hi
          have := hcell i hi
          by_cases hi0 : i = 0
          · subst hi0
            simpa [World.cell?, Addr.add, hb] using this
          · simpa [World.cell?, Addr.add, hb, hi0] using this
        by_cases h0 : len = 0
        · subst h0
          exact ⟨b, o, 0, cap, cs, el, fz, by rw [hlen], fun q => absurd hlen q, by rw [hlen]; exact hle, hb, by rw [hlen]; omega, fun i x hx => by simp at hx⟩
        refine ⟨b, o, o, cap, cs, el, fz, by rw [hlen], fun _ => rfl, by rw [hlen]; exact hle, hb, ?_, ?_⟩
        · rw [hlen]
          have h1 : len - 1 < zs.length := by simp at hz; omega
          have := (Array.getElem?_eq_some_iff.1 (hcs _ h1)).1
          omega
        · intro i x hx
          rw [List.getElem?_map] at hx
          cases hy : (zs.take len)[i]? with
          | none => rw [hy] at hx; cases hx
          | some y =>
            rw [hy] at hx
            cases hx
            have hi := (List.getElem?_eq_some_iff.1 hy).1
            have hy2 : zs[i]? = some y := by rw [List.getElem?_take] at hy; split at hy <;> simp_all
            have hyz := hnn y (List.mem_of_getElem? hy2)
            rw [hcs i (List.getElem?_eq_some_iff.1 hy2).1, List.getD_eq_getElem?_getD, hy2]
            simp only [Option.getD_some]
            congr 2
            omega
      | _ => simp only [hb] at hsh; cases hsh

/- Many blocks that came in. -/
theorem foldl_new (l : List AObj) : ∀ h : AH, (∀ i, h.next ≤ i → h.get i = none) → (l.foldl AH.new h).next = h.next + l.length ∧ (∀ i, i < h.next → (l.foldl AH.new h).get i = h.get i) ∧ ∀ i, h.next ≤ i → (l.foldl AH.new h).get i = l[i - h.next]? := by
  induction l with
  | nil => intro h hn; exact ⟨rfl, fun _ _ => rfl, fun i hi => by simpa using hn i hi⟩
  | cons o l ih =>
    intro h hn
    obtain ⟨h1, h2, h3⟩ := ih (h.new o) (fun i hi => by
      have hi : h.next + 1 ≤ i := hi
      rw [AH.get_new, if_neg (by omega)]; exact hn i (by omega))
    have e : (h.new o).next = h.next + 1 := rfl
    rw [e] at h1 h2 h3
    refine ⟨by rw [List.foldl_cons, h1, List.length_cons]; omega, fun i hi => by rw [List.foldl_cons, h2 i (by omega), AH.get_new, if_neg (by omega)], fun i hi => ?_⟩
    rw [List.foldl_cons]
    by_cases hq : i = h.next
    · subst hq
      rw [h2 _ (by omega), AH.get_new, if_pos rfl]; simp
    · rw [h3 i (by omega), show i - h.next = (i - (h.next + 1)) + 1 by omega, List.getElem?_cons_succ]
def startB (P : Program) (l : List AObj) : AH := l.foldl AH.new (startH P)
theorem startB_next {P : Program} {l : List AObj} : (startB P l).next = P.globals.size + l.length := (foldl_new l (startH P) (fun _i _ => PM.get_empty ..)).1
theorem startB_get {P : Program} {l : List AObj} {i : Nat} : (startB P l).get (P.globals.size + i) = l[i]? := by
  have := (foldl_new l (startH P) (fun i _ => PM.get_empty ..)).2.2 (P.globals.size + i) (Nat.le_add_right _ _)
  rw [show P.globals.size + i - (startH P).next = i from Nat.add_sub_cancel_left _ _] at this
  exact this
theorem startB_low {P : Program} {l : List AObj} {i : Nat} (hi : i < P.globals.size) : (startB P l).get i = none := by
  rw [show (startB P l).get i = (startH P).get i from (foldl_new l (startH P) (fun i _ => PM.get_empty ..)).2.1 i hi]
  exact PM.get_empty ..
theorem renK_at {P : Program} {bks : List Bk} {i : Nat} {bk : Bk} (h : bks[i]? = some bk) : renK P bks (P.globals.size + i) = some bk := by
  unfold renK
  rw [if_neg (by omega), Nat.add_sub_cancel_left, h]
theorem HR.startB {P : Program} {w : World} {l : List AObj} {bks : List Bk} (hw : P.globals.size ≤ w.heap.size) (hlen : l.length = bks.length) (hro : ∀ o ∈ l, o.ro = true)
    (hl : ∀ (i : Nat) (o : AObj) (bk : Bk), l[i]? = some o → bks[i]? = some bk → ∃ ob, w.heap[bk.blk]? = some ob ∧ OR P (renK P bks) bk o ob) : HR P (renK P bks) (Abs.startB P l) w := by
  have live : ∀ b o, (Abs.startB P l).get b = some o → P.globals.size ≤ b ∧ l[b - P.globals.size]? = some o := by
    intro b o e
    by_cases hb : b < P.globals.size
    · rw [startB_low hb] at e; cases e
    · refine ⟨by omega, ?_⟩
      rw [show b = P.globals.size + (b - P.globals.size) by omega, startB_get] at e
      exact e
  refine ⟨?_, ?_, ?_, ?_⟩
  · intro b o e
    obtain ⟨h1, h2⟩ := live b o e
    have hb : b - P.globals.size < bks.length := by rw [← hlen]; exact (List.getElem?_eq_some_iff.1 h2).1
    have hk : bks[b - P.globals.size]? = some bks[b - P.globals.size] := List.getElem?_eq_getElem hb
    obtain ⟨ob, q1, q2⟩ := hl _ _ _ h2 hk
    refine ⟨_, ob, ?_, q1, q2⟩
    have := renK_at (P := P) hk
    rwa [show P.globals.size + (b - P.globals.size) = b by omega] at this
  · intro b b' o o' bk bk' e e' q _ _ _
    obtain ⟨_, h2⟩ := live b o e
    obtain ⟨_, h3⟩ := live b' o' e'
    have q1 := hro o (List.mem_of_getElem? h2)
    have q2 := hro o' (List.mem_of_getElem? h3)
    rw [q1, q2] at q
    rcases q with q | q <;> cases q
  · intro b bk e
    unfold renK at e
    rw [startB_next, hlen]
    split at e
    · cases e; rename_i q; exact ⟨by omega, by show b < w.heap.size; omega⟩
    · split at e
      · rename_i q x hx
        cases e
        have hb := (List.getElem?_eq_some_iff.1 hx).1
        have hk : l[b - P.globals.size]? = some (l[b - P.globals.size]'(by omega)) := List.getElem?_eq_getElem (by omega)
        obtain ⟨ob, q1, _⟩ := hl _ _ _ hk hx
        exact ⟨by omega, (Array.getElem?_eq_some_iff.1 q1).1⟩
      · cases e
  · intro g hg; simp [renK, hg]
theorem calls_startB {P : Program} {f : Nat} {args : List Value} {args' : Array Value} {v : Value} {h1 : AH} {l : List AObj} {bks : List Bk} (hf : flat v = true) (E : CallOK (mkTab P) f args (startB P l) v h1)
    {w : World} (hw : P.globals.size ≤ w.heap.size) (hlen : l.length = bks.length) (hro : ∀ o ∈ l, o.ro = true)
    (hl : ∀ (i : Nat) (o : AObj) (bk : Bk), l[i]? = some o → bks[i]? = some bk → ∃ ob, w.heap[bk.blk]? = some ob ∧ OR P (renK P bks) bk o ob)
    (ha : LR (renK P bks) args args'.toList) : Calls P f args' w fun e w' => e = .returned v ∧ Kept w w' := by
  intro ks
  obtain ⟨r2, w2, fr2, v2, p1, p2, p3, p4, p5, p6⟩ := E ks (renK P bks) w args' (HR.startB (P := P) hw hlen hro hl) ha
  have := p4.flat_eq hf; subst this
  refine ⟨.returned v2, w2, fr2, ⟨rfl, p6.os, p6.size, ?_⟩, p1, p2, p3⟩
  intro i hi
  refine p6.keep i hi ?_
  intro j x bk hj hx
  by_cases hb : j < P.globals.size
  · rw [startB_low hb] at hj; cases hj
  · rw [show j = P.globals.size + (j - P.globals.size) by omega, startB_get] at hj
    rw [hro x (List.mem_of_getElem? hj)] at hx; cases hx
/-- Bytes that lie in the memory, of which no more is known than that they were read there. -/
def BytesAt (W : World) (x : Value) (bs : List Nat) : Prop :=
  (x = .slice none 0 0 ∧ bs = []) ∨ (bs = [] ∧ ∃ a, x = .slice (some a) 0 0) ∨
  ∃ b o cap cs el fz, x = .slice (some ⟨b, o, none⟩) bs.length cap ∧ cap < XB ∧ bs.length ≤ cap ∧ W.heap[b]? = some (.cells cs el fz) ∧ o + bs.length ≤ cs.size ∧ ∀ (i y : Nat), bs[i]? = some y → cs[o + i]? = some (.int .u8 (y : Int))
theorem arg_inner {H : Type} {enc : TypeId × Value → H} {P : Program} {W : World} {t e : TypeId} {fuel : Nat} {v : Value} {x : DataW H × List MemPlace} (ht : P.underlying t = some (.slice e)) (he : P.underlying e = some (.int .u8)) (hc : P.cellsOf e = 1)
    (h : DataW.trod enc P W 0 (fun _ => true) true fuel t [v] = some x) : ∃ bs : List Nat, (∀ y ∈ bs, y < 256) ∧ BytesAt W v bs := by
  rcases ChangeShapes.open_ints ht he hc h with ⟨hcs, _⟩ | ⟨a, len, cap, zs, hcs, _, hle, hm, hz, _, hcell, hwf⟩
  · cases hcs
    exact ⟨[], by simp, .inl ⟨rfl, rfl⟩⟩
  · cases hcs
    have hz : zs.length = cap := by simpa using hz
    by_cases hc0 : cap = 0
    · subst hc0
      obtain rfl : len = 0 := by omega
      exact ⟨[], by simp, .inr (.inl ⟨rfl, a, rfl⟩)⟩
    obtain ⟨b, o, s⟩ := a
    have hnn : ∀ z ∈ zs, 0 ≤ z ∧ z ≤ 255 := by
      intro z hz
      have := hwf z hz
      simp only [Lit.wf, Bool.and_eq_true, decide_eq_true_eq] at this
      exact this
    have hlen : ((zs.take len).map Int.toNat).length = len := by rw [List.length_map, List.length_take]; omega
    have h0 := hcell 0 (by omega)
    have hs : s = none := by
      cases s with
      | none => rfl
      | some q =>
        unfold World.cell? at h0
        split at h0
        · simp [Addr.add] at h0
        · cases h0
    subst hs
    cases hb : W.heap[b]? with
    | none => simp [World.cell?, Addr.add, hb] at h0
    | some ob =>
      cases ob with
      | cells cs el fz =>
        have hcs : ∀ (i : Nat), i < zs.length → cs[o + i]? = some (.int .u8 (zs.getD i 0)) := by
          intro i hi
          have := hcell i hi
          by_cases hi0 : i = 0
          · subst hi0
            simpa [World.cell?, Addr.add, hb] using this
          · simpa [World.cell?, Addr.add, hb, hi0] using this
        refine ⟨(zs.take len).map Int.toNat, ?_, .inr (.inr ⟨b, o, cap, cs, el, fz, by rw [hlen], ?_, by rw [hlen]; exact hle, hb, ?_, ?_⟩)⟩
        · intro y hy
          rw [List.mem_map] at hy
          obtain ⟨z, hz1, rfl⟩ := hy
          have := hnn z (List.mem_of_mem_take hz1)
          omega
        · unfold maxLen at hm; rw [XB_val]; omega
        · rw [hlen]
          have := (Array.getElem?_eq_some_iff.1 (hcs (cap - 1) (by omega))).1
          omega
        · intro i y hy
          rw [List.getElem?_map] at hy
          cases hq : (zs.take len)[i]? with
          | none => rw [hq] at hy; cases hy
          | some z =>
            rw [hq] at hy
            cases hy
            have hy2 : zs[i]? = some z := by rw [List.getElem?_take] at hq; split at hq <;> simp_all
            have hyz := hnn z (List.mem_of_getElem? hy2)
            rw [hcs i (List.getElem?_eq_some_iff.1 hy2).1, List.getD_eq_getElem?_getD, hy2]
            simp only [Option.getD_some]
            congr 2
            omega
      | _ => simp [World.cell?, Addr.add, hb] at h0
/-- Slices of bytes that came in. -/
theorem arg_blocks {H : Type} {enc : TypeId × Value → H} {P : Program} {W : World} {base : Nat} {t e e2 : TypeId} {v : Value} {d : DataW H} {p : List MemPlace} (ht : P.underlying t = some (.slice e)) (he : P.underlying e = some (.slice e2)) (he2 : P.underlying e2 = some (.int .u8)) (hc : P.cellsOf e = 1) (hc2 : P.cellsOf e2 = 1)
    (hv : Value.okWide P W .any base t v) (h : DataW.Trod enc P W 0 (fun _ => true) true t v d p) :
    ∃ bss : List (List Nat), (∀ bs ∈ bss, ∀ x ∈ bs, x < 256) ∧ ((v = .slice none 0 0 ∧ bss = []) ∨ ∃ b o' o cap cs el fz, v = .slice (some ⟨b, o', none⟩) bss.length cap ∧ (bss.length ≠ 0 → o' = o) ∧ bss.length ≤ cap ∧ W.heap[b]? = some (.cells cs el fz) ∧ o + bss.length ≤ cs.size ∧
      ∀ (i : Nat) (bs : List Nat), bss[i]? = some bs → ∃ x, cs[o + i]? = some x ∧ BytesAt W x bs) := by
  obtain ⟨a, len, cap, rfl⟩ := WideShapes.okWide_slice ht hv
  obtain ⟨fuel, hf⟩ := h
  rcases Deep.open_slice1 ht hc hf with ⟨hcs, _⟩ | ⟨a2, len2, cap2, m, n, V, D, Pl, hcs, _, hle, hm, hmm, _, hel⟩
  · simp [Value.cells] at hcs
    obtain ⟨rfl, rfl, rfl⟩ := hcs
    exact ⟨[], by simp, .inl ⟨rfl, rfl⟩⟩
  · simp [Value.cells] at hcs
    obtain ⟨rfl, rfl, rfl⟩ := hcs
    have hmm : m = cap := by simpa using hmm
    subst hmm
    simp only [Value.okWide, ht, Cell.okWide, Cell.ok] at hv
    obtain ⟨b, o, s⟩ := a2
    obtain ⟨_, _, _, hs, row, cells, hsh, hbnd⟩ := hv
    simp only at hs; subst hs
    obtain ⟨B, hB⟩ := Deep.choose_lt (α := List Nat) (p := fun i bs => (∀ y ∈ bs, y < 256) ∧ BytesAt W (V i) bs) (n := len) (fun i hi => arg_inner he he2 hc2 (hel i (by omega)).2)
    unfold World.shape? at hsh
    cases hb : W.heap[b]? with
    | none => simp only [hb] at hsh; cases hsh
    | some ob =>
      cases ob with
      | cells cs el fz =>
        have hcs : ∀ (i : Nat), i < len → cs[o + i]? = some (V i) := by
          intro i hi
          have := (hel i (by omega)).1
          by_cases hi0 : i = 0
          · subst hi0
            simpa [World.cell?, Addr.add, hb] using this
          · simpa [World.cell?, Addr.add, hb, hi0] using this
        have hlen : ((List.range len).map B).length = len := by simp
        refine ⟨(List.range len).map B, ?_, .inr ?_⟩
        · intro bs hbs
          rw [List.mem_map] at hbs
          obtain ⟨i, hi, rfl⟩ := hbs
          exact (hB i (List.mem_range.1 hi)).1
        by_cases h0 : len = 0
        · subst h0
          exact ⟨b, o, 0, m, cs, el, fz, by rw [hlen], fun q => absurd hlen q, by rw [hlen]; exact hle, hb, by rw [hlen]; omega, fun i x hx => by simp at hx⟩
        refine ⟨b, o, o, m, cs, el, fz, by rw [hlen], fun _ => rfl, by rw [hlen]; exact hle, hb, ?_, ?_⟩
        · rw [hlen]
          have := (Array.getElem?_eq_some_iff.1 (hcs (len - 1) (by omega))).1
          omega
        · intro i bs hx
          rw [List.getElem?_map] at hx
          cases hy : (List.range len)[i]? with
          | none => rw [hy] at hx; cases hx
          | some j =>
            rw [hy] at hx
            cases hx
            have hi := (List.getElem?_eq_some_iff.1 hy).1
            rw [List.length_range] at hi
            rw [List.getElem?_range hi] at hy
            cases hy
            exact ⟨V i, hcs i hi, (hB i hi).2⟩
      | _ => simp only [hb] at hsh; cases hsh

/-- Calls whose fuel depends on the function. -/
def callU (T : Tab) (X : Exts) (S : Sums) (fu : Nat → Nat) (d : Nat) : Callee :=
  Nat.rec (motive := fun _ => Callee) (fun _ _ _ => none) (fun _ ih f args h => match S f with
    | some g => match g args h with
      | some r => some r
      | none => frameB T X ih (fu f) f args h
    | none => frameB T X ih (fu f) f args h) d
theorem callU_sound {T : Tab} (ok : TabOK T) (oz : TabZ T) {X : Exts} (hX : ExtOK T X) {S : Sums} (hS : SumOK T S) (fu : Nat → Nat) : ∀ d, RecOK T (callU T X S fu d) := by
  intro d
  induction d with
  | zero => intro g args h v h' e; cases e
  | succ d ih =>
    intro f args h v h' e
    change (match S f with
      | some g => match g args h with
        | some r => some r
        | none => frameB T X (callU T X S fu d) (fu f) f args h
      | none => frameB T X (callU T X S fu d) (fu f) f args h) = _ at e
    split at e
    · rename_i g hg
      split at e
      · rename_i p hp
        cases e
        exact hS f g hg args h v h' hp
      · exact frameB_sound ok oz hX ih (fu f) f args h v h' e
    · exact frameB_sound ok oz hX ih (fu f) f args h v h' e
end
end Go.Proofs.YtknchhnibjfocaaDoor.Abs
