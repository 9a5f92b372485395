/- An abstract machine: a slice of bytes that came in. -/
import Derived.Test.YtglmahefcdhmgaaAbsZM
import Derived.Test.YtglmahefcdhmgaaAbsZJ
import Derived.Test.YtglmahefcdhmgaaAbsZH
import Derived.ChangeSlices
namespace Go.Proofs.Ytglmahefcdhmgaa.Abs
open Go
noncomputable section

def startW (P : Program) (c : PM Value) (n : Nat) (el : TypeId) : AH := (startH P).new (.cells c n el 0 (n + 1) .ro)
theorem startW_get {P : Program} {c : PM Value} {n el i : Nat} {o : AObj} (h : (startW P c n el).get i = some o) : i = P.globals.size ∧ o = .cells c n el 0 (n + 1) .ro := by
  unfold startW at h
  rw [AH.get_new] at h
  by_cases hi : i = (startH P).next
  · rw [if_pos hi] at h; cases h; exact ⟨hi, rfl⟩
  · rw [if_neg hi] at h
    exact absurd h (by show ¬ PM.get (PM.empty 12) i = some o; rw [PM.get_empty]; simp)
theorem HR.startW {P : Program} {w : World} {c : PM Value} {n el b o room sz : Nat} {cs : Array Value} {fz : Nat × Nat} (hw : P.globals.size ≤ w.heap.size) (hb : w.heap[b]? = some (.cells cs el fz)) (hn : o + n ≤ cs.size)
    (hc : ∀ i, i < n → ∃ v, c.get i = some v ∧ cs[o + i]? = some v ∧ flat v = true) : HR P (renK P [⟨b, o, room, sz⟩]) (startW P c n el) w := by
  have hlt : b < w.heap.size := (Array.getElem?_eq_some_iff.1 hb).1
  refine ⟨?_, ?_, ?_, ?_⟩
  · intro i x e
    obtain ⟨rfl, rfl⟩ := startW_get e
    refine ⟨⟨b, o, room, sz⟩, _, by simp [renK], hb, cs, fz.1, fz.2, rfl, hn, (fun q => by cases q), (fun q => by cases q), ?_, fun q => by omega, fun i hi _ _ => ⟨Nat.zero_le _, by omega⟩⟩
    intro i hi
    obtain ⟨v, h1, h2, h3⟩ := hc i hi
    exact ⟨v, v, h1, h2, VR.of_flat _ v h3⟩
  · intro i j x y bk bk' e1 e2 _ _ _
    rw [(startW_get e1).1, (startW_get e2).1]
  · intro i bk e
    show i < P.globals.size + 1 ∧ _
    unfold renK at e
    split at e
    · cases e; rename_i q; exact ⟨by omega, by show i < w.heap.size; omega⟩
    · split at e
      · rename_i q x hx
        cases e
        have := (List.getElem?_eq_some_iff.1 hx).1
        simp at this
        have h0 : i - P.globals.size = 0 := by omega
        rw [h0] at hx; simp at hx; subst hx
        exact ⟨by omega, hlt⟩
      · cases e
  · intro g hg; simp [renK, hg]
theorem calls_startW {P : Program} {f : Nat} {args : List Value} {args' : Array Value} {v : Value} {h1 : AH} {c : PM Value} {n el b o room sz : Nat} {cs : Array Value} {fz : Nat × Nat} (hf : flat v = true) (E : CallOK (mkTab P) f args (startW P c n el) v h1)
    {w : World} (hw : P.globals.size ≤ w.heap.size) (hb : w.heap[b]? = some (.cells cs el fz)) (hn : o + n ≤ cs.size) (hc : ∀ i, i < n → ∃ v, c.get i = some v ∧ cs[o + i]? = some v ∧ flat v = true)
    (ha : LR (renK P [⟨b, o, room, sz⟩]) args args'.toList) : Calls P f args' w fun e w' => e = .returned v ∧ Kept w w' := by
  intro ks
  obtain ⟨r2, w2, fr2, v2, p1, p2, p3, p4, p5, p6⟩ := E ks (renK P [⟨b, o, room, sz⟩]) w args' (HR.startW (P := P) hw hb hn hc) ha
  have := p4.flat_eq hf; subst this
  refine ⟨.returned v2, w2, fr2, ⟨rfl, p6.os, p6.size, ?_⟩, p1, p2, p3⟩
  intro i hi
  refine p6.keep i hi ?_
  intro j x bk hj hro
  obtain ⟨_, rfl⟩ := startW_get hj
  cases hro

/-- Bytes that came in. -/
theorem arg_bytes {H : Type} {enc : TypeId × Value → H} {P : Program} {W : World} {base : Nat} {t e : TypeId} {v : Value} {d : DataW H} {p : List MemPlace} (ht : P.underlying t = some (.slice e)) (he : P.underlying e = some (.int .u8)) (hc : P.cellsOf e = 1)
    (hv : Value.okWide P W .any base t v) (h : DataW.Trod enc P W 0 (fun _ => true) true t v d p) :
    ∃ bs : List Nat, (∀ x ∈ bs, x < 256) ∧ ((v = .slice none 0 0 ∧ bs = []) ∨ ∃ b o' o cap cs el fz, v = .slice (some ⟨b, o', none⟩) bs.length cap ∧ (bs.length ≠ 0 → o' = o) ∧ bs.length ≤ cap ∧ W.heap[b]? = some (.cells cs el fz) ∧ o + bs.length ≤ cs.size ∧
      ∀ (i x : Nat), bs[i]? = some x → cs[o + i]? = some (.int .u8 (x : Int))) := by
  obtain ⟨a, len, cap, rfl⟩ := WideShapes.okWide_slice ht hv
  obtain ⟨fuel, hf⟩ := h
  rcases ChangeShapes.open_ints ht he hc hf with ⟨hcs, _⟩ | ⟨a2, len2, cap2, zs, hcs, _, hle, hm, hz, _, hcell, hwf⟩
  · simp [Value.cells] at hcs
    obtain ⟨rfl, rfl, rfl⟩ := hcs
    exact ⟨[], by simp, .inl ⟨rfl, rfl⟩⟩
  · simp [Value.cells] at hcs
    obtain ⟨rfl, rfl, rfl⟩ := hcs
    simp only [Value.okWide, ht, Cell.okWide, Cell.ok] at hv
    obtain ⟨b, o, s⟩ := a2
    obtain ⟨_, _, _, hs, row, cells, hsh, hbnd⟩ := hv
    simp only at hs; subst hs
    have hnn : ∀ z ∈ zs, 0 ≤ z ∧ z ≤ 255 := by
      intro z hz
      have := hwf z hz
      simp only [Lit.wf, Bool.and_eq_true, decide_eq_true_eq] at this
      exact this
    refine ⟨(zs.take len).map Int.toNat, ?_, .inr ?_⟩
    · intro x hx
      rw [List.mem_map] at hx
      obtain ⟨z, hz1, rfl⟩ := hx
      have := hnn z (List.mem_of_mem_take hz1)
      omega
    have hlen : ((zs.take len).map Int.toNat).length = len := by
      rw [List.length_map, List.length_take]
      simp at hz
      omega
    unfold World.shape? at hsh
    cases hb : W.heap[b]? with
    | none => simp only [hb] at hsh; cases hsh
    | some ob =>
      cases ob with
      | cells cs el fz =>
        have hcs : ∀ (i : Nat), i < zs.length → cs[o + i]? = some (.int .u8 (zs.getD i 0)) := by
          intro i hi
          have := hcell i hi
          by_cases hi0 : i = 0
          · subst hi0
            simpa [World.cell?, Addr.add, hb] using this
          · simpa [World.cell?, Addr.add, hb, hi0] using this
        by_cases h0 : len = 0
        · subst h0
          exact ⟨b, o, 0, cap, cs, el, fz, by rw [hlen], fun q => absurd hlen q, by rw [hlen]; exact hle, hb, by rw [hlen]; omega, fun i x hx => by simp at hx⟩
        refine ⟨b, o, o, cap, cs, el, fz, by rw [hlen], fun _ => rfl, by rw [hlen]; exact hle, hb, ?_, ?_⟩
        · rw [hlen]
          have h1 : len - 1 < zs.length := by simp at hz; omega
          have := (Array.getElem?_eq_some_iff.1 (hcs _ h1)).1
          omega
        · intro i x hx
          rw [List.getElem?_map] at hx
          cases hy : (zs.take len)[i]? with
          | none => rw [hy] at hx; cases hx
          | some y =>
            rw [hy] at hx
            cases hx
            have hi := (List.getElem?_eq_some_iff.1 hy).1
            have hy2 : zs[i]? = some y := by rw [List.getElem?_take] at hy; split at hy <;> simp_all
            have hyz := hnn y (List.mem_of_getElem? hy2)
            rw [hcs i (List.getElem?_eq_some_iff.1 hy2).1, List.getD_eq_getElem?_getD, hy2]
            simp only [Option.getD_some]
            congr 2
            omega
      | _ => simp only [hb] at hsh; cases hsh
end
end Go.Proofs.Ytglmahefcdhmgaa.Abs
