/- An abstract machine: slice expressions, new slices, append and copy. -/
import Derived.Test.YtknchhnibjfocaaDoorAbsE
namespace Go.Proofs.YtknchhnibjfocaaDoor.Abs
open Go
noncomputable section

def capOf (c : Nat) : Nat := ifB (Nat.ble XB c) (c - XB) c

/-- Is a block one that append made, of elements of this size? -/
def looseSz (T : Tab) (h : AH) (b size : Nat) : Bool :=
  match h.get b with
  | some (.cells _ _ e _ _ .loose) => (match szOf T e with
    | some s => Nat.beq s size
    | none => false)
  | _ => false
theorem looseSz_ok {T : Tab} (ok : TabOK T) {r : Ren} {h : AH} {w : World} (hr : HR T.P r h w) {b size : Nat} {bk : Bk} (hb : r b = some bk) (e : looseSz T h b size = true) : bk.sz = size := by
  unfold looseSz at e
  split at e
  · rename_i c n el lo hi hg
    split at e
    · rename_i s hs
      obtain ⟨bk', ob, h1, h2, h3⟩ := hr.live b _ hg
      rw [hb] at h1; cases h1
      obtain ⟨cs, fl, fh, rfl, h4, h5, h6, h7, h8, h9⟩ := h3
      obtain ⟨_, i, hi, hz⟩ := h6 rfl
      obtain ⟨j, hj, rfl⟩ := sz_ok ok hs
      rw [hi] at hj; cases hj
      rw [← hz]; exact Nat.eq_of_beq_eq_true e
    · cases e
  · cases e

def offS (b o l size : Nat) (same : Bool) : Addr := ifB same ⟨b, o, none⟩ ⟨b, o + l * size, none⟩

/-- A slice expression on a slice, or on an array at an address. -/
def evSliceS (T : Tab) (h : AH) (size : Nat) (a : Option Addr) (len cap : Nat) (lo hi mx : Option Value) : Option Value :=
  match boundsA len (capOf cap) lo hi mx with
  | none => none
  | some (l, hh, m) => ifB (Nat.ble hh m) (match a with
      | none => some (.slice none (hh - l) (m - l))
      | some a => ifB (Nat.ble XB cap)
          (ifB (looseSz T h a.block size) (match mx with
              | none => some (.slice (some (offS a.block a.off l size (Nat.beq m l))) (hh - l) (XB + (m - l)))
              | some _ => ifB (Nat.blt 0 (cap - XB) && Nat.blt m XB) (some (.slice (some (offS a.block a.off l size (Nat.beq m l))) (hh - l) (m - l))) none) none)
          (some (.slice (some (offS a.block a.off l size (Nat.beq m l))) (hh - l) (m - l)))) none

def evSlice (T : Tab) (t : TypeId) (x : Value) (lo hi mx : Option Value) (h : AH) : Option Value :=
  match x with
  | .slice a len cap => (match und T t with
    | some (.slice e) => (match szOf T e with
      | some size => evSliceS T h size a len cap lo hi mx
      | none => none)
    | _ => none)
  | .pointer (some a) => (match und T t with
    | some (.array n e) => (match szOf T e with
      | some size => ifB (Nat.blt n XB) (match boundsA n n lo hi mx with
        | some (l, hh, m) => some (.slice (some (offS a.block a.off l size (Nat.beq m l))) (hh - l) (m - l))
        | none => none) none
      | none => none)
    | some (.pointer arr) => (match und T arr with
      | some (.array n e) => (match szOf T e with
        | some size => ifB (Nat.blt n XB) (match boundsA n n lo hi mx with
          | some (l, hh, m) => some (.slice (some (offS a.block a.off l size (Nat.beq m l))) (hh - l) (m - l))
          | none => none) none
        | none => none)
      | _ => none)
    | _ => none)
  | _ => none

theorem capOf_lt {c : Nat} (h : c < XB) : capOf c = c := by
  have : Nat.ble XB c = false := by
    cases e : Nat.ble XB c with
    | false => rfl
    | true => have := ble_le e; omega
  rw [capOf, this]; rfl
theorem capOf_ge (k : Nat) : capOf (XB + k) = k := by
  have : Nat.ble XB (XB + k) = true := Nat.ble_eq_true_of_le (by omega)
  rw [capOf, this, ifB_true]; omega
theorem ble_ge (k : Nat) : Nat.ble XB (XB + k) = true := Nat.ble_eq_true_of_le (by omega)
theorem ble_lt' {c : Nat} (h : c < XB) : Nat.ble XB c = false := by
  cases e : Nat.ble XB c with
  | false => rfl
  | true => have := ble_le e; omega

theorem bounds_zero {lo hi mx : Option Value} {l h m : Nat} (e : boundsA 0 0 lo hi mx = some (l, h, m)) : h - l = 0 ∧ m - l = 0 ∧ (if mx.isSome then m else 0) - l = 0 := by
  have hm : m = 0 ∧ h = 0 := by
    unfold boundsA at e
    have ba : ∀ (v : Option Value) (q : Nat), boundA v 0 0 = some q → q = 0 := by
      intro v q e
      unfold boundA at e
      split at e
      · cases e; rfl
      · split at e
        · obtain ⟨e1, e2⟩ := ifB_some e; cases e2; have := ble_le e1; omega
        · cases e
    split at e
    · cases e
    · rename_i m' h1
      have := ba _ _ h1
      subst this
      split at e
      · cases e
      · split at e
        · cases e
        · rename_i h' h2
          have := ba _ _ h2
          subst this
          split at e
          · cases e
          · cases e; exact ⟨rfl, rfl⟩
  obtain ⟨rfl, rfl⟩ := hm
  simp

theorem evSliceS_sound {T : Tab} (ok : TabOK T) {r : Ren} {h : AH} {w : World} (hr : HR T.P r h w) {t el : TypeId} (hd : T.P.underlying t = some (.slice el)) {size : Nat} {i : TypeInfo} (hi : T.P.info? el = some i) (hz : i.size = size)
    {a : Option Addr} {len cap : Nat} {x' v : Value} {lo hv mx lo' hv' mx' : Option Value} (hx : VR r (.slice a len cap) x') (h1 : OVR r lo lo') (h2 : OVR r hv hv') (h3 : OVR r mx mx')
    (e : evSliceS T h size a len cap lo hv mx = some v) : SOK T.P r h w (Instr.slice t x' lo' hv' mx') v h := by
  unfold evSliceS at e
  split at e
  · cases e
  · rename_i l hh m hbd
    obtain ⟨e1, e2⟩ := ifB_some e
    have hhm := ble_le e1
    subst hz
    cases hx with
    | slNil =>
      cases e2
      rw [capOf_lt (by decide)] at hbd
      obtain ⟨g1, g2, g3, g4, g5⟩ := boundsA_ok (P := T.P) (w := w) true h1 h2 h3 (Nat.le_refl 0) hbd
      have hz : hh - l = 0 ∧ m - l = 0 ∧ (if mx.isSome then m else 0) - l = 0 := bounds_zero hbd
      rw [hz.1, hz.2.1]
      refine .same hr (v' := .slice none 0 0) ?_ .slNil
      simp only [Instr.slice, Sem.run_bind, run_und w hd, Result.andThen_ok, g1, run_size w hi, Sem.run_pure, Option.map_none, ite_self, hz.1, hz.2.2]
    | slOff b o a' =>
      have hx0 : (0 : Nat) < XB := by unfold XB; decide
      simp only [ble_lt' hx0, ifB_false] at e2
      cases e2
      rw [capOf_lt hx0] at hbd
      obtain ⟨g1, g2, g3, g4, g5⟩ := boundsA_ok (P := T.P) (w := w) true h1 h2 h3 (Nat.le_refl 0) hbd
      have hz : hh - l = 0 ∧ m - l = 0 ∧ (if mx.isSome then m else 0) - l = 0 := bounds_zero hbd
      rw [hz.1, hz.2.1]
      refine .same hr (v' := .slice (some (if (if mx.isSome then m else 0) = l then a' else a'.add (l * i.size))) 0 0) ?_ ?_
      · simp only [Instr.slice, Sem.run_bind, run_und w hd, Result.andThen_ok, g1, run_size w hi, Sem.run_pure, Option.map_some, hz.1, hz.2.2]
        cases mx with
        | none => simp only [Option.isSome_none, Bool.false_eq_true, if_false]; split <;> rfl
        | some z => simp only [Option.isSome_some, if_true]; split <;> rfl
      · unfold offS
        cases Nat.beq m l
        · exact .slOff _ _ _
        · exact .slOff _ _ _
    | slEx b o l0 c0 bk hb hc =>
      simp only [ble_lt' hc, ifB_false] at e2
      cases e2
      rw [capOf_lt hc] at hbd
      obtain ⟨g1, g2, g3, g4, g5⟩ := boundsA_ok (P := T.P) (w := w) true h1 h2 h3 (Nat.le_refl cap) hbd
      have hm : (if mx.isSome then m else cap) = m := by cases mx with | none => exact (g5 rfl).symm | some _ => rfl
      rw [hm] at g1
      have hmc : m ≤ cap := by
        unfold boundsA at hbd
        cases mx with
        | none => rw [g5 rfl]; exact Nat.le_refl _
        | some z =>
          simp only [boundA] at hbd
          cases e3 : natOf z with
          | none => rw [e3] at hbd; cases hbd
          | some q3 =>
            rw [e3] at hbd; simp only at hbd
            cases e33 : Nat.ble q3 cap with
            | false => rw [e33] at hbd; cases hbd
            | true =>
              rw [e33] at hbd; simp only [ifB_true] at hbd
              have := ble_le e33
              split at hbd
              · cases hbd
              · split at hbd
                · cases hbd
                · split at hbd
                  · cases hbd
                  · cases hbd; exact this
      refine .same hr (v' := .slice (some (if m = l then ⟨bk.blk, o + bk.dlt, none⟩ else ⟨bk.blk, o + bk.dlt + l * i.size, none⟩)) (hh - l) (m - l)) ?_ ?_
      · simp only [Instr.slice, Sem.run_bind, run_und w hd, Result.andThen_ok, g1, run_size w hi, Sem.run_pure, Option.map_some, Addr.add_none]
        split <;> rfl
      · by_cases hml : m = l
        · subst hml
          rw [if_pos rfl]
          have : Nat.beq m m = true := Nat.beq_refl m
          rw [offS, this]
          exact .slEx b o _ _ bk hb (by omega)
        · rw [if_neg hml]
          have : Nat.beq m l = false := by
            cases e : Nat.beq m l with
            | false => rfl
            | true => exact absurd (Nat.eq_of_beq_eq_true e) hml
          rw [offS, this, ifB_false, show o + bk.dlt + l * i.size = o + l * i.size + bk.dlt from by omega]
          exact .slEx b _ _ _ bk hb (by omega)
    | slIn b o l0 k o' c' bk hb q1 q2 q3 q4 =>
      simp only [ble_ge, ifB_true] at e2
      obtain ⟨e3, e4⟩ := ifB_some e2
      have hsz := looseSz_ok ok hr hb e3
      rw [capOf_ge] at hbd
      obtain ⟨g1, g2, g3, g4, g5⟩ := boundsA_ok (P := T.P) (w := w) true h1 h2 h3 q2 hbd
      cases mx with
      | none =>
        simp only at e4
        cases e4
        have hmk := g5 rfl
        subst hmk
        refine .same hr (v' := .slice (some (if c' = l then ⟨bk.blk, o', none⟩ else ⟨bk.blk, o' + l * i.size, none⟩)) (hh - l) (c' - l)) ?_ ?_
        · simp only [Instr.slice, Sem.run_bind, run_und w hd, Result.andThen_ok, g1, run_size w hi, Sem.run_pure, Option.map_some, Addr.add_none, Option.isSome_none, Bool.false_eq_true, if_false]
          split <;> rfl
        · have hbnd : ∀ (p : Nat), p = l * i.size → o' + p + (c' - l) * bk.sz ≤ bk.room := by
            intro p hp
            rw [hsz, hp]
            have : l * i.size + (c' - l) * i.size = c' * i.size := by rw [← Nat.add_mul]; congr 1; omega
            rw [hsz] at q4; omega
          by_cases hml : m = l
          · subst hml
            have : Nat.beq m m = true := Nat.beq_refl m
            rw [offS, this, ifB_true, Nat.sub_self]
            by_cases hcl : c' = m
            · rw [if_pos hcl]
              refine .slIn b o _ 0 _ _ bk hb (by omega) (by omega) (fun h => absurd rfl h) ?_
              rw [hcl]; simp; omega
            · rw [if_neg hcl]
              exact .slIn b o _ 0 _ _ bk hb (by omega) (by omega) (fun h => absurd rfl h) (hbnd _ rfl)
          · have : Nat.beq m l = false := by
              cases e : Nat.beq m l with
              | false => rfl
              | true => exact absurd (Nat.eq_of_beq_eq_true e) hml
            rw [offS, this, ifB_false, if_neg (by omega)]
            exact .slIn b _ _ (m - l) _ _ bk hb (by omega) (by omega) (fun _ => by rw [q3 (by omega)]; omega) (hbnd _ rfl)
      | some z =>
        simp only at e4
        obtain ⟨e5, e6⟩ := ifB_some e4
        cases e6
        rw [Bool.and_eq_true] at e5
        have hk0 := blt_lt e5.1
        have hmx := blt_lt e5.2
        have hk0' : k ≠ 0 := by omega
        have ho := q3 hk0'
        subst ho
        refine .same hr (v' := .slice (some (if m = l then ⟨bk.blk, o + bk.dlt, none⟩ else ⟨bk.blk, o + bk.dlt + l * i.size, none⟩)) (hh - l) (m - l)) ?_ ?_
        · simp only [Instr.slice, Sem.run_bind, run_und w hd, Result.andThen_ok, g1, run_size w hi, Sem.run_pure, Option.map_some, Addr.add_none, Option.isSome_some, if_true]
          split <;> rfl
        · by_cases hml : m = l
          · subst hml
            have : Nat.beq m m = true := Nat.beq_refl m
            rw [offS, this, if_pos rfl]
            exact .slEx b o _ _ bk hb (by omega)
          · have : Nat.beq m l = false := by
              cases e : Nat.beq m l with
              | false => rfl
              | true => exact absurd (Nat.eq_of_beq_eq_true e) hml
            rw [offS, this, ifB_false, if_neg hml, show o + bk.dlt + l * i.size = o + l * i.size + bk.dlt from by omega]
            exact .slEx b _ _ _ bk hb (by omega)

theorem arr_slice {r : Ren} {b o l size hh m : Nat} {bk : Bk} (hb : r b = some bk) (hm : m < XB) :
    VR r (.slice (some (offS b o l size (Nat.beq m l))) (hh - l) (m - l)) (.slice (some (if m = l then ⟨bk.blk, o + bk.dlt, none⟩ else ⟨bk.blk, o + bk.dlt + l * size, none⟩)) (hh - l) (m - l)) := by
  by_cases hml : m = l
  · subst hml
    have : Nat.beq m m = true := Nat.beq_refl m
    rw [offS, this, if_pos rfl]
    exact .slEx b o _ _ bk hb (by omega)
  · have : Nat.beq m l = false := by
      cases e : Nat.beq m l with
      | false => rfl
      | true => exact absurd (Nat.eq_of_beq_eq_true e) hml
    rw [offS, this, ifB_false, if_neg hml, show o + bk.dlt + l * size = o + l * size + bk.dlt from by omega]
    exact .slEx b _ _ _ bk hb (by omega)

theorem bounds_le {len cap : Nat} {lo hi mx : Option Value} {l h m : Nat} (e : boundsA len cap lo hi mx = some (l, h, m)) : m ≤ cap := by
  unfold boundsA at e
  split at e
  · cases e
  · rename_i m' h1
    have : m' ≤ cap := by
      unfold boundA at h1
      split at h1
      · cases h1; exact Nat.le_refl _
      · split at h1
        · obtain ⟨e1, e2⟩ := ifB_some h1; cases e2; exact ble_le e1
        · cases h1
    split at e
    · cases e
    · split at e
      · cases e
      · split at e
        · cases e
        · cases e; exact this

theorem evSlice_sound {T : Tab} (ok : TabOK T) {r : Ren} {h : AH} {w : World} (hr : HR T.P r h w) {t : TypeId} {x x' v : Value} {lo hv mx lo' hv' mx' : Option Value} (hx : VR r x x') (h1 : OVR r lo lo') (h2 : OVR r hv hv') (h3 : OVR r mx mx')
    (e : evSlice T t x lo hv mx h = some v) : SOK T.P r h w (Instr.sliceAt t x' lo' hv' mx') v h := by
  unfold evSlice at e
  split at e
  · split at e
    · rename_i el hel
      split at e
      · rename_i size hs
        have hd := und_ok ok hel
        obtain ⟨i, hi, hz⟩ := sz_ok ok hs
        obtain ⟨v', w', r', a, b⟩ := evSliceS_sound ok hr hd hi hz hx h1 h2 h3 e
        exact ⟨v', w', r', by simp only [Instr.sliceAt, Sem.run_bind, run_und w hd, Result.andThen_ok]; exact a, b⟩
      · cases e
    · cases e
  · rename_i a
    cases hx with
    | ptr b o bk hb =>
      split at e
      · rename_i n el hel
        split at e
        · rename_i size hs
          obtain ⟨en, e⟩ := ifB_some e
          split at e
          · rename_i l hh m hbd
            cases e
            have hd := und_ok ok hel
            obtain ⟨i, hi, hz⟩ := sz_ok ok hs
            subst hz
            have hle := bounds_le hbd
            obtain ⟨g1, g2, g3, g4, g5⟩ := boundsA_ok (P := T.P) (w := w) false h1 h2 h3 (Nat.le_refl n) hbd
            have hm : (if mx.isSome then m else n) = m := by cases mx with | none => exact (g5 rfl).symm | some _ => rfl
            rw [hm] at g1
            refine .same hr ?_ (arr_slice hb (by have := blt_lt en; omega))
            simp only [Instr.sliceAt, Sem.run_bind, run_und w hd, Result.andThen_ok, Instr.sureAddr, Sem.run_pure, g1, run_size w hi, Addr.add_none]
          · cases e
        · cases e
      · rename_i arr harr
        split at e
        · rename_i n el hel
          split at e
          · rename_i size hs
            obtain ⟨en, e⟩ := ifB_some e
            split at e
            · rename_i l hh m hbd
              cases e
              have hd := und_ok ok harr
              have hd2 := und_ok ok hel
              obtain ⟨i, hi, hz⟩ := sz_ok ok hs
              subst hz
              have hle := bounds_le hbd
              obtain ⟨g1, g2, g3, g4, g5⟩ := boundsA_ok (P := T.P) (w := w) false h1 h2 h3 (Nat.le_refl n) hbd
              have hm : (if mx.isSome then m else n) = m := by cases mx with | none => exact (g5 rfl).symm | some _ => rfl
              rw [hm] at g1
              refine .same hr ?_ (arr_slice hb (by have := blt_lt en; omega))
              simp only [Instr.sliceAt, Instr.slice, Sem.run_bind, run_und w hd, run_und w hd2, Result.andThen_ok, asAddr, Sem.run_pure, g1, run_size w hi, Addr.add_none]
            · cases e
          · cases e
        · cases e
      · cases e
  · cases e

/- New slices. -/
theorem newSlice_sound {P : Program} {r : Ren} {h : AH} {w w' : World} (hr : HR P r h w) (e : TypeId) (c : PM Value) (n len cap : Nat) (cs : Array Value) (hn : cs.size = n) (hcap : cap < XB)
    (hc : ∀ i, i < n → ∃ v v', c.get i = some v ∧ cs[i]? = some v' ∧ VR r v v') (hw : w'.heap = w.heap.push (.cells cs e)) {s : Sem Value} (hs : s.run P w = .ok (.slice (some ⟨w.heap.size, 0, none⟩) len cap) w') (hos : w'.os = w.os ∧ w'.output = w.output := by exact ⟨rfl, rfl⟩) :
    SOK P r h w s (.slice (some ⟨h.next, 0, none⟩) len cap) (newCells h e c n) := by
  obtain ⟨g1, g2⟩ := newCells_sound hr e c n cs hn hc hw hos
  exact ⟨_, _, _, hs, .slEx h.next 0 len cap ⟨w.heap.size, 0, 0, 0⟩ (Ren.add_same _ _ _) hcap, g1, g2⟩

def zeros (z : Value) (n : Nat) : List Value := (List.range n).map fun i => z.cells[i % z.cells.size]!
def evBuildSlice (T : Tab) (t : TypeId) (len : Nat) (ps : List (Nat × Value)) (h : AH) : Option (Value × AH) :=
  match und T t with
  | some (.slice e) => (match szOf T e with
    | some s => (match zeroOf T e with
      | some z => ifB (Nat.ble (len * s) 16777216 && Nat.blt len XB) (match fillA (fun i => some (i * s, s)) (zeros z (len * s)) ps with
          | some l => some (.slice (some ⟨h.next, 0, none⟩) len len, newCells h e (PM.ofList l) l.length)
          | none => none) none
      | none => none)
    | none => none)
  | _ => none
theorem evBuildSlice_sound {T : Tab} (ok : TabOK T) (oz : TabZ T) {r : Ren} {h h' : AH} {w : World} (hr : HR T.P r h w) {t : TypeId} {len : Nat} {ps : List (Nat × Value)} {ps' : Array (Nat × Value)} (hp : PR r ps ps'.toList) {v : Value}
    (e : evBuildSlice T t len ps h = some (v, h')) : SOK T.P r h w (Instr.buildSlice t len ps') v h' := by
  unfold evBuildSlice at e
  split at e
  · rename_i el hel
    split at e
    · rename_i s hs
      split at e
      · rename_i z hz
        obtain ⟨e1, e2⟩ := ifB_some e
        rw [Bool.and_eq_true] at e1
        have h1 := ble_le e1.1
        have h2 := blt_lt e1.2
        split at e2
        · rename_i l hl
          cases e2
          have hd := und_ok ok hel
          obtain ⟨i, hi, hzs⟩ := sz_ok ok hs
          subst hzs
          obtain ⟨i2, hi2, hzi⟩ := zero_ok ok hz
          rw [hi] at hi2; cases hi2
          have hzf := zeroFlat oz hz
          let cs : Array Value := ((Array.range (len * i.size)).map (z.cells[· % z.cells.size]!))
          have hcs : cs.toList = zeros z (len * i.size) := by simp [cs, zeros]
          have hcells : flatAll z.cells.toList = true := (flatAll_iff _).2 (by
            intro y hy
            have := (VR.of_flat r z hzf).cells
            revert hy
            cases z <;> simp_all [Value.cells, flat, flatAll_iff])
          have hzl : LR r (zeros z (len * i.size)) cs.toList := by
            rw [hcs]
            refine LR.of_flat r _ ((flatAll_iff _).2 ?_)
            intro y hy
            simp only [zeros, List.mem_map, List.mem_range] at hy
            obtain ⟨k, hk, rfl⟩ := hy
            by_cases hsz : z.cells.size = 0
            · have : z.cells = #[] := Array.eq_empty_of_size_eq_zero hsz
              simp [this]; rfl
            · have hlt : k % z.cells.size < z.cells.size := Nat.mod_lt _ (by omega)
              rw [getElem!_pos z.cells _ hlt]
              exact (flatAll_iff _).1 hcells _ (by simp)
          obtain ⟨cs2, f1, f2, f3⟩ := fillA_sound ps ps'.toList _ _ cs hp hzl hl
          refine newSlice_sound hr el (PM.ofList l) l.length len len cs2 (by have := f2.1; simpa using this.symm) h2 ?_ (w' := { w with heap := w.heap.push (.cells cs2 el) }) rfl ?_
          · intro k hk
            obtain ⟨x', a, b⟩ := f2.get (List.getElem?_eq_getElem hk)
            exact ⟨_, x', by rw [PM.get_ofList, List.getElem?_eq_getElem hk], by simpa using a, b⟩
          · by_cases h0 : len * i.size = 0
            · have hcs0 : cs = ((Array.range (len * i.size)).map ((#[] : Array Value)[· % (#[] : Array Value).size]!)) := by simp [cs, h0]
              rw [hcs0] at f1
              simp only [Instr.buildSlice, Sem.run_bind, run_und w hd, run_size w hi, Result.andThen_ok, Sem.run_ite, h0, if_true, Sem.run_pure]
              simp only [h0] at f1
              simp only [f1, run_newRow, Sem.run_bind, Result.andThen_ok, Sem.run_pure]
              simp
            · simp only [Instr.buildSlice, Sem.run_bind, run_und w hd, run_size w hi, Result.andThen_ok, Sem.run_ite, if_neg (by omega : ¬ len * i.size > 2 ^ 24), h0, if_false, Sem.run_pure, run_zero w hi hzi]
              simp only [cs] at f1
              simp only [f1, run_newRow, Sem.run_bind, Result.andThen_ok, Sem.run_pure]
        · cases e2
      · cases e
    · cases e
  · cases e
end
end Go.Proofs.YtknchhnibjfocaaDoor.Abs
