/- An abstract machine: addresses, slices, parts. -/
import Derived.Test.YtknchhnibjfocaaDoorAbsD
namespace Go.Proofs.YtknchhnibjfocaaDoor.Abs
open Go
noncomputable section

/-- An index or a bound. -/
def natOf (v : Value) : Option Nat :=
  match v with
  | .int _ n => (match n with
    | .ofNat m => some m
    | _ => none)
  | _ => none
theorem natOf_ok {v : Value} {m : Nat} (h : natOf v = some m) : ∃ k, v = .int k (m : Int) := by
  unfold natOf at h
  split at h
  · rename_i k n
    split at h
    · cases h; exact ⟨k, rfl⟩
    · cases h
  · cases h

/- Fields. -/
def fieldOf (T : Tab) (t : TypeId) (f : Nat) : Option Field := match und T t with | some (.struct fs) => fs[f]? | _ => none
theorem fieldOf_ok {T : Tab} (ok : TabOK T) {t : TypeId} {f : Nat} {fd : Field} (h : fieldOf T t f = some fd) : ∃ fs, T.P.underlying t = some (.struct fs) ∧ fs[f]? = some fd := by
  unfold fieldOf at h
  split at h
  · rename_i fs e; exact ⟨fs, und_ok ok e, h⟩
  · cases h

def evFieldAddr (T : Tab) (s : TypeId) (x : Value) (f : Nat) : Option Value :=
  match x with
  | .pointer (some a) => (match fieldOf T s f with
    | some fd => (match szOf T fd.type with
      | some (_ + 1) => some (.pointer (some ⟨a.block, a.off + fd.offset, none⟩))
      | _ => none)
    | none => none)
  | _ => none
theorem evFieldAddr_sound {T : Tab} (ok : TabOK T) {r : Ren} {h : AH} {w : World} (hr : HR T.P r h w) {s : TypeId} {x x' v : Value} {f : Nat} (hx : VR r x x') (e : evFieldAddr T s x f = some v) :
    SOK T.P r h w (Instr.fieldAt s x' f) v h := by
  unfold evFieldAddr at e
  split at e
  · rename_i a
    cases hx with
    | ptr b o bk hb =>
      split at e
      · rename_i fd hf
        split at e
        · rename_i n hn
          cases e
          obtain ⟨fs, h1, h2⟩ := fieldOf_ok ok hf
          obtain ⟨i, h3, h4⟩ := sz_ok ok hn
          refine .same hr (v' := .pointer (some ⟨bk.blk, o + fd.offset + bk.dlt, none⟩)) ?_ (.ptr b _ bk hb)
          simp only [Instr.fieldAt, Sem.run_bind, run_und w h1, Result.andThen_ok, h2, Instr.sureAddr, Sem.run_pure, fieldPlace, run_size w h3, h4, Nat.add_one_ne_zero, if_false, Addr.add_none]
          rw [show o + bk.dlt + fd.offset = o + fd.offset + bk.dlt from by omega]
        · cases e
      · cases e
  · cases e

def partA (T : Tab) (t : TypeId) (cs : List Value) (off : Nat) : Option Value :=
  match aggT T t with
  | some true => (match szOf T t with
    | some k => ifB (Nat.ble (off + k) cs.length) (some (.agg ((cs.drop off).take k).toArray)) none
    | none => none)
  | some false => cs[off]?
  | none => none
theorem LR.drop {r : Ren} {a a' : List Value} (h : LR r a a') (n : Nat) : LR r (a.drop n) (a'.drop n) :=
  ⟨by simp [h.1], fun i v v' e e' => h.2 (n + i) v v' (by simpa using e) (by simpa using e')⟩
theorem LR.take {r : Ren} {a a' : List Value} (h : LR r a a') (n : Nat) : LR r (a.take n) (a'.take n) :=
  ⟨by simp [h.1], fun i v v' e e' => by
    rw [List.getElem?_take] at e e'
    by_cases hi : i < n
    · rw [if_pos hi] at e e'; exact h.2 i v v' e e'
    · rw [if_neg hi] at e; cases e⟩
theorem partA_sound {T : Tab} (ok : TabOK T) {r : Ren} {w : World} {t : TypeId} {cs : List Value} {cs' : Array Value} {off : Nat} {v : Value} (hc : LR r cs cs'.toList) (e : partA T t cs off = some v) :
    ∃ v', (part t cs' off).run T.P w = .ok v' w ∧ VR r v v' := by
  unfold partA at e
  split at e
  · rename_i ha
    split at e
    · rename_i k hk
      obtain ⟨h1, h2⟩ := ifB_some e
      cases h2
      obtain ⟨i, hi, rfl⟩ := sz_ok ok hk
      refine ⟨.agg (cs'.extract off (off + i.size)), by simp [part, aggT_ok ok ha w, run_size w hi], ?_⟩
      refine VR.agg_list ?_
      have := (hc.drop off).take i.size
      rw [show (cs'.extract off (off + i.size)).toList = (cs'.toList.drop off).take i.size from by simp]
      exact this
    · cases e
  · rename_i ha
    obtain ⟨v', a, b⟩ := hc.get e
    refine ⟨v', ?_, b⟩
    have a' : cs'[off]? = some v' := by simpa using a
    simp [part, aggT_ok ok ha w, a']
  · cases e

def evField (T : Tab) (s : TypeId) (x : Value) (f : Nat) : Option Value :=
  match x with
  | .agg cs => (match fieldOf T s f with
    | some fd => partA T fd.type cs.toList fd.offset
    | none => none)
  | _ => none
theorem evField_sound {T : Tab} (ok : TabOK T) {r : Ren} {h : AH} {w : World} (hr : HR T.P r h w) {s : TypeId} {x x' v : Value} {f : Nat} (hx : VR r x x') (e : evField T s x f = some v) :
    SOK T.P r h w (Instr.field s x' f) v h := by
  unfold evField at e
  split at e
  · rename_i cs
    cases hx with
    | agg a a' h1 h2 =>
      split at e
      · rename_i fd hf
        obtain ⟨fs, g1, g2⟩ := fieldOf_ok ok hf
        obtain ⟨v', p1, p2⟩ := partA_sound ok (w := w) (LR.of_array h1 h2) e
        exact .same hr (by simp only [Instr.field, Sem.run_bind, run_und w g1, Result.andThen_ok, g2, asAgg, Sem.run_pure, p1]) p2
      · cases e
  · cases e

/- Indexes. -/
def evIndexAddr (T : Tab) (t : TypeId) (x ix : Value) : Option Value :=
  match x with
  | .slice (some a) len _cap => (match und T t with
    | some (.slice e) => (match natOf ix with
      | some i => (match szOf T e with
        | some s => ifB (Nat.blt i len) (some (.pointer (some ⟨a.block, a.off + i * s, none⟩))) none
        | none => none)
      | none => none)
    | _ => none)
  | .pointer (some a) => (match und T t with
    | some (.array len e) => (match natOf ix with
      | some i => (match szOf T e with
        | some s => ifB (Nat.blt i len) (some (.pointer (some ⟨a.block, a.off + i * s, none⟩))) none
        | none => none)
      | none => none)
    | _ => none)
  | _ => none

/-- Where a slice with an element lies. -/
theorem VR.slice_base {r : Ren} {a : Addr} {len cap : Nat} {x' : Value} (h : VR r (.slice (some a) len cap) x') (h0 : 0 < len) :
    ∃ bk cap', r a.block = some bk ∧ x' = .slice (some ⟨bk.blk, a.off + bk.dlt, none⟩) len cap' := by
  cases h with
  | slEx b o l c bk hb hc => exact ⟨bk, cap, hb, rfl⟩
  | slIn b o l k o' c' bk hb h1 h2 h3 h4 => exact ⟨bk, c', hb, by rw [h3 (by omega)]⟩
  | slOff => omega

theorem evIndexAddr_sound {T : Tab} (ok : TabOK T) {r : Ren} {h : AH} {w : World} (hr : HR T.P r h w) {t : TypeId} {x x' ix ix' v : Value} (hx : VR r x x') (hi : VR r ix ix') (e : evIndexAddr T t x ix = some v) :
    SOK T.P r h w (Instr.indexAt t x' ix') v h := by
  unfold evIndexAddr at e
  split at e
  · rename_i a len cap
    split at e
    · rename_i el hel
      split at e
      · rename_i i hni
        split at e
        · rename_i s hs
          obtain ⟨h1, h2⟩ := ifB_some e
          cases h2
          have hlt := blt_lt h1
          obtain ⟨k, rfl⟩ := natOf_ok hni
          cases hi
          obtain ⟨bk, cap', hb, rfl⟩ := hx.slice_base (by omega)
          obtain ⟨j, hj, rfl⟩ := sz_ok ok hs
          refine .same hr (v' := .pointer (some ⟨bk.blk, a.off + i * j.size + bk.dlt, none⟩)) ?_ (.ptr a.block _ bk hb)
          have hd := und_ok ok hel
          have hc : (0 : Int) ≤ (i : Int) ∧ (i : Int) < (len : Int) := by omega
          simp only [Instr.indexAt, asIntOf, Sem.run_bind, Sem.run_pure, Result.andThen_ok, run_und w hd, if_pos hc, run_size w hj, Int.toNat_natCast, Addr.add_none]
          rw [show a.off + bk.dlt + i * j.size = a.off + i * j.size + bk.dlt from by omega]
        · cases e
      · cases e
    · cases e
  · rename_i a
    split at e
    · rename_i len el hel
      split at e
      · rename_i i hni
        split at e
        · rename_i s hs
          obtain ⟨h1, h2⟩ := ifB_some e
          cases h2
          have hlt := blt_lt h1
          obtain ⟨k, rfl⟩ := natOf_ok hni
          cases hi
          cases hx with
          | ptr b o bk hb =>
            obtain ⟨j, hj, rfl⟩ := sz_ok ok hs
            refine .same hr (v' := .pointer (some ⟨bk.blk, o + i * j.size + bk.dlt, none⟩)) ?_ (.ptr b _ bk hb)
            have hd := und_ok ok hel
            have hc : (0 : Int) ≤ (i : Int) ∧ (i : Int) < (len : Int) := by omega
            simp only [Instr.indexAt, asIntOf, Sem.run_bind, Sem.run_pure, Result.andThen_ok, run_und w hd, Instr.sureAddr, if_pos hc, run_size w hj, Int.toNat_natCast, Addr.add_none]
            rw [show o + bk.dlt + i * j.size = o + i * j.size + bk.dlt from by omega]
        · cases e
      · cases e
    · cases e
  · cases e

def evIndex (T : Tab) (t : TypeId) (x ix : Value) : Option Value :=
  match x with
  | .agg cs => (match und T t with
    | some (.array len e) => (match natOf ix with
      | some i => (match szOf T e with
        | some s => ifB (Nat.blt i len) (partA T e cs.toList (i * s)) none
        | none => none)
      | none => none)
    | _ => none)
  | .string s => (match und T t with
    | some .string => (match natOf ix with
      | some i => (match s.data.toList[i]? with
        | some b => some (.int .u8 (b.toNat : Int))
        | none => none)
      | none => none)
    | _ => none)
  | _ => none
theorem evIndex_sound {T : Tab} (ok : TabOK T) {r : Ren} {h : AH} {w : World} (hr : HR T.P r h w) {t : TypeId} {x x' ix ix' v : Value} (hx : VR r x x') (hi : VR r ix ix') (e : evIndex T t x ix = some v) :
    SOK T.P r h w (Instr.index t x' ix') v h := by
  unfold evIndex at e
  split at e
  · rename_i cs
    split at e
    · rename_i len el hel
      split at e
      · rename_i i hni
        split at e
        · rename_i s hs
          obtain ⟨h1, h2⟩ := ifB_some e
          have hlt := blt_lt h1
          obtain ⟨k, rfl⟩ := natOf_ok hni
          cases hi
          cases hx with
          | agg a a' g1 g2 =>
            obtain ⟨j, hj, rfl⟩ := sz_ok ok hs
            obtain ⟨v', p1, p2⟩ := partA_sound ok (w := w) (LR.of_array g1 g2) h2
            have hd := und_ok ok hel
            have hc : (0 : Int) ≤ (i : Int) ∧ (i : Int) < (len : Int) := by omega
            exact .same hr (by simp only [Instr.index, asIntOf, Sem.run_bind, Sem.run_pure, Result.andThen_ok, run_und w hd, if_pos hc, run_size w hj, Int.toNat_natCast, p1]) p2
        · cases e
      · cases e
    · cases e
  · rename_i s
    cases hx
    split at e
    · rename_i hel
      split at e
      · rename_i i hni
        obtain ⟨k, rfl⟩ := natOf_ok hni
        cases hi
        split at e
        · rename_i b hb
          cases e
          have hd := und_ok ok hel
          have hlt : i < s.size := by
            have := (List.getElem?_eq_some_iff.1 hb).1
            simpa using this
          have hget : s[(i : Int).toNat]? = some b := by
            rw [Int.toNat_natCast]
            rw [getElem?_pos s i hlt]
            have := (List.getElem?_eq_some_iff.1 hb).2
            rw [← this]
            rfl
          have h0 : (0 : Int) ≤ (i : Int) := by omega
          refine .same hr (v' := .int .u8 (b.toNat : Int)) ?_ (.int _ _)
          simp only [Instr.index, asIntOf, Sem.run_bind, Sem.run_pure, Result.andThen_ok, run_und w hd, if_pos h0, hget]
        · cases e
      · cases e
    · cases e
  · cases e

def evExtract (x : Value) (i : Nat) : Option Value := match x with | .tuple vs => vs.toList[i]? | _ => none
theorem evExtract_sound {P : Program} {r : Ren} {h : AH} {w : World} (hr : HR P r h w) {x x' v : Value} {i : Nat} (hx : VR r x x') (e : evExtract x i = some v) : SOK P r h w (Instr.extract x' i) v h := by
  unfold evExtract at e
  split at e
  · cases hx with
    | tuple a a' g1 g2 =>
      obtain ⟨v', p1, p2⟩ := (LR.of_array g1 g2).get e
      have p1' : a'[i]? = some v' := by simpa using p1
      exact .same hr (by simp [Instr.extract, p1']) p2
  · cases e

/- Slice expressions. -/
def boundA (v : Option Value) (dflt hi : Nat) : Option Nat :=
  match v with
  | none => some dflt
  | some x => (match natOf x with
    | some m => ifB (Nat.ble m hi) (some m) none
    | none => none)

/-- The bounds: low, high, most. -/
def boundsA (len cap : Nat) (lo hi mx : Option Value) : Option (Nat × Nat × Nat) :=
  match boundA mx cap cap with
  | none => none
  | some m => (match hi, mx with
    | none, some _ => none
    | _, _ => (match boundA hi len m with
      | none => none
      | some h => (match boundA lo 0 h with
        | none => none
        | some l => some (l, h, m))))

inductive OVR (r : Ren) : Option Value → Option Value → Prop
  | none : OVR r none none
  | some (v v') : VR r v v' → OVR r (some v) (some v')

theorem sliceBound_ok {P : Program} {r : Ren} {w : World} {x x' : Value} {m y : Nat} (c : BoundsCode) (hx : VR r x x') (e : natOf x = some m) (hm : m ≤ y) : (Instr.sliceBound x' y c).run P w = .ok m w := by
  obtain ⟨k, rfl⟩ := natOf_ok e
  cases hx
  have hc : (0 : Int) ≤ (m : Int) ∧ (m : Int) ≤ (y : Int) := by omega
  simp only [Instr.sliceBound, asIntOf, Sem.run_bind, Sem.run_pure, Result.andThen_ok, Sem.run_ite, if_pos hc, Int.toNat_natCast]

theorem boundsA_ok {P : Program} {r : Ren} {w : World} {lo hi mx lo' hi' mx' : Option Value} {len cap cap' l h m : Nat} (isS : Bool) (h1 : OVR r lo lo') (h2 : OVR r hi hi') (h3 : OVR r mx mx') (hc : cap ≤ cap')
    (e : boundsA len cap lo hi mx = some (l, h, m)) :
    (Instr.sliceBounds isS len cap' lo' hi' mx').run P w = .ok (l, h, if mx.isSome then m else cap') w ∧ l ≤ h ∧ (hi.isSome → h ≤ m) ∧ (hi = none → h = len) ∧ (mx = none → m = cap) := by
  unfold boundsA at e
  cases h3 with
  | none =>
    simp only [boundA] at e
    cases h2 with
    | none =>
      simp only at e
      cases h1 with
      | none => simp only at e; cases e; simp [Instr.sliceBounds]
      | some v v' hv =>
        simp only at e
        cases e1 : natOf v with
        | none => rw [e1] at e; cases e
        | some q =>
          rw [e1] at e; simp only at e
          cases e2 : Nat.ble q len with
          | false => rw [e2] at e; cases e
          | true =>
            rw [e2] at e; cases e
            have hq := ble_le e2
            simp [Instr.sliceBounds, sliceBound_ok _ hv e1 hq, hq]
    | some u u' hu =>
      simp only at e
      cases e0 : natOf u with
      | none => rw [e0] at e; cases e
      | some q0 =>
        rw [e0] at e; simp only at e
        cases e00 : Nat.ble q0 cap with
        | false => rw [e00] at e; cases e
        | true =>
          rw [e00] at e; simp only [ifB_true] at e
          have hq0 := ble_le e00
          cases h1 with
          | none => simp only at e; cases e; simp [Instr.sliceBounds, sliceBound_ok _ hu e0 (Nat.le_trans hq0 hc), hq0]
          | some v v' hv =>
            simp only at e
            cases e1 : natOf v with
            | none => rw [e1] at e; cases e
            | some q =>
              rw [e1] at e; simp only at e
              cases e2 : Nat.ble q q0 with
              | false => rw [e2] at e; cases e
              | true =>
                rw [e2] at e; cases e
                have hq := ble_le e2
                simp [Instr.sliceBounds, sliceBound_ok _ hu e0 (Nat.le_trans hq0 hc), sliceBound_ok _ hv e1 hq, hq0, hq]
  | some z z' hz =>
    simp only [boundA] at e
    cases e3 : natOf z with
    | none => rw [e3] at e; cases e
    | some q3 =>
      rw [e3] at e; simp only at e
      cases e33 : Nat.ble q3 cap with
      | false => rw [e33] at e; cases e
      | true =>
        rw [e33] at e; simp only [ifB_true] at e
        have hq3 := ble_le e33
        cases h2 with
        | none => simp only at e; cases e
        | some u u' hu =>
          simp only at e
          cases e0 : natOf u with
          | none => rw [e0] at e; cases e
          | some q0 =>
            rw [e0] at e; simp only at e
            cases e00 : Nat.ble q0 q3 with
            | false => rw [e00] at e; cases e
            | true =>
              rw [e00] at e; simp only [ifB_true] at e
              have hq0 := ble_le e00
              cases h1 with
              | none => simp only at e; cases e; simp [Instr.sliceBounds, sliceBound_ok _ hz e3 (Nat.le_trans hq3 hc), sliceBound_ok _ hu e0 hq0, hq0]
              | some v v' hv =>
                simp only at e
                cases e1 : natOf v with
                | none => rw [e1] at e; cases e
                | some q =>
                  rw [e1] at e; simp only at e
                  cases e2 : Nat.ble q q0 with
                  | false => rw [e2] at e; cases e
                  | true =>
                    rw [e2] at e; cases e
                    have hq := ble_le e2
                    simp [Instr.sliceBounds, sliceBound_ok _ hz e3 (Nat.le_trans hq3 hc), sliceBound_ok _ hu e0 hq0, sliceBound_ok _ hv e1 hq, hq0, hq]
end
end Go.Proofs.YtknchhnibjfocaaDoor.Abs
