/- An abstract machine: make, append, copy. -/
import Derived.Test.YtknchhnibjfocaaDoorAbsF
namespace Go.Proofs.YtknchhnibjfocaaDoor.Abs
open Go
noncomputable section

def fillPM (z : Value) (n : Nat) : PM Value :=
  match z.cells.toList with
  | [v] => PM.full v (Nat.log2 n + 1)
  | _ => PM.ofList (zeros z n)
theorem fillPM_get (z : Value) (n i : Nat) (hi : i < n) : (fillPM z n).get i = some (z.cells[i % z.cells.size]!) := by
  unfold fillPM
  split
  · rename_i v hv
    have hsz : z.cells.size = 1 := by have := congrArg List.length hv; simpa using this
    rw [PM.get_full]
    · have : i % z.cells.size = 0 := by rw [hsz]; exact Nat.mod_one i
      rw [this, getElem!_pos z.cells 0 (by omega)]
      have : z.cells.toList[0]'(by rw [hv]; simp) = v := by simp [hv]
      rw [← this]; simp
    · have := @Nat.lt_log2_self n
      omega
  · rw [PM.get_ofList]
    simp [zeros, hi]

def evMakeSlice (T : Tab) (t : TypeId) (l c : Value) (h : AH) : Option (Value × AH) :=
  match und T t with
  | some (.slice e) => (match natOf l with
    | some l => (match natOf c with
      | some c => (match T.tt.get e with
        | some i => (match i.zero with
          | some z => ifB (Nat.ble l c && (Nat.ble (i.bytes * c) 17592186044416 && Nat.ble c 17592186044416)) (some (.slice (some ⟨h.next, 0, none⟩) l c, newCells h e (fillPM z (c * i.size)) (c * i.size))) none
          | none => none)
        | none => none)
      | none => none)
    | none => none)
  | _ => none

theorem wrap_small (n : Nat) (h : n ≤ 17592186044416) : IntKind.i64.wrap (n : Int) = (n : Int) := by
  unfold IntKind.wrap
  have h1 : (n : Int) % (2 ^ IntKind.i64.bits : Int) = n := by
    rw [show (2 ^ IntKind.i64.bits : Int) = 18446744073709551616 from by decide]
    omega
  rw [h1]
  have h2 : ¬ (n : Int) ≥ (2 ^ (IntKind.i64.bits - 1) : Int) := by
    rw [show (2 ^ (IntKind.i64.bits - 1) : Int) = 9223372036854775808 from by decide]
    omega
  simp [h2]

theorem zeroCell_flat (r : Ren) {z : Value} (hz : flat z = true) (i : Nat) (h0 : z.cells.size ≠ 0) : VR r (z.cells[i % z.cells.size]!) (z.cells[i % z.cells.size]!) := by
  have hlt : i % z.cells.size < z.cells.size := Nat.mod_lt _ (by omega)
  have hc := (VR.of_flat r z hz).cells
  rw [getElem!_pos z.cells _ hlt]
  exact hc.2 (i % z.cells.size) _ _ (by simp [hlt]) (by simp [hlt])
theorem default_flat (r : Ren) : VR r (default : Value) default := .bool _
theorem zeroCell_rel (r : Ren) {z : Value} (hz : flat z = true) (i : Nat) : VR r (z.cells[i % z.cells.size]!) (z.cells[i % z.cells.size]!) := by
  by_cases h0 : z.cells.size = 0
  · have : z.cells = #[] := Array.eq_empty_of_size_eq_zero h0
    rw [this]; exact default_flat r
  · exact zeroCell_flat r hz i h0

theorem evMakeSlice_sound {T : Tab} (ok : TabOK T) (oz : TabZ T) {r : Ren} {h h' : AH} {w : World} (hr : HR T.P r h w) {t : TypeId} {l l' c c' v : Value} (hl : VR r l l') (hc : VR r c c')
    (e : evMakeSlice T t l c h = some (v, h')) : SOK T.P r h w (Instr.makeSlice t l' c') v h' := by
  unfold evMakeSlice at e
  split at e
  · rename_i el hel
    split at e
    · rename_i ln hln
      split at e
      · rename_i cn hcn
        split at e
        · rename_i i hi0
          split at e
          · rename_i z hz
            obtain ⟨e1, e2⟩ := ifB_some e
            cases e2
            rw [Bool.and_eq_true, Bool.and_eq_true] at e1
            have q1 := ble_le e1.1
            have q2 := ble_le e1.2.1
            have q3 := ble_le e1.2.2
            obtain ⟨k1, rfl⟩ := natOf_ok hln
            obtain ⟨k2, rfl⟩ := natOf_ok hcn
            cases hl; cases hc
            have hd := und_ok ok hel
            have hi := ok.t el i hi0
            have hzf := (oz el i z hi0 hz).1
            refine newSlice_sound hr el (fillPM z (cn * i.size)) (cn * i.size) ln cn ((Array.range (cn * i.size)).map (z.cells[· % z.cells.size]!)) (by simp) (by unfold XB; omega) ?_ rfl ?_ (w' := { w with heap := w.heap.push (.cells ((Array.range (cn * i.size)).map (z.cells[· % z.cells.size]!)) el) })
            · intro j hj
              exact ⟨_, _, fillPM_get z _ j hj, by simp [hj], zeroCell_rel r hzf j⟩
            · have b1 : ¬ (cn : Int) < 0 := by omega
              have b2 : ¬ (i.bytes : Int) * (cn : Int) > 2 ^ 48 := by
                have : (i.bytes : Int) * (cn : Int) = ((i.bytes * cn : Nat) : Int) := by simp
                rw [this, show ((2 : Int) ^ 48) = 281474976710656 from by decide]
                omega
              have b3 : ¬ (ln : Int) < 0 := by omega
              have b4 : ¬ (ln : Int) > (cn : Int) := by omega
              by_cases h0 : cn * i.size = 0
              · simp only [Instr.makeSlice, Sem.run_bind, run_und w hd, Result.andThen_ok, asInt, asIntOf, Sem.run_pure, run_info w hi, wrap_small cn q3, wrap_small ln (by omega), b1, b2, b3, b4, decide_false, Bool.or_self, Bool.false_eq_true, if_false,
                  run_askRoom, Int.toNat_natCast, run_size w hi, h0, if_true, run_newRow]
                simp [show Array.range 0 = #[] from rfl]
              · simp only [Instr.makeSlice, Sem.run_bind, run_und w hd, Result.andThen_ok, asInt, asIntOf, Sem.run_pure, run_info w hi, wrap_small cn q3, wrap_small ln (by omega), b1, b2, b3, b4, decide_false, Bool.or_self, Bool.false_eq_true, if_false,
                  run_askRoom, Int.toNat_natCast, run_size w hi, h0, run_newRow, run_zero w hi hz]
          · cases e
        · cases e
      · cases e
    · cases e
  · cases e

/- What is read of a slice or a string. -/
def lenOfA : Value → Option Nat
  | .slice _ n _ => some n
  | .string s => some s.size
  | _ => none
def byteVals (l : List UInt8) : List Value := l.map fun b => .int .u8 (b.toNat : Int)
def firstA (size n : Nat) (h : AH) : Value → Option (List Value)
  | .slice (some a) len _ => ifB (Nat.beq n 0) (some []) (ifB (Nat.ble n len) (loadRow h a.block a.off (n * size)) none)
  | .slice none _ _ => some []
  | .string s => some (byteVals (s.data.toList.take n))
  | _ => none

theorem run_loadCells_zero {P : Program} {w : World} (a : Addr) : (loadCells a 0).run P w = .ok #[] w := rfl

theorem firstA_sound {P : Program} {r : Ren} {h : AH} {w : World} (hr : HR P r h w) {size n : Nat} {x x' : Value} {l : List Value} (hx : VR r x x') (e : firstA size n h x = some l) :
    ∃ cs, (∀ w' : World, w'.heap = w.heap → (Builtin.firstCells size n x').run P w' = .ok cs w') ∧ LR r l cs.toList := by
  unfold firstA at e
  split at e
  · rename_i a len cap
    cases e1 : Nat.beq n 0 with
    | true =>
      rw [e1, ifB_true] at e; cases e
      have := Nat.eq_of_beq_eq_true e1
      subst this
      cases hx with
      | slEx => exact ⟨#[], fun w' _ => by simp [Builtin.firstCells, run_loadCells_zero], LR.nil r⟩
      | slIn => exact ⟨#[], fun w' _ => by simp [Builtin.firstCells, run_loadCells_zero], LR.nil r⟩
      | slOff => exact ⟨#[], fun w' _ => by simp [Builtin.firstCells, run_loadCells_zero], LR.nil r⟩
    | false =>
      rw [e1, ifB_false] at e
      obtain ⟨e2, e3⟩ := ifB_some e
      have hle := ble_le e2
      have hn : n ≠ 0 := fun h => by subst h; cases e1
      obtain ⟨bk, cap', hb, rfl⟩ := hx.slice_base (by omega)
      obtain ⟨cs, el, f, g1, g2, g3⟩ := hr.row hb e3
      exact ⟨_, fun w' hw' => by simp only [Builtin.firstCells]; exact run_loadCells (by rw [hw']; exact g1) g2, by simpa using g3⟩
  · cases e
    cases hx
    exact ⟨#[], fun _ _ => rfl, LR.nil r⟩
  · rename_i s
    cases e
    cases hx
    refine ⟨((s.extract 0 n).data.map fun b => .int .u8 b.toNat), fun _ _ => rfl, ?_⟩
    have : ((s.extract 0 n).data.map fun b => Value.int .u8 (b.toNat : Int)).toList = byteVals (s.data.toList.take n) := by
      simp [byteVals, ByteArray.data_extract]
    rw [this]
    refine LR.of_flat r _ ((flatAll_iff _).2 ?_)
    intro y hy
    simp only [byteVals, List.mem_map] at hy
    obtain ⟨b, _, rfl⟩ := hy
    rfl
  · cases e

theorem lenOfA_sound {P : Program} {r : Ren} {w : World} {x x' : Value} {n : Nat} (hx : VR r x x') (e : lenOfA x = some n) : (Builtin.lenOf x').run P w = .ok n w := by
  unfold lenOfA at e
  split at e <;> cases e <;> cases hx <;> rfl

/-- A block that a new name takes over. -/
theorem HR.moved {P : Program} {r : Ren} {h : AH} {w w' : World} (hr : HR P r h w) {b : Nat} {o o' : AObj} {ob' : Obj} {bk bk' : Bk} (hb : h.get b = some o) (hro : o.ro = false) (hk : r b = some bk)
    (hbk : bk'.blk = bk.blk) (hsz : w'.heap.size = w.heap.size) (hw : w'.heap[bk.blk]? = some ob') (hoth : ∀ i, i ≠ bk.blk → w'.heap[i]? = w.heap[i]?) (ho : OR P (r.add h.next bk') bk' o' ob') (hos : w'.os = w.os ∧ w'.output = w.output := by exact ⟨rfl, rfl⟩) :
    HR P (r.add h.next bk') ((h.del b).new o') w' ∧ Ext r h w (r.add h.next bk') ((h.del b).new o') w' := by
  have hs := hr.sub_add bk'
  have hbn := (hr.lt b bk hk).1
  have hget : ∀ c, ((h.del b).new o').get c = if c = h.next then some o' else if c = b then none else h.get c := by
    intro c; rw [AH.get_new, AH.get_del]; rfl
  refine ⟨⟨?_, ?_, ?_, ?_⟩, ⟨hs, by omega, ?_, ?_, ?_, by simp, hos⟩⟩
  · intro c oc e
    rw [hget] at e
    by_cases hc : c = h.next
    · subst hc; rw [if_pos rfl] at e; cases e
      exact ⟨bk', ob', Ren.add_same _ _ _, by rw [hbk]; exact hw, ho⟩
    · rw [if_neg hc] at e
      by_cases hcb : c = b
      · rw [if_pos hcb] at e; cases e
      · rw [if_neg hcb] at e
        obtain ⟨bc, obc, e1, e2, e3⟩ := hr.live c oc e
        refine ⟨bc, obc, hs _ _ e1, ?_, e3.mono hs⟩
        rw [hoth _ (fun hh => hcb (hr.inj c b oc o bc bk e hb (.inr hro) e1 hk hh))]; exact e2
  · intro c c' o1 o2 k1 k2 e1 e2 q e3 e4 e5
    rw [hget] at e1 e2
    by_cases h1 : c = h.next <;> by_cases h2 : c' = h.next
    · omega
    · rw [if_neg h2] at e2
      by_cases hcb : c' = b
      · rw [if_pos hcb] at e2; cases e2
      · rw [if_neg hcb] at e2
        subst h1
        rw [Ren.add_same] at e3; cases e3
        rw [Ren.add_other _ _ h2] at e4
        exact absurd (hr.inj c' b o2 o k2 bk e2 hb (.inr hro) e4 hk (by omega)) hcb
    · rw [if_neg h1] at e1
      by_cases hcb : c = b
      · rw [if_pos hcb] at e1; cases e1
      · rw [if_neg hcb] at e1
        subst h2
        rw [Ren.add_same] at e4; cases e4
        rw [Ren.add_other _ _ h1] at e3
        exact absurd (hr.inj c b o1 o k1 bk e1 hb (.inr hro) e3 hk (by omega)) hcb
    · rw [if_neg h1] at e1; rw [if_neg h2] at e2
      rw [Ren.add_other _ _ h1] at e3; rw [Ren.add_other _ _ h2] at e4
      by_cases hcb : c = b
      · rw [if_pos hcb] at e1; cases e1
      · by_cases hcb' : c' = b
        · rw [if_pos hcb'] at e2; cases e2
        · rw [if_neg hcb] at e1; rw [if_neg hcb'] at e2
          exact hr.inj c c' o1 o2 k1 k2 e1 e2 q e3 e4 e5
  · intro c bc e
    by_cases h1 : c = h.next
    · subst h1; rw [Ren.add_same] at e; cases e
      have := (hr.lt b bk hk).2
      simp; omega
    · rw [Ren.add_other _ _ h1] at e
      have := hr.lt c bc e
      simp; omega
  · intro g hg; exact hs _ _ (hr.glob g hg)
  · intro c hc hn
    exact hoth c (fun hh => hn b o bk hb hro hk hh.symm)
  · intro i bi e1 e2
    by_cases h1 : i = h.next
    · subst h1; rw [Ren.add_same] at e2; cases e2
      exact .inr ⟨b, o, bk, hb, hro, hk, hbk.symm⟩
    · rw [Ren.add_other _ _ h1] at e2; rw [e1] at e2; cases e2
  · intro i oi e1 e2
    rw [hget] at e1
    by_cases h1 : i = h.next
    · subst h1; exact .inr (hr.fresh (Nat.le_refl _))
    · rw [if_neg h1] at e1
      by_cases hcb : i = b
      · rw [if_pos hcb] at e1; cases e1
      · rw [if_neg hcb] at e1; exact .inl ⟨oi, e1, e2⟩

theorem growBy_le (newLen : Nat) : ∀ (rounds c : Nat), 256 ≤ c → c ≤ 2 * newLen → Builtin.growBy newLen rounds c ≤ 2 * newLen := by
  intro rounds
  induction rounds with
  | zero => intro c _ h; exact h
  | succ n ih =>
    intro c h1 h2
    rw [Builtin.growBy]
    split
    · exact h2
    · exact ih _ (by omega) (by omega)
theorem nextslicecap_le {need old : Nat} (h : old < need) : Builtin.nextslicecap need old ≤ 2 * need := by
  unfold Builtin.nextslicecap
  split
  · omega
  · split
    · omega
    · exact growBy_le _ _ _ (by omega) (by omega)

def appendedA (T : Tab) (xT : TypeId) (i : TypeInfo) (z x : Value) (h : AH) : Option (Nat × List Value) :=
  match und T xT with
  | some (.int _) => (match natOf x with
    | some n => ifB (Nat.ble n 17592186044416 && Nat.ble (n * i.bytes) 17592186044416) (some (n, zeros z (n * i.size))) none
    | none => none)
  | some _ => (match lenOfA x with
    | some n => (match firstA i.size n h x with
      | some l => ifB (Nat.beq l.length (n * i.size)) (some (n, l)) none
      | none => none)
    | none => none)
  | none => none

def isIntD : TypeDesc → Bool
  | .int _ => true
  | _ => false

/-- Append's second argument: the model's own words. -/
def appendNew (elem : TypeId) (size n : Nat) (zs : Bool) (x : Value) : Sem (Array Value) :=
    if !zs then Builtin.firstCells size n x
    else if n * size = 0 then pure #[]
    else do pure (Builtin.zeroCells (← zeroValue elem).cells n)

theorem zeroCells_rel (r : Ren) {z : Value} (hz : flat z = true) (n m : Nat) (hm : m = n * z.cells.size) : LR r (zeros z m) (Builtin.zeroCells z.cells n).toList := by
  subst hm
  refine ⟨by simp [zeros, Builtin.zeroCells], ?_⟩
  intro i v v' e e'
  have hi : i < n * z.cells.size := by have := (List.getElem?_eq_some_iff.1 e).1; simpa [zeros] using this
  simp only [zeros, Builtin.zeroCells, Array.toList_map, Array.toList_range, List.getElem?_map, List.getElem?_range hi, Option.map_some, Option.some.injEq] at e e'
  subst e; subst e'
  exact zeroCell_rel r hz i

/-- What is known of append's second argument. -/
def AppX (i : TypeInfo) (n : Nat) (x' : Value) : TypeDesc → Prop
  | .int _ => ∃ k, x' = .int k (n : Int) ∧ n ≤ 17592186044416 ∧ n * i.bytes ≤ 17592186044416
  | _ => ∀ (P : Program) (w : World), (Builtin.lenOf x').run P w = .ok n w

theorem appendedA_sound {T : Tab} (ok : TabOK T) {r : Ren} {h : AH} {w : World} (hr : HR T.P r h w) {xT elem : TypeId} {i : TypeInfo} (hi : T.P.info? elem = some i) {z x x' : Value} (hz : i.zero = some z) (hzf : flat z = true) (hzs : z.cells.size = i.size)
    (hx : VR r x x') {n : Nat} {l : List Value} (e : appendedA T xT i z x h = some (n, l)) :
    ∃ d, T.P.underlying xT = some d ∧ AppX i n x' d ∧ ∃ cs, (∀ w' : World, w'.heap = w.heap → (appendNew elem i.size n (isIntD d) x').run T.P w' = .ok cs w') ∧ LR r l cs.toList ∧ l.length = n * i.size := by
  unfold appendedA at e
  split at e
  · rename_i k hk
    refine ⟨_, und_ok ok hk, ?_⟩
    split at e
    · rename_i m hm
      obtain ⟨e1, e2⟩ := ifB_some e
      cases e2
      rw [Bool.and_eq_true] at e1
      have q1 := ble_le e1.1
      have q2 := ble_le e1.2
      obtain ⟨k2, rfl⟩ := natOf_ok hm
      cases hx
      refine ⟨⟨k2, rfl, q1, q2⟩, ?_⟩
      by_cases h0 : n * i.size = 0
      · refine ⟨#[], fun w' _ => by simp [appendNew, isIntD, h0], ?_, by simp [zeros]⟩
        rw [h0]; exact LR.nil r
      · refine ⟨Builtin.zeroCells z.cells n, fun w' _ => by simp [appendNew, isIntD, h0, run_zero w' hi hz], ?_, by simp [zeros]⟩
        exact zeroCells_rel r hzf n _ (by rw [hzs])
    · cases e
  · rename_i d hnot hd
    refine ⟨d, und_ok ok hd, ?_⟩
    have hf : isIntD d = false := by cases d <;> first | rfl | exact absurd rfl (hnot _)
    rw [hf]
    split at e
    · rename_i m hm
      split at e
      · rename_i l' hl'
        obtain ⟨e1, e2⟩ := ifB_some e
        cases e2
        obtain ⟨cs, g1, g2⟩ := firstA_sound hr hx hl'
        refine ⟨?_, cs, fun w' hw' => by simpa [appendNew] using g1 w' hw', g2, Nat.eq_of_beq_eq_true e1⟩
        cases d <;> first | exact absurd rfl (hnot _) | exact fun P w => lenOfA_sound hx hm
      · cases e
    · cases e
  · cases e

/-- Is a block one that append made, of this element type, no cell of it shared with a string? -/
def looseEl (h : AH) (b : Nat) (elem : TypeId) : Bool :=
  match h.get b with
  | some (.cells _ _ e lo hi .loose) => Nat.beq e elem && Nat.ble hi lo
  | _ => false

def grown (h : AH) (elem : TypeId) (need n : Nat) (l : List Value) : Value × AH :=
  (.slice (some ⟨h.next, 0, none⟩) need (XB + need), h.new (.cells (PM.ofList l) n elem 0 0 .loose))

def appendTo (_T : Tab) (elem : TypeId) (i : TypeInfo) (base : Option Addr) (len cap : Nat) (s : Value) (n : Nat) (new : List Value) (h : AH) : Option (Value × AH) :=
  ifB (Nat.ble (len + n) (capOf cap)) (match base with
      | none => some (s, h)
      | some a => (match new with
        | [] => some (.slice (some a) (len + n) cap, h)
        | _ => (match storeRow a.block (a.off + len * i.size) new h with
          | some h => some (.slice (some a) (len + n) cap, h)
          | none => none)))
    (ifB (Nat.ble ((len + n) * i.bytes) 17592186044416 && Nat.ble (len + n) 17592186044416) (match firstA i.size len h s with
      | some old => (match base with
        | none => some (grown h elem (len + n) ((len + n) * i.size) (old ++ new))
        | some a => ifB (Nat.ble XB cap) (ifB (looseEl h a.block elem && new.all oneCell) (some (grown (h.del a.block) elem (len + n) ((len + n) * i.size) (old ++ new))) none)
            (some (grown h elem (len + n) ((len + n) * i.size) (old ++ new))))
      | none => none) none)

def evAppend (T : Tab) (sT xT : TypeId) (s x : Value) (h : AH) : Option (Value × AH) :=
  match s with
  | .slice base len cap => (match und T sT with
    | some (.slice elem) => (match T.tt.get elem with
      | some i => (match i.zero with
        | some z => (match appendedA T xT i z x h with
          | some (n, new) => appendTo T elem i base len cap (.slice base len cap) n new h
          | none => none)
        | none => none)
      | none => none)
    | _ => none)
  | _ => none

/-- The built-in append of what a type's words tell: it fits. -/
theorem run_append_fits (ts : Array TypeId) (type : TypeId) {P : Program} {w : World} {sT xT elem : TypeId} {d : TypeDesc} {i : TypeInfo} {base : Option Addr} {sLen sCap n : Nat} {x : Value} {new : Array Value}
    (h0 : ts[0]? = some sT) (h1 : ts[1]? = some xT) (hs : P.underlying sT = some (.slice elem)) (hd : P.underlying xT = some d) (hi : P.info? elem = some i) (hn : AppX i n x d)
    (hnew : (appendNew elem i.size n (isIntD d) x).run P w = .ok new w) (hle : sLen + n ≤ sCap) :
    (Builtin.append_ ts type #[.slice base sLen sCap, x]).run P w = ((match base with | some a => storeCells (a.add (sLen * i.size)) new.toList | none => (pure () : Sem Unit)).run P w).andThen fun _ w' => .ok (.slice base (sLen + n) sCap) w' := by
  unfold Builtin.append_
  simp only [h0, h1, List.getElem?_toArray]
  cases d with
  | int k =>
    obtain ⟨k2, rfl, q1, q2⟩ := hn
    have b1 : ¬ (n : Int) < 0 := by omega
    have b2 : ¬ (n : Int) * (i.bytes : Int) > 2 ^ 48 := by
      have : (n : Int) * (i.bytes : Int) = ((n * i.bytes : Nat) : Int) := by simp
      rw [this, show ((2 : Int) ^ 48) = 281474976710656 from by decide]
      omega
    simp only [appendNew, isIntD, Bool.not_true, Bool.false_eq_true, if_false] at hnew
    simp only [List.getElem?_cons_zero, List.getElem?_cons_succ, Sem.run_bind, run_und w hs, run_und w hd, Result.andThen_ok, run_size w hi, Sem.run_pure, asInt, asIntOf, if_true, wrap_small n q1, b1, if_false, run_info w hi, b2, Int.toNat_natCast,
      Bool.not_true, Bool.false_eq_true, if_pos hle, hnew]
    cases base <;> simp
  | _ =>
    have hn' : (Builtin.lenOf x).run P w = .ok n w := hn P w
    simp only [appendNew, isIntD, Bool.not_false, if_true] at hnew
    simp only [List.getElem?_cons_zero, List.getElem?_cons_succ, Sem.run_bind, run_und w hs, run_und w hd, Result.andThen_ok, run_size w hi, Sem.run_pure, if_false, hn', Bool.not_false, Bool.false_eq_true, if_true, if_pos hle, hnew]
    cases base <;> simp

theorem run_append_grow (ts : Array TypeId) (type : TypeId) {P : Program} {w : World} {sT xT elem : TypeId} {d : TypeDesc} {i : TypeInfo} {z : Value} {base : Option Addr} {sLen sCap n : Nat} {x : Value} {old new : Array Value}
    (h0 : ts[0]? = some sT) (h1 : ts[1]? = some xT) (hs : P.underlying sT = some (.slice elem)) (hd : P.underlying xT = some d) (hi : P.info? elem = some i) (hz : i.zero = some z) (hn : AppX i n x d)
    (ho : ∀ w' : World, w'.heap = w.heap → (Builtin.firstCells i.size sLen (.slice base sLen sCap)).run P w' = .ok old w') (hnew : ∀ w' : World, w'.heap = w.heap → (appendNew elem i.size n (isIntD d) x).run P w' = .ok new w')
    (hlt : sCap < sLen + n) (g1 : (sLen + n) * i.bytes ≤ 17592186044416) (g2 : sLen + n ≤ 17592186044416) :
    ∃ newCap w', sLen + n ≤ newCap ∧ (Builtin.append_ ts type #[.slice base sLen sCap, x]).run P w = .ok (.slice (some ⟨w.heap.size, 0, none⟩) (sLen + n) newCap) w' ∧
      w'.heap = w.heap.push (.cells (old ++ new ++ Builtin.zeroCells z.cells (newCap - (sLen + n))) elem) ∧ w'.os = w.os ∧ w'.output = w.output := by
  have hnext := nextslicecap_le hlt
  have hb : ¬ Builtin.nextslicecap (sLen + n) sCap * i.bytes > 2 ^ 48 := by
    have : Builtin.nextslicecap (sLen + n) sCap * i.bytes ≤ 2 * (sLen + n) * i.bytes := Nat.mul_le_mul_right _ hnext
    have h3 : 2 * (sLen + n) * i.bytes = 2 * ((sLen + n) * i.bytes) := Nat.mul_assoc _ _ _
    omega
  have hmax : ¬ ((sLen + n : Nat) : Int) > IntKind.i64.max := by
    have : IntKind.i64.max = 9223372036854775807 := by decide
    rw [this]; omega
  have hnle : ¬ sLen + n ≤ sCap := by omega
  let w1 : World := { w with drawn := w.drawn + 1 }
  let cap1 := (Question.appendCap (sLen + n) sCap elem).cut (w.tape w.drawn (Question.appendCap (sLen + n) sCap elem))
  refine ⟨cap1, { w1 with heap := w1.heap.push (.cells (old ++ new ++ Builtin.zeroCells z.cells (cap1 - (sLen + n))) elem) }, ?_, ?_, rfl, rfl, rfl⟩
  · simp only [cap1, Question.cut]; omega
  · have ho1 := ho w1 rfl
    have hn1 := hnew w1 rfl
    unfold Builtin.append_
    simp only [h0, h1, List.getElem?_toArray]
    cases d with
    | int k =>
      obtain ⟨k2, rfl, q1, q2⟩ := hn
      have b1 : ¬ (n : Int) < 0 := by omega
      have b2 : ¬ (n : Int) * (i.bytes : Int) > 2 ^ 48 := by
        have : (n : Int) * (i.bytes : Int) = ((n * i.bytes : Nat) : Int) := by simp
        rw [this, show ((2 : Int) ^ 48) = 281474976710656 from by decide]
        omega
      simp only [appendNew, isIntD, Bool.not_true, Bool.false_eq_true, if_false] at hn1
      simp only [List.getElem?_cons_zero, List.getElem?_cons_succ, Sem.run_bind, run_und w hs, run_und w hd, Result.andThen_ok, run_size w hi, Sem.run_pure, asInt, asIntOf, if_true, wrap_small n q1, b1, if_false, run_info w hi, b2, Int.toNat_natCast,
        Bool.not_true, Bool.false_eq_true, if_neg hnle, hmax, false_and, hb, run_choose, Question.forced, run_askRoom]
      simp only [w1, cap1] at ho1 hn1 ⊢
      simp only [run_info _ hi, Result.andThen_ok, ho1, hn1, run_zero _ hi hz, run_newRow]
    | _ =>
      have hn' : (Builtin.lenOf x).run P w = .ok n w := hn P w
      simp only [appendNew, isIntD, Bool.not_false, if_true] at hn1
      simp only [List.getElem?_cons_zero, List.getElem?_cons_succ, Sem.run_bind, run_und w hs, run_und w hd, Result.andThen_ok, run_size w hi, Sem.run_pure, if_false, run_info w hi, hn', Bool.not_false, Bool.false_eq_true, if_true, if_neg hnle, hmax, false_and, hb, run_choose, Question.forced, run_askRoom]
      simp only [w1, cap1] at ho1 hn1 ⊢
      simp only [run_info _ hi, Result.andThen_ok, ho1, hn1, run_zero _ hi hz, run_newRow]

theorem firstA_length {r : Ren} {x' : Value} {size len cap : Nat} {base : Option Addr} {h : AH} {l : List Value} (hx : VR r (.slice base len cap) x') (e : firstA size len h (.slice base len cap) = some l) : l.length = len * size := by
  cases base with
  | none => cases hx; cases e; simp
  | some a =>
    simp only [firstA] at e
    cases e1 : Nat.beq len 0 with
    | true => rw [e1, ifB_true] at e; cases e; have := Nat.eq_of_beq_eq_true e1; subst this; simp
    | false =>
      rw [e1, ifB_false] at e
      obtain ⟨_, e3⟩ := ifB_some e
      unfold loadRow at e3
      split at e3
      · obtain ⟨_, e4⟩ := ifB_some e3; exact (loadN_spec e4).1
      · cases e3

theorem Addr.add_off (b o i : Nat) : (⟨b, o, none⟩ : Addr).add i = ⟨b, o + i, none⟩ := Addr.add_none b o i

theorem appendTo_sound {T : Tab} (ok : TabOK T) {r : Ren} {h h' : AH} {w : World} (hr : HR T.P r h w) {elem : TypeId} {i : TypeInfo} (hi0 : T.tt.get elem = some i) {z : Value} (hz : i.zero = some z) (_hzf : flat z = true) (hzs : z.cells.size = i.size)
    (ts : Array TypeId) (type : TypeId) {sT xT : TypeId} {d : TypeDesc} {base base' : Option Addr} {len len' cap cap' n : Nat} {x : Value} (u0 : ts[0]? = some sT) (u1 : ts[1]? = some xT) (us : T.P.underlying sT = some (.slice elem)) (ud : T.P.underlying xT = some d) (ux : AppX i n x d) {new : List Value} {new' : Array Value} {v : Value} (hs : VR r (.slice base len cap) (.slice base' len' cap')) (hnl : new.length = n * i.size) (hnew : LR r new new'.toList)
    (hn : ∀ w' : World, w'.heap = w.heap → (appendNew elem i.size n (isIntD d) x).run T.P w' = .ok new' w') (e : appendTo T elem i base len cap (.slice base len cap) n new h = some (v, h')) :
    SOK T.P r h w (Builtin.append_ ts type #[.slice base' len' cap', x]) v h' := by
  have hi := ok.t elem i hi0
  have hll : len' = len := by cases hs <;> rfl
  subst hll
  have hw := hn w rfl
  unfold appendTo at e
  cases e1 : Nat.ble (len' + n) (capOf cap) with
  | true =>
    have hle := ble_le e1
    rw [e1, ifB_true] at e
    cases base with
    | none =>
      cases e
      cases hs
      have h0 : n = 0 := by rw [capOf_lt (by decide)] at hle; omega
      subst h0
      refine .same hr (v' := .slice none 0 0) ?_ .slNil
      rw [run_append_fits ts type u0 u1 us ud hi ux hw (by omega)]
      rfl
    | some a =>
      simp only at e
      -- the place, and the capacity
      have key : (len' = 0 ∧ cap = 0 ∧ cap' = 0 ∧ ∃ a', base' = some a') ∨ ∃ bk o', r a.block = some bk ∧ base' = some ⟨bk.blk, o', none⟩ ∧ len' + n ≤ cap' ∧ (len' + n ≠ 0 → o' = a.off + bk.dlt) ∧ VR r (.slice (some a) (len' + n) cap) (.slice base' (len' + n) cap') := by
        cases hs with
        | slOff b o a' => exact .inl ⟨rfl, rfl, rfl, a', rfl⟩
        | slEx b o l c bk hb hc =>
          rw [capOf_lt hc] at hle
          exact .inr ⟨bk, _, hb, rfl, hle, fun _ => rfl, .slEx b o _ _ bk hb hc⟩
        | slIn b o l k o' c' bk hb q1 q2 q3 q4 =>
          rw [capOf_ge] at hle
          exact .inr ⟨bk, o', hb, rfl, by omega, fun h => q3 (by omega), .slIn b o _ k o' _ bk hb hle q2 q3 q4⟩
      rcases key with ⟨rfl, rfl, rfl, a', rfl⟩ | key
      · have h0 : n = 0 := by rw [capOf_lt (by decide)] at hle; omega
        subst h0
        have hnn : new = [] := by simpa using hnl
        subst hnn
        cases e
        have hn0 : new'.toList = [] := hnew.nil_inv
        refine .same hr (v' := .slice (some a') 0 0) ?_ hs
        rw [run_append_fits ts type u0 u1 us ud hi ux hw (by omega), hn0]
        rfl
      obtain ⟨bk, o', hb, rfl, hcap, hoff, hvr⟩ := key
      cases hnn : new with
      | nil =>
        rw [hnn] at e; cases e
        rw [hnn] at hnew
        have hn0 : new'.toList = [] := hnew.nil_inv
        refine .same hr (v' := .slice (some ⟨bk.blk, o', none⟩) (len' + n) cap') ?_ hvr
        rw [run_append_fits ts type u0 u1 us ud hi ux hw hcap, hn0]
        rfl
      | cons y l =>
        rw [hnn] at e
        simp only at e
        split at e
        · rename_i h2 hst
          cases e
          have hn0 : n ≠ 0 := by intro hh; subst hh; rw [hnn] at hnl; simp at hnl
          have ho := hoff (by omega)
          rw [hnn] at hnew
          obtain ⟨w', s1, s2, s3⟩ := storeRow_sound (T := T) hr hb hnew hst
          refine ⟨_, w', r, ?_, hvr, s2, s3⟩
          have s1' : (storeCells ⟨bk.blk, a.off + bk.dlt + len' * i.size, none⟩ new'.toList).run T.P w = .ok () w' := by
            rw [show a.off + bk.dlt + len' * i.size = a.off + len' * i.size + bk.dlt from by omega]; exact s1
          rw [run_append_fits ts type u0 u1 us ud hi ux hw hcap]
          simp only [Addr.add_none, ho, s1', Result.andThen_ok]
        · cases e
  | false =>
    have hgt : capOf cap < len' + n := by
      rcases Nat.lt_or_ge (capOf cap) (len' + n) with g | g
      · exact g
      · rw [Nat.ble_eq_true_of_le g] at e1; cases e1
    rw [e1, ifB_false] at e
    obtain ⟨e2, e3⟩ := ifB_some e
    rw [Bool.and_eq_true] at e2
    have q1 := ble_le e2.1
    have q2 := ble_le e2.2
    split at e3
    · rename_i old hold
      obtain ⟨old', hfirst, g2⟩ := firstA_sound hr hs hold
      have hol := firstA_length hs hold
      have hlr : LR r (old ++ new) (old' ++ new').toList := by rw [Array.toList_append]; exact g2.append hnew
      have hlen : (old ++ new).length = (len' + n) * i.size := by rw [List.length_append, hol, hnl, Nat.add_mul]
      -- it grows in the model too
      have grow : cap' < len' + n → ∀ (hh : AH), (∀ c o, hh.get c = some o → h.get c = some o) → hh.next = h.next → HR T.P r hh w → Ext r h w r hh w →
          SOK T.P r h w (Builtin.append_ ts type #[.slice base' len' cap', x]) (grown hh elem (len' + n) ((len' + n) * i.size) (old ++ new)).1 (grown hh elem (len' + n) ((len' + n) * i.size) (old ++ new)).2 := by
        intro hlt hh _ hnx hrr hex
        obtain ⟨newCap, w', k1, k2, k3, k4⟩ := run_append_grow ts type u0 u1 us ud hi hz ux hfirst hn hlt q1 q2
        let bk : Bk := ⟨w.heap.size, 0, newCap * i.size, i.size⟩
        have hzsz : (old' ++ new' ++ Builtin.zeroCells z.cells (newCap - (len' + n))).size = newCap * i.size := by
          have h1 : (old' ++ new').size = (len' + n) * i.size := by have := hlr.1; simp only [Array.length_toList] at this; omega
          rw [Array.size_append, h1]
          simp only [Builtin.zeroCells, Array.size_map, Array.size_range, hzs]
          rw [← Nat.add_mul]; congr 1; omega
        obtain ⟨p1, p2⟩ := hrr.new (.cells (PM.ofList (old ++ new)) ((len' + n) * i.size) elem 0 0 .loose) (.cells (old' ++ new' ++ Builtin.zeroCells z.cells (newCap - (len' + n))) elem) bk rfl k3 (by
          refine ⟨_, 0, 0, rfl, ?_, (fun hh => by cases hh), fun _ => ⟨hzsz.symm, i, hi, rfl⟩, ?_, fun _ => Nat.le_refl _, fun j _ _ hj => (by omega)⟩
          · rw [hzsz]; simp only [bk, Nat.zero_add]; exact Nat.mul_le_mul_right _ k1
          · intro j hj
            have hj1 : j < (old ++ new).length := by rw [hlen]; exact hj
            obtain ⟨v', c1, c2⟩ := hlr.get (List.getElem?_eq_getElem hj1)
            refine ⟨_, v', by rw [PM.get_ofList, List.getElem?_eq_getElem hj1], ?_, c2.mono (hrr.sub_add _)⟩
            have hj2 : j < (old' ++ new').size := by have := hlr.1; simp only [Array.length_toList] at this; omega
            simp only [bk, Nat.zero_add]
            rw [Array.getElem?_append_left hj2, ← Array.getElem?_toList]
            exact c1) k4
        refine ⟨_, w', _, k2, ?_, p1, hex.trans hr p2⟩
        have := VR.slIn (r := r.add hh.next bk) hh.next 0 (len' + n) (len' + n) 0 newCap bk (Ren.add_same _ _ _) (Nat.le_refl _) k1 (fun _ => rfl) (by simp [bk])
        exact this
      cases base with
      | none =>
        cases hs
        cases e3
        exact grow (by rw [capOf_lt (by decide)] at hgt; exact hgt) h (fun _ _ h => h) rfl hr (.refl _ _ _)
      | some a =>
        simp only at e3
        cases e4 : Nat.ble XB cap with
        | false =>
          rw [e4, ifB_false] at e3
          cases e3
          have hc : cap < XB := by
            rcases Nat.lt_or_ge cap XB with g | g
            · exact g
            · rw [Nat.ble_eq_true_of_le g] at e4; cases e4
          have hcc : cap' = cap := by
            cases hs with
            | slEx => rfl
            | slIn b o l k o' c' bk hb _ _ _ _ => omega
            | slOff => rfl
          exact grow (by rw [hcc]; rw [capOf_lt hc] at hgt; exact hgt) h (fun _ _ h => h) rfl hr (.refl _ _ _)
        | true =>
          rw [e4, ifB_true] at e3
          obtain ⟨e5, e6⟩ := ifB_some e3
          cases e6
          rw [Bool.and_eq_true] at e5
          have hge := ble_le e4
          cases hs with
          | slEx b o l c bk hb hc => omega
          | slOff => exact absurd hge (by unfold XB; decide)
          | slIn b o l k o' c' bk hb t1 t2 t3 t4 =>
            rw [capOf_ge] at hgt
            simp only at e5
            obtain ⟨f1, f2⟩ := e5
            unfold looseEl at f1
            split at f1
            · rename_i c0 n0 el0 lo hi0' hg
              rw [Bool.and_eq_true] at f1
              have hel := Nat.eq_of_beq_eq_true f1.1
              subst hel
              have hun := ble_le f1.2
              obtain ⟨bk2, ob, h1, h2, h3⟩ := hr.live b _ hg
              rw [hb] at h1; cases h1
              obtain ⟨cs, fl, fh, rfl, h4, h5, h6, h7, h8, h9⟩ := h3
              obtain ⟨hroom, i2, hi2, hz2⟩ := h6 rfl
              rw [hi] at hi2; cases hi2
              by_cases hfit : len' + n ≤ cap'
              · -- the model writes into the room
                have hfz := h8 hun
                have hnl' : new'.toList.length = n * i.size := by rw [← hnew.1]; exact hnl
                have hbd : o' + (len' + n) * i.size ≤ cs.size := by
                  have : (len' + n) * i.size ≤ cap' * i.size := Nat.mul_le_mul_right _ hfit
                  rw [← hz2] at t4; omega
                have hadd : (len' + n) * i.size = len' * i.size + n * i.size := Nat.add_mul _ _ _
                have hflat : ∀ v ∈ new'.toList, oneCell v = true := by
                  intro v hv
                  obtain ⟨q, hq, rfl⟩ := List.getElem_of_mem hv
                  have := hnew.2 q (new[q]'(by rw [hnew.1]; exact hq)) _ (List.getElem?_eq_getElem _) (List.getElem?_eq_getElem hq)
                  rw [this.oneCell]
                  exact (List.all_eq_true.1 f2) _ (List.getElem_mem _)
                obtain ⟨w', s1, s2, s3, s4, s5⟩ := run_storeCells (P := T.P) (o := o' + len' * i.size) new'.toList w cs 0 h2 (by omega) (fun j _ hh => by omega) hflat
                have holdc : ∀ j, j < len' * i.size → ∃ v v', old[j]? = some v ∧ cs[o' + j]? = some v' ∧ VR r v v' := by
                  intro j hj
                  have hl0 : len' ≠ 0 := by intro hh; subst hh; simp at hj
                  have ho := t3 (by omega)
                  simp only [firstA] at hold
                  have e1 : Nat.beq len' 0 = false := by
                    cases e1 : Nat.beq len' 0 with
                    | false => rfl
                    | true => exact absurd (Nat.eq_of_beq_eq_true e1) hl0
                  rw [e1, ifB_false] at hold
                  obtain ⟨_, h10⟩ := ifB_some hold
                  obtain ⟨cs2, el2, f2', d1, d2, d3⟩ := hr.row hb h10
                  rw [h2] at d1; cases d1
                  have hj2 : j < old.length := by rw [hol]; exact hj
                  obtain ⟨v', m1, m2⟩ := d3.get (List.getElem?_eq_getElem hj2)
                  refine ⟨_, v', List.getElem?_eq_getElem hj2, ?_, m2⟩
                  rw [List.getElem?_take, if_pos hj, List.getElem?_drop, Array.getElem?_toList] at m1
                  rw [ho]; exact m1
                let bk' : Bk := ⟨bk.blk, o', bk.room, i.size⟩
                obtain ⟨p1, p2⟩ := hr.moved (o' := .cells (PM.ofList (old ++ new)) ((len' + n) * i.size) el0 0 0 .loose) (bk' := bk') hg rfl hb rfl s3 s2 s4 (by
                  refine ⟨_, fl, fh, rfl, by rw [putL_size]; simp only [bk']; exact hbd, (fun hh => by cases hh), fun _ => ⟨by rw [putL_size]; exact hroom, i, hi, rfl⟩, ?_, fun _ => hfz, fun j _ hj1 hj2 => (by omega)⟩
                  intro j hj
                  simp only [bk']
                  by_cases hjo : j < len' * i.size
                  · obtain ⟨v1, v2, m1, m2, m3⟩ := holdc j hjo
                    refine ⟨v1, v2, ?_, ?_, m3.mono (hr.sub_add _)⟩
                    · rw [PM.get_ofList, List.getElem?_append_left (by rw [hol]; exact hjo)]; exact m1
                    · rw [putL_get _ _ _ _ (by omega), if_neg (by omega)]; exact m2
                  · have hjn : j - len' * i.size < new.length := by rw [hnl]; omega
                    obtain ⟨v', m1, m2⟩ := hnew.get (List.getElem?_eq_getElem hjn)
                    refine ⟨_, v', ?_, ?_, m2.mono (hr.sub_add _)⟩
                    · rw [PM.get_ofList, List.getElem?_append_right (by rw [hol]; omega), hol]; exact List.getElem?_eq_getElem hjn
                    · rw [putL_get _ _ _ _ (by omega), if_pos (by omega)]
                      rw [show o' + j - (o' + len' * i.size + 0) = j - len' * i.size from by omega]; exact m1) s5
                refine ⟨.slice (some ⟨bk.blk, o', none⟩) (len' + n) cap', w', _, ?_, ?_, p1, p2⟩
                · rw [run_append_fits ts type u0 u1 us ud hi ux hw hfit]
                  simp only [Addr.add_none, s1, Result.andThen_ok]
                · have := VR.slIn (r := r.add h.next bk') h.next 0 (len' + n) (len' + n) o' cap' bk' (Ren.add_same _ _ _) (Nat.le_refl _) hfit (fun _ => by simp [bk']) (by simp only [bk']; rw [hz2]; exact t4)
                  exact this
              · exact grow (by omega) (h.del b) (fun c o e => by
                  rw [AH.get_del] at e
                  by_cases hc : c = b
                  · rw [if_pos hc] at e; cases e
                  · rw [if_neg hc] at e; exact e) rfl (hr.del b) ((Ext.refl r h w).del b)
            · cases f1
    · cases e3

theorem evAppend_sound {T : Tab} (ok : TabOK T) (oz : TabZ T) {r : Ren} {h h' : AH} {w : World} (hr : HR T.P r h w) (ts : Array TypeId) (type : TypeId) {sT xT : TypeId} (u0 : ts[0]? = some sT) (u1 : ts[1]? = some xT)
    {s s' x x' v : Value} (hs : VR r s s') (hx : VR r x x') (e : evAppend T sT xT s x h = some (v, h')) : SOK T.P r h w (Builtin.append_ ts type #[s', x']) v h' := by
  unfold evAppend at e
  split at e
  · rename_i base len cap
    split at e
    · rename_i elem hel
      split at e
      · rename_i i hi0
        split at e
        · rename_i z hz
          split at e
          · rename_i n new hap
            have hi := ok.t elem i hi0
            obtain ⟨hzf, hzs⟩ := oz elem i z hi0 hz
            obtain ⟨d, ud, ux, new', hn, hnew, hnl⟩ := appendedA_sound ok hr hi hz hzf hzs hx hap
            have us := und_ok ok hel
            have hs' : ∃ b l c, s' = .slice b l c := by cases hs <;> exact ⟨_, _, _, rfl⟩
            obtain ⟨b', l', c', rfl⟩ := hs'
            exact appendTo_sound ok hr hi0 hz hzf hzs ts type u0 u1 us ud ux hs hnl hnew hn e
          · cases e
        · cases e
      · cases e
    · cases e
  · cases e
end
end Go.Proofs.YtknchhnibjfocaaDoor.Abs
