/- An abstract machine: conversions, interfaces, maps, built-in functions. -/
import Derived.Test.YtknchhnibjfocaaDoorAbsI
namespace Go.Proofs.YtknchhnibjfocaaDoor.Abs
open Go
noncomputable section

/- Conversions. -/
def byteOf : Value → Option UInt8
  | .int .u8 n => some (UInt8.ofNat n.toNat)
  | _ => none
def bytesA : List Value → Option (List UInt8)
  | [] => some []
  | v :: l => (match byteOf v with
    | some b => (match bytesA l with
      | some r => some (b :: r)
      | none => none)
    | none => none)

theorem byteOf_ok {r : Ren} {v v' : Value} {b : UInt8} (h : VR r v v') (e : byteOf v = some b) : ∃ n, v' = .int .u8 n ∧ b = UInt8.ofNat n.toNat := by
  unfold byteOf at e
  split at e
  · cases e; cases h; exact ⟨_, rfl, rfl⟩
  · cases e

def pushB (c : Value) (s : ByteArray) : Sem (ForInStep ByteArray) :=
  match c with
  | .int .u8 n => pure (ForInStep.yield (s.push (UInt8.ofNat n.toNat)))
  | _ => stuck "bytesToString: byte expected"
theorem run_pushBytes {P : Program} {r : Ren} : ∀ (l l' : List Value) (bs : List UInt8) (acc : ByteArray) (w : World), LR r l l' → bytesA l = some bs →
    (forIn l' acc pushB : Sem ByteArray).run P w = .ok ⟨acc.data ++ bs.toArray⟩ w := by
  intro l
  induction l with
  | nil =>
    intro l' bs acc w hl e
    rw [hl.nil_inv]; cases e
    simp
  | cons v l ih =>
    intro l' bs acc w hl e
    obtain ⟨v', l2, rfl, hv, hl2⟩ := hl.cons_inv
    simp only [bytesA] at e
    split at e
    · rename_i b hb
      split at e
      · rename_i rr hr
        cases e
        obtain ⟨n, rfl, rfl⟩ := byteOf_ok hv hb
        have := ih l2 rr (acc.push (UInt8.ofNat n.toNat)) w hl2 hr
        simp only [List.forIn_cons, pushB, Sem.run_bind, Sem.run_pure, Result.andThen_ok]
        rw [this]
        congr 1
        simp [ByteArray.push]
      · cases e
    · cases e

def evToString (h : AH) (x : Value) : Option Value :=
  match x with
  | .slice none _ _ => some (.string .empty)
  | .slice (some a) n _ => (match (ifB (Nat.beq n 0) (some []) (loadRow h a.block a.off n)) with
    | some l => (match bytesA l with
      | some bs => some (.string ⟨bs.toArray⟩)
      | none => none)
    | none => none)
  | _ => none

theorem evToString_sound {P : Program} {r : Ren} {h : AH} {w : World} (hr : HR P r h w) {x x' v : Value} (hx : VR r x x') (e : evToString h x = some v) : SOK P r h w (Conv.bytesToString x') v h := by
  unfold evToString at e
  split at e
  · cases e; cases hx
    exact .same hr (v' := .string .empty) rfl (.string _)
  · rename_i a n cap
    split at e
    · rename_i l hl
      split at e
      · rename_i bs hbs
        cases e
        rcases ifB_or hl with ⟨e1, e2⟩ | ⟨e1, e2⟩
        · have := Nat.eq_of_beq_eq_true e1
          subst this
          cases e2; cases hbs
          refine .same hr (v' := .string .empty) ?_ (.string _)
          cases hx with
          | slEx => simp [Conv.bytesToString, loadCells, loadCellsFrom]
          | slIn => simp [Conv.bytesToString, loadCells, loadCellsFrom]
          | slOff => simp [Conv.bytesToString, loadCells, loadCellsFrom]
        · have hn := Nat.ne_of_beq_eq_false e1
          obtain ⟨bk, cap', hb, rfl⟩ := hx.slice_base (by omega)
          obtain ⟨cs, el, f, g1, g2, g3⟩ := hr.row hb e2
          refine .same hr (v' := .string ⟨bs.toArray⟩) ?_ (.string _)
          have := run_pushBytes (P := P) l _ bs .empty w g3 hbs
          simp only [Conv.bytesToString, Sem.run_bind, run_loadCells g1 g2, Result.andThen_ok]
          rw [← Array.forIn_toList]
          have h2 : (ByteArray.empty.data ++ bs.toArray) = bs.toArray := by
            show (#[] : Array UInt8) ++ bs.toArray = bs.toArray
            simp
          rw [h2] at this
          change ((forIn _ ByteArray.empty pushB : Sem ByteArray).run P w).andThen _ = _
          rw [this]
          rfl
      · cases e
    · cases e
  · cases e

/-- A string's bytes as a slice: the model draws the capacity. -/
def evToBytes (e : TypeId) (s : ByteArray) (h : AH) : Value × AH :=
  (.slice (some ⟨h.next, 0, none⟩) s.data.toList.length (XB + s.data.toList.length),
   h.new (.cells (PM.ofList (byteVals s.data.toList)) s.data.toList.length e s.data.toList.length (s.data.toList.length + 1) .loose))

theorem evToBytes_sound {P : Program} {r : Ren} {h : AH} {w : World} (hr : HR P r h w) (e : TypeId) {i : TypeInfo} (hi : P.info? e = some i) (hs : i.size = 1) (s : ByteArray) :
    SOK P r h w (Conv.stringToBytes e s) (evToBytes e s h).1 (evToBytes e s h).2 := by
  let q := Question.appendCap s.size 0 e
  let cap := q.cut (w.tape w.drawn q)
  have hcap : s.size ≤ cap := by simp only [cap, q, Question.cut]; omega
  let cs : Array Value := (s.data.map fun b => .int .u8 b.toNat) ++ Array.replicate (cap - s.size) (.int .u8 0)
  have hsz : s.data.size = s.size := rfl
  have hcs : cs.size = cap := by simp [cs, hsz]; omega
  let w1 : World := { w with drawn := w.drawn + 1, heap := w.heap.push (.cells cs e) }
  let w2 : World := w1.freeze ⟨w.heap.size, cap, none⟩ 1
  have hw2 : w2.heap = w.heap.push (.cells cs e (cap, cap + 1)) := by
    simp only [w2, World.freeze, w1]
    rw [if_neg (by decide)]
    apply Array.ext
    · simp
    · intro j h1 h2
      simp only [Array.size_modify, Array.size_push] at h1
      rw [Array.getElem_modify]
      by_cases hj : j = w.heap.size
      · subst hj; simp
      · rw [if_neg (Ne.symm hj), Array.getElem_push_lt (by omega), Array.getElem_push_lt (by omega)]
  have hrun : (Conv.stringToBytes e s).run P w = .ok (.slice (some ⟨w.heap.size, 0, none⟩) s.size cap) w2 := by
    simp only [Conv.stringToBytes, Sem.run_bind, run_choose, Question.forced, Bool.false_eq_true, if_false, Result.andThen_ok, run_newRow, markStringish, run_shape]
    have hshape : ({ w with drawn := w.drawn + 1, heap := w.heap.push (.cells cs e) } : World).shape? w.heap.size = some (e, cap) := by simp [World.shape?, hcs]
    simp only [cs, cap, q] at hshape
    simp only [hshape, run_freeze, Result.andThen_ok, Sem.run_pure]
    rfl
  let bk : Bk := ⟨w.heap.size, 0, cap, 1⟩
  have hlen : s.data.toList.length = s.size := by simp [hsz]
  obtain ⟨p1, p2⟩ := hr.new (.cells (PM.ofList (byteVals s.data.toList)) s.data.toList.length e s.data.toList.length (s.data.toList.length + 1) .loose) (.cells cs e (cap, cap + 1)) bk rfl hw2 (by
    refine ⟨cs, cap, cap + 1, rfl, by simp only [bk]; omega, (fun hh => by cases hh), fun _ => ⟨by simp only [bk]; omega, i, hi, by simp only [bk]; omega⟩, ?_, fun hh => (by omega), fun j hj h1 h2 => (by simp only [bk] at h1; omega)⟩
    intro j hj
    have hj2 : j < s.data.size := by simpa using hj
    refine ⟨.int .u8 (s.data[j].toNat : Int), .int .u8 (s.data[j].toNat : Int), ?_, ?_, .int _ _⟩
    · rw [PM.get_ofList]; simp [byteVals]; exact ⟨_, Array.getElem?_eq_getElem hj2, rfl⟩
    · simp only [bk, Nat.zero_add, cs]
      rw [Array.getElem?_append_left (by simpa using hj2)]
      simp; exact ⟨_, Array.getElem?_eq_getElem hj2, rfl⟩)
  refine ⟨_, w2, _, hrun, ?_, p1, p2⟩
  have := VR.slIn (r := r.add h.next bk) h.next 0 s.size s.size 0 cap bk (Ren.add_same _ _ _) (Nat.le_refl _) hcap (fun _ => rfl) (by simp [bk])
  simp only [evToBytes, hlen]
  exact this

def evConvert (T : Tab) (s d : TypeId) (x : Value) (h : AH) : Option (Value × AH) :=
  match x with
  | .int k n => (match und T s with
    | some _ => (match und T d with
      | some (.int k') => some (.int k' (wrapF k' n), h)
      | some (.float .f64) => (match zok n with
        | true => some (.float .f64 (zd n), h)
        | false => flatOp T (convert s d (.int k n)) h)
      | _ => flatOp T (convert s d (.int k n)) h)
    | none => none)
  | .float .f64 b => (match und T s with
    | some _ => (match und T d with
      | some (.int k') => (match dz b with
        | some z => (match decide (k'.min ≤ z ∧ z ≤ k'.max) with
          | true => some (.int k' z, h)
          | false => flatOp T (convert s d (.float .f64 b)) h)
        | none => flatOp T (convert s d (.float .f64 b)) h)
      | _ => flatOp T (convert s d (.float .f64 b)) h)
    | none => none)
  | .slice a n c => (match und T s with
    | some (.slice e) => (match und T d with
      | some .string => (match und T e with
        | some (.int .u8) => (match evToString h (.slice a n c) with
          | some v => some (v, h)
          | none => none)
        | _ => none)
      | _ => none)
    | _ => none)
  | .string b => (match und T s with
    | some _ => (match und T d with
      | some (.slice e) => (match und T e with
        | some (.int .u8) => (match szOf T e with
          | some 1 => some (evToBytes e b h)
          | _ => none)
        | _ => none)
      | some .string => some (.string b, h)
      | _ => none)
    | none => none)
  | v => ifB (flat v) (flatOp T (convert s d v) h) none

theorem evConvert_sound {T : Tab} (ok : TabOK T) {r : Ren} {h h' : AH} {w : World} (hr : HR T.P r h w) {s d : TypeId} {x x' v : Value} (hx : VR r x x') (e : evConvert T s d x h = some (v, h')) : SOK T.P r h w (convert s d x') v h' := by
  unfold evConvert at e
  split at e
  · rename_i k n
    cases hx
    split at e
    · rename_i ds hds
      split at e
      · rename_i k' hk'
        cases e
        refine .same hr (v' := .int k' (wrapF k' n)) ?_ (.int _ _)
        rw [convert]
        simp only [Sem.run_bind, run_und w (und_ok ok hds), run_und w (und_ok ok hk'), Result.andThen_ok, wrapF_eq]
        cases ds <;> rfl
      · rename_i hk'
        split at e
        · rename_i hz
          cases e
          refine .same hr (v' := .float .f64 (zd n)) ?_ (.float _ _)
          rw [convert]
          simp only [Sem.run_bind, run_und w (und_ok ok hds), run_und w (und_ok ok hk'), Result.andThen_ok]
          have : (Conv.intToFloat .f64 n).run T.P w = .ok (.float .f64 (zd n)) w := by
            unfold Conv.intToFloat
            rw [nearest_zd (zok_small hz)]
            rfl
          cases ds <;> exact this
        · exact flatOp_sound hr e
      · exact flatOp_sound hr e
    · cases e
  · rename_i b
    cases hx
    split at e
    · rename_i ds hds
      split at e
      · rename_i k' hk'
        split at e
        · rename_i z hz
          split at e
          · rename_i hr2
            cases e
            have hb := of_decide_eq_true hr2
            obtain ⟨hbz, hzs⟩ := dz_spec hz
            refine .same hr (v' := .int k' z) ?_ (.int _ _)
            rw [convert]
            simp only [Sem.run_bind, run_und w (und_ok ok hds), run_und w (und_ok ok hk'), Result.andThen_ok]
            have : (Conv.floatToInt .f64 b k').run T.P w = .ok (.int k' z) w := by
              unfold Conv.floatToInt
              rw [hbz, toInt_zd hzs]
              simp only [if_pos hb]
              rfl
            cases ds <;> exact this
          · exact flatOp_sound hr e
        · exact flatOp_sound hr e
      · exact flatOp_sound hr e
    · cases e
  · rename_i a n c
    split at e
    · rename_i el hel
      split at e
      · rename_i hd
        split at e
        · rename_i hu8
          split at e
          · rename_i v' hv
            cases e
            obtain ⟨v2, w2, r2, a1, a2⟩ := evToString_sound hr hx hv
            refine ⟨v2, w2, r2, ?_, a2⟩
            have hsl : ∃ a n c, x' = .slice a n c := by cases hx <;> exact ⟨_, _, _, rfl⟩
            obtain ⟨a', n', c', rfl⟩ := hsl
            rw [convert]
            simp only [Sem.run_bind, run_und w (und_ok ok hel), run_und w (und_ok ok hd), Result.andThen_ok]
            cases a' <;> simp only [run_und w (und_ok ok hu8), Result.andThen_ok] <;> exact a1
          · cases e
        · cases e
      · cases e
    · cases e
  · rename_i b
    cases hx
    split at e
    · rename_i ds hds
      split at e
      · rename_i el hel
        split at e
        · rename_i hu8
          split at e
          · rename_i hsz
            cases e
            obtain ⟨i, hi, hi2⟩ := sz_ok ok hsz
            obtain ⟨v2, w2, r2, a1, a2⟩ := evToBytes_sound hr el hi hi2 b
            refine ⟨v2, w2, r2, ?_, a2⟩
            rw [convert]
            simp only [Sem.run_bind, run_und w (und_ok ok hds), run_und w (und_ok ok hel), Result.andThen_ok]
            cases ds <;> simp only [run_und w (und_ok ok hu8), Result.andThen_ok] <;> exact a1
          · cases e
        · cases e
      · rename_i hd
        cases e
        refine .same hr (v' := .string b) ?_ (.string _)
        rw [convert]
        simp only [Sem.run_bind, run_und w (und_ok ok hds), run_und w (und_ok ok hd), Result.andThen_ok]
        cases ds <;> rfl
      · cases e
    · cases e
  · obtain ⟨e1, e2⟩ := ifB_some e
    rw [hx.flat_eq e1]
    exact flatOp_sound hr e2

/- Interfaces, functions. -/
def evNilCheck (x : Value) : Option Value :=
  match x with
  | .pointer (some a) => some (.pointer (some a))
  | .func (.func f) a b => some (.func (.func f) a b)
  | .iface t v => some (.iface t v)
  | _ => none
def evMakeIface (T : Tab) (t : TypeId) (x : Value) : Option Value :=
  match und T t with
  | some (.interface _) => none
  | some _ => some (.iface t x)
  | none => none
theorem evMakeIface_sound {T : Tab} (ok : TabOK T) {r : Ren} {h : AH} {w : World} (hr : HR T.P r h w) {t : TypeId} {x x' v : Value} (hx : VR r x x') (e : evMakeIface T t x = some v) : SOK T.P r h w (Instr.makeInterface t x') v h := by
  unfold evMakeIface at e
  split at e
  · cases e
  · rename_i d hn hd
    cases e
    refine .same hr (v' := .iface t x') ?_ (.iface _ _ _ hx)
    simp only [Instr.makeInterface, Sem.run_bind, run_und w (und_ok ok hd), Result.andThen_ok]
    cases d <;> first | rfl | exact absurd rfl (hn _)
  · cases e

def evTypeAssert (T : Tab) (t : TypeId) (okk : Bool) (x : Value) : Option Value :=
  match und T t with
  | some (.interface _) => none
  | some _ => (match x with
    | .nilIface => ifB okk (match zeroOf T t with | some z => some (.tuple #[z, .bool false]) | none => none) none
    | .iface u v => ifB (Nat.beq u t) (some (ifB okk (.tuple #[v, .bool true]) v)) (ifB okk (match zeroOf T t with | some z => some (.tuple #[z, .bool false]) | none => none) none)
    | _ => none)
  | none => none
theorem VR.pair {r : Ren} {a a' b b' : Value} (h1 : VR r a a') (h2 : VR r b b') : VR r (.tuple #[a, b]) (.tuple #[a', b']) :=
  VR.tuple_list (l := [a, b]) (cs := #[a', b']) (((LR.nil r).cons h2).cons h1)
theorem VR.triple {r : Ren} {a a' b b' c c' : Value} (h1 : VR r a a') (h2 : VR r b b') (h3 : VR r c c') : VR r (.tuple #[a, b, c]) (.tuple #[a', b', c']) :=
  VR.tuple_list (l := [a, b, c]) (cs := #[a', b', c']) ((((LR.nil r).cons h3).cons h2).cons h1)
theorem evTypeAssert_sound {T : Tab} (ok : TabOK T) (oz : TabZ T) {r : Ren} {h : AH} {w : World} (hr : HR T.P r h w) (xt : TypeId) {t : TypeId} {okk : Bool} {x x' v : Value} (hx : VR r x x') (e : evTypeAssert T t okk x = some v) :
    SOK T.P r h w (Instr.typeAssert x' xt t okk) v h := by
  unfold evTypeAssert at e
  split at e
  · cases e
  · rename_i d hn hd
    have hu := und_ok ok hd
    have fails : ∀ s dy m, okk = true → ∀ z, zeroOf T t = some z → SOK T.P r h w (do if okk then pure (.tuple #[← zeroValue t, .bool false]) else runtimePanic (.typeAssertion s dy t m)) (.tuple #[z, .bool false]) h := by
      intro s dy m hk z hz
      obtain ⟨i, hi, hzi⟩ := zero_ok ok hz
      refine .same hr (v' := .tuple #[z, .bool false]) ?_ (.pair (VR.of_flat r z (zeroFlat oz hz)) (.bool _))
      simp [hk, run_zero w hi hzi]
    split at e
    · cases hx
      obtain ⟨e1, e2⟩ := ifB_some e
      split at e2
      · rename_i z hz
        cases e2
        obtain ⟨v', w', r', a1, a2⟩ := fails (some xt) none "" e1 z hz
        refine ⟨v', w', r', ?_, a2⟩
        simp only [Instr.typeAssert, Sem.run_bind, run_und w hu, Result.andThen_ok]
        cases d <;> first | exact absurd rfl (hn _) | exact a1
      · cases e2
    · cases hx with
      | iface u vv v' hv =>
        rcases ifB_or e with ⟨e1, e9⟩ | ⟨e1, e9⟩
        · have := Nat.eq_of_beq_eq_true e1
          subst this
          cases e9
          refine .same hr (v' := if okk then .tuple #[v', .bool true] else v') ?_ ?_
          · simp only [Instr.typeAssert, Sem.run_bind, run_und w hu, Result.andThen_ok]
            cases d <;> first | exact absurd rfl (hn _) | rfl | simp
          · cases okk with
            | true => exact .pair hv (.bool _)
            | false => exact hv
        · have hne := Nat.ne_of_beq_eq_false e1
          obtain ⟨e1, e2⟩ := ifB_some e9
          split at e2
          · rename_i z hz
            cases e2
            obtain ⟨i, hi, hzi⟩ := zero_ok ok hz
            refine .same hr (v' := .tuple #[z, .bool false]) ?_ (.pair (VR.of_flat r z (zeroFlat oz hz)) (.bool _))
            simp only [Instr.typeAssert, Sem.run_bind, run_und w hu, Result.andThen_ok]
            cases d <;> first | exact absurd rfl (hn _) | simp [hne, e1, run_zero w hi hzi]
          · cases e2
    · cases e
  · cases e
end
end Go.Proofs.YtknchhnibjfocaaDoor.Abs
