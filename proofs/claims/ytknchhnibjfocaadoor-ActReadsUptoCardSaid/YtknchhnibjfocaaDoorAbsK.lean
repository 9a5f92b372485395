/- An abstract machine: maps, iterators, built-in functions. -/
import Derived.Test.YtknchhnibjfocaaDoorAbsJ
namespace Go.Proofs.YtknchhnibjfocaaDoor.Abs
open Go
noncomputable section

/- Maps. -/
def keyKind (T : Tab) (t : TypeId) : Option TypeDesc :=
  match und T t with
  | some (.int k) => some (.int k)
  | some .string => some .string
  | some .bool => some .bool
  | _ => none
theorem keyKind_ok {T : Tab} (ok : TabOK T) {t : TypeId} {d : TypeDesc} (e : keyKind T t = some d) : T.P.underlying t = some d ∧ ((∃ k, d = .int k) ∨ d = .string ∨ d = .bool) := by
  unfold keyKind at e
  split at e
  · rename_i k h; cases e; exact ⟨und_ok ok h, .inl ⟨k, rfl⟩⟩
  · rename_i h; cases e; exact ⟨und_ok ok h, .inr (.inl rfl)⟩
  · rename_i h; cases e; exact ⟨und_ok ok h, .inr (.inr rfl)⟩
  · cases e

theorem run_checkKey {P : Program} {w : World} {t : TypeId} {d : TypeDesc} (h : P.underlying t = some d) (hk : (∃ k, d = .int k) ∨ d = .string ∨ d = .bool) (empty : Bool) (v : Value) : (Instr.checkKey empty 10000 t v).run P w = .ok () w := by
  rw [Instr.checkKey]
  simp only [Sem.run_bind, run_und w h, Result.andThen_ok]
  rcases hk with ⟨k, rfl⟩ | rfl | rfl <;> rfl

def MR (r : Ren) (es es' : List MapEntry) : Prop := es'.length = es.length ∧
  ∀ (i : Nat) (e e' : MapEntry), es[i]? = some e → es'[i]? = some e' → e'.key = e.key ∧ flat e.key = true ∧ e'.born = e.born ∧ VR r e.val e'.val

theorem MR.cons_inv {r : Ren} {e : MapEntry} {es es' : List MapEntry} (h : MR r (e :: es) es') : ∃ e' es2, es' = e' :: es2 ∧ (e'.key = e.key ∧ flat e.key = true ∧ e'.born = e.born ∧ VR r e.val e'.val) ∧ MR r es es2 := by
  cases es' with
  | nil => simp [MR] at h
  | cons e' es2 => exact ⟨e', es2, rfl, h.2 0 e e' rfl rfl, by simpa using h.1, fun i a b p q => h.2 (i + 1) a b (by simpa using p) (by simpa using q)⟩

theorem findNow_sound {r : Ren} {kd : TypeDesc} {k : Value} : ∀ (es es' : List MapEntry) (i : Nat) (res : Option (Nat × Value)), MR r es es' → Instr.findNow kd k es i = some res →
    (res = none ∧ Instr.findNow kd k es' i = some none) ∨ ∃ j v v' e, res = some (j, v) ∧ Instr.findNow kd k es' i = some (some (j, v')) ∧ VR r v v' ∧ i ≤ j ∧ es[j - i]? = some e ∧ Instr.sameNow kd k e.key = some true := by
  intro es
  induction es with
  | nil =>
    intro es' i res hm e
    have : es' = [] := by cases es' with | nil => rfl | cons _ _ => simp [MR] at hm
    subst this
    cases e; exact .inl ⟨rfl, rfl⟩
  | cons x es ih =>
    intro es' i res hm e
    obtain ⟨x', es2, rfl, ⟨h1, h2, h3, h4⟩, hm2⟩ := hm.cons_inv
    rw [Instr.findNow] at e
    cases e1 : Instr.sameNow kd k x.key with
    | none => rw [e1] at e; cases e
    | some q =>
      rw [e1] at e
      cases q with
      | true =>
        cases e
        exact .inr ⟨i, x.val, x'.val, x, rfl, by rw [Instr.findNow, h1, e1], h4, Nat.le_refl _, by simp, e1⟩
      | false =>
        simp only at e
        rcases ih es2 (i + 1) res hm2 e with ⟨a, b⟩ | ⟨j, v, v', y, a, b, c, d, f, g⟩
        · exact .inl ⟨a, by rw [Instr.findNow, h1, e1]; exact b⟩
        · refine .inr ⟨j, v, v', y, a, by rw [Instr.findNow, h1, e1]; exact b, c, by omega, ?_, g⟩
          obtain ⟨m, rfl⟩ : ∃ m, j = i + 1 + m := ⟨j - i - 1, by omega⟩
          rw [show i + 1 + m - i = m + 1 from by omega]
          rw [show i + 1 + m - (i + 1) = m from by omega] at f
          simpa using f

theorem same_bits {kd : TypeDesc} {k k2 : Value} (h : Instr.sameNow kd k k2 = some true) : Instr.sameBits 10000 k2 k = true := by
  unfold Instr.sameNow at h
  split at h
  · split at h
    · rename_i k1 a k3 b hk; subst hk; simp at h; subst h; simp [Instr.sameBits]
    · cases h
  · rename_i a b
    have h2 : (a.data == b.data) = true := Option.some.inj h
    have h3 : a.data = b.data := by simpa using h2
    have h4 : a = b := by cases a; cases b; simp at h3; rw [h3]
    subst h4
    show (a.data == a.data) = true
    simp
  · simp at h; subst h; simp [Instr.sameBits]
  · cases h

/-- The map behind a value. -/
def mapOf (h : AH) (m : Value) : Option (List MapEntry) :=
  match m with
  | .map none => some []
  | .map (some b) => (match h.get b with
    | some (.map es _) => some es
    | _ => none)
  | _ => none

def evLookup (T : Tab) (t : TypeId) (m k : Value) (okk : Bool) (h : AH) : Option Value :=
  match und T t with
  | some (.map kt et) => (match keyKind T kt with
    | some kd => (match zeroOf T et with
      | some z => (match mapOf h m with
        | some es => ifB (flat k) (match Instr.findNow kd k es 0 with
          | some (some (_, v)) => some (ifB okk (.tuple #[v, .bool true]) v)
          | some none => some (ifB okk (.tuple #[z, .bool false]) z)
          | none => none) none
        | none => none)
      | none => none)
    | none => none)
  | _ => none

theorem mapOf_ok {P : Program} {r : Ren} {h : AH} {w : World} (hr : HR P r h w) {m m' : Value} {es : List MapEntry} (hm : VR r m m') (e : mapOf h m = some es) :
    (m' = .map none ∧ es = []) ∨ ∃ b bk es' clock, m = .map (some b) ∧ r b = some bk ∧ m' = .map (some bk.blk) ∧ w.heap[bk.blk]? = some (.map es' clock) ∧ h.get b = some (.map es clock) ∧ MR r es es'.toList := by
  unfold mapOf at e
  split at e
  · cases e; cases hm; exact .inl ⟨rfl, rfl⟩
  · rename_i b
    split at e
    · rename_i es0 clock hg
      cases e
      cases hm with
      | map _ bk hb =>
        obtain ⟨bk', ob, h1, h2, h3⟩ := hr.live b _ hg
        rw [hb] at h1; cases h1
        obtain ⟨es', rfl, h4, h5⟩ := h3
        exact .inr ⟨b, bk, es', clock, rfl, hb, rfl, h2, hg, by simpa using h4, fun i x x' p q => h5 i x x' p (by simpa using q)⟩
    · cases e
  · cases e

theorem evLookup_sound {T : Tab} (ok : TabOK T) (oz : TabZ T) {r : Ren} {h : AH} {w : World} (hr : HR T.P r h w) {t : TypeId} {m m' k k' v : Value} {okk : Bool} (hm : VR r m m') (hk : VR r k k')
    (e : evLookup T t m k okk h = some v) : SOK T.P r h w (Instr.lookup t m' k' okk) v h := by
  unfold evLookup at e
  split at e
  · rename_i kt et hmt
    split at e
    · rename_i kd hkd
      obtain ⟨hku, hkk⟩ := keyKind_ok ok hkd
      split at e
      · rename_i z hz
        obtain ⟨i, hi, hzi⟩ := zero_ok ok hz
        split at e
        · rename_i es hes
          obtain ⟨ef, e⟩ := ifB_some e
          have := hk.flat_eq ef
          subst this
          have key : ∃ es' : Array MapEntry, ((m' = .map none ∧ es' = #[]) ∨ ∃ blk clock, m' = .map (some blk) ∧ w.heap[blk]? = some (.map es' clock)) ∧ MR r es es'.toList := by
            rcases mapOf_ok hr hm hes with ⟨rfl, rfl⟩ | ⟨b, bk, es', clock, rfl, hb, rfl, h2, hg, hmr⟩
            · exact ⟨#[], .inl ⟨rfl, rfl⟩, by simp [MR]⟩
            · exact ⟨es', .inr ⟨_, clock, rfl, h2⟩, hmr⟩
          obtain ⟨es', hrun, hmr⟩ := key
          have hu := und_ok ok hmt
          have main : ∀ (res : Option (Nat × Value)) (v' : Value), Instr.findNow kd k' es'.toList 0 = some res → v' = (match res with | some (_, v) => (if okk then .tuple #[v, .bool true] else v) | none => (if okk then .tuple #[z, .bool false] else z)) →
              (Instr.lookup t m' k' okk).run T.P w = .ok v' w := by
            intro res v' hf hv
            subst hv
            rcases hrun with ⟨rfl, rfl⟩ | ⟨blk, clock, rfl, h2⟩
            · simp only [Instr.lookup, Sem.run_bind, run_und w hu, Result.andThen_ok, Sem.run_pure, run_checkKey hku hkk, Instr.findKey, run_und w hku, hf]
              cases res with
              | none => simp [run_zero w hi hzi]
              | some p => simp
            · simp only [Instr.lookup, Sem.run_bind, run_und w hu, Result.andThen_ok, getObj, Sem.run, h2, Sem.run_pure, run_checkKey hku hkk, Instr.findKey, run_und w hku, hf]
              cases res with
              | none => simp [run_zero w hi hzi]
              | some p => simp
          split at e
          · rename_i j v0 hf
            cases e
            rcases findNow_sound es es'.toList 0 _ hmr hf with ⟨a, _⟩ | ⟨j', v1, v', _, a, b, c, _⟩
            · cases a
            · cases a
              refine .same hr (main _ _ b rfl) ?_
              cases okk with
              | true => exact .pair c (.bool _)
              | false => exact c
          · rename_i hf
            cases e
            rcases findNow_sound es es'.toList 0 _ hmr hf with ⟨_, b⟩ | ⟨j', v1, v', _, a, _⟩
            · refine .same hr (main _ _ b rfl) ?_
              have hzf := VR.of_flat r z (zeroFlat oz hz)
              cases okk with
              | true => exact .pair hzf (.bool _)
              | false => exact hzf
            · cases a
          · cases e
        · cases e
      · cases e
    · cases e
  · cases e

def evMapUpdate (T : Tab) (t : TypeId) (m k x : Value) (h : AH) : Option AH :=
  match und T t with
  | some (.map kt _) => (match keyKind T kt with
    | some kd => (match m with
      | .map (some b) => (match h.get b with
        | some (.map es clock) => ifB (flat k) (match Instr.findNow kd k es 0 with
          | some (some (i, _)) => some (h.set b (.map (es.modify i fun e => { e with key := k, val := x }) clock))
          | some none => some (h.set b (.map (es ++ [{ key := k, val := x, born := clock }]) (clock + 1)))
          | none => none) none
        | _ => none)
      | _ => none)
    | none => none)
  | _ => none

theorem evMapUpdate_sound {T : Tab} (ok : TabOK T) {r : Ren} {h h' : AH} {w : World} (hr : HR T.P r h w) {t : TypeId} {m m' k k' x x' : Value} (hm : VR r m m') (hk : VR r k k') (hx : VR r x x')
    (e : evMapUpdate T t m k x h = some h') : ∃ w', (Instr.mapUpdate t m' k' x').run T.P w = .ok () w' ∧ HR T.P r h' w' ∧ Ext r h w r h' w' := by
  unfold evMapUpdate at e
  split at e
  · rename_i kt et hmt
    split at e
    · rename_i kd hkd
      obtain ⟨hku, hkk⟩ := keyKind_ok ok hkd
      split at e
      · rename_i b
        split at e
        · rename_i es clock hg
          obtain ⟨ef, e⟩ := ifB_some e
          have := hk.flat_eq ef
          subst this
          cases hm with
          | map _ bk hb =>
            obtain ⟨bk', ob, h1, h2, h3⟩ := hr.live b _ hg
            rw [hb] at h1; cases h1
            obtain ⟨es', rfl, h4, h5⟩ := h3
            have hmr : MR r es es'.toList := ⟨by simpa using h4, fun i x x' p q => h5 i x x' p (by simpa using q)⟩
            have hu := und_ok ok hmt
            have hlt := (hr.lt b bk hb).2
            have main : ∀ (ob2 : Obj) (o2 : AObj), o2.ro = false ∨ True → OR T.P r bk o2 ob2 → (∀ w', w' = { w with heap := w.heap.setIfInBounds bk.blk ob2 } → (Instr.mapUpdate t (.map (some bk.blk)) k' x').run T.P w = .ok () w') →
                ∃ w', (Instr.mapUpdate t (.map (some bk.blk)) k' x').run T.P w = .ok () w' ∧ HR T.P r (h.set b o2) w' ∧ Ext r h w r (h.set b o2) w' := by
              intro ob2 o2 _ ho hrun
              have hup := hr.upd (w' := { w with heap := w.heap.setIfInBounds bk.blk ob2 }) hg rfl hb (by simp) (by simp [hlt]) (fun i hi => by simp [Array.getElem?_setIfInBounds_ne (Ne.symm hi)]) ho
              exact ⟨_, hrun _ rfl, hup.1, hup.2⟩
            split at e
            · rename_i i v0 hf
              cases e
              rcases findNow_sound es es'.toList 0 _ hmr hf with ⟨a, _⟩ | ⟨j', v1, v', y, a, b1, c, d1, f, g⟩
              · cases a
              · cases a
                simp only [Nat.sub_zero] at f
                have hi : i < es.length := (List.getElem?_eq_some_iff.1 f).1
                obtain ⟨y', q1⟩ : ∃ y', es'[i]? = some y' := ⟨_, Array.getElem?_eq_getElem (by omega)⟩
                obtain ⟨q2, q3, q4, q5⟩ := h5 i y y' f q1
                refine main (.map (es'.modify i fun e => { e with key := k', val := x' }) clock) _ (.inr trivial) ?_ ?_
                · refine ⟨_, rfl, by simp [h4], ?_⟩
                  intro j z z' p q
                  rw [Array.getElem?_modify] at q
                  rw [List.getElem?_modify] at p
                  by_cases hij : i = j
                  · subst hij
                    simp only [if_true, f, q1, Option.map_some, Option.map_eq_map, Option.some.injEq] at p q
                    subst p; subst q
                    exact ⟨rfl, ef, q4, hx⟩
                  · simp only [if_neg hij] at p q
                    have hp : es[j]? = some z := by simpa using p
                    exact h5 j z z' hp q
                · intro w' hw'
                  subst hw'
                  have hkey : ((es'[i]?).map (·.key)).getD k' = y.key := by rw [q1]; simp [q2]
                  simp only [Instr.mapUpdate, Sem.run_bind, run_und w hu, Result.andThen_ok, getObj, Sem.run, h2, run_checkKey hku hkk, Instr.findKey, run_und w hku, b1, Sem.run_pure, Instr.keyThatStays, hkey, same_bits g, if_true, setObj]
            · rename_i hf
              cases e
              rcases findNow_sound es es'.toList 0 _ hmr hf with ⟨_, b1⟩ | ⟨j', v1, v', y, a, _⟩
              · refine main (.map (es'.push { key := k', val := x', born := clock }) (clock + 1)) _ (.inr trivial) ?_ ?_
                · refine ⟨_, rfl, by simp [h4], ?_⟩
                  intro j z z' p q
                  rw [Array.getElem?_push] at q
                  rw [List.getElem?_append] at p
                  by_cases hj : j < es.length
                  · rw [if_pos hj] at p
                    rw [if_neg (by omega)] at q
                    exact h5 j z z' p q
                  · rw [if_neg hj] at p
                    have hj0 : j - es.length = 0 := by
                      have := (List.getElem?_eq_some_iff.1 p).1; simp at this; omega
                    rw [hj0] at p
                    rw [if_pos (by omega)] at q
                    simp at p q
                    subst p; subst q
                    exact ⟨rfl, ef, rfl, hx⟩
                · intro w' hw'
                  subst hw'
                  simp only [Instr.mapUpdate, Sem.run_bind, run_und w hu, Result.andThen_ok, getObj, Sem.run, h2, run_checkKey hku hkk, Instr.findKey, run_und w hku, b1, Sem.run_pure, setObj]
              · cases a
            · cases e
        · cases e
      · cases e
    · cases e
  · cases e
end
end Go.Proofs.YtknchhnibjfocaaDoor.Abs
