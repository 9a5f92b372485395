/- An abstract machine: iterators, built-in functions, calls. -/
import Derived.Test.YtknchhnibjfocaaDoorAbsK
namespace Go.Proofs.YtknchhnibjfocaaDoor.Abs
open Go
noncomputable section

/- Ranging over a string. -/
def evRange (T : Tab) (t : TypeId) (x : Value) (h : AH) : Option (Value × AH) :=
  match x with
  | .string s => (match und T t with
    | some .string => some (.pointer (some ⟨h.next, 0, none⟩), h.new (.str s 0))
    | _ => none)
  | _ => none
theorem evRange_sound {T : Tab} (ok : TabOK T) {r : Ren} {h h' : AH} {w : World} (hr : HR T.P r h w) {t : TypeId} {x x' v : Value} (hx : VR r x x') (e : evRange T t x h = some (v, h')) : SOK T.P r h w (Instr.range t x') v h' := by
  unfold evRange at e
  split at e
  · rename_i s
    split at e
    · rename_i hu
      cases e; cases hx
      obtain ⟨p1, p2⟩ := hr.new (w' := { w with heap := w.heap.push (.stringIter s 0) }) (.str s 0) (.stringIter s 0) ⟨w.heap.size, 0, 0, 0⟩ rfl rfl ⟨rfl, rfl⟩
      refine ⟨.pointer (some ⟨w.heap.size, 0, none⟩), _, _, ?_, .ptr h.next 0 ⟨w.heap.size, 0, 0, 0⟩ (Ren.add_same _ _ _), p1, p2⟩
      simp [Instr.range, run_und w (und_ok ok hu)]
    · cases e
  · cases e

def evNext (x : Value) (isString : Bool) (h : AH) : Option (Value × AH) :=
  match x with
  | .pointer (some a) => ifB (Nat.beq a.off 0 && isString) (match h.get a.block with
    | some (.str s pos) => ifB (Nat.blt pos s.size) (some (.tuple #[.bool true, .int .i64 (pos : Int), .int .i32 ((Utf8.decode s pos).1 : Int)], h.set a.block (.str s (pos + (Utf8.decode s pos).2)))) (some (.tuple #[.bool false], h))
    | _ => none) none
  | _ => none
theorem evNext_sound {P : Program} {r : Ren} {h h' : AH} {w : World} (hr : HR P r h w) {x x' v : Value} {b : Bool} (ty : TypeId) (hx : VR r x x') (e : evNext x b h = some (v, h')) : SOK P r h w (Instr.next x' b ty) v h' := by
  unfold evNext at e
  split at e
  · rename_i a
    obtain ⟨e1, e2⟩ := ifB_some e
    rw [Bool.and_eq_true] at e1
    obtain ⟨e3, rfl⟩ := e1
    have h0 := Nat.eq_of_beq_eq_true e3
    split at e2
    · rename_i s pos hg
      cases hx with
      | ptr b o bk hb =>
        simp only at h0 hg e2
        subst h0
        obtain ⟨bk', ob, h1, h2, h3, h4⟩ := hr.live b _ hg
        rw [hb] at h1; cases h1
        subst h3
        have hlt := (hr.lt b bk hb).2
        rcases ifB_or e2 with ⟨e5, e6⟩ | ⟨e5, e6⟩
        · cases e6
          have hp := blt_lt e5
          have hup := hr.upd (o' := .str s (pos + (Utf8.decode s pos).2)) (ob' := .stringIter s (pos + (Utf8.decode s pos).2)) (w' := { w with heap := w.heap.setIfInBounds bk.blk (.stringIter s (pos + (Utf8.decode s pos).2)) }) hg rfl hb (by simp) (by simp [hlt])
            (fun i hi => by simp [Array.getElem?_setIfInBounds_ne (Ne.symm hi)]) ⟨rfl, h4⟩
          refine ⟨.tuple #[.bool true, .int .i64 (pos : Int), .int .i32 ((Utf8.decode s pos).1 : Int)], _, r, ?_, .triple (.bool _) (.int _ _) (.int _ _), hup.1, hup.2⟩
          simp [Instr.next, h4, getObj, Sem.run, h2, hp, setObj, goInt]
        · cases e6
          have hp : ¬ pos < s.size := by intro hh; rw [blt_decide, decide_eq_true hh] at e5; cases e5
          refine .same hr (v' := .tuple #[.bool false]) ?_ (VR.tuple_list (l := [.bool false]) (cs := #[.bool false]) ((LR.nil r).cons (.bool _)))
          simp [Instr.next, h4, getObj, Sem.run, h2, hp]
    · cases e2
  · cases e

/- Function values. -/
def plainFn : Fn → Bool
  | .yield _ => false
  | _ => true
theorem FnR.plain (r : Ren) {f : Fn} (h : plainFn f = true) : FnR r f f := by
  cases f <;> first | constructor | (simp [plainFn] at h)

/- Built-in functions. -/
theorem goInt_eq (n : Int) : goInt n = .int .i64 n := rfl

def evLen (T : Tab) (ts : Array TypeId) (x : Value) (h : AH) : Option Value :=
  match ts[0]? with
  | some t => (match und T t with
    | some d => (match d, x with
      | .slice _, .slice _ n _ => some (.int .i64 (n : Int))
      | .string, .string s => some (.int .i64 (s.size : Int))
      | .map _ _, .map none => some (.int .i64 0)
      | .map _ _, .map (some b) => (match h.get b with
        | some (.map es _) => some (.int .i64 (es.length : Int))
        | _ => none)
      | .array n _, _ => some (.int .i64 (n : Int))
      | .pointer arr, _ => (match und T arr with
        | some (.array n _) => some (.int .i64 (n : Int))
        | _ => none)
      | _, _ => none)
    | none => none)
  | none => none
theorem evLen_sound {T : Tab} (ok : TabOK T) {r : Ren} {h : AH} {w : World} (hr : HR T.P r h w) (ts : Array TypeId) (ty : TypeId) {x x' v : Value} (hx : VR r x x') (e : evLen T ts x h = some v) :
    SOK T.P r h w (Builtin.len_ ts ty #[x']) v h := by
  unfold evLen at e
  split at e
  · rename_i t ht
    split at e
    · rename_i d hd
      have hu := und_ok ok hd
      split at e
      · cases e
        cases hx <;> exact .same hr (by simp [Builtin.len_, ht, run_und w hu, goInt]) (.int _ _)
      · cases e; cases hx; exact .same hr (by simp [Builtin.len_, ht, run_und w hu, goInt]) (.int _ _)
      · cases e; cases hx; exact .same hr (by simp [Builtin.len_, ht, run_und w hu, goInt]) (.int _ _)
      · rename_i d0 b
        split at e
        · rename_i es clock hg
          cases e
          cases hx with
          | map _ bk hb =>
            obtain ⟨bk', ob, h1, h2, h3⟩ := hr.live _ _ hg
            rw [hb] at h1; cases h1
            obtain ⟨es', rfl, h4, h5⟩ := h3
            refine .same hr (v' := .int .i64 (es'.size : Int)) ?_ (by rw [h4]; exact .int _ _)
            simp [Builtin.len_, ht, run_und w hu, getObj, Sem.run, h2, goInt]
        · cases e
      · cases e
        exact .same hr (by cases x' <;> simp [Builtin.len_, ht, run_und w hu, goInt] <;> rfl) (.int _ _)
      · split at e
        · rename_i n el ha
          cases e
          have hua := und_ok ok ha
          exact .same hr (by cases x' <;> simp [Builtin.len_, ht, run_und w hu, run_und w hua, goInt] <;> rfl) (.int _ _)
        · cases e
      · cases e
    · cases e
  · cases e

def evCap (T : Tab) (ts : Array TypeId) (x : Value) : Option Value :=
  match ts[0]? with
  | some t => (match und T t with
    | some (.slice _) => (match x with
      | .slice _ _ c => ifB (Nat.blt c XB) (some (.int .i64 (c : Int))) none
      | _ => none)
    | _ => none)
  | none => none
theorem evCap_sound {T : Tab} (ok : TabOK T) {r : Ren} {h : AH} {w : World} (hr : HR T.P r h w) (ts : Array TypeId) (ty : TypeId) {x x' v : Value} (hx : VR r x x') (e : evCap T ts x = some v) :
    SOK T.P r h w (Builtin.cap_ ts ty #[x']) v h := by
  unfold evCap at e
  split at e
  · rename_i t ht
    split at e
    · rename_i el hd
      have hu := und_ok ok hd
      split at e
      · rename_i a n c
        obtain ⟨e1, e2⟩ := ifB_some e
        cases e2
        have hc := blt_lt e1
        have key : ∃ a' n', x' = .slice a' n' c := by
          cases hx with
          | slNil => exact ⟨_, _, rfl⟩
          | slEx => exact ⟨_, _, rfl⟩
          | slOff => exact ⟨_, _, rfl⟩
          | slIn => omega
        obtain ⟨a', n', rfl⟩ := key
        refine .same hr (v' := .int .i64 (c : Int)) ?_ (.int _ _)
        simp only [Builtin.cap_, ht, List.getElem?_toArray, List.getElem?_cons_zero, Sem.run_bind, run_und w hu, Result.andThen_ok]
        rfl
      · cases e
    · cases e
  · cases e

def evCopy (T : Tab) (ts : Array TypeId) (dst src : Value) (h : AH) : Option (Value × AH) :=
  match ts[0]? with
  | some t => (match und T t with
    | some (.slice elem) => (match szOf T elem with
      | some size => (match dst with
        | .slice base dLen _ => (match lenOfA src with
          | some m => (match firstA size (Nat.min m dLen) h src with
            | some cs => (match base with
              | none => some (.int .i64 ((Nat.min m dLen : Nat) : Int), h)
              | some a => (match cs with
                | [] => some (.int .i64 ((Nat.min m dLen : Nat) : Int), h)
                | _ => ifB (Nat.blt 0 dLen) (match storeRow a.block a.off cs h with
                  | some h => some (.int .i64 ((Nat.min m dLen : Nat) : Int), h)
                  | none => none) none))
            | none => none)
          | none => none)
        | _ => none)
      | none => none)
    | _ => none)
  | none => none
theorem evCopy_sound {T : Tab} (ok : TabOK T) {r : Ren} {h h' : AH} {w : World} (hr : HR T.P r h w) (ts : Array TypeId) (ty : TypeId) {dst dst' src src' v : Value} (hd : VR r dst dst') (hs : VR r src src') (e : evCopy T ts dst src h = some (v, h')) :
    SOK T.P r h w (Builtin.copy_ ts ty #[dst', src']) v h' := by
  unfold evCopy at e
  split at e
  · rename_i t ht
    split at e
    · rename_i elem hel
      have hu := und_ok ok hel
      split at e
      · rename_i size hsz
        obtain ⟨i, hi, rfl⟩ := sz_ok ok hsz
        split at e
        · rename_i base dLen cap
          split at e
          · rename_i m hm
            split at e
            · rename_i cs hcs
              obtain ⟨cs', g1, g2⟩ := firstA_sound hr hs hcs
              have hl := lenOfA_sound (P := T.P) (w := w) hs hm
              have g1 := g1 w rfl
              have hds : ∃ b' c', dst' = .slice b' dLen c' := by cases hd <;> exact ⟨_, _, rfl⟩
              obtain ⟨base', cap', rfl⟩ := hds
              have run : ∀ w', ((match base' with | some a => storeCells a cs'.toList | none => (pure () : Sem Unit)).run T.P w = .ok () w') → (Builtin.copy_ ts ty #[.slice base' dLen cap', src']).run T.P w = .ok (.int .i64 ((Nat.min m dLen : Nat) : Int)) w' := by
                intro w' hw'
                simp only [Builtin.copy_, ht, List.getElem?_toArray, List.getElem?_cons_zero, List.getElem?_cons_succ, Sem.run_bind, run_und w hu, Result.andThen_ok, hl, run_size w hi, g1]
                cases base' with
                | none => cases hw'; rfl
                | some a => simp only [Sem.run_bind]; rw [hw']; rfl
              split at e
              · cases e
                cases hd
                exact .same hr (run w rfl) (.int _ _)
              · rename_i a
                split at e
                · cases e
                  have h0 : cs'.toList = [] := g2.nil_inv
                  refine .same hr (run w ?_) (.int _ _)
                  cases base' with
                  | none => rfl
                  | some a => simp only [h0]; rfl
                · rename_i hne
                  obtain ⟨e1, e2⟩ := ifB_some e
                  have hpos := blt_lt e1
                  split at e2
                  · rename_i h2 hst
                    cases e2
                    obtain ⟨bk, cap2, hb, heq⟩ := hd.slice_base hpos
                    cases heq
                    obtain ⟨w', s1, s2, s3⟩ := storeRow_sound (T := T) hr hb g2 hst
                    exact ⟨_, w', r, run w' s1, .int _ _, s2, s3⟩
                  · cases e2
            · cases e
          · cases e
        · cases e
      · cases e
    · cases e
  · cases e

def evClear (T : Tab) (ts : Array TypeId) (x : Value) (h : AH) : Option (Value × AH) :=
  match ts[0]? with
  | some t => (match und T t with
    | some (.slice elem) => (match T.tt.get elem with
      | some i => (match i.zero with
        | some z => (match x with
          | .slice (some a) n _ => (match n with
            | 0 => some (.tuple #[], h)
            | _ + 1 => (match storeRow a.block a.off (zeros z (n * i.size)) h with
              | some h => some (.tuple #[], h)
              | none => none))
          | .slice none 0 0 => some (.tuple #[], h)
          | _ => none)
        | none => none)
      | none => none)
    | _ => none)
  | none => none
theorem evClear_sound {T : Tab} (ok : TabOK T) (oz : TabZ T) {r : Ren} {h h' : AH} {w : World} (hr : HR T.P r h w) (ts : Array TypeId) (ty : TypeId) {x x' v : Value} (hx : VR r x x') (e : evClear T ts x h = some (v, h')) :
    SOK T.P r h w (Builtin.clear_ ts ty #[x']) v h' := by
  have unit : VR r (.tuple #[]) (.tuple #[]) := VR.tuple_list (l := []) (cs := #[]) (LR.nil r)
  unfold evClear at e
  split at e
  · rename_i t ht
    split at e
    · rename_i elem hel
      have hu := und_ok ok hel
      split at e
      · rename_i i hi0
        have hi := ok.t elem i hi0
        split at e
        · rename_i z hz
          obtain ⟨hzf, hzs⟩ := oz elem i z hi0 hz
          split at e
          · rename_i a n c
            split at e
            · cases e
              have hds : ∃ b' c', x' = .slice b' 0 c' := by cases hx <;> exact ⟨_, _, rfl⟩
              obtain ⟨b', c', rfl⟩ := hds
              refine .same hr (v' := .tuple #[]) ?_ unit
              cases b' <;> simp [Builtin.clear_, ht, run_und w hu]
            · rename_i k
              split at e
              · rename_i h2 hst
                cases e
                obtain ⟨bk, cap', hb, rfl⟩ := hx.slice_base (by omega)
                obtain ⟨w', s1, s2, s3⟩ := storeRow_sound (T := T) hr hb (zeroCells_rel r hzf (k + 1) _ (by rw [hzs])) hst
                refine ⟨.tuple #[], w', r, ?_, unit, s2, s3⟩
                simp only [Builtin.clear_, ht, List.getElem?_toArray, List.getElem?_cons_zero, Sem.run_bind, run_und w hu, Result.andThen_ok, run_zero w hi hz, s1, Sem.run_pure]
              · cases e
          · cases e
            cases hx
            refine .same hr (v' := .tuple #[]) ?_ unit
            simp [Builtin.clear_, ht, run_und w hu]
          · cases e
        · cases e
      · cases e
    · cases e
  · cases e
end
end Go.Proofs.YtknchhnibjfocaaDoor.Abs
