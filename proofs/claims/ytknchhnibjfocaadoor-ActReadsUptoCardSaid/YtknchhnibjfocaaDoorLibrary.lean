/- Functions of the library whose answers the kit's contracts tell, as known answers of the machine. -/
import Derived.Test.YtknchhnibjfocaaDoorAbsZN
import Derived.Test.YtknchhnibjfocaaDoorShelf
import Derived.Test.YtknchhnibjfocaaDoorRows
import Derived.KernelRfl
import Derived.IntWalk
import Derived.Lib.LaidTab
import Derived.Shelf.RegionOpenPlain
namespace Go.Proofs.YtknchhnibjfocaaDoor.Abs
open Go Go.Proofs
noncomputable section
noncomputable def T0 : Tab := mkTab Tryd.prog
def X0 : Exts := fun _ => none
theorem X0_ok : ExtOK T0 X0 := fun f g e => by cases e

theorem callOK_of {T : Tab} {f : Nat} {args : List Value} {h : AH} {v : Value} {h' : AH}
    (H : ∀ (r : Ren) (w : World) (args' : Array Value), HR T.P r h w → LR r args args'.toList →
      Calls T.P f args' w fun e w' => ∃ r' v', e = .returned v' ∧ VR r' v v' ∧ HR T.P r' h' w' ∧ Ext r h w r' h' w') : CallOK T f args h v h' := by
  intro base r w args' hr ha
  obtain ⟨e, w', fr, ⟨r', v', rfl, hv, hr', hx⟩, hc, hf, hl⟩ := H r w args' hr ha base
  exact ⟨r', w', fr, v', hc, hf, hl, hv, hr', hx⟩
theorem HR.kept {P : Program} {r : Ren} {h : AH} {w w' : World} (hr : HR P r h w) (k : Kept w w') : HR P r h w' ∧ Ext r h w r h w' := by
  refine ⟨⟨?_, hr.inj, ?_, hr.glob⟩, ⟨.refl _, k.size, fun b hb _ => k.heap b hb, fun i bk' h1 h2 => (by rw [h1] at h2; cases h2), fun i o' e e' => .inl ⟨o', e, e'⟩, Nat.le_refl _, k.os⟩⟩
  · intro b o e
    obtain ⟨bk, ob, h1, h2, h3⟩ := hr.live b o e
    exact ⟨bk, ob, h1, (k.heap _ (hr.lt b bk h1).2).trans h2, h3⟩
  · intro b bk e
    exact ⟨(hr.lt b bk e).1, Nat.lt_of_lt_of_le (hr.lt b bk e).2 k.size⟩
theorem Kept.below {w w' : World} (h : RowKit.Below w.heap.size w w') : Kept w w' := ⟨⟨h.os, h.output⟩, h.size, h.block⟩
theorem callOK_flat {T : Tab} {f : Nat} {args : List Value} {h : AH} {v : Value} (ha : flatAll args = true) (hv : flat v = true)
    (H : ∀ (r : Ren) (w : World), HR T.P r h w → Calls T.P f args.toArray w fun e w' => e = .returned v ∧ Kept w w') : CallOK T f args h v h := by
  apply callOK_of
  intro r w args' hr hargs
  have : args' = args.toArray := by apply Array.ext'; simpa using hargs.flat_eq ha
  subst this
  refine (H r w hr).mono ?_
  rintro e w' ⟨rfl, k⟩
  obtain ⟨p1, p2⟩ := hr.kept k
  exact ⟨r, v, rfl, VR.of_flat r v hv, p1, p2⟩
/-- A block that is there already, to be read alone. -/
theorem HR.newRo {P : Program} {r : Ren} {h : AH} {w w' : World} (hr : HR P r h w) (k : Kept w w') (o : AObj) (ob : Obj) (bk : Bk) (hb : w.heap.size ≤ bk.blk) (hw : w'.heap[bk.blk]? = some ob) (ho : OR P (r.add h.next bk) bk o ob) (hro : o.ro = true) :
    HR P (r.add h.next bk) (h.new o) w' ∧ Ext r h w (r.add h.next bk) (h.new o) w' := by
  obtain ⟨p1, p2⟩ := hr.kept k
  have hs := hr.sub_add bk
  have hlt : bk.blk < w'.heap.size := (Array.getElem?_eq_some_iff.1 hw).1
  refine ⟨⟨?_, ?_, ?_, ?_⟩, ⟨hs, k.size, fun b hb _ => k.heap b hb, ?_, ?_, by simp, k.os⟩⟩
  · intro b o' e
    rw [AH.get_new] at e
    by_cases hbn : b = h.next
    · subst hbn
      rw [if_pos rfl] at e; cases e
      exact ⟨bk, ob, Ren.add_same _ _ _, hw, ho⟩
    · rw [if_neg hbn] at e
      obtain ⟨bk2, ob2, h1, h2, h3⟩ := p1.live b o' e
      exact ⟨bk2, ob2, hs _ _ h1, h2, h3.mono hs⟩
  · intro b b' o1 o2 bk1 bk2 e1 e2 hq h1 h2 h3
    rw [AH.get_new] at e1 e2
    have old : ∀ {c : Nat} {o3 : AObj} {bk3 : Bk}, c ≠ h.next → (h.get c = some o3) → r.add h.next bk c = some bk3 → bk3.blk < w.heap.size := by
      intro c o3 bk3 hc _ e
      rw [Ren.add_other _ _ hc] at e
      exact (hr.lt c bk3 e).2
    by_cases hb1 : b = h.next
    · by_cases hb2 : b' = h.next
      · rw [hb1, hb2]
      · rw [if_neg hb2] at e2
        have := old hb2 e2 h2
        subst hb1
        rw [Ren.add_same] at h1; cases h1
        omega
    · by_cases hb2 : b' = h.next
      · rw [if_neg hb1] at e1
        have := old hb1 e1 h1
        subst hb2
        rw [Ren.add_same] at h2; cases h2
        omega
      · rw [if_neg hb1] at e1
        rw [if_neg hb2] at e2
        rw [Ren.add_other _ _ hb1] at h1
        rw [Ren.add_other _ _ hb2] at h2
        exact hr.inj b b' o1 o2 bk1 bk2 e1 e2 hq h1 h2 h3
  · intro b bk2 e
    by_cases hbn : b = h.next
    · subst hbn
      rw [Ren.add_same] at e; cases e
      exact ⟨Nat.lt_succ_self _, hlt⟩
    · rw [Ren.add_other _ _ hbn] at e
      exact ⟨Nat.lt_succ_of_lt (hr.lt b bk2 e).1, Nat.lt_of_lt_of_le (hr.lt b bk2 e).2 k.size⟩
  · intro g hg
    exact hs _ _ (hr.glob g hg)
  · intro i bk' h1 h2
    by_cases hi : i = h.next
    · subst hi
      rw [Ren.add_same] at h2; cases h2
      exact .inl hb
    · rw [Ren.add_other _ _ hi, h1] at h2; cases h2
  · intro i o' e e'
    rw [AH.get_new] at e
    by_cases hi : i = h.next
    · rw [if_pos hi] at e; cases e; rw [hro] at e'; cases e'
    · rw [if_neg hi] at e
      exact .inl ⟨o', e, e'⟩

/- The package variables that the library reads. -/
def powL : List Value := Lib.pow10Tab.map fun z => .int .u64 z
structure Glob (h : AH) : Prop where
  g0 : h.get 0 = some (.glob powL)
  g1 : ∃ m : Int, h.get 1 = some (.glob [.int .i64 m])
  g2 : ∃ t v, h.get 2 = some (.glob [.iface t v])
  g3 : ∃ t v, h.get 3 = some (.glob [.iface t v])
theorem Glob.grow {n : Nat} {h h' : AH} (g : Glob h) (k : Grow n h h') (hn : 4 ≤ n) : Glob h' := by
  have e : ∀ i, i < 4 → h'.get i = h.get i := fun i hi => k.keep i (by omega)
  exact ⟨(e 0 (by omega)).trans g.g0, by rw [e 1 (by omega)]; exact g.g1, by rw [e 2 (by omega)]; exact g.g2, by rw [e 3 (by omega)]; exact g.g3⟩
theorem gsize : Tryd.prog.globals.size = 8 := by kernel_rfl
theorem HR.globAt {P : Program} {r : Ren} {h : AH} {w : World} (hr : HR P r h w) {g : Nat} {a : List Value} (e : h.get g = some (.glob a)) (hg : g < P.globals.size) : ∃ cs el fz, w.heap[g]? = some (.cells cs el fz) ∧ LR r a cs.toList := by
  obtain ⟨bk, ob, h1, h2, cs, el, fz, rfl, h3⟩ := hr.live g _ e
  rw [hr.glob g hg] at h1; cases h1
  exact ⟨cs, el, fz, h2, h3⟩
theorem Glob.tab {h : AH} (g : Glob h) {r : Ren} {w : World} (hr : HR Tryd.prog r h w) : Lib.TabIs Tryd.prog w "internal/strconv.uint64pow10" .u64 Lib.pow10Tab := by
  obtain ⟨cs, el, fz, h1, h2⟩ := hr.globAt g.g0 (by rw [gsize]; omega)
  have h3 : cs.toList = powL := h2.flat_eq (by rfl)
  have h4 : Tryd.prog.globalNamed "internal/strconv.uint64pow10" = some 0 := by kernel_rfl
  unfold Lib.TabIs World.var?
  rw [h4, Option.bind_some, h1]
  show some cs = _
  rw [← Array.toArray_toList (xs := cs), h3]
  rfl
theorem Glob.maxLen {h : AH} (g : Glob h) {r : Ren} {w : World} (hr : HR Tryd.prog r h w) : ∃ m : Int, w.cell? ⟨1, 0, none⟩ = some (.int .i64 m) := by
  obtain ⟨m, hm⟩ := g.g1
  obtain ⟨cs, el, fz, h1, h2⟩ := hr.globAt hm (by rw [gsize]; omega)
  have h3 : cs.toList = [.int .i64 m] := h2.flat_eq (by rfl)
  refine ⟨m, ?_⟩
  have : cs = #[.int .i64 m] := by apply Array.ext'; exact h3
  subst this
  simp [World.cell?, h1]
theorem Glob.err {h : AH} {k : Nat} (hk : k < 8) (g : ∃ t v, h.get k = some (.glob [.iface t v])) {r : Ren} {w : World} (hr : HR Tryd.prog r h w) : ∃ ev, w.cell? ⟨k, 0, none⟩ = some ev ∧ (ev = .nilIface ∨ ∃ te pe, ev = .iface te pe) := by
  obtain ⟨t, v, hm⟩ := g
  obtain ⟨cs, el, fz, h1, h2⟩ := hr.globAt hm (by rw [gsize]; omega)
  obtain ⟨v', l2, h3, h4, h5⟩ := h2.cons_inv
  have hx : ∃ p, v' = .iface t p := by cases h4; exact ⟨_, rfl⟩
  obtain ⟨p, rfl⟩ := hx
  have : cs = #[.iface t p] := by apply Array.ext'; rw [h3, h5.nil_inv]
  subst this
  exact ⟨.iface t p, by simp [World.cell?, h1], .inr ⟨_, _, rfl⟩⟩

/- The answers. -/
open Classical in
def sItoa (args : List Value) (h : AH) : Option (Value × AH) := match args with
  | [.int .i64 n] => if Glob h ∧ -9223372036854775808 ≤ n ∧ n ≤ 9223372036854775807 then some (.string ⟨(Lib.itoa n).toArray⟩, h) else none
  | _ => none
theorem sItoa_ok : ∀ args h v h', sItoa args h = some (v, h') → CallOK T0 21 args h v h' := by
  intro args h v h' e
  unfold sItoa at e
  split at e
  · rename_i n
    split at e
    · rename_i hc
      cases e
      refine callOK_flat rfl rfl ?_
      intro r w hr
      refine (Tryd.strconv_Itoa n hc.2.1 hc.2.2 w (hc.1.tab hr)).mono ?_
      rintro e w' ⟨rfl, k, os, rfl⟩
      refine ⟨rfl, ⟨rfl, rfl⟩, ?_, ?_⟩
      · simp [Sort.grow]
      · intro b hb
        exact Array.getElem?_append_left hb
    · cases e
  · cases e
def sIndex (args : List Value) (h : AH) : Option (Value × AH) := match args with
  | [.string s, .int .u8 c] => some (.int .i64 (Lib.indexByte s.data.toList c.toNat.toUInt8), h)
  | _ => none
theorem sIndex_ok : ∀ args h v h', sIndex args h = some (v, h') → CallOK T0 42 args h v h' := by
  intro args h v h' e
  unfold sIndex at e
  split at e
  · rename_i s c
    cases e
    refine callOK_flat rfl rfl ?_
    intro r w hr
    refine (Tryd.strings_IndexByte s c w).mono ?_
    rintro e w' ⟨rfl, rfl⟩
    exact ⟨rfl, .refl _⟩
  · cases e
end
end Go.Proofs.YtknchhnibjfocaaDoor.Abs
namespace Go.Proofs.YtknchhnibjfocaaDoor.Abs
open Go Go.Proofs
noncomputable section
def roObj (t : TypeId) : AObj := .cells (PM.ofList []) 0 t 0 1 .ro
def errV (h : AH) : Value := .iface 92 (.pointer (some ⟨h.next, 0, none⟩))
open Classical in
def sAtoi (args : List Value) (h : AH) : Option (Value × AH) := match args with
  | [.string s] => if Glob h ∧ s.size ≤ 281474976710656 then (match Lib.atoiAll s.data.toList with
    | .ok v => some (.tuple #[.int .i64 v, .nilIface], h)
    | Lib.NumEnd.syntax => some (.tuple #[.int .i64 0, errV h], h.new (roObj 105))
    | .range => some (.tuple #[.int .i64 (Lib.atoiSat s.data.toList), errV h], h.new (roObj 105))) else none
  | _ => none
theorem roObj_OR {P : Program} {r : Ren} {b : Nat} {t t' : TypeId} {cs : Array Value} {fz : Nat × Nat} (h : t = t') : OR P r ⟨b, 0, 0, 0⟩ (roObj t) (.cells cs t' fz) := by
  subst h
  exact ⟨cs, fz.1, fz.2, rfl, by simp, fun q => (by cases q), fun q => (by cases q), fun i hi => (by omega), fun q => (by omega), fun i hi => (by omega)⟩
theorem numErr_ok {s : ByteArray} {h : AH} {n : Int} {N : Nat} {r : Ren} {w w' : World} {ev : Value} (hr : HR Tryd.prog r h w) (hN : w.heap.size ≤ N) (hw : w'.heap[N]? = some (.cells #[.string ⟨#[65, 116, 111, 105]⟩, .string s, ev] 105 (0, 0))) (hb : RowKit.Below w.heap.size w w') :
    ∃ r' v', (.returned (.tuple #[.int .i64 n, .iface 92 (.pointer (some ⟨N, 0, none⟩))]) : Ending) = .returned v' ∧ VR r' (.tuple #[.int .i64 n, errV h]) v' ∧ HR Tryd.prog r' (h.new (roObj 105)) w' ∧ Ext r h w r' (h.new (roObj 105)) w' := by
  obtain ⟨p1, p2⟩ := hr.newRo (.below hb) (roObj 105) _ ⟨N, 0, 0, 0⟩ hN hw (roObj_OR rfl) rfl
  refine ⟨_, _, rfl, ?_, p1, p2⟩
  have hp : VR (r.add h.next ⟨N, 0, 0, 0⟩) (.pointer (some ⟨h.next, 0, none⟩)) (.pointer (some ⟨N, 0 + 0, none⟩)) := .ptr h.next 0 ⟨N, 0, 0, 0⟩ (Ren.add_same _ _ _)
  exact VR.pair (.int _ _) (.iface _ _ _ hp)
theorem sAtoi_ok : ∀ args h v h', sAtoi args h = some (v, h') → CallOK T0 43 args h v h' := by
  intro args h v h' e
  unfold sAtoi at e
  split at e
  · rename_i s
    split at e
    · rename_i hc
      split at e
      · rename_i n hn
        cases e
        refine callOK_flat rfl rfl ?_
        intro r w hr
        refine (Tryd.strconv_Atoi_ok s (by omega) n hn w).mono ?_
        rintro e w' ⟨rfl, hw⟩
        refine ⟨rfl, ?_⟩
        rcases hw with rfl | ⟨t, rfl⟩
        · exact .refl _
        · unfold Lib.bytesWorld
          refine .below ?_
          exact Lib.below_freeze ((RowKit.Below.drew (RowKit.Below.refl _ w)).alloc (Nat.le_refl _) _) (Nat.le_refl _) _
      · rename_i hn
        cases e
        apply callOK_of
        intro r w args' hr hargs
        have : args' = #[.string s] := by apply Array.ext'; simpa using hargs.flat_eq rfl
        subst this
        obtain ⟨ev, h1, h2⟩ := Glob.err (by omega) hc.1.g2 hr
        refine (Tryd.strconv_Atoi_syntax s hc.2 hn ev w h1 h2).mono ?_
        rintro e w' ⟨N, rfl, q1, q2, q3⟩
        exact numErr_ok hr q1 q2 q3
      · rename_i hn
        cases e
        apply callOK_of
        intro r w args' hr hargs
        have : args' = #[.string s] := by apply Array.ext'; simpa using hargs.flat_eq rfl
        subst this
        obtain ⟨ev, h1, h2⟩ := Glob.err (by omega) hc.1.g3 hr
        refine (Tryd.strconv_Atoi_range s hc.2 hn ev w h1 h2).mono ?_
        rintro e w' ⟨N, rfl, q1, q2, q3⟩
        exact numErr_ok hr q1 q2 q3
    · cases e
  · cases e

/- Split: the pieces lie in a new block. -/
def pieces (s sep : ByteArray) : List Value := (Lib.splitB sep 0 (Lib.countB s sep) s).map Value.string
open Classical in
def sSplit (args : List Value) (h : AH) : Option (Value × AH) := match args with
  | [.string s, .string sep] => if Glob h ∧ s.size < 4294967281 ∧ 1 ≤ sep.size ∧ (pieces s sep).length = Lib.countB s sep + 1 ∧ Lib.countB s sep + 1 < XB then
      some (.slice (some ⟨h.next, 0, none⟩) (pieces s sep).length (pieces s sep).length, h.new (.cells (PM.ofList (pieces s sep)) (pieces s sep).length 9 0 0 .ex)) else none
  | _ => none
theorem pieces_flat (s sep : ByteArray) : ∀ v ∈ pieces s sep, flat v = true := by
  intro v hv
  unfold pieces at hv
  rw [List.mem_map] at hv
  obtain ⟨x, _, rfl⟩ := hv
  rfl
theorem sSplit_ok : ∀ args h v h', sSplit args h = some (v, h') → CallOK T0 26 args h v h' := by
  intro args h v h' e
  unfold sSplit at e
  split at e
  · rename_i s sep
    split at e
    · rename_i hc
      obtain ⟨hg, hs, h1, hlen, hx⟩ := hc
      cases e
      apply callOK_of
      intro r w args' hr hargs
      have : args' = #[.string s, .string sep] := by apply Array.ext'; simpa using hargs.flat_eq rfl
      subst this
      obtain ⟨m, hm⟩ := hg.maxLen hr
      refine (Tryd.strings_Split s sep m w hs hm h1).mono ?_
      rintro e w' ⟨rfl, rfl⟩
      have hpl : ((Lib.splitB sep 0 (Lib.countB s sep) s).map Value.string) = pieces s sep := rfl
      obtain ⟨p1, p2⟩ := hr.new (w' := w.alloc (.cells ((Lib.splitB sep 0 (Lib.countB s sep) s).map Value.string).toArray 9)) (.cells (PM.ofList (pieces s sep)) (pieces s sep).length 9 0 0 .ex) _ ⟨w.heap.size, 0, 0, 0⟩ rfl rfl (by
        rw [hpl]
        refine ⟨_, 0, 0, rfl, by simp, fun _ => ⟨rfl, by simp⟩, fun q => (by cases q), ?_, fun _ => Nat.le_refl _, fun i hi => (by omega)⟩
        intro i hi
        refine ⟨_, _, ?_, ?_, VR.of_flat _ _ (pieces_flat s sep _ (List.getElem_mem hi))⟩
        · rw [PM.get_ofList, List.getElem?_eq_getElem hi]
        · simp [List.getElem?_eq_getElem hi])
      refine ⟨_, _, rfl, ?_, p1, p2⟩
      rw [hlen]
      have := VR.slEx (r := r.add h.next ⟨w.heap.size, 0, 0, 0⟩) h.next 0 (Lib.countB s sep + 1) (Lib.countB s sep + 1) ⟨w.heap.size, 0, 0, 0⟩ (Ren.add_same _ _ _) hx
      exact this
    · cases e
  · cases e

/- Join: of strings that lie in the memory. -/
def strsOf : List Value → Option (List ByteArray)
  | [] => some []
  | .string s :: l => (match strsOf l with
    | some r => some (s :: r)
    | none => none)
  | _ => none
theorem strsOf_some : ∀ {l : List Value} {xs : List ByteArray}, strsOf l = some xs → l = xs.map Value.string := by
  intro l
  induction l with
  | nil => intro xs e; cases e; rfl
  | cons v l ih =>
    intro xs e
    cases v <;> simp only [strsOf] at e <;> try (cases e; done)
    split at e
    · rename_i r hr; cases e; rw [List.map_cons, ih hr]
    · cases e
theorem strsOf_map (xs : List ByteArray) : strsOf (xs.map Value.string) = some xs := by
  induction xs with
  | nil => rfl
  | cons x l ih => rw [List.map_cons, strsOf, ih]
open Classical in
def sJoin (args : List Value) (h : AH) : Option (Value × AH) := match args with
  | [.slice (some ⟨b, o, none⟩) n cap, .string sep] => (match loadRow h b o n with
    | some l => (match strsOf l with
      | some xs => if n = xs.length ∧ n ≠ 0 ∧ n ≤ cap ∧ n ≤ 140737488355328 ∧ (Lib.join (xs.map (·.data.toList)) sep.data.toList).length ≤ 140737488355328 then some (.string ⟨(Lib.join (xs.map (·.data.toList)) sep.data.toList).toArray⟩, h) else none
      | none => none)
    | none => none)
  | _ => none
theorem sJoin_ok : ∀ args h v h', sJoin args h = some (v, h') → CallOK T0 22 args h v h' := by
  intro args h v h' e
  unfold sJoin at e
  split at e
  · rename_i b o n cap sep
    split at e
    · rename_i l hl
      split at e
      · rename_i xs hxs
        split at e
        · rename_i hc
          obtain ⟨hnx, hn0, hcap, hN, hlen⟩ := hc
          cases e
          have hl2 := strsOf_some hxs
          apply callOK_of
          intro r w args' hr hargs
          obtain ⟨x1, l1, e1, hv1, hr1⟩ := hargs.cons_inv
          obtain ⟨x2, l2, e2, hv2, hr2⟩ := hr1.cons_inv
          have e3 := hr2.nil_inv
          subst e3; subst e2
          have : args' = #[x1, x2] := by apply Array.ext'; exact e1
          subst this
          have hsep : x2 = .string sep := hv2.flat_eq rfl
          subst hsep
          have hsl : ∃ bk c', r b = some bk ∧ x1 = .slice (some ⟨bk.blk, o + bk.dlt, none⟩) n c' ∧ n ≤ c' := by
            cases hv1 with
            | slEx b o l c bk hb hc => exact ⟨bk, _, hb, rfl, hcap⟩
            | slIn b o l k o' c' bk hb h1 h2 h3 h4 => exact ⟨bk, c', hb, by rw [h3 (by omega)], by omega⟩
            | slOff => exact absurd rfl hn0
          obtain ⟨bk, c', hb, rfl, hc'⟩ := hsl
          subst hnx
          obtain ⟨cs, el, f, q1, q2, q3⟩ := hr.row hb hl
          have hlt := (hr.lt b bk hb).2
          have hcells : ∀ (j : Nat) x, xs[j]? = some x → w.cell? ⟨bk.blk, (o + bk.dlt) + j, none⟩ = some (.string x) := by
            intro j x hj
            have hjl := (List.getElem?_eq_some_iff.1 hj).1
            have h1 : l[j]? = some (.string x) := by rw [hl2, List.getElem?_map, hj]; rfl
            obtain ⟨v', p1, p2⟩ := q3.get h1
            have p3 : v' = .string x := p2.flat_eq rfl
            subst p3
            rw [List.getElem?_take, if_pos hjl, List.getElem?_drop, Array.getElem?_toList] at p1
            rw [cell_of q1]
            exact p1
          refine (Tryd.strings_Join bk.blk (o + bk.dlt) c' xs sep w hcells hlt hN hc' hlen).mono ?_
          rintro e w' ⟨rfl, hb2⟩
          obtain ⟨p1, p2⟩ := hr.kept (.below hb2)
          exact ⟨r, _, rfl, .string _, p1, p2⟩
        · cases e
      · cases e
    · cases e
  · cases e

/- copyCheck: a builder knows where it lies. -/
def sCopy (args : List Value) (h : AH) : Option (Value × AH) := match args with
  | [.pointer (some ⟨b, 0, none⟩)] => (match h.get b with
    | some (.cells c 2 57 0 0 .ex) => (match c.get 0 with
      | some (.pointer none) => some (.tuple #[], h.set b (.cells (c.set 0 (.pointer (some ⟨b, 0, none⟩))) 2 57 0 0 .ex))
      | some (.pointer (some ⟨b', 0, none⟩)) => ifB (Nat.beq b b') (some (.tuple #[], h)) none
      | _ => none)
    | _ => none)
  | _ => none
theorem sCopy_ok : ∀ args h v h', sCopy args h = some (v, h') → CallOK T0 45 args h v h' := by
  intro args h v h' e
  unfold sCopy at e
  split at e
  · rename_i b
    split at e
    · rename_i c hb
      have arg : ∀ {r : Ren} {w : World} {args' : Array Value}, HR T0.P r h w → LR r [.pointer (some ⟨b, 0, none⟩)] args'.toList → ∃ bk cs fl fh, r b = some bk ∧ args' = #[.pointer (some ⟨bk.blk, 0, none⟩)] ∧ w.heap[bk.blk]? = some (.cells cs 57 (fl, fh)) ∧
          bk.dlt = 0 ∧ cs.size = 2 ∧ fh ≤ fl ∧ ∀ i, i < 2 → ∃ v v', c.get i = some v ∧ cs[i]? = some v' ∧ VR r v v' := by
        intro r w args' hr ha
        obtain ⟨x1, l1, e1, hv1, hr1⟩ := ha.cons_inv
        have e3 := hr1.nil_inv
        subst e3
        have : args' = #[x1] := by apply Array.ext'; exact e1
        subst this
        obtain ⟨bk, ob, h1, h2, cs, fl, fh, rfl, h4, h5, h6, h7, h8, h9⟩ := hr.live b _ hb
        obtain ⟨h5a, h5b⟩ := h5 rfl
        refine ⟨bk, cs, fl, fh, h1, ?_, h2, h5a, h5b, h8 (Nat.le_refl _), fun i hi => ?_⟩
        · cases hv1 with
          | ptr _ _ bk2 hb2 =>
            rw [h1] at hb2; cases hb2
            rw [h5a]
        · obtain ⟨v, v', p1, p2, p3⟩ := h7 i hi
          rw [h5a, Nat.zero_add] at p2
          exact ⟨v, v', p1, p2, p3⟩
      split at e
      · rename_i h0
        cases e
        apply callOK_of
        intro r w args' hr ha
        obtain ⟨bk, cs, fl, fh, q1, rfl, q3, q4, q5, q6, q7⟩ := arg hr ha
        obtain ⟨v, v', p1, p2, p3⟩ := q7 0 (by omega)
        rw [h0] at p1; cases p1
        have : v' = .pointer none := p3.flat_eq rfl
        subst this
        have hc0 : w.cell? ⟨bk.blk, 0, none⟩ = some (.pointer none) := by rw [cell_of q3]; exact p2
        have hsh : w.shape? bk.blk = some (57, 2) := by simp [World.shape?, q3, q5]
        have hfz : w.frozen? ⟨bk.blk, 0, none⟩ = false := by
          simp only [World.frozen?, q3]
          by_cases hh : fl = 0
          · subst hh; simp; omega
          · simp; omega
        refine (Tryd.copyCheck_fresh bk.blk w hc0 hsh hfz).mono ?_
        rintro e w' ⟨rfl, rfl⟩
        have hlt : bk.blk < w.heap.size := (Array.getElem?_eq_some_iff.1 q3).1
        obtain ⟨p4, p5⟩ := hr.upd (o' := .cells (c.set 0 (.pointer (some ⟨b, 0, none⟩))) 2 57 0 0 .ex) (ob' := .cells (cs.setIfInBounds 0 (.pointer (some ⟨bk.blk, 0, none⟩))) 57 (fl, fh)) (w' := w.setCell ⟨bk.blk, 0, none⟩ (.pointer (some ⟨bk.blk, 0, none⟩))) hb rfl q1 (by simp [World.setCell]) (by
            show (w.heap.modify bk.blk _)[bk.blk]? = _
            rw [Array.getElem?_modify, if_pos rfl, q3]; rfl)
          (by intro i hi; simp [World.setCell, Array.getElem?_modify, Ne.symm hi]) (by
            refine ⟨_, fl, fh, rfl, by rw [Array.size_setIfInBounds, q5, q4]; omega, fun _ => ⟨q4, by rw [Array.size_setIfInBounds, q5]⟩, fun q => (by cases q), ?_, fun _ => q6, fun i hi _ _ => by omega⟩
            intro i hi
            by_cases hi0 : i = 0
            · subst hi0
              refine ⟨.pointer (some ⟨b, 0, none⟩), .pointer (some ⟨bk.blk, 0, none⟩), by rw [PM.get_set, if_pos rfl], by rw [q4]; simp [q5], ?_⟩
              have := VR.ptr (r := r) b 0 bk q1
              rw [q4] at this; exact this
            · obtain ⟨v, v', p1, p2, p3⟩ := q7 i hi
              refine ⟨v, v', by rw [PM.get_set, if_neg hi0]; exact p1, by rw [q4, Nat.zero_add, Array.getElem?_setIfInBounds, if_neg (Ne.symm hi0)]; exact p2, p3⟩)
        exact ⟨r, _, rfl, VR.of_flat r _ rfl, p4, p5⟩
      · rename_i b' h0
        obtain ⟨e1, e2⟩ := ifB_some e
        have := Nat.eq_of_beq_eq_true e1; subst this
        cases e2
        apply callOK_of
        intro r w args' hr ha
        obtain ⟨bk, cs, fl, fh, q1, rfl, q3, q4, q5, q6, q7⟩ := arg hr ha
        obtain ⟨v, v', p1, p2, p3⟩ := q7 0 (by omega)
        rw [h0] at p1; cases p1
        have : v' = .pointer (some ⟨bk.blk, 0, none⟩) := by
          cases p3 with
          | ptr _ _ bk2 hb2 =>
            rw [q1] at hb2; cases hb2
            rw [q4]
        subst this
        refine (Tryd.copyCheck_used bk.blk w (by rw [cell_of q3]; exact p2)).mono ?_
        rintro e w' ⟨rfl, rfl⟩
        exact ⟨r, _, rfl, VR.of_flat r _ rfl, hr, .refl _ _ _⟩
      · cases e
    · cases e
  · cases e
end
end Go.Proofs.YtknchhnibjfocaaDoor.Abs
namespace Go.Proofs.YtknchhnibjfocaaDoor.Abs
open Go Go.Proofs Go.Shelf Go.RowKit
section
variable {P : Program} {ρ : Go.Shelf.Ren}
theorem liesAt_at {e : TypeId} (hc : P.cellsOf e = 1) (count o n : Nat) (hn : o + n ≤ count) : liesAt P P.depth e count o e n = true := by
  have hd : P.depth = (2 * (P.types.size + Made.depth) + 1) + 1 := rfl
  rw [hd]
  simp only [liesAt, Bool.or_eq_true]
  left
  rw [hd]
  simp [rowAt, hc, hn, sameLayout, Nat.mod_one]
theorem unsafeString_at (w : World) (pt it ty e : TypeId) (hp : P.underlying pt = some (.pointer e)) (hc : P.cellsOf e = 1) (g o cells : Nat) (hsh : w.shape? g = some (e, cells)) (l : List UInt8) (h0 : l ≠ []) (hn : o + l.length ≤ cells) (h63 : l.length ≤ 9223372036854775807)
    (hcell : ∀ j x, l[j]? = some x → w.cell? ((⟨g, o, none⟩ : Addr).add j) = some (.int .u8 x.toNat)) :
    (Builtin.unsafeString_ #[pt, it] ty #[.pointer (some ⟨g, o, none⟩), .int .i64 l.length]).run P w = .ok (.string ⟨l.toArray⟩) (w.freeze ⟨g, o, none⟩ l.length) := by
  have hl : l.length ≠ 0 := by simpa using h0
  have hlb := Lib.run_loadBytes (P := P) w l ⟨g, o, none⟩ .empty hcell
  have hlies := liesAt_at (P := P) hc (cells / P.cellsOf e) o l.length (by rw [hc]; simpa using hn)
  have h63' : ¬ (9223372036854775807 : Int) < (l.length : Int) := by omega
  have hdef : Builtin.unsafeString_ #[pt, it] ty #[.pointer (some ⟨g, o, none⟩), .int .i64 l.length] =
      (do
        let n ← asInt (.int .i64 l.length)
        if n < 0 then runtimePanic (.error "unsafe.String: len out of range")
        if n > IntKind.i64.max then unsupported (.unsafePointer "String: a length above the largest int")
        if n = 0 then pure (.string .empty)
        else if ← variablesAt ⟨g, o, none⟩ (← elemOf pt) n.toNat then do
          let s ← loadBytes ⟨g, o, none⟩ .empty n.toNat
          freeze ⟨g, o, none⟩ n.toNat
          pure (.string s)
        else unsupported (.unsafePointer "String: not so many bytes at ptr")) := rfl
  rw [hdef]
  have hmax : IntKind.i64.max = 9223372036854775807 := rfl
  have hneg : ¬ (l.length : Int) < 0 := by omega
  simp [asInt, asIntOf, hmax, h63', hneg, hl, variablesAt, hsh, elemOf, run_underlying hp, hlies, hlb]
set_option maxHeartbeats 1000000 in
set_option maxRecDepth 100000 in
theorem String_raw (L : Lays.n169 P ρ) (X : Builder.Extra P ρ) (b g o cap : Nat) (l : List UInt8) (w : World) (p : Value) (fz fz2 : Nat × Nat) (cur : Array Value)
    (hbk : w.heap[b]? = some (.cells #[p, .slice (some ⟨g, o, none⟩) l.length cap] (ρ.t 72) fz)) (hg : w.heap[g]? = some (.cells cur (ρ.t 5) fz2)) (h0 : l ≠ []) (hnc : l.length ≤ cap) (hcs : o + l.length ≤ cur.size) (h63 : l.length ≤ 9223372036854775807)
    (hcell : ∀ (j : Nat) x, l[j]? = some x → cur[o + j]? = some (.int .u8 x.toNat)) :
    Calls P (ρ.f 169) #[.pointer (some ⟨b, 0, none⟩)] w fun e w' => e = .returned (.string ⟨l.toArray⟩) ∧ w' = w.drew.freeze ⟨g, o, none⟩ l.length := by
  have hl0 : l.length ≠ 0 := by simpa using h0
  have c1 : w.drew.cell? ⟨b, 1, none⟩ = some (.slice (some ⟨g, o, none⟩) l.length cap) := by
    have : w.drew.heap[b]? = some (.cells #[p, .slice (some ⟨g, o, none⟩) l.length cap] (ρ.t 72) fz) := hbk
    rw [Lib.cell_of_heap this]; rfl
  have hSD : (Builtin.unsafeSliceData_ #[(ρ.t 37)] (ρ.t 127) #[.slice (some ⟨g, o, none⟩) l.length cap]).run P w.drew = .ok (.pointer (some ⟨g, o, none⟩)) w.drew :=
    Lib.run_unsafeSliceData_row _ _ _ _ _ _ (by omega)
  have hUS : (Builtin.unsafeString_ #[(ρ.t 127), (ρ.t 3)] (ρ.t 9) #[.pointer (some ⟨g, o, none⟩), .int .i64 l.length]).run P w.drew = .ok (.string ⟨l.toArray⟩) (w.drew.freeze ⟨g, o, none⟩ l.length) := by
    refine unsafeString_at w.drew (ρ.t 127) (ρ.t 3) (ρ.t 9) (ρ.t 5) L.t127 X.cellsByte g o cur.size (by have hg' : w.drew.heap[g]? = some (.cells cur (ρ.t 5) fz2) := hg; simp [World.shape?, hg']) l h0 (by omega) h63 ?_
    intro j x hx
    have hg' : w.drew.heap[g]? = some (.cells cur (ρ.t 5) fz2) := hg
    have hc := hcell j x hx
    by_cases hj : j = 0
    · subst hj; simpa [World.cell?, Addr.add, hg'] using hc
    · simpa [World.cell?, Addr.add, hg', hj] using hc
  have mixed := L.mixed
  have t72 := L.t72; have a72 := L.a72; have z72 := L.z72; have v72 := L.v72; have u72 := run_underlying L.t72
  have t70 := L.t70; have a70 := L.a70; have z70 := L.z70; have v70 := L.v70; have u70 := run_underlying L.t70
  have t37 := L.t37; have a37 := L.a37; have z37 := L.z37; have v37 := L.v37; have u37 := run_underlying L.t37
  have t127 := L.t127; have a127 := L.a127; have z127 := L.z127; have v127 := L.v127; have u127 := run_underlying L.t127
  have t3 := L.t3; have a3 := L.a3; have z3 := L.z3; have v3 := L.v3; have u3 := run_underlying L.t3
  have t9 := L.t9; have a9 := L.a9; have z9 := L.z9; have v9 := L.v9; have u9 := run_underlying L.t9
  have t5 := X.t5; have a5 := X.a5; have z5 := X.z5; have v5 := X.v5; have u5 := run_underlying X.t5
  go_enter L.f169, Body.n169_ntmps ρ
  go_wp2
  go_region_o
  all_goals (go_wp2; go_ret; exact ⟨rfl, rfl⟩)
set_option maxHeartbeats 1000000 in
set_option maxRecDepth 100000 in
theorem String_raw0 (L : Lays.n169 P ρ) (X : Builder.Extra P ρ) (b : Nat) (w : World) (p : Value) (fz : Nat × Nat)
    (hbk : w.heap[b]? = some (.cells #[p, .slice none 0 0] (ρ.t 72) fz)) :
    Calls P (ρ.f 169) #[.pointer (some ⟨b, 0, none⟩)] w fun e w' => e = .returned (.string .empty) ∧ w' = w.drew := by
  have c1 : w.drew.cell? ⟨b, 1, none⟩ = some (.slice none 0 0) := by
    have : w.drew.heap[b]? = some (.cells #[p, .slice none 0 0] (ρ.t 72) fz) := hbk
    rw [Lib.cell_of_heap this]; rfl
  have hUS := Any.unsafeString_none L X
  have hSD : (Builtin.unsafeSliceData_ #[(ρ.t 37)] (ρ.t 127) #[.slice none 0 0]).run P w.drew = .ok (.pointer none) w.drew := rfl
  have mixed := L.mixed
  have t72 := L.t72; have a72 := L.a72; have z72 := L.z72; have v72 := L.v72; have u72 := run_underlying L.t72
  have t70 := L.t70; have a70 := L.a70; have z70 := L.z70; have v70 := L.v70; have u70 := run_underlying L.t70
  have t37 := L.t37; have a37 := L.a37; have z37 := L.z37; have v37 := L.v37; have u37 := run_underlying L.t37
  have t127 := L.t127; have a127 := L.a127; have z127 := L.z127; have v127 := L.v127; have u127 := run_underlying L.t127
  have t3 := L.t3; have a3 := L.a3; have z3 := L.z3; have v3 := L.v3; have u3 := run_underlying L.t3
  have t9 := L.t9; have a9 := L.a9; have z9 := L.z9; have v9 := L.v9; have u9 := run_underlying L.t9
  have t5 := X.t5; have a5 := X.a5; have z5 := X.z5; have v5 := X.v5; have u5 := run_underlying X.t5
  go_enter L.f169, Body.n169_ntmps ρ
  go_wp2
  go_region_o
  all_goals (go_wp2; go_ret; exact ⟨rfl, rfl⟩)
end
noncomputable section
/- The bytes of a row. -/
def u8s : List Value → Option (List UInt8)
  | [] => some []
  | .int .u8 n :: l => (match u8s l with
    | some r => ifB (decide (0 ≤ n ∧ n < 256)) (some (n.toNat.toUInt8 :: r)) none
    | none => none)
  | _ => none
theorem u8s_some : ∀ {l : List Value} {bs : List UInt8}, u8s l = some bs → l = bs.map fun b => .int .u8 b.toNat := by
  intro l
  induction l with
  | nil => intro bs e; cases e; rfl
  | cons v l ih =>
    intro bs e
    cases v with
    | int k n =>
      cases k <;> simp only [u8s] at e <;> try (cases e; done)
      split at e
      · rename_i r hr
        obtain ⟨h1, h2⟩ := ifB_some e
        cases h2
        have h3 := of_decide_eq_true h1
        rw [List.map_cons, ih hr]
        congr 2
        have : n.toNat.toUInt8.toNat = n.toNat := by simp; omega
        rw [this]; omega
      · cases e
    | _ => simp only [u8s] at e; cases e
theorem u8s_map (bs : List UInt8) : u8s (bs.map fun b => .int .u8 (b.toNat : Int)) = some bs := by
  induction bs with
  | nil => rfl
  | cons b l ih =>
    rw [List.map_cons, u8s, ih]
    have h1 : b.toNat < 256 := b.toNat_lt
    rw [decide_eq_true ⟨by omega, by omega⟩]
    simp [ifB]
def strAt (h : AH) (g : Nat) (n : Nat) : Option (Value × AH) := match h.get g with
  | some (.cells c m 5 lo hi kd) => ifB (!(AObj.cells c m 5 lo hi kd).ro) (match loadN c 0 n with
    | some l => (match u8s l with
      | some bs => ifB (Nat.ble n m && Nat.ble n 9223372036854775807) (some (.string ⟨bs.toArray⟩, h.set g (.cells c m 5 0 (m + 1) .ro))) none
      | none => none)
    | none => none) none
  | _ => none
def sString (args : List Value) (h : AH) : Option (Value × AH) := match args with
  | [.pointer (some ⟨b, 0, none⟩)] => (match h.get b with
    | some (.cells c 2 57 _ _ .ex) => (match c.get 1 with
      | some (.slice none 0 0) => some (.string .empty, h)
      | some (.slice (some ⟨g, 0, none⟩) n cap) => ifB (Nat.blt 0 n && Nat.ble n cap) (strAt h g n) none
      | _ => none)
    | _ => none)
  | _ => none
theorem loadN_len {c : PM Value} : ∀ (n o : Nat) {l : List Value}, loadN c o n = some l → l.length = n ∧ ∀ i, i < n → c.get (o + i) = l[i]? := by
  intro n o l e
  exact loadN_spec e
theorem sString_ok : ∀ args h v h', sString args h = some (v, h') → CallOK T0 34 args h v h' := by
  intro args h v h' e
  unfold sString at e
  split at e
  · rename_i b
    split at e
    · rename_i c lo hi hb
      have arg : ∀ {r : Ren} {w : World} {args' : Array Value}, HR T0.P r h w → LR r [.pointer (some ⟨b, 0, none⟩)] args'.toList → ∃ bk cs fz, r b = some bk ∧ args' = #[.pointer (some ⟨bk.blk, 0, none⟩)] ∧ w.heap[bk.blk]? = some (.cells cs 57 fz) ∧
          cs.size = 2 ∧ ∀ i, i < 2 → ∃ v v', c.get i = some v ∧ cs[i]? = some v' ∧ VR r v v' := by
        intro r w args' hr ha
        obtain ⟨x1, l1, e1, hv1, hr1⟩ := ha.cons_inv
        have e3 := hr1.nil_inv
        subst e3
        have : args' = #[x1] := by apply Array.ext'; exact e1
        subst this
        obtain ⟨bk, ob, h1, h2, cs, fl, fh, rfl, h4, h5, h6, h7, h8, h9⟩ := hr.live b _ hb
        obtain ⟨h5a, h5b⟩ := h5 rfl
        refine ⟨bk, cs, (fl, fh), h1, ?_, h2, h5b, fun i hi => ?_⟩
        · cases hv1 with
          | ptr _ _ bk2 hb2 =>
            rw [h1] at hb2; cases hb2
            rw [h5a]
        · obtain ⟨v, v', p1, p2, p3⟩ := h7 i hi
          rw [h5a, Nat.zero_add] at p2
          exact ⟨v, v', p1, p2, p3⟩
      split at e
      · rename_i h1
        cases e
        apply callOK_of
        intro r w args' hr ha
        obtain ⟨bk, cs, fz, q1, rfl, q3, q5, q7⟩ := arg hr ha
        obtain ⟨v, v', p1, p2, p3⟩ := q7 1 (by omega)
        rw [h1] at p1; cases p1
        have : v' = .slice none 0 0 := p3.flat_eq rfl
        subst this
        obtain ⟨p, hp⟩ : ∃ p, cs = #[p, .slice none 0 0] := by
          refine ⟨cs[0], ?_⟩
          apply Array.ext_getElem?
          intro i
          match i with
          | 0 => simp [q5]
          | 1 => rw [p2]; rfl
          | i + 2 => rw [Array.getElem?_eq_none (by omega), Array.getElem?_eq_none (by simp)]
        subst hp
        refine (String_raw0 Tryd.lays169 Tryd.Builder_Extra_169 bk.blk w p fz q3).mono ?_
        rintro e w' ⟨rfl, rfl⟩
        obtain ⟨p1, p2⟩ := hr.kept (w' := w.drew) ⟨⟨rfl, rfl⟩, Nat.le_refl _, fun _ _ => rfl⟩
        exact ⟨r, _, rfl, .string _, p1, p2⟩
      · rename_i g n cap h1
        obtain ⟨e1, e2⟩ := ifB_some e
        simp only [Bool.and_eq_true] at e1
        have hn0 := blt_lt e1.1
        have hncap := ble_le e1.2
        unfold strAt at e2
        split at e2
        · rename_i cg m lo2 hi2 kd2 hg
          obtain ⟨e0, e2⟩ := ifB_some e2
          have hro2 : (AObj.cells cg m 5 lo2 hi2 kd2).ro = false := by simpa using e0
          split at e2
          · rename_i l hl
            split at e2
            · rename_i bs hbs
              obtain ⟨e3, e4⟩ := ifB_some e2
              simp only [Bool.and_eq_true] at e3
              have hnm := ble_le e3.1
              have hn63 := ble_le e3.2
              cases e4
              obtain ⟨hl1, hl2⟩ := loadN_len n 0 hl
              have hlb := u8s_some hbs
              have hbn : bs.length = n := by rw [← hl1, hlb]; simp
              apply callOK_of
              intro r w args' hr ha
              obtain ⟨bk, cs, fz, q1, rfl, q3, q5, q7⟩ := arg hr ha
              obtain ⟨v, v', p1, p2, p3⟩ := q7 1 (by omega)
              rw [h1] at p1; cases p1
              obtain ⟨bg, ob, g1, g2, cur, fl, fh, rfl, g4, g5, g6, g7, g8, g9⟩ := hr.live g _ hg
              have hd : ∃ cap', v' = .slice (some ⟨bg.blk, 0 + bg.dlt, none⟩) n cap' ∧ n ≤ cap' := by
                cases p3 with
                | slEx _ _ _ _ bk2 hb2 hc2 => rw [g1] at hb2; cases hb2; exact ⟨_, rfl, hncap⟩
                | slIn _ _ _ k o' c' bk2 hb2 j1 j2 j3 j4 => rw [g1] at hb2; cases hb2; exact ⟨_, by rw [j3 (by omega)], by omega⟩
                | slOff => omega
              obtain ⟨cap', rfl, hcap'⟩ := hd
              have hcsz : bg.dlt + n ≤ cur.size := by omega
              obtain ⟨p, hp⟩ : ∃ p, cs = #[p, .slice (some ⟨bg.blk, 0 + bg.dlt, none⟩) n cap'] := by
                refine ⟨cs[0], ?_⟩
                apply Array.ext_getElem?
                intro i
                match i with
                | 0 => simp [q5]
                | 1 => rw [p2]; rfl
                | i + 2 => rw [Array.getElem?_eq_none (by omega), Array.getElem?_eq_none (by simp)]
              subst hp
              have hcell : ∀ (j : Nat) x, bs[j]? = some x → cur[(0 + bg.dlt) + j]? = some (.int .u8 x.toNat) := by
                intro j x hj
                have hjn : j < n := by rw [← hbn]; exact (List.getElem?_eq_some_iff.1 hj).1
                obtain ⟨y, y', k1, k2, k3⟩ := g7 j (by omega)
                have := hl2 j hjn
                rw [Nat.zero_add, k1, hlb, List.getElem?_map, hj] at this
                cases this
                have : y' = .int .u8 x.toNat := k3.flat_eq rfl
                rw [Nat.zero_add, k2, this]
              have hbs0 : bs ≠ [] := by intro hh; rw [hh] at hbn; simp at hbn; omega
              rw [← hbn] at q3
              refine (String_raw Tryd.lays169 Tryd.Builder_Extra_169 bk.blk bg.blk (0 + bg.dlt) cap' bs w p fz (fl, fh) cur q3 g2 hbs0 (by omega) (by omega) (by omega) hcell).mono ?_
              rintro e w' ⟨rfl, rfl⟩
              obtain ⟨z, hz⟩ : ∃ z : Nat × Nat, (w.drew.freeze ⟨bg.blk, 0 + bg.dlt, none⟩ bs.length).heap = w.heap.setIfInBounds bg.blk (.cells cur 5 z) := by
                refine ⟨if fl == fh then (0 + bg.dlt, 0 + bg.dlt + bs.length) else (min fl (0 + bg.dlt), max fh (0 + bg.dlt + bs.length)), ?_⟩
                unfold World.freeze
                rw [if_neg (by omega)]
                have hlt : bg.blk < w.heap.size := (Array.getElem?_eq_some_iff.1 g2).1
                apply Array.ext_getElem?
                intro i
                simp only [World.drew, Array.getElem?_modify, Array.getElem?_setIfInBounds]
                by_cases hi : bg.blk = i
                · subst hi
                  rw [if_pos rfl, if_pos rfl, if_pos hlt, g2]; rfl
                · rw [if_neg hi, if_neg hi]
              obtain ⟨p4, p5⟩ := hr.upd (o' := .cells cg m 5 0 (m + 1) .ro) (ob' := .cells cur 5 z) (w' := w.drew.freeze ⟨bg.blk, 0 + bg.dlt, none⟩ bs.length) hg hro2 g1 (by rw [hz]; simp) (by
                  have hlt : bg.blk < w.heap.size := (Array.getElem?_eq_some_iff.1 g2).1
                  rw [hz, Array.getElem?_setIfInBounds, if_pos rfl, if_pos hlt])
                (by intro i hi; rw [hz, Array.getElem?_setIfInBounds, if_neg (Ne.symm hi)]) (by
                  exact ⟨cur, z.1, z.2, rfl, g4, fun q => (by cases q), fun q => (by cases q), g7, fun q => (by omega), fun i hi _ _ => ⟨Nat.zero_le _, by omega⟩⟩)
                (by unfold World.freeze; split <;> exact ⟨rfl, rfl⟩)
              exact ⟨r, _, rfl, .string _, p4, p5⟩
            · cases e2
          · cases e2
        · cases e2
      · cases e
    · cases e
  · cases e
end
end Go.Proofs.YtknchhnibjfocaaDoor.Abs
