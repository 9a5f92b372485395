
/- An abstract machine: a plan for a drawn region, and its check; the machine's run. -/
import Derived.Test.YtjdhdhmoedlfdaaGreatAbsZ
namespace Go.Proofs.YtjdhdhmoedlfdaaGreat.Abs
open Go
noncomputable section
def isMk (o : Oper) : Bool := match o.op with
  | .makeSlice _ _ _ => true
  | _ => false
def isAl0 (o : Oper) : Bool := match o.op with
  | .alloc _ | .box _ _ | .buildSlice _ _ _ => true
  | _ => false
def mkOf (t : Nat) (o : Oper) : Bool := isMk o && (match o.dst with
  | some d => Nat.beq d t
  | none => false)
def qOf (ops : List Oper) : Bool := ops.any isMk && ops.all fun o => !isAl0 o || o.op.operands.toList.all fun x => match x with
  | .tmp t => !ops.any (mkOf t)
  | _ => true
def isAl (q : Bool) (o : Oper) : Bool := match o.guard with
  | some _ => false
  | none => match o.op with
    | .alloc _ | .box _ _ | .buildSlice _ _ _ => true
    | .makeSlice _ _ _ => q
    | _ => false
def mkPlanGo (ms : List Nat) : List Nat → List Nat → List Nat → List Nat → Nat → List PItem × List Nat
  | [], ones, als, _, _ => (ones.map .one, als)
  | e :: es, ones, als, placed, pend =>
    let now := ones.filter fun j => Nat.beq (Nat.land (ms.getD j 0) pend) 0
    let later := ones.filter fun j => !Nat.beq (Nat.land (ms.getD j 0) pend) 0
    let al := als.filter fun l => ancB ms l e
    let als2 := als.filter fun l => !ancB ms l e
    let pend2 := al.foldl (fun s l => Nat.xor s (2 ^ l)) (Nat.xor pend (2 ^ e))
    let placed2 := placed ++ now
    let r := mkPlanGo ms es later als2 placed2 pend2
    (now.map .one ++ .eff al e (placed2.filter fun a => !ancB ms a e) :: r.1, r.2)
def mkPlan (ops : List Oper) (ms : List Nat) : List PItem × List Nat :=
  let ix := ops.zipIdx
  let q := qOf ops
  let als := (ix.filter fun p => isAl q p.1).map (·.2)
  let ones := (ix.filter fun p => !isAl q p.1 && isOne p.1).map (·.2)
  let effs := (ix.filter fun p => !isAl q p.1 && !isOne p.1).map (·.2)
  mkPlanGo ms effs ones als [] ((effs ++ als).foldl (fun s l => Nat.lor s (2 ^ l)) 0)
def memB (x : Nat) : List Nat → Bool
  | [] => false
  | y :: l => Nat.beq x y || memB x l
def nodupB : List Nat → Bool
  | [] => true
  | x :: l => !memB x l && nodupB l
theorem memB_iff {x : Nat} : ∀ {l : List Nat}, memB x l = true ↔ x ∈ l := by
  intro l
  induction l with
  | nil => simp [memB]
  | cons y l ih => simp [memB, ih]
theorem nodupB_nodup : ∀ {l : List Nat}, nodupB l = true → l.Nodup := by
  intro l
  induction l with
  | nil => intro _; exact List.nodup_nil
  | cons y l ih =>
    intro h
    simp only [nodupB, Bool.and_eq_true, Bool.not_eq_true'] at h
    rw [List.nodup_cons]
    exact ⟨fun hm => by rw [memB_iff.2 hm] at h; exact absurd h.1 (by simp), ih h.2⟩
structure OInfo where
  i : Nat
  o : Oper
  looks : List Nat
def infos (ops : Array Oper) : List OInfo := ops.toList.zipIdx.map fun p => { i := p.2, o := p.1, looks := p.1.looksAt ops }
def pairOK (q : Bool) (ms : List Nat) (a b : OInfo) : Bool :=
  match a.o.dst with
  | none => true
  | some d =>
    (match b.o.dst with
     | some d' => !Nat.beq d d' || Nat.beq a.i b.i
     | none => true) &&
    (!memB d b.looks || ((ancB ms a.i b.i || ancB ms b.i a.i) && (!isAl q b.o || (ancB ms a.i b.i && !isAl q a.o))))
def selfOK (size : Nat) (a : OInfo) : Bool :=
  (match a.o.dst with
   | some d => Nat.blt d size
   | none => true) && a.o.after.toList.all fun e => !Region.binds .any e || Nat.blt e.on a.i
def fresh (ms : List Nat) (is : List OInfo) (ops : Array Oper) (a : Nat) : Bool :=
  match ops[a]? with
  | some o => match o.dst with
    | some d => is.all fun b => !memB d b.looks || ancB ms a b.i
    | none => true
  | none => true
def beforeB (ms : List Nat) (is : List OInfo) (ops : Array Oper) : PItem → PItem → Bool
  | .one a, .one b => !Nat.beq a b && !ancB ms b a
  | .one a, .eff al e rs => !Nat.beq a e && (!ancB ms e a && ((al.all fun l => !ancB ms l a) && (ancB ms a e || (memB a rs && fresh ms is ops a))))
  | .eff _ e _, .one b => ancB ms e b
  | .eff al e _, .eff al2 e2 _ => ancB ms e e2 && al2.all fun l => !memB l al && !ancB ms l e
def pairwiseB (R : PItem → PItem → Bool) : List PItem → Bool
  | [] => true
  | x :: L => L.all (R x) && pairwiseB R L
def isAlAt (q : Bool) (ops : Array Oper) (i : Nat) : Bool := match ops[i]? with | some o => isAl q o | none => false
def itemB (q : Bool) (ms : List Nat) (ops : Array Oper) : PItem → Bool
  | .one i => match ops[i]? with
    | some o => !isAl q o && isOne o
    | none => false
  | .eff al e _ => (match ops[e]? with
    | some o => !isAl q o
    | none => false) && (nodupB al && al.all fun l => isAlAt q ops l && ancB ms l e)
def flatP : List PItem → List Nat
  | [] => []
  | .one i :: L => i :: flatP L
  | .eff al e _ :: L => al ++ e :: flatP L
def okPlan (ops : Array Oper) (size : Nat) (ms : List Nat) (L : List PItem) (fa : List Nat) : Bool :=
  let is := infos ops
  let q := qOf ops.toList
  (is.all fun a => selfOK size a && is.all (pairOK q ms a)) &&
  (pairwiseB (beforeB ms is ops) L && (L.all (itemB q ms ops) &&
  ((nodupB fa && fa.all fun l => isAlAt q ops l && is.all fun b => !ancB ms l b.i) && is.all fun b => memB b.i (flatP L ++ fa))))
section
variable {ops : Array Oper} {size : Nat} {L : List PItem} {fa : List Nat}
theorem mem_infos {i : Nat} {o : Oper} (h : ops[i]? = some o) : (⟨i, o, o.looksAt ops⟩ : OInfo) ∈ infos ops := by
  unfold infos
  rw [List.mem_map]
  refine ⟨(o, i), ?_, rfl⟩
  rw [List.mem_zipIdx_iff_getElem?]
  simpa using h
theorem pairwiseB_pw {R : PItem → PItem → Bool} {Q : PItem → PItem → Prop} (h : ∀ x y, R x y = true → Q x y) : ∀ {L : List PItem}, pairwiseB R L = true → L.Pairwise Q := by
  intro L
  induction L with
  | nil => intro _; exact .nil
  | cons x L ih =>
    intro e
    simp only [pairwiseB, Bool.and_eq_true, List.all_eq_true] at e
    exact .cons (fun y hy => h x y (e.1 y hy)) (ih e.2)
abbrev ancM (ops : Array Oper) (x j : Nat) : Prop := ancB (masks ops.toList []) x j = true
abbrev alM (ops : Array Oper) (i : Nat) : Prop := isAlAt (qOf ops.toList) ops i = true
theorem isAlAt_iff {i : Nat} {o : Oper} (h : ops[i]? = some o) : alM ops i ↔ isAl (qOf ops.toList) o = true := by unfold alM isAlAt; rw [h]
theorem no_anc {x y : Nat} (h : ancB (masks ops.toList []) x y = false) : ¬ ancM ops x y := fun e => Bool.false_ne_true (h.symm.trans e)
theorem okPlan_spec (h : okPlan ops size (masks ops.toList []) L fa = true) :
    Good ops size (ancM ops) (alM ops) ∧ FaOK (ancM ops) (alM ops) fa ∧ L.Pairwise (Before ops (ancM ops)) ∧ (∀ x ∈ L, ItemOK ops (ancM ops) (alM ops) x) ∧
    (∀ i, i < ops.size → i ∈ flatP L ++ fa) ∧ (∀ i o, ops[i]? = some o → ∀ e ∈ o.after, Region.binds .any e = true → e.on < i) := by
  simp only [okPlan, Bool.and_eq_true, List.all_eq_true] at h
  obtain ⟨h1, h2, h3, ⟨h4, h5⟩, h6⟩ := h
  have pair : ∀ {i j : Nat} {oi oj : Oper}, ops[i]? = some oi → ops[j]? = some oj → pairOK (qOf ops.toList) (masks ops.toList []) ⟨i, oi, oi.looksAt ops⟩ ⟨j, oj, oj.looksAt ops⟩ = true :=
    fun hi hj => (h1 _ (mem_infos hi)).2 _ (mem_infos hj)
  have self : ∀ {i : Nat} {oi : Oper}, ops[i]? = some oi → selfOK size ⟨i, oi, oi.looksAt ops⟩ = true := fun hi => (h1 _ (mem_infos hi)).1
  have look : ∀ {i j : Nat} {oi oj : Oper} {d : Nat}, ops[i]? = some oi → ops[j]? = some oj → oi.dst = some d → d ∈ oj.looksAt ops →
      (ancM ops i j ∨ ancM ops j i) ∧ (isAl (qOf ops.toList) oj = true → ancM ops i j ∧ isAl (qOf ops.toList) oi = false) := by
    intro i j oi oj d hi hj hd hm
    have hp := pair hi hj
    simp only [pairOK, hd, Bool.and_eq_true, memB_iff.2 hm, Bool.not_true, Bool.false_or, Bool.or_eq_true, Bool.not_eq_true'] at hp
    exact ⟨hp.2.1, fun ha => hp.2.2.resolve_left (by rw [ha]; simp)⟩
  refine ⟨⟨fun i j h => anc_lt j i h, ?_, fun i j oi oj d hi hj hd hm => (look hi hj hd hm).1, ?_, ?_⟩, ⟨nodupB_nodup h4, ?_⟩, ?_, ?_, ?_, ?_⟩
  · intro i j oi oj d hi hj hd hd2
    have hp := pair hi hj
    simp only [pairOK, hd, hd2, Bool.and_eq_true, Bool.or_eq_true, Bool.not_eq_true', Nat.beq_refl] at hp
    exact Nat.eq_of_beq_eq_true (hp.1.resolve_left (by simp))
  · intro l ol hl hol
    rw [isAlAt_iff hol] at hl
    refine ⟨?_, fun i oi d hi hd hm => ?_⟩
    · unfold isAl at hl
      split at hl
      · cases hl
      · rename_i hg; exact hg
    · have := (look hi hol hd hm).2 hl
      exact ⟨this.1, fun ha => by rw [isAlAt_iff hi, this.2] at ha; cases ha⟩
  · intro i oi d hi hd
    have := self hi
    simp only [selfOK, hd, Bool.and_eq_true] at this
    exact blt_lt this.1
  · intro l hl
    obtain ⟨a1, a2⟩ := h5 l hl
    refine ⟨a1, fun i hi => ?_⟩
    obtain ⟨o, ho, _⟩ := anc_spec hi
    have h7 : ancB (masks ops.toList []) l i = true := hi
    have := a2 _ (mem_infos ho)
    simp only [h7] at this
    cases this
  · refine pairwiseB_pw ?_ h2
    intro x y hxy
    cases x with
    | one a => cases y with
      | one b =>
        simp only [beforeB, Bool.and_eq_true, Bool.not_eq_true'] at hxy
        exact ⟨(fun e => by subst e; simp at hxy), no_anc hxy.2⟩
      | eff al e rs =>
        simp only [beforeB, Bool.and_eq_true, Bool.not_eq_true', Bool.or_eq_true, List.all_eq_true] at hxy
        obtain ⟨b1, b2, b3, b4⟩ := hxy
        refine ⟨(fun e => by subst e; simp at b1), no_anc b2, fun l hl => no_anc (b3 l hl), b4.imp id ?_⟩
        rintro ⟨b5, b6⟩
        refine ⟨memB_iff.1 b5, fun i oa oi d ha hi hd hm => ?_⟩
        simp only [fresh, ha, hd, List.all_eq_true] at b6
        have := b6 _ (mem_infos hi)
        simpa [memB_iff.2 hm] using this
    | eff al e rs => cases y with
      | one b => exact hxy
      | eff al2 e2 rs2 =>
        simp only [beforeB, Bool.and_eq_true, Bool.not_eq_true', List.all_eq_true] at hxy
        refine ⟨hxy.1, fun l hl => ⟨fun hm => ?_, no_anc (hxy.2 l hl).2⟩⟩
        have := (hxy.2 l hl).1; rw [memB_iff.2 hm] at this; cases this
  · intro x hx
    have := h3 x hx
    cases x with
    | one i =>
      simp only [itemB] at this
      split at this
      · rename_i o ho
        simp only [Bool.and_eq_true, Bool.not_eq_true'] at this
        exact ⟨(fun ha => by rw [isAlAt_iff ho, this.1] at ha; cases ha), o, ho, this.2⟩
      · cases this
    | eff al e rs =>
      simp only [itemB, Bool.and_eq_true, List.all_eq_true] at this
      obtain ⟨b1, b2, b3⟩ := this
      split at b1
      · rename_i o ho
        simp only [Bool.not_eq_true'] at b1
        exact ⟨(fun ha => by rw [isAlAt_iff ho, b1] at ha; cases ha), nodupB_nodup b2, b3, o, ho⟩
      · cases b1
  · intro i hi
    exact memB_iff.1 (h6 _ (mem_infos (Array.getElem?_eq_getElem hi)))
  · intro i o ho e he hb
    have := self ho
    simp only [selfOK, Bool.and_eq_true, List.all_eq_true] at this
    have := this.2 e (by simpa using he)
    rw [hb] at this
    exact blt_lt (by simpa using this)
theorem mem_flatP {i : Nat} : ∀ {L : List PItem}, i ∈ flatP L → .one i ∈ L ∨ (∃ al rs, .eff al i rs ∈ L) ∨ ∃ al e rs, .eff al e rs ∈ L ∧ i ∈ al := by
  intro L
  induction L with
  | nil => intro h; cases h
  | cons x L ih =>
    intro h
    have up : (PItem.one i ∈ L ∨ (∃ al rs, PItem.eff al i rs ∈ L) ∨ ∃ al e rs, PItem.eff al e rs ∈ L ∧ i ∈ al) → (PItem.one i ∈ x :: L ∨ (∃ al rs, PItem.eff al i rs ∈ x :: L) ∨ ∃ al e rs, PItem.eff al e rs ∈ x :: L ∧ i ∈ al) := by
      rintro (h | ⟨al, rs, h⟩ | ⟨al, e, rs, h, h2⟩)
      · exact .inl (by simp [h])
      · exact .inr (.inl ⟨al, rs, by simp [h]⟩)
      · exact .inr (.inr ⟨al, e, rs, by simp [h], h2⟩)
    cases x with
    | one j =>
      simp only [flatP, List.mem_cons] at h
      rcases h with rfl | h
      · exact .inl (by simp)
      · exact up (ih h)
    | eff al e rs =>
      simp only [flatP, List.mem_append, List.mem_cons] at h
      rcases h with h | rfl | h
      · exact .inr (.inr ⟨al, e, rs, by simp, h⟩)
      · exact .inr (.inl ⟨al, rs, by simp⟩)
      · exact up (ih h)
end
def drawA (T : Tab) (X : Exts) (rec : Nat → List Value → AH → Option (Value × AH)) (fr : AFrame) (cs : List AFrame) (h : AH) (_id : Nat) (ops : Array Oper) (k : List AItem) : Fin :=
  match masks ops.toList [] with
  | ms => match mkPlan ops.toList ms with
    | (L, fa) => ifB (okPlan ops fr.size ms L fa) (match runL T X rec ops L fr.tm h with
      | some p => match runAl T ops fa p.1 p.2 with
        | some q => goOn (fr.upd q.1 k) cs q.2
        | none => .stuck
      | none => .stuck) .stuck
theorem drawA_sound {T : Tab} (ok : TabOK T) (oz : TabZ T) {X : Exts} (hX : ExtOK T X) {rec : Nat → List Value → AH → Option (Value × AH)} (hrec : RecOK T rec) : DrawOK T (drawA T X rec) := by
  intro base r h w fr c f cs id ops k hr hm ht hf hc
  have hm' : f.mode = .run := MoR.run_inv (hm ▸ hf.mode)
  unfold drawA
  simp only
  cases hok : okPlan ops fr.size (masks ops.toList []) (mkPlan ops.toList (masks ops.toList [])).1 (mkPlan ops.toList (masks ops.toList [])).2 with
  | false => trivial
  | true =>
    rw [ifB_true]
    obtain ⟨g, hfa, hpw, hit, hcov, hedge⟩ := okPlan_spec hok
    generalize (mkPlan ops.toList (masks ops.toList [])).1 = L at *
    generalize (mkPlan ops.toList (masks ops.toList [])).2 = fa at *
    split
    · rename_i p hp
      split
      · rename_i q hq
        have h0 := hf.todo
        rw [ht] at h0
        obtain ⟨b', k', h1, h2, h3⟩ := h0.cons_inv
        cases h2
        have hst := st_region_draw (P := T.P) (cs := cs) (w := w) hm' h1
        rw [show Region.schedule (T.P.follows .mixedOrders) ops (w.tape w.drawn (.order f.fn id)) = Region.linearise.go .any ops ops.size (w.tape w.drawn (.order f.fn id)) (Array.replicate ops.size false) [] by
          simp only [Region.schedule, ok.mixed, Bool.true_or, if_true]; rfl] at hst
        have hr' : HR T.P r h { w with drawn := w.drawn + 1 } := hr.of_heap rfl
        have hlin := linearise_Lin hedge ops.size (w.tape w.drawn (.order f.fn id)) (Array.replicate ops.size false) (by simp) (by
          intro i o hi; simp [Array.getElem?_replicate] at hi; split at hi <;> simp at hi) (by
          have := List.countP_le_length (p := fun i => !(Array.replicate ops.size false).getD i false) (l := List.range ops.size)
          simpa using this)
        have hD : (fun i => (Array.replicate ops.size false).getD i false = true) = fun _ => False := funext fun i => propext ⟨fun hi => by simp [Array.getElem?_replicate] at hi; split at hi <;> simp at hi, False.elim⟩
        rw [hD] at hlin
        have inv : Inv T X rec ops r h { w with drawn := w.drawn + 1 } fr.size (ancM ops) (alM ops) fa q (fun _ => False) (fun _ => 0) (fun _ => False) L fr.tm h r { w with drawn := w.drawn + 1 } f.tmps := by
          refine Inv.mk ⟨hr', .refl _ _ _, fun t _ => ⟨hf.tm t, hf.un t⟩, fun l hl => hl.elim, fun l _ hl => hl.elim⟩ ⟨p, q, hp, hq, .refl q⟩ hpw hit (fun _ _ h => h) (fun _ _ _ _ h => h) (fun l => ⟨False.elim, fun h => h.1⟩) ?_ (fun _ _ h => h.elim) hf.size
          intro i hi _
          have := hcov i hi
          rw [List.mem_append] at this
          rcases this with h5 | h5
          · rcases mem_flatP h5 with h6 | h6 | h6
            · exact .inl h6
            · exact .inr (.inl h6)
            · exact .inr (.inr (.inr h6))
          · exact .inr (.inr (.inl h5))
        obtain ⟨r1, w1, a1, s1, q1, q2, q3, q4, q5⟩ := region_run ok oz hX hrec g hfa (fun l hl => by
          unfold alM isAlAt at hl
          split at hl
          · rename_i o ho; exact lt_ops ho
          · cases hl) hr' (f := f) (k := k') (cs := cs) hm' hlin inv
        have hx : Ext r h w r1 q.2 w1 := q2.of_heap_l rfl ⟨rfl, rfl⟩
        refine ⟨r1, w1, { f with tmps := a1, todo := k' }, cs, .head hst (Steps.trans s1 (.one (st_region_end (fr := { f with tmps := a1, todo := .inRegion ops [] :: k' }) hm' rfl))), ?_, hc.mono hx.sub, q1, hx⟩
        exact ⟨hf.fn, q5, q3, q4, h3.mono fun _ _ h => h.mono hx.sub, hf.defers.mono fun _ _ h => h.mono hx.sub, hf.mode.mono hx.sub, hf.kind, hf.round.mono hx.sub⟩
      · trivial
    · trivial
end
end Go.Proofs.YtjdhdhmoedlfdaaGreat.Abs
