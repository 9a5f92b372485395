/- An abstract machine: a plan for a drawn region, and its check; the machine's run. -/
import Derived.Test.YtknchhnibjfocaaDoorAbsZ
namespace Go.Proofs.YtknchhnibjfocaaDoor.Abs
open Go
noncomputable section

def isMk (o : Oper) : Bool := match o.op with
  | .makeSlice _ _ _ => true
  | _ => false
def isAl0 (o : Oper) : Bool := match o.op with
  | .alloc _ | .box _ _ | .buildSlice _ _ _ => true
  | _ => false
def mkOf (t : Nat) (o : Oper) : Bool := isMk o && (match o.dst with
  | some d => Nat.beq d t
  | none => false)
/-- Is makeSlice an allocation here? Only if no other allocation looks at one. -/
def qOf (ops : List Oper) : Bool := ops.any isMk && ops.all fun o => !isAl0 o || o.op.operands.toList.all fun x => match x with
  | .tmp t => !ops.any (mkOf t)
  | _ => true
def isAl (q : Bool) (o : Oper) : Bool := match o.guard with
  | some _ => false
  | none => match o.op with
    | .alloc _ | .box _ _ | .buildSlice _ _ _ => true
    | .makeSlice _ _ _ => q
    | _ => false

def mkPlanGo (ms : List Nat) : List Nat → List Nat → List Nat → List Nat → Nat → List PItem × List Nat
  | [], ones, als, _, _ => (ones.map .one, als)
  | e :: es, ones, als, placed, pend =>
    let now := ones.filter fun j => Nat.beq (Nat.land (ms.getD j 0) pend) 0
    let later := ones.filter fun j => !Nat.beq (Nat.land (ms.getD j 0) pend) 0
    let al := als.filter fun l => ancB ms l e
    let als2 := als.filter fun l => !ancB ms l e
    let pend2 := al.foldl (fun s l => Nat.xor s (2 ^ l)) (Nat.xor pend (2 ^ e))
    let placed2 := placed ++ now
    let r := mkPlanGo ms es later als2 placed2 pend2
    (now.map .one ++ .eff al e (placed2.filter fun a => !ancB ms a e) :: r.1, r.2)
/-- A value that is handed on. -/
def isMv (o : Oper) : Bool := match o.guard with
  | some _ => false
  | none => match o.op with
    | .assign (.tmp _) => true
    | _ => false
def mkPlan (ops : List Oper) (ms : List Nat) : List PItem × List Nat :=
  let ix := ops.zipIdx
  let q := qOf ops
  let als := (ix.filter fun p => isAl q p.1).map (·.2)
  let ones := (ix.filter fun p => !isAl q p.1 && isOne p.1).map (·.2)
  let effs := (ix.filter fun p => !isAl q p.1 && !isOne p.1).map (·.2)
  let mvs := ones.filter fun j => (match ops[j]? with
    | some o => isMv o
    | none => false) && als.any fun l => ancB ms l j && effs.all fun e => !ancB ms l e || ancB ms j e
  let r := mkPlanGo ms effs (ones.filter fun j => !mvs.any (Nat.beq j)) als [] ((effs ++ als).foldl (fun s l => Nat.lor s (2 ^ l)) 0)
  (r.1, r.2 ++ mvs)

def memB (x : Nat) : List Nat → Bool
  | [] => false
  | y :: l => Nat.beq x y || memB x l
def nodupB : List Nat → Bool
  | [] => true
  | x :: l => !memB x l && nodupB l
theorem memB_iff {x : Nat} : ∀ {l : List Nat}, memB x l = true ↔ x ∈ l := by
  intro l
  induction l with
  | nil => simp [memB]
  | cons y l ih => simp [memB, ih]
theorem nodupB_nodup : ∀ {l : List Nat}, nodupB l = true → l.Nodup := by
  intro l
  induction l with
  | nil => intro _; exact List.nodup_nil
  | cons y l ih =>
    intro h
    simp only [nodupB, Bool.and_eq_true, Bool.not_eq_true'] at h
    rw [List.nodup_cons]
    exact ⟨fun hm => by rw [memB_iff.2 hm] at h; exact absurd h.1 (by simp), ih h.2⟩

/-- What of an operation the check needs. -/
structure OInfo where
  i : Nat
  o : Oper
  looks : List Nat

def infos (ops : Array Oper) : List OInfo := ops.toList.zipIdx.map fun p => { i := p.2, o := p.1, looks := p.1.looksAt ops }

def pairOK (q : Bool) (ms : List Nat) (a b : OInfo) : Bool :=
  match a.o.dst with
  | none => true
  | some d =>
    (match b.o.dst with
     | some d' => !Nat.beq d d' || Nat.beq a.i b.i
     | none => true) &&
    (!memB d b.looks || ((ancB ms a.i b.i || ancB ms b.i a.i) && (!isAl q b.o || (ancB ms a.i b.i && !isAl q a.o))))
def selfOK (size : Nat) (a : OInfo) : Bool :=
  (match a.o.dst with
   | some d => Nat.blt d size
   | none => true) && a.o.after.toList.all fun e => !Region.binds .any e || Nat.blt e.on a.i
/-- Nothing that looks at what the operation gives is free of it. -/
def fresh (ms : List Nat) (is : List OInfo) (ops : Array Oper) (a : Nat) : Bool :=
  match ops[a]? with
  | some o => match o.dst with
    | some d => is.all fun b => !memB d b.looks || ancB ms a b.i
    | none => true
  | none => true

def beforeB (ms : List Nat) (is : List OInfo) (ops : Array Oper) : PItem → PItem → Bool
  | .one a, .one b => !Nat.beq a b && !ancB ms b a
  | .one a, .eff al e rs => !Nat.beq a e && (!ancB ms e a && ((al.all fun l => !ancB ms l a) && (ancB ms a e || (memB a rs && fresh ms is ops a))))
  | .eff _ e _, .one b => ancB ms e b
  | .eff al e _, .eff al2 e2 _ => ancB ms e e2 && al2.all fun l => !memB l al && !ancB ms l e
def pairwiseB (R : PItem → PItem → Bool) : List PItem → Bool
  | [] => true
  | x :: L => L.all (R x) && pairwiseB R L
def isAlAt (q : Bool) (ops : Array Oper) (i : Nat) : Bool := match ops[i]? with | some o => isAl q o | none => false
def itemB (q : Bool) (ms : List Nat) (ops : Array Oper) : PItem → Bool
  | .one i => match ops[i]? with
    | some o => !isAl q o && isOne o
    | none => false
  | .eff al e _ => (match ops[e]? with
    | some o => !isAl q o
    | none => false) && (nodupB al && al.all fun l => isAlAt q ops l && ancB ms l e)
def flatP : List PItem → List Nat
  | [] => []
  | .one i :: L => i :: flatP L
  | .eff al e _ :: L => al ++ e :: flatP L

/-- May a value be handed on when all else is done? -/
def mvOKB (ms : List Nat) (is : List OInfo) (ops : Array Oper) (m : Nat) : Bool := match ops[m]? with
  | some o => (match o.guard with
    | some _ => false
    | none => match o.op with
      | .assign (.tmp s) => (match o.dst with
        | some d => !Nat.beq s d && ((is.any fun p => ancB ms p.i m && (match ops[p.i]? with
            | some o' => (match o'.dst with
              | some d' => Nat.beq d' s
              | none => false)
            | none => false)) && is.all fun b => !memB d b.looks)
        | none => false)
      | _ => false)
  | none => false
def notIn (mv : List Nat) : PItem → Bool
  | .one i => !memB i mv
  | .eff _ e _ => !memB e mv
def fsOf (q : Bool) (ops : Array Oper) (fa : List Nat) : List Nat := fa.takeWhile (isAlAt q ops)
def mvsOf (q : Bool) (ops : Array Oper) (fa : List Nat) : List Nat := fa.dropWhile (isAlAt q ops)
def okPlan (ops : Array Oper) (size : Nat) (ms : List Nat) (L : List PItem) (fa : List Nat) : Bool :=
  let is := infos ops
  let q := qOf ops.toList
  (is.all fun a => selfOK size a && is.all (pairOK q ms a)) &&
  (pairwiseB (beforeB ms is ops) L && (L.all (itemB q ms ops) &&
  ((nodupB (fsOf q ops fa) && (fsOf q ops fa).all fun l => is.all fun b => !ancB ms l b.i || memB b.i (mvsOf q ops fa)) && (is.all (fun b => memB b.i (flatP L ++ fa)) &&
  ((mvsOf q ops fa).all (fun m => !isAlAt q ops m && mvOKB ms is ops m) && L.all (notIn (mvsOf q ops fa)))))))

section
variable {ops : Array Oper} {size : Nat} {L : List PItem} {fa : List Nat}

theorem mem_infos {i : Nat} {o : Oper} (h : ops[i]? = some o) : (⟨i, o, o.looksAt ops⟩ : OInfo) ∈ infos ops := by
  unfold infos
  rw [List.mem_map]
  refine ⟨(o, i), ?_, rfl⟩
  rw [List.mem_zipIdx_iff_getElem?]
  simpa using h

theorem pairwiseB_pw {R : PItem → PItem → Bool} {Q : PItem → PItem → Prop} (h : ∀ x y, R x y = true → Q x y) : ∀ {L : List PItem}, pairwiseB R L = true → L.Pairwise Q := by
  intro L
  induction L with
  | nil => intro _; exact .nil
  | cons x L ih =>
    intro e
    simp only [pairwiseB, Bool.and_eq_true, List.all_eq_true] at e
    exact .cons (fun y hy => h x y (e.1 y hy)) (ih e.2)

abbrev ancM (ops : Array Oper) (x j : Nat) : Prop := ancB (masks ops.toList []) x j = true
abbrev alM (ops : Array Oper) (i : Nat) : Prop := isAlAt (qOf ops.toList) ops i = true

theorem isAlAt_iff {i : Nat} {o : Oper} (h : ops[i]? = some o) : alM ops i ↔ isAl (qOf ops.toList) o = true := by unfold alM isAlAt; rw [h]

theorem no_anc {x y : Nat} (h : ancB (masks ops.toList []) x y = false) : ¬ ancM ops x y := fun e => Bool.false_ne_true (h.symm.trans e)

theorem mem_takeWhile {p : Nat → Bool} : ∀ {l : List Nat} {x : Nat}, x ∈ l.takeWhile p → p x = true := by
  intro l
  induction l with
  | nil => intro x h; cases h
  | cons y l ih =>
    intro x h
    rw [List.takeWhile_cons] at h
    split at h
    · rename_i hp
      rw [List.mem_cons] at h
      rcases h with rfl | h
      · exact hp
      · exact ih h
    · cases h
theorem okPlan_spec (h : okPlan ops size (masks ops.toList []) L fa = true) :
    Good ops size (ancM ops) (alM ops) ∧ FaOK (ancM ops) (alM ops) (mvsOf (qOf ops.toList) ops fa) (fsOf (qOf ops.toList) ops fa) ∧ L.Pairwise (Before ops (ancM ops)) ∧ (∀ x ∈ L, ItemOK ops (ancM ops) (alM ops) x) ∧
    (∀ i, i < ops.size → i ∈ flatP L ++ fa) ∧ (∀ i o, ops[i]? = some o → ∀ e ∈ o.after, Region.binds .any e = true → e.on < i) ∧
    MvOK ops (ancM ops) (alM ops) (mvsOf (qOf ops.toList) ops fa) ∧ ∀ x ∈ L, notIn (mvsOf (qOf ops.toList) ops fa) x = true := by
  simp only [okPlan, Bool.and_eq_true, List.all_eq_true] at h
  obtain ⟨h1, h2, h3, ⟨h4, h5⟩, h6, h7, h8⟩ := h
  have pair : ∀ {i j : Nat} {oi oj : Oper}, ops[i]? = some oi → ops[j]? = some oj → pairOK (qOf ops.toList) (masks ops.toList []) ⟨i, oi, oi.looksAt ops⟩ ⟨j, oj, oj.looksAt ops⟩ = true :=
    fun hi hj => (h1 _ (mem_infos hi)).2 _ (mem_infos hj)
  have self : ∀ {i : Nat} {oi : Oper}, ops[i]? = some oi → selfOK size ⟨i, oi, oi.looksAt ops⟩ = true := fun hi => (h1 _ (mem_infos hi)).1
  have look : ∀ {i j : Nat} {oi oj : Oper} {d : Nat}, ops[i]? = some oi → ops[j]? = some oj → oi.dst = some d → d ∈ oj.looksAt ops →
      (ancM ops i j ∨ ancM ops j i) ∧ (isAl (qOf ops.toList) oj = true → ancM ops i j ∧ isAl (qOf ops.toList) oi = false) := by
    intro i j oi oj d hi hj hd hm
    have hp := pair hi hj
    simp only [pairOK, hd, Bool.and_eq_true, memB_iff.2 hm, Bool.not_true, Bool.false_or, Bool.or_eq_true, Bool.not_eq_true'] at hp
    exact ⟨hp.2.1, fun ha => hp.2.2.resolve_left (by rw [ha]; simp)⟩
  refine ⟨⟨fun i j h => anc_lt j i h, ?_, fun i j oi oj d hi hj hd hm => (look hi hj hd hm).1, ?_, ?_, ?_⟩, ⟨nodupB_nodup h4, ?_⟩, ?_, ?_, ?_, ?_, ⟨?_, ?_, ?_⟩, h8⟩
  · intro i j oi oj d hi hj hd hd2
    have hp := pair hi hj
    simp only [pairOK, hd, hd2, Bool.and_eq_true, Bool.or_eq_true, Bool.not_eq_true', Nat.beq_refl] at hp
    exact Nat.eq_of_beq_eq_true (hp.1.resolve_left (by simp))
  · intro l ol hl hol
    rw [isAlAt_iff hol] at hl
    refine ⟨?_, fun i oi d hi hd hm => ?_⟩
    · unfold isAl at hl
      split at hl
      · cases hl
      · rename_i hg; exact hg
    · have := (look hi hol hd hm).2 hl
      exact ⟨this.1, fun ha => by rw [isAlAt_iff hi, this.2] at ha; cases ha⟩
  · intro l ol hl hol tm
    rw [isAlAt_iff hol] at hl
    unfold isAl at hl
    unfold mvOf
    split at hl
    · cases hl
    · rename_i hg
      rw [hg]
      simp only
      split at hl
      · rename_i e; rw [e]
      · rename_i e; rw [e]
      · rename_i e; rw [e]
      · rename_i e; rw [e]
      · cases hl
  · intro i oi d hi hd
    have := self hi
    simp only [selfOK, hd, Bool.and_eq_true] at this
    exact blt_lt this.1
  · intro l hl
    have a2 := h5 l hl
    refine ⟨mem_takeWhile hl, fun i hi => ?_⟩
    obtain ⟨o, ho, _⟩ := anc_spec hi
    have h7 : ancB (masks ops.toList []) l i = true := hi
    have := a2 _ (mem_infos ho)
    rw [h7] at this
    exact memB_iff.1 (by simpa using this)
  · refine pairwiseB_pw ?_ h2
    intro x y hxy
    cases x with
    | one a => cases y with
      | one b =>
        simp only [beforeB, Bool.and_eq_true, Bool.not_eq_true'] at hxy
        exact ⟨(fun e => by subst e; simp at hxy), no_anc hxy.2⟩
      | eff al e rs =>
        simp only [beforeB, Bool.and_eq_true, Bool.not_eq_true', Bool.or_eq_true, List.all_eq_true] at hxy
        obtain ⟨b1, b2, b3, b4⟩ := hxy
        refine ⟨(fun e => by subst e; simp at b1), no_anc b2, fun l hl => no_anc (b3 l hl), b4.imp id ?_⟩
        rintro ⟨b5, b6⟩
        refine ⟨memB_iff.1 b5, fun i oa oi d ha hi hd hm => ?_⟩
        simp only [fresh, ha, hd, List.all_eq_true] at b6
        have := b6 _ (mem_infos hi)
        simpa [memB_iff.2 hm] using this
    | eff al e rs => cases y with
      | one b => exact hxy
      | eff al2 e2 rs2 =>
        simp only [beforeB, Bool.and_eq_true, Bool.not_eq_true', List.all_eq_true] at hxy
        refine ⟨hxy.1, fun l hl => ⟨fun hm => ?_, no_anc (hxy.2 l hl).2⟩⟩
        have := (hxy.2 l hl).1; rw [memB_iff.2 hm] at this; cases this
  · intro x hx
    have := h3 x hx
    cases x with
    | one i =>
      simp only [itemB] at this
      split at this
      · rename_i o ho
        simp only [Bool.and_eq_true, Bool.not_eq_true'] at this
        exact ⟨(fun ha => by rw [isAlAt_iff ho, this.1] at ha; cases ha), o, ho, this.2⟩
      · cases this
    | eff al e rs =>
      simp only [itemB, Bool.and_eq_true, List.all_eq_true] at this
      obtain ⟨b1, b2, b3⟩ := this
      split at b1
      · rename_i o ho
        simp only [Bool.not_eq_true'] at b1
        exact ⟨(fun ha => by rw [isAlAt_iff ho, b1] at ha; cases ha), nodupB_nodup b2, b3, o, ho⟩
      · cases b1
  · intro i hi
    exact memB_iff.1 (h6 _ (mem_infos (Array.getElem?_eq_getElem hi)))
  · intro i o ho e he hb
    have := self ho
    simp only [selfOK, Bool.and_eq_true, List.all_eq_true] at this
    have := this.2 e (by simpa using he)
    rw [hb] at this
    exact blt_lt (by simpa using this)
  · intro m hm ha
    have := (h7 m hm).1
    rw [show isAlAt (qOf ops.toList) ops m = true from ha] at this
    cases this
  · intro m hm
    have := (h7 m hm).2
    unfold mvOKB at this
    split at this
    · rename_i o ho
      split at this
      · cases this
      · rename_i hg
        split at this
        · rename_i s hop
          split at this
          · rename_i d hd
            simp only [Bool.and_eq_true, List.any_eq_true, Bool.not_eq_true'] at this
            obtain ⟨k1, ⟨p, _, k3, k4⟩, _⟩ := this
            split at k4
            · rename_i o' ho'
              split at k4
              · rename_i d' hd'
                have := Nat.eq_of_beq_eq_true k4; subst this
                exact ⟨o, _, d, p.i, o', ho, hg, hop, hd, fun e => by subst e; simp at k1, ho', hd', k3⟩
              · cases k4
            · cases k4
          · cases this
        · cases this
    · cases this
  · intro m om d hm hom hd j oj hj hl
    have := (h7 m hm).2
    unfold mvOKB at this
    rw [hom] at this
    simp only at this
    split at this
    · cases this
    · split at this
      · rw [hd] at this
        simp only [Bool.and_eq_true, List.all_eq_true] at this
        have := this.2.2 _ (mem_infos hj)
        rw [memB_iff.2 hl] at this; cases this
      · cases this

theorem runAl_append {T : Tab} {ops : Array Oper} {b : List Nat} : ∀ {a : List Nat} {tm : PM Value} {h : AH} {Q : PM Value × AH}, runAl T ops (a ++ b) tm h = some Q → ∃ G, runAl T ops a tm h = some G ∧ runAl T ops b G.1 G.2 = some Q := by
  intro a
  induction a with
  | nil => intro tm h Q e; exact ⟨(tm, h), rfl, e⟩
  | cons x a ih =>
    intro tm h Q e
    simp only [List.cons_append, runAl] at e ⊢
    split at e
    · split at e
      · exact ih e
      · split at e
        · exact ih e
        · cases e
    · cases e
theorem mem_flatP {i : Nat} : ∀ {L : List PItem}, i ∈ flatP L → .one i ∈ L ∨ (∃ al rs, .eff al i rs ∈ L) ∨ ∃ al e rs, .eff al e rs ∈ L ∧ i ∈ al := by
  intro L
  induction L with
  | nil => intro h; cases h
  | cons x L ih =>
    intro h
    have up : (PItem.one i ∈ L ∨ (∃ al rs, PItem.eff al i rs ∈ L) ∨ ∃ al e rs, PItem.eff al e rs ∈ L ∧ i ∈ al) → (PItem.one i ∈ x :: L ∨ (∃ al rs, PItem.eff al i rs ∈ x :: L) ∨ ∃ al e rs, PItem.eff al e rs ∈ x :: L ∧ i ∈ al) := by
      rintro (h | ⟨al, rs, h⟩ | ⟨al, e, rs, h, h2⟩)
      · exact .inl (by simp [h])
      · exact .inr (.inl ⟨al, rs, by simp [h]⟩)
      · exact .inr (.inr ⟨al, e, rs, by simp [h], h2⟩)
    cases x with
    | one j =>
      simp only [flatP, List.mem_cons] at h
      rcases h with rfl | h
      · exact .inl (by simp)
      · exact up (ih h)
    | eff al e rs =>
      simp only [flatP, List.mem_append, List.mem_cons] at h
      rcases h with h | rfl | h
      · exact .inr (.inr ⟨al, e, rs, by simp, h⟩)
      · exact .inr (.inl ⟨al, rs, by simp⟩)
      · exact up (ih h)
end

/-- A drawn region. -/
def drawA (T : Tab) (X : Exts) (rec : Nat → List Value → AH → Option (Value × AH)) (fr : AFrame) (cs : List AFrame) (h : AH) (_id : Nat) (ops : Array Oper) (k : List AItem) : Fin :=
  match masks ops.toList [] with
  | ms => match mkPlan ops.toList ms with
    | (L, fa) => ifB (okPlan ops fr.size ms L fa) (match runL T X rec ops L fr.tm h with
      | some p => match runAl T ops fa p.1 p.2 with
        | some q => goOn (fr.upd q.1 k) cs q.2
        | none => .stuck
      | none => .stuck) .stuck

theorem drawA_sound {T : Tab} (ok : TabOK T) (oz : TabZ T) {X : Exts} (hX : ExtOK T X) {rec : Nat → List Value → AH → Option (Value × AH)} (hrec : RecOK T rec) : DrawOK T (drawA T X rec) := by
  intro base r h w fr c f cs id ops k hr hm ht hf hc
  have hm' : f.mode = .run := MoR.run_inv (hm ▸ hf.mode)
  unfold drawA
  simp only
  cases hok : okPlan ops fr.size (masks ops.toList []) (mkPlan ops.toList (masks ops.toList [])).1 (mkPlan ops.toList (masks ops.toList [])).2 with
  | false => trivial
  | true =>
    rw [ifB_true]
    obtain ⟨g, hfa, hpw, hit, hcov, hedge, hmo, hni⟩ := okPlan_spec hok
    generalize (mkPlan ops.toList (masks ops.toList [])).1 = L at *
    generalize (mkPlan ops.toList (masks ops.toList [])).2 = fa at *
    split
    · rename_i p hp
      split
      · rename_i q hq
        have hsplit : fsOf (qOf ops.toList) ops fa ++ mvsOf (qOf ops.toList) ops fa = fa := List.takeWhile_append_dropWhile
        rw [← hsplit] at hq
        obtain ⟨G0, hq1, hq2⟩ := runAl_append hq
        have h0 := hf.todo
        rw [ht] at h0
        obtain ⟨b', k', h1, h2, h3⟩ := h0.cons_inv
        cases h2
        have hst := st_region_draw (P := T.P) (cs := cs) (w := w) hm' h1
        rw [show Region.schedule (T.P.follows .mixedOrders) ops (w.tape w.drawn (.order f.fn id)) = Region.linearise.go .any ops ops.size (w.tape w.drawn (.order f.fn id)) (Array.replicate ops.size false) [] by
          simp only [Region.schedule, ok.mixed, Bool.true_or, if_true]; rfl] at hst
        have hr' : HR T.P r h { w with drawn := w.drawn + 1 } := hr.of_heap rfl
        have hlin := linearise_Lin hedge ops.size (w.tape w.drawn (.order f.fn id)) (Array.replicate ops.size false) (by simp) (by
          intro i o hi; simp [Array.getElem?_replicate] at hi; split at hi <;> simp at hi) (by
          have := List.countP_le_length (p := fun i => !(Array.replicate ops.size false).getD i false) (l := List.range ops.size)
          simpa using this)
        have hD : (fun i => (Array.replicate ops.size false).getD i false = true) = fun _ => False := funext fun i => propext ⟨fun hi => by simp [Array.getElem?_replicate] at hi; split at hi <;> simp at hi, False.elim⟩
        rw [hD] at hlin
        have inv : Inv T X rec ops r h { w with drawn := w.drawn + 1 } fr.size (ancM ops) (alM ops) (mvsOf (qOf ops.toList) ops fa) (fsOf (qOf ops.toList) ops fa) G0 (fun _ => False) (fun _ => False) (fun _ => 0) (fun _ => False) L fr.tm h r { w with drawn := w.drawn + 1 } f.tmps := by
          refine Inv.mk ⟨hr', .refl _ _ _, fun t _ => ⟨hf.tm t, hf.un t⟩, fun l hl => hl.elim, fun l _ hl => hl.elim, fun m hm => hm.elim⟩ ⟨p, G0, hp, hq1, .refl G0⟩ hpw hit (fun _ _ h => h) (fun _ _ _ _ h => h) (fun l => ⟨False.elim, fun h => h.1⟩) ?_ (fun m => ⟨False.elim, fun h => h.1⟩)
            (fun i hi hm => by have := hni _ hi; simp only [notIn, memB_iff.2 hm] at this; cases this) (fun al i rs hi hm => by have := hni _ hi; simp only [notIn, memB_iff.2 hm] at this; cases this) (fun _ _ h => h.elim) hf.size
          intro i hi _
          have := hcov i hi
          rw [List.mem_append] at this
          rcases this with h5 | h5
          · rcases mem_flatP h5 with h6 | h6 | h6
            · exact .inl h6
            · exact .inr (.inl h6)
            · exact .inr (.inr (.inr (.inl h6)))
          · rw [← hsplit, List.mem_append] at h5
            exact h5.elim (fun q => .inr (.inr (.inl q))) (fun q => .inr (.inr (.inr (.inr q))))
        obtain ⟨r1, w1, a1, s1, q1, q2, q3, q4, q5⟩ := region_run ok oz hX hrec g hmo hfa (fun l hl => by
          unfold alM isAlAt at hl
          split at hl
          · rename_i o ho; exact lt_ops ho
          · cases hl) hr' hq2 (f := f) (k := k') (cs := cs) hm' hlin inv
        have hx : Ext r h w r1 q.2 w1 := q2.of_heap_l rfl ⟨rfl, rfl⟩
        refine ⟨r1, w1, { f with tmps := a1, todo := k' }, cs, .head hst (Steps.trans s1 (.one (st_region_end (fr := { f with tmps := a1, todo := .inRegion ops [] :: k' }) hm' rfl))), ?_, hc.mono hx.sub, q1, hx⟩
        exact ⟨hf.fn, q5, q3, q4, h3.mono fun _ _ h => h.mono hx.sub, hf.defers.mono fun _ _ h => h.mono hx.sub, hf.mode.mono hx.sub, hf.kind, hf.round.mono hx.sub⟩
      · trivial
    · trivial

end
end Go.Proofs.YtknchhnibjfocaaDoor.Abs
