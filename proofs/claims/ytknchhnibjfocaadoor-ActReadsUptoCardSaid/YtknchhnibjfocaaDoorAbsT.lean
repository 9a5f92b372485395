/- An abstract machine: what an operation looks at; operations that leave the memory alone; allocations. -/
import Derived.Test.YtknchhnibjfocaaDoorAbsS
namespace Go.Proofs.YtknchhnibjfocaaDoor.Abs
open Go
noncomputable section

theorem evals_congr {T : Tab} {tm tm' : PM Value} : ∀ (l : List Operand), (∀ x ∈ l, ev T tm x = ev T tm' x) → evals T tm l = evals T tm' l := by
  intro l
  induction l with
  | nil => intro _; rfl
  | cons x l ih => intro h; simp only [evals, h x (by simp), ih fun y hy => h y (by simp [hy])]
theorem evParts_congr {T : Tab} {tm tm' : PM Value} : ∀ (l : List (Nat × Operand)), (∀ x ∈ l.map (·.2), ev T tm x = ev T tm' x) → evParts T tm l = evParts T tm' l := by
  intro l
  induction l with
  | nil => intro _; rfl
  | cons x l ih =>
    intro h
    obtain ⟨i, x⟩ := x
    simp only [evParts, h x (by simp), ih fun y hy => h y (by simp only [List.map_cons, List.mem_cons]; exact .inr hy)]
theorem evOpt_congr {T : Tab} {tm tm' : PM Value} {x : Option Operand} (h : ∀ y ∈ x.toList, ev T tm y = ev T tm' y) : evOpt T tm x = evOpt T tm' x := by
  cases x with
  | none => rfl
  | some x => simp only [evOpt, h x (by simp)]

theorem evOp_congr {T : Tab} {X : Exts} {tm tm' : PM Value} {o : Oper} {h : AH} (hx : ∀ x ∈ o.op.operands.toList, ev T tm x = ev T tm' x) : evOp T X tm o h = evOp T X tm' o h := by
  obtain ⟨dst, op, ty, pos, after, guard⟩ := o
  cases op <;> simp only [Op.operands] at hx <;> simp only [evOp, opFn]
  case makeFunc fn first captured =>
    simp only [evMakeFunc]
    rw [evals_congr first.toList fun x h => hx x (by simp; exact .inl (by simpa using h)), evals_congr captured.toList fun x h => hx x (by simp; exact .inr (by simpa using h))]
  case build t ps => simp only [evBuildX]; rw [evParts_congr ps.toList fun x h => hx x (by simpa using h)]
  case buildSlice t n ps => simp only [evBuildSliceX]; rw [evParts_congr ps.toList fun x h => hx x (by simpa using h)]
  case makeMap t r => simp only [evMakeMapX]; rw [evOpt_congr fun y h => hx y (by simpa using h)]
  case slice t x lo hi mx =>
    simp only [ev3]
    rw [hx x (by simp), evOpt_congr (x := lo) fun y h => hx y (by simp at h; simp [h]), evOpt_congr (x := hi) fun y h => hx y (by simp at h; simp [h]), evOpt_congr (x := mx) fun y h => hx y (by simp at h; simp [h])]
  case call c =>
    simp only [evCallOp]
    rw [evals_congr c.args.toList fun x h => hx x (by simp [Call.operands]; exact .inr (by simpa using h))]
    split
    · cases hc : c.callee with
      | builtin b => rfl
      | value g => simp only; rw [hx g (by simp [Call.operands, hc])]
      | invoke a b => rfl
    · rfl
  case defer c =>
    simp only [evDefer]
    cases hc : c.callee with
    | builtin b => rfl
    | value g => simp only; rw [hx g (by simp [Call.operands, hc]), evals_congr c.args.toList fun x h => hx x (by simp [Call.operands]; exact .inr (by simpa using h))]
    | invoke a b => rfl
  case binOp bop t x y yt => rw [hx x (by simp), hx y (by simp)]
  case lookup t x y b => rw [hx x (by simp), hx y (by simp)]
  all_goals first
    | rfl
    | (rw [hx _ (by simp)]; done)
    | (simp only [hx _ (List.mem_cons_self ..)]; done)
    | (rename_i x y; rw [hx x (by simp), hx y (by simp)]; done)
    | (rename_i x y z; rw [hx x (by simp), hx y (by simp), hx z (by simp)]; done)
    | skip

/-- Operations that give a value and leave the memory alone. -/
def oneB : Builtin → Bool
  | .len | .cap | .real | .imag | .complex | .min | .max => true
  | _ => false
def isOne (o : Oper) : Bool :=
  match o.op with
  | .move _ | .assign _ | .pick _ _ _ | .build _ _ | .load _ _ | .nilCheck _ | .binOp _ _ _ _ _ | .unOp _ _ _ | .sliceToArrayPointer _ _ | .makeInterface _ _ | .makeFunc _ _ _
  | .slice _ _ _ _ _ | .fieldAddr _ _ _ | .field _ _ _ | .indexAddr _ _ _ | .index _ _ _ | .lookup _ _ _ _ | .typeAssert _ _ _ _ | .extract _ _ => true
  | .convert _ _ _ => true
  | .call c => match c.callee with
    | .builtin b => oneB b
    | _ => false
  | _ => false

def evOne (T : Tab) (X : Exts) (tm : PM Value) (o : Oper) (h : AH) : Option Value :=
  match evOp T X tm o h with
  | some (.value v, h') => ifB (Nat.beq h'.next h.next) (some v) none
  | _ => none

theorem evOne_some {T : Tab} {X : Exts} {tm : PM Value} {o : Oper} {h : AH} {v : Value} (ho : isOne o = true) (e : evOne T X tm o h = some v) : evOp T X tm o h = some (.value v, h) := by
  unfold evOne at e
  split at e
  · rename_i v2 h2 hh
    obtain ⟨e1, e2⟩ := ifB_some e
    cases e2
    have hn := Nat.eq_of_beq_eq_true e1
    rw [hh]
    suffices h2 = h by rw [this]
    obtain ⟨dst, op, ty, pos, after, guard⟩ := o
    have flat : ∀ {s : Sem Value} {x : Value}, flatOp T s h = some (x, h2) → h2 = h := by
      intro s x hx
      unfold flatOp at hx
      split at hx
      · obtain ⟨_, q⟩ := ifB_some hx; cases q; rfl
      · cases hx
    unfold evOp opFn at hh
    cases op <;> simp only [isOne] at ho <;> try (cases ho; done)
    all_goals simp only at hh
    case move x => obtain ⟨_, _, _, q⟩ := rv_some hh; exact q
    case assign x => obtain ⟨_, _, _, q⟩ := rv_some hh; exact q
    case pick c a b =>
      unfold evPick at hh
      split at hh
      · split at hh
        · obtain ⟨_, _, _, q⟩ := rv_some hh; exact q
        · obtain ⟨_, _, _, q⟩ := rv_some hh; exact q
      · cases hh
    case build t ps =>
      unfold evBuildX at hh
      split at hh
      · obtain ⟨x, q, _⟩ := rp_some hh
        unfold evBuild at q
        repeat' split at q
        all_goals first | (cases q; done) | (cases q; rfl) | skip
        all_goals (first | (obtain ⟨_, q⟩ := ifB_some q; repeat' split at q) | skip)
        all_goals first | (cases q; done) | (cases q; rfl) | skip
      · cases hh
    case load t x => obtain ⟨_, _, hh⟩ := w1_some hh; obtain ⟨_, _, _, q⟩ := rv_some hh; exact q
    case nilCheck x => obtain ⟨_, _, hh⟩ := w1_some hh; obtain ⟨_, _, _, q⟩ := rv_some hh; exact q
    case binOp bop t x y yt => obtain ⟨_, _, hh⟩ := w1_some hh; obtain ⟨_, _, hh⟩ := w1_some hh; obtain ⟨_, _, _, q⟩ := rv_some hh; exact q
    case unOp uop t x =>
      obtain ⟨_, _, hh⟩ := w1_some hh
      obtain ⟨x, q, _⟩ := rp_some hh
      unfold evUnary at q
      split at q
      · cases q; rfl
      · obtain ⟨_, q⟩ := ifB_some q; exact flat q
    case convert s d x =>
      obtain ⟨_, _, hh⟩ := w1_some hh
      obtain ⟨x, q, _⟩ := rp_some hh
      unfold evConvert at q
      have bytes : ∀ {e : TypeId} {b : ByteArray} {y : Value}, some (evToBytes e b h) = some (y, h2) → h2 = h := by
        intro e b y hy
        simp only [evToBytes] at hy
        first | (cases hy; simp at hn; done) | (cases hy; exfalso; simp [newCells] at hn)
      repeat' split at q
      all_goals first | (cases q; done) | (cases q; rfl) | exact flat q | exact bytes q | skip
      all_goals (obtain ⟨_, q⟩ := ifB_some q; exact flat q)
    case sliceToArrayPointer t x => obtain ⟨_, _, hh⟩ := w1_some hh; obtain ⟨_, _, _, q⟩ := rv_some hh; exact q
    case makeInterface t x => obtain ⟨_, _, hh⟩ := w1_some hh; obtain ⟨_, _, _, q⟩ := rv_some hh; exact q
    case makeFunc fn a b =>
      unfold evMakeFunc at hh
      repeat' split at hh
      all_goals first | (cases hh; done) | (cases hh; rfl)
    case slice t x lo hi mx =>
      obtain ⟨_, _, hh⟩ := w1_some hh
      unfold ev3 at hh
      repeat' split at hh
      all_goals first | (cases hh; done) | skip
      obtain ⟨x, q, _⟩ := rp_some hh
      unfold evSliceX at q
      split at q
      · obtain ⟨_, q⟩ := ifB_some q; exact flat q
      · split at q
        · cases q; rfl
        · cases q
    case fieldAddr s x f => obtain ⟨_, _, hh⟩ := w1_some hh; obtain ⟨_, _, _, q⟩ := rv_some hh; exact q
    case field s x f => obtain ⟨_, _, hh⟩ := w1_some hh; obtain ⟨_, _, _, q⟩ := rv_some hh; exact q
    case indexAddr t x y => obtain ⟨_, _, hh⟩ := w1_some hh; obtain ⟨_, _, hh⟩ := w1_some hh; obtain ⟨_, _, _, q⟩ := rv_some hh; exact q
    case index t x y => obtain ⟨_, _, hh⟩ := w1_some hh; obtain ⟨_, _, hh⟩ := w1_some hh; obtain ⟨_, _, _, q⟩ := rv_some hh; exact q
    case lookup t x y b => obtain ⟨_, _, hh⟩ := w1_some hh; obtain ⟨_, _, hh⟩ := w1_some hh; obtain ⟨_, _, _, q⟩ := rv_some hh; exact q
    case typeAssert x xt t okk => obtain ⟨_, _, hh⟩ := w1_some hh; obtain ⟨_, _, _, q⟩ := rv_some hh; exact q
    case extract x i => obtain ⟨_, _, hh⟩ := w1_some hh; obtain ⟨_, _, _, q⟩ := rv_some hh; exact q
    case call c =>
      unfold evCallOp at hh
      split at hh
      · split at hh
        · rename_i b hb
          rw [hb] at ho
          cases b <;> simp only [oneB] at ho <;> try (cases ho; done)
          all_goals simp only [evBuiltin] at hh
          all_goals repeat' split at hh
          all_goals first | (cases hh; done) | (cases hh; rfl) | skip
          all_goals (obtain ⟨_, hh⟩ := ifB_some hh)
          all_goals first | (cases hh; rfl) | skip
          all_goals first | (cases hh; done) | (rename_i hp _ _; cases hh; exact flat hp)
        · rename_i g hg; rw [hg] at ho; cases ho
        · cases hh
      · cases hh
  · cases e

def mkAl (T : Tab) (t : TypeId) (l c : Value) : Option (AObj × (Nat → Value)) :=
  match und T t with
  | some (.slice e) => (match natOf l with
    | some l => (match natOf c with
      | some c => (match T.tt.get e with
        | some i => (match i.zero with
          | some z => ifB (Nat.ble l c && (Nat.ble (i.bytes * c) 17592186044416 && Nat.ble c 17592186044416)) (some (.cells (fillPM z (c * i.size)) (c * i.size) e 0 0 .ex, fun n => .slice (some ⟨n, 0, none⟩) l c)) none
          | none => none)
        | none => none)
      | none => none)
    | none => none)
  | _ => none

/- Allocations: the new block, and the value, by the block's number. -/
def allocOf (T : Tab) (tm : PM Value) (o : Oper) : Option (AObj × (Nat → Value)) :=
  match o.op with
  | .alloc e => match zeroOf T e with
    | some z => some (.cells (PM.ofList z.cells.toList) z.cells.toList.length e 0 0 .ex, fun n => .pointer (some ⟨n, 0, none⟩))
    | none => none
  | .box e x => match ev T tm x with
    | some v => some (.cells (PM.ofList v.cells.toList) v.cells.toList.length e 0 0 .ex, fun n => .pointer (some ⟨n, 0, none⟩))
    | none => none
  | .buildSlice t len ps => match evParts T tm ps.toList with
    | some vs => match und T t with
      | some (.slice e) => match szOf T e with
        | some s => match zeroOf T e with
          | some z => ifB (Nat.ble (len * s) 16777216 && Nat.blt len XB) (match fillA (fun i => some (i * s, s)) (zeros z (len * s)) vs with
              | some l => some (.cells (PM.ofList l) l.length e 0 0 .ex, fun n => .slice (some ⟨n, 0, none⟩) len len)
              | none => none) none
          | none => none
        | none => none
      | _ => none
    | none => none
  | .makeSlice t l c => match ev T tm l with
    | some l => match ev T tm c with
      | some c => mkAl T t l c
      | none => none
    | none => none
  | _ => none

theorem allocOf_congr {T : Tab} {tm tm' : PM Value} {o : Oper} (hx : ∀ x ∈ o.op.operands.toList, ev T tm x = ev T tm' x) : allocOf T tm o = allocOf T tm' o := by
  obtain ⟨dst, op, ty, pos, after, guard⟩ := o
  cases op <;> simp only [Op.operands] at hx <;> simp only [allocOf]
  case box e x => rw [hx x (by simp)]
  case buildSlice t n ps => rw [evParts_congr ps.toList fun x h => hx x (by simpa using h)]
  case makeSlice t l c => rw [hx l (by simp), hx c (by simp)]

theorem fill_OR {P : Program} {r : Ren} {z : Value} {n : Nat} {cs : Array Value} (hn : cs.size = n) (h : ∀ i, i < n → ∃ v v', (fillPM z n).get i = some v ∧ cs[i]? = some v' ∧ VR r v v') (e : TypeId) (b : Nat) :
    OR P r ⟨b, 0, 0, 0⟩ (.cells (fillPM z n) n e 0 0 .ex) (.cells cs e) := by
  refine ⟨cs, 0, 0, rfl, by simp [hn], fun _ => ⟨rfl, hn⟩, (fun h => nomatch h), ?_, fun h => h, fun i _ _ h => by omega⟩
  intro i hi
  obtain ⟨v, v', h1, h2, h3⟩ := h i hi
  exact ⟨v, v', h1, by simpa using h2, h3⟩

theorem cells_OR {P : Program} {r : Ren} {l : List Value} {cs : Array Value} (h : LR r l cs.toList) (e : TypeId) (b : Nat) : OR P r ⟨b, 0, 0, 0⟩ (.cells (PM.ofList l) l.length e 0 0 .ex) (.cells cs e) := by
  have hs : cs.size = l.length := by have := h.1; simpa using this.symm
  refine ⟨cs, 0, 0, rfl, by simp [hs], fun _ => ⟨rfl, hs⟩, (fun h => nomatch h), ?_, fun h => h, fun i _ _ h => by omega⟩
  intro i hi
  obtain ⟨x', a, b⟩ := h.get (List.getElem?_eq_getElem hi)
  exact ⟨_, x', by rw [PM.get_ofList, List.getElem?_eq_getElem hi], by simpa using a, b⟩

/-- What an allocation does. -/
def AllocR (P : Program) (r : Ren) (obj : AObj) (mk : Nat → Value) (ob : Obj) (mk' : Nat → Value) : Prop :=
  obj.ro = false ∧ ∀ (r2 : Ren) (n b : Nat), Sub r r2 → r2 n = some ⟨b, 0, 0, 0⟩ → OR P r2 ⟨b, 0, 0, 0⟩ obj ob ∧ VR r2 (mk n) (mk' b)
theorem AllocR.mono {P : Program} {r r' : Ren} (s : Sub r r') {obj : AObj} {mk : Nat → Value} {ob : Obj} {mk' : Nat → Value} (h : AllocR P r obj mk ob mk') : AllocR P r' obj mk ob mk' :=
  ⟨h.1, fun r2 n b h2 h3 => h.2 r2 n b (s.trans h2) h3⟩

theorem allocOf_sound {T : Tab} (ok : TabOK T) (oz : TabZ T) {r : Ren} {tm : PM Value} {f : Operand → Value} (he : ER T r tm f) {o : Oper} {obj : AObj} {mk : Nat → Value} (e : allocOf T tm o = some (obj, mk)) :
    ∃ ob mk', (∀ w, (execOp f o).run T.P w = .ok (.value (mk' w.heap.size)) { w with heap := w.heap.push ob }) ∧ AllocR T.P r obj mk ob mk' := by
  obtain ⟨dst, op, ty, pos, after, guard⟩ := o
  cases op <;> simp only [allocOf] at e <;> try (cases e; done)
  case alloc el =>
    split at e
    · rename_i z hz
      cases e
      obtain ⟨i, hi, hzi⟩ := zero_ok ok hz
      refine ⟨.cells z.cells el, fun n => .pointer (some ⟨n, 0, none⟩), ?_, rfl, fun r2 n b _ hb => ⟨cells_OR (VR.of_flat r2 z (zeroFlat oz hz)).cells el b, .ptr n 0 ⟨b, 0, 0, 0⟩ hb⟩⟩
      intro w
      show (do pure (Next.value (← Instr.alloc el true (.tuple #[]))) : Sem Next).run T.P w = _
      simp [Instr.alloc, run_zero w hi hzi, newVar, run_newRow]
    · cases e
  case box el x =>
    split at e
    · rename_i v hv
      cases e
      refine ⟨.cells (f x).cells el, fun n => .pointer (some ⟨n, 0, none⟩), ?_, rfl, fun r2 n b s hb => ⟨cells_OR ((he x v hv).mono s).cells el b, .ptr n 0 ⟨b, 0, 0, 0⟩ hb⟩⟩
      intro w
      show (do pure (Next.value (← Instr.box el (f x))) : Sem Next).run T.P w = _
      simp [Instr.box, newVar, run_newRow]
    · cases e
  case buildSlice t len ps =>
    split at e
    · rename_i vs hvs
      split at e
      · rename_i el hel
        split at e
        · rename_i s hs
          split at e
          · rename_i z hz
            obtain ⟨e1, e2⟩ := ifB_some e
            rw [Bool.and_eq_true] at e1
            have h1 := ble_le e1.1
            have h2 := blt_lt e1.2
            split at e2
            · rename_i l hl
              cases e2
              have hp : PR r vs (ps.map fun p => (p.1, f p.2)).toList := by simpa using evParts_sound he _ _ hvs
              have hd := und_ok ok hel
              obtain ⟨i, hi, hzs⟩ := sz_ok ok hs
              subst hzs
              obtain ⟨i2, hi2, hzi⟩ := zero_ok ok hz
              rw [hi] at hi2; cases hi2
              have hzf := zeroFlat oz hz
              let cs : Array Value := ((Array.range (len * i.size)).map (z.cells[· % z.cells.size]!))
              have hcs : cs.toList = zeros z (len * i.size) := by simp [cs, zeros]
              have hcells : flatAll z.cells.toList = true := (flatAll_iff _).2 (by
                intro y hy
                have := (VR.of_flat r z hzf).cells
                revert hy
                cases z <;> simp_all [Value.cells, flat, flatAll_iff])
              have hzl : LR r (zeros z (len * i.size)) cs.toList := by
                rw [hcs]
                refine LR.of_flat r _ ((flatAll_iff _).2 ?_)
                intro y hy
                simp only [zeros, List.mem_map, List.mem_range] at hy
                obtain ⟨k, hk, rfl⟩ := hy
                by_cases hsz : z.cells.size = 0
                · have : z.cells = #[] := Array.eq_empty_of_size_eq_zero hsz
                  simp [this]; rfl
                · have hlt : k % z.cells.size < z.cells.size := Nat.mod_lt _ (by omega)
                  rw [getElem!_pos z.cells _ hlt]
                  exact (flatAll_iff _).1 hcells _ (by simp)
              obtain ⟨cs2, f1, f2, f3⟩ := fillA_sound vs (ps.map fun p => (p.1, f p.2)).toList _ _ cs hp hzl hl
              refine ⟨.cells cs2 el, fun n => .slice (some ⟨n, 0, none⟩) len len, ?_, rfl, fun r2 n b s hb => ⟨cells_OR (f2.mono s) el b, .slEx n 0 len len ⟨b, 0, 0, 0⟩ hb h2⟩⟩
              intro w
              show (do pure (Next.value (← Instr.buildSlice t len (ps.map fun (i, x) => (i, f x)))) : Sem Next).run T.P w = _
              have hpe : (ps.map fun (i, x) => (i, f x)) = ps.map fun p => (p.1, f p.2) := rfl
              rw [hpe]
              by_cases h0 : len * i.size = 0
              · have hcs0 : cs = ((Array.range (len * i.size)).map ((#[] : Array Value)[· % (#[] : Array Value).size]!)) := by simp [cs, h0]
                rw [hcs0] at f1
                simp only [Instr.buildSlice, Sem.run_bind, run_und w hd, run_size w hi, Result.andThen_ok, Sem.run_ite, h0, if_true, Sem.run_pure]
                simp only [h0] at f1
                simp only [f1, run_newRow, Sem.run_bind, Result.andThen_ok, Sem.run_pure]
                try rfl
                try simp
              · simp only [Instr.buildSlice, Sem.run_bind, run_und w hd, run_size w hi, Result.andThen_ok, Sem.run_ite, if_neg (by omega : ¬ len * i.size > 2 ^ 24), h0, if_false, Sem.run_pure, run_zero w hi hzi]
                simp only [cs] at f1
                simp only [f1, run_newRow, Sem.run_bind, Result.andThen_ok, Sem.run_pure]
            · cases e2
          · cases e
        · cases e
      · cases e
    · cases e
  case makeSlice t lo co =>
    split at e
    · rename_i l hl
      split at e
      · rename_i c hc
        unfold mkAl at e
        split at e
        · rename_i el hel
          split at e
          · rename_i ln hln
            split at e
            · rename_i cn hcn
              split at e
              · rename_i i hi0
                split at e
                · rename_i z hz
                  obtain ⟨e1, e2⟩ := ifB_some e
                  cases e2
                  rw [Bool.and_eq_true, Bool.and_eq_true] at e1
                  have q1 := ble_le e1.1
                  have q2 := ble_le e1.2.1
                  have q3 := ble_le e1.2.2
                  obtain ⟨k1, rfl⟩ := natOf_ok hln
                  obtain ⟨k2, rfl⟩ := natOf_ok hcn
                  have v1 := he lo _ hl
                  have v2 := he co _ hc
                  have hd := und_ok ok hel
                  have hi := ok.t el i hi0
                  have hzf := (oz el i z hi0 hz).1
                  refine ⟨.cells ((Array.range (cn * i.size)).map (z.cells[· % z.cells.size]!)) el, fun n => .slice (some ⟨n, 0, none⟩) ln cn, ?_, rfl, fun r2 n b s hb => ⟨fill_OR (by simp) ?_ el b, .slEx n 0 ln cn ⟨b, 0, 0, 0⟩ hb (by unfold XB; omega)⟩⟩
                  · intro w
                    show (do pure (Next.value (← Instr.makeSlice t (f lo) (f co))) : Sem Next).run T.P w = _
                    generalize f lo = flo at v1 ⊢
                    generalize f co = fco at v2 ⊢
                    cases v1; cases v2
                    have b1 : ¬ (cn : Int) < 0 := by omega
                    have b2 : ¬ (i.bytes : Int) * (cn : Int) > 2 ^ 48 := by
                      have : (i.bytes : Int) * (cn : Int) = ((i.bytes * cn : Nat) : Int) := by simp
                      rw [this, show ((2 : Int) ^ 48) = 281474976710656 from by decide]
                      omega
                    have b3 : ¬ (ln : Int) < 0 := by omega
                    have b4 : ¬ (ln : Int) > (cn : Int) := by omega
                    by_cases h0 : cn * i.size = 0
                    · simp only [Instr.makeSlice, Sem.run_bind, run_und w hd, Result.andThen_ok, asInt, asIntOf, Sem.run_pure, run_info w hi, wrap_small cn q3, wrap_small ln (by omega), b1, b2, b3, b4, decide_false, Bool.or_self, Bool.false_eq_true, if_false,
                        run_askRoom, Int.toNat_natCast, run_size w hi, h0, if_true, run_newRow]
                      simp [show Array.range 0 = #[] from rfl]
                    · simp only [Instr.makeSlice, Sem.run_bind, run_und w hd, Result.andThen_ok, asInt, asIntOf, Sem.run_pure, run_info w hi, wrap_small cn q3, wrap_small ln (by omega), b1, b2, b3, b4, decide_false, Bool.or_self, Bool.false_eq_true, if_false,
                        run_askRoom, Int.toNat_natCast, run_size w hi, h0, run_newRow, run_zero w hi hz]
                  · intro j hj
                    exact ⟨_, _, fillPM_get z _ j hj, by simp [hj], zeroCell_rel r2 hzf j⟩
                · cases e
              · cases e
            · cases e
          · cases e
        · cases e
      · cases e
    · cases e
end
end Go.Proofs.YtknchhnibjfocaaDoor.Abs
