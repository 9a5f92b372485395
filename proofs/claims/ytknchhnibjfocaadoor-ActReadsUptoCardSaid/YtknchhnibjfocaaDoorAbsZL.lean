/- An abstract machine: more equations for unknown values: guards, choices, results. -/
import Derived.Test.YtknchhnibjfocaaDoorAbsZK
namespace Go.Proofs.YtknchhnibjfocaaDoor.Abs
open Go
noncomputable section

section
variable {T : Tab} {X : Exts} {call : Abs.Callee} {self : Self} {E : Env} {all : Array Oper} {df : List Nat} {rest : List Oper} {tm : PM Value} {h : AH}
def wantV (want : Bool) : Option Value → Option Bool
  | some (.bool b) => some (b == want)
  | some _ => some false
  | none => none
theorem wantV_bool {want b : Bool} : wantV want (some (.bool b)) = some (b == want) := rfl
def wantG (tm : PM Value) (want : Bool) : Option (Option Nat) → Option Bool
  | some (some d) => wantV want (tm.get d)
  | _ => some false
theorem wantG_some {want : Bool} {d : Nat} : wantG tm want (some (some d)) = wantV want (tm.get d) := rfl
theorem opsB_guard {dst : Option Nat} {op : Op} {ty : TypeId} {pos : String} {after : Array Edge} {j : Nat} {want : Bool} {L : List Oper} :
    opsB T X call self E L.toArray df (⟨dst, op, ty, pos, after, some (j, want)⟩ :: rest) tm h = goG T X call self E L.toArray df dst op ty rest tm h (wantG tm want (L[j]?.map (·.dst))) := by
  have hw : wantedA L.toArray tm ⟨dst, op, ty, pos, after, some (j, want)⟩ = wantG tm want (L[j]?.map (·.dst)) := by
    unfold wantedA
    simp only [List.getElem?_toArray]
    cases L[j]? with
    | none => rfl
    | some o =>
      simp only [Option.bind_some, Option.map_some]
      cases o.dst with
      | none => rfl
      | some d =>
        show (match tm.get d with | some (.bool b) => some (match b, want with | true, true => true | false, false => true | _, _ => false) | some _ => some false | none => none) = wantV want (tm.get d)
        cases tm.get d with
        | none => rfl
        | some v => cases v <;> first | rfl | (rename_i b; cases b <;> cases want <;> rfl)
  rw [opsB, hw]
  cases wantG tm want (L[j]?.map (·.dst)) with
  | none => rfl
  | some b => cases b with
    | false =>
      show (setPut E ⟨dst, op, ty, pos, after, some (j, want)⟩ tm undef fun tm => opsB T X call self E L.toArray df rest tm h) = goC T X call self E L.toArray df dst rest tm (some (undef, h))
      unfold setPut goC; rfl
    | true =>
      have := opsB_cons (T := T) (X := X) (call := call) (self := self) (E := E) (all := L.toArray) (df := df) (rest := rest) (tm := tm) (h := h) (dst := dst) (op := op) (ty := ty) (pos := pos) (after := after)
      rw [opsB] at this
      exact this
theorem goG_true {dst : Option Nat} {op : Op} {ty : TypeId} : goG T X call self E all df dst op ty rest tm h (some true) = goR T X call self E all df dst rest tm (opFn op T X tm ty h) := rfl
theorem goG_false {dst : Option Nat} {op : Op} {ty : TypeId} : goG T X call self E all df dst op ty rest tm h (some false) = goC T X call self E all df dst rest tm (some (undef, h)) := rfl
theorem pick_true {a b : Option Value} : evPick (some (.bool true)) a b h = rv a h := rfl
theorem pick_false {a b : Option Value} : evPick (some (.bool false)) a b h = rv b h := rfl
theorem un_not {b : Bool} : evUnary T .not (.bool b) h = some (.bool (!b), h) := rfl
theorem extract_0 {a : Value} {l : List Value} : evExtract (.tuple (a :: l).toArray) 0 = some a := rfl
theorem extract_1 {a b : Value} {l : List Value} : evExtract (.tuple (a :: b :: l).toArray) 1 = some b := rfl
theorem extract_2 {a b c : Value} {l : List Value} : evExtract (.tuple (a :: b :: c :: l).toArray) 2 = some c := rfl
theorem extract_3 {a b c d : Value} {l : List Value} : evExtract (.tuple (a :: b :: c :: d :: l).toArray) 3 = some d := rfl
theorem evCall_ext {g : Nat} {args : List Value} {fd : Func} {e : List Value → AH → Option (Value × AH)} {v : Value} {h' : AH} (hf : T.ft.get g = some fd) (hb : fd.body = none) (hx : X g = some e) (he : e args h = some (v, h')) :
    evCall T X (.func (.func g) #[] #[]) args h = some (.value v, h') := by
  simp only [evCall, hf, hb, hx]
  simp [he]
end
theorem retB_two {T : Tab} {f : Nat} {tm : PM Value} {h : AH} {fd : Func} {t u : Nat} {v w : Value} (hf : T.ft.get f = some fd) (hr : fd.results = #[.tmp t, .tmp u]) (hv : tm.get t = some v) (hw : tm.get u = some w) : retB T f tm h [] = some (.tuple #[v, w], h) := by
  unfold retB undef1
  simp only [resultA, hf, hr]
  show (match (match resultsA T h tm [.tmp t, .tmp u] with | some l => some (one l) | none => none) with | some v => some (v, h) | none => none) = _
  simp only [resultsA, hv, hw]
  rfl
theorem retB_three {T : Tab} {f : Nat} {tm : PM Value} {h : AH} {fd : Func} {t u s : Nat} {v w x : Value} (hf : T.ft.get f = some fd) (hr : fd.results = #[.tmp t, .tmp u, .tmp s]) (hv : tm.get t = some v) (hw : tm.get u = some w) (hx : tm.get s = some x) :
    retB T f tm h [] = some (.tuple #[v, w, x], h) := by
  unfold retB undef1
  simp only [resultA, hf, hr]
  show (match (match resultsA T h tm [.tmp t, .tmp u, .tmp s] with | some l => some (one l) | none => none) with | some v => some (v, h) | none => none) = _
  simp only [resultsA, hv, hw, hx]
  rfl
theorem x_bits {P : Program} {b : Nat} {h : AH} : xOf P Extern.MathFloatBits.float64bits [.float .f64 b] h = some (.int .u64 (b : Int), h) := rfl
theorem x_frombits {P : Program} {b : Nat} {h : AH} : xOf P Extern.MathFloatBits.float64frombits [.int .u64 (b : Int)] h = some (.float .f64 b, h) := rfl
theorem x_trunc {P : Program} {x : Int} (hx : zok x = true) {h : AH} : xOf P (Extern.MathFloor.toIntegral "math.archTrunc" .zero) [.float .f64 (zd x)] h = some (.float .f64 (zd x), h) := by
  unfold xOf
  show ifB true (match prun P (Extern.MathFloor.toIntegral "math.archTrunc" .zero #[.float .f64 (zd x)]) with | some v => ifB (flat v) (some (v, h)) none | none => none) none = _
  rw [trunc_zd hx]; rfl
/-- The equations, all in one. -/
theorem symAll : type_of% (And.intro @codeB_seq (And.intro @codeB_region (And.intro @codeB_cond (And.intro @codeB_skip (And.intro @codeB_label (And.intro @codeB_ret (And.intro @codeB_exit (And.intro @codeB_block (And.intro @condB_bool (And.intro @opsB_cons (And.intro @opsB_nil (And.intro @ev_tmp (And.intro @ev_int (And.intro @ev_float (And.intro @ev_complex (And.intro @ev_bool (And.intro @ev_string (And.intro @ev_nilSlice (And.intro @ev_nilPtr (And.intro @ev_func (And.intro @get_same (And.intro @get_other (And.intro @args_head (And.intro @args_tail (And.intro @rv_some' (And.intro @rp_some' (And.intro @ru_some' (And.intro @w1_some' (And.intro @goR_value (And.intro @goR_skip (And.intro @goR_enter (And.intro @goC_some (And.intro @goC_none (And.intro @bind_fall (And.intro @bind_jump (And.intro @unblock_fall (And.intro @unblock_ret (And.intro @unblock_exit (And.intro @unblock_goto (And.intro @ifB_true (And.intro @ifB_false (And.intro @endF_ret (And.intro @endF_fall (And.intro @callOp_value (And.intro @callOp_builtin (And.intro @evals_nil (And.intro @evals_cons (And.intro @consV_some (And.intro @goV_some (And.intro @goBu_some (And.intro @b_real (And.intro @b_imag (And.intro @b_complex (And.intro @opsB_guard (And.intro @goG_true (And.intro @goG_false (And.intro @wantG_some (And.intro @wantV_bool (And.intro @pick_true (And.intro @pick_false (And.intro @un_not (And.intro @extract_0 (And.intro @extract_1 (And.intro @extract_2 (@extract_3))))))))))))))))))))))))))))))))))))))))))))))))))))))))))))))))) := And.intro @codeB_seq (And.intro @codeB_region (And.intro @codeB_cond (And.intro @codeB_skip (And.intro @codeB_label (And.intro @codeB_ret (And.intro @codeB_exit (And.intro @codeB_block (And.intro @condB_bool (And.intro @opsB_cons (And.intro @opsB_nil (And.intro @ev_tmp (And.intro @ev_int (And.intro @ev_float (And.intro @ev_complex (And.intro @ev_bool (And.intro @ev_string (And.intro @ev_nilSlice (And.intro @ev_nilPtr (And.intro @ev_func (And.intro @get_same (And.intro @get_other (And.intro @args_head (And.intro @args_tail (And.intro @rv_some' (And.intro @rp_some' (And.intro @ru_some' (And.intro @w1_some' (And.intro @goR_value (And.intro @goR_skip (And.intro @goR_enter (And.intro @goC_some (And.intro @goC_none (And.intro @bind_fall (And.intro @bind_jump (And.intro @unblock_fall (And.intro @unblock_ret (And.intro @unblock_exit (And.intro @unblock_goto (And.intro @ifB_true (And.intro @ifB_false (And.intro @endF_ret (And.intro @endF_fall (And.intro @callOp_value (And.intro @callOp_builtin (And.intro @evals_nil (And.intro @evals_cons (And.intro @consV_some (And.intro @goV_some (And.intro @goBu_some (And.intro @b_real (And.intro @b_imag (And.intro @b_complex (And.intro @opsB_guard (And.intro @goG_true (And.intro @goG_false (And.intro @wantG_some (And.intro @wantV_bool (And.intro @pick_true (And.intro @pick_false (And.intro @un_not (And.intro @extract_0 (And.intro @extract_1 (And.intro @extract_2 (@extract_3))))))))))))))))))))))))))))))))))))))))))))))))))))))))))))))))
end
end Go.Proofs.YtknchhnibjfocaaDoor.Abs
