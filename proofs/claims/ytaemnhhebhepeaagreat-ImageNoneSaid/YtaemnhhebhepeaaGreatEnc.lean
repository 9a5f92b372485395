/- The node that is all 0, written: what it answers, for every memory. -/
import Derived.Test.YtaemnhhebhepeaaGreatSpin
import Derived.Test.YtaemnhhebhepeaaGreatAbsZH
import Derived.Test.YtaemnhhebhepeaaGreatAbsZI
namespace Go.Proofs.YtaemnhhebhepeaaGreat.Abs
open Go Go.Proofs
noncomputable section
noncomputable def X0 : Exts := xMath Tryz.prog 175 176 177
def zeroNode : Value := .agg #[.int .i64 0, .int .i64 0, .int .i64 0, .int .i64 0, .int .i64 0, .int .i64 0, .int .i64 0, .int .i64 0, .int .i64 0, .int .i64 0, .slice none 0 0, .int .i64 0]
def zeroHalf : List Value := List.replicate 28 (.int .u8 0) ++ [.int .u8 161, .int .u8 145, .int .u8 248, .int .u8 178]
def encV (b : Nat) : Value := .tuple #[.slice (some ⟨b, 0, none⟩) 32 (XB + 32), .int .i64 0]
theorem encV_hv (r r' : Ren) (b : Nat) (bk : Bk) (v2 : Value) (h1 : r 23 = some bk) (h2 : r' b = some bk) (h : VR r (encV 23) v2) : VR r' (encV b) v2 := by
  cases h with
  | tuple a a' e g =>
    have hs : a'.size = 2 := by rw [← e]; rfl
    obtain ⟨x, y, rfl⟩ : ∃ x y, a' = #[x, y] := by
      obtain ⟨l⟩ := a'
      match l, hs with
      | [x, y], _ => exact ⟨x, y, rfl⟩
    have g0 := g 0 _ x rfl rfl
    have g1 := g 1 _ y rfl rfl
    cases g1
    refine .tuple _ _ rfl ?_
    intro i u u' e1 e2
    match i with
    | 0 =>
      cases e1; cases e2
      have g0' : VR r (.slice (some ⟨23, 0, none⟩) 32 (XB + 32)) x := g0
      generalize hcp : XB + 32 = cp at g0'
      cases g0' with
      | slEx b o l c bk' hb hc => omega
      | slIn b o l k o' c' bk' hb q1 q2 q3 q4 =>
        rw [h1] at hb; cases hb
        obtain rfl : k = 32 := by omega
        exact .slIn _ _ _ _ _ _ bk h2 q1 q2 q3 q4
    | 1 => cases e1; cases e2; exact .int _ _
    | n + 2 => simp at e1
theorem enc_run : memoB encV 23 32 5 0 0 zeroHalf (callN T0 X0 spinS 100000 100 98 [zeroNode] (startH Tryz.prog)) = true := by kernel_rfl
def encT : List Value → AH → Option (Value × AH)
  | [v], h => (match eqV v zeroNode with
    | true => some (encV h.next, h.new (.cells (PM.ofList zeroHalf) 32 5 0 0 .loose))
    | false => none)
  | _, _ => none
theorem encT_ok (ok : TabOK T0) (oz : TabZ T0) (hX : ExtOK T0 X0) : ∀ args h v h', encT args h = some (v, h') → CallOK T0 98 args h v h' := by
  intro args h v h' e
  unfold encT at e
  split at e
  · split at e
    · rename_i hq
      have := eqV_eq _ _ hq; subst this
      cases e
      have hc : RecOK T0 (callN T0 X0 spinS 100000 100) := by rw [callN_eq]; exact callB_sound ok oz hX (spinS_ok ok oz hX) _ _
      exact memo_run (P := Tryz.prog) hc rfl (by decide) enc_run encV_hv _
    · cases e
  · cases e
def encS : Sums := addS 98 encT spinS
theorem encS_ok (ok : TabOK T0) (oz : TabZ T0) (hX : ExtOK T0 X0) : SumOK T0 encS := addS_ok (spinS_ok ok oz hX) (encT_ok ok oz hX)
end
end Go.Proofs.YtaemnhhebhepeaaGreat.Abs
