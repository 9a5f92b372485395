/- Acts: the contracts, joined. -/
import Derived.Test.YtknchhnibjfocaaDoorLaws
import Derived.Test.YtknchhnibjfocaaDoorAbsZN
import Derived.Stop.LaidErr
import Derived.Test.YtknchhnibjfocaaDoorCards
import Derived.Test.YtknchhnibjfocaaDoorTie
import Derived.MakeChecks
import Derived.Lib.LaidTab
import Derived.WalkKit
import Derived.ProofKit
import Derived.OpenShut
import Derived.HandedShaped
import Derived.Deep.DeepHandedRow
import Derived.Deep.DeepWitnessRowRef
import Derived.Lib.LaidIn
import Derived.Carry
namespace Go.Proofs.YtknchhnibjfocaaDoor.Abs
open Go Go.Proofs
noncomputable section
variable {M : Nat}
set_option maxRecDepth 10000
def actS : Sums := addS 21 sItoa (addS 42 sIndex (addS 43 sAtoi (addS 26 sSplit (addS 22 sJoin (addS 45 sCopy (addS 34 sString noSums))))))
theorem actS_ok : SumOK T0 actS := addS_ok (addS_ok (addS_ok (addS_ok (addS_ok (addS_ok (addS_ok (noSums_ok T0) sString_ok) sCopy_ok) sJoin_ok) sSplit_ok) sAtoi_ok) sIndex_ok) sItoa_ok
/-- Functions whose fuel grows with what came in. -/
def bigF (f : Nat) : Bool := [20, 24, 27, 30, 29, 31, 15, 16, 17, 18, 7, 8, 5].any (Nat.beq f)
def fuL (M f : Nat) : Nat := bif bigF f then M + 3000 else 3000
abbrev C (M d : Nat) : Abs.Callee := callU T0 X0 actS (fuL M) d
theorem C_sum {f : Nat} {g : List Value → AH → Option (Value × AH)} (hf : actS f = some g) {d : Nat} {args : List Value} {h : AH} {r : Value × AH} (e : g args h = some r) : C M (d + 1) f args h = some r := by
  show (match actS f with
    | some g => (match g args h with
      | some r => some r
      | none => frameB T0 X0 (C M d) (fuL M f) f args h)
    | none => frameB T0 X0 (C M d) (fuL M f) f args h) = _
  rw [hf]; simp only [e]
theorem C_fu {f : Nat} (hf : actS f = none) (d : Nat) (args : List Value) (h : AH) : C M (d + 1) f args h = frameB T0 X0 (C M d) (fuL M f) f args h := by
  show (match actS f with
    | some g => (match g args h with
      | some r => some r
      | none => frameB T0 X0 (C M d) (fuL M f) f args h)
    | none => frameB T0 X0 (C M d) (fuL M f) f args h) = _
  rw [hf]
theorem C_f {f : Nat} (hf : actS f = none) (hb : bigF f = false) (d : Nat) (args : List Value) (h : AH) : C M (d + 1) f args h = frameB T0 X0 (C M d) 3000 f args h := by
  rw [C_fu hf]; unfold fuL; rw [hb]; rfl
theorem C_big {f : Nat} (hf : actS f = none) (hb : bigF f = true) (d : Nat) (args : List Value) (h : AH) : C M (d + 1) f args h = frameB T0 X0 (C M d) (M + 3000) f args h := by
  rw [C_fu hf]; unfold fuL; rw [hb]; rfl
theorem at1 {d k : Nat} (h : k + 1 ≤ d) : ∃ e, d = e + 1 ∧ k ≤ e := ⟨d - 1, by omega, by omega⟩
theorem s_lib (d : Nat) (hd : 1 ≤ d) : LibC (C M d) := by
  obtain ⟨e, rfl, _⟩ := at1 hd
  exact ⟨fun _ _ _ q => C_sum rfl q, fun _ _ _ q => C_sum rfl q, fun _ _ _ q => C_sum rfl q, fun _ _ _ q => C_sum rfl q, fun _ _ _ q => C_sum rfl q, fun _ _ _ q => C_sum rfl q, fun _ _ _ q => C_sum rfl q⟩
theorem s_plain (d : Nat) (hd : 1 ≤ d) : PlainC (C M d) 36 := fun b h => by
  obtain ⟨e, rfl, _⟩ := at1 hd
  rw [C_f rfl rfl]; exact plain_S b h
theorem s_rplain (d : Nat) (hd : 1 ≤ d) : PlainC (C M d) 40 := fun b h => by
  obtain ⟨e, rfl, _⟩ := at1 hd
  rw [C_f rfl rfl]; exact rplain_S b h
theorem s_digit (d : Nat) (hd : 1 ≤ d) : DigC (C M d) := fun b h => by
  obtain ⟨e, rfl, _⟩ := at1 hd
  rw [C_f rfl rfl]; exact rdigit_S b h
theorem s_wbyte (d : Nat) (hd : 2 ≤ d) : WByteC (C M d) := fun n b l h x hb hl => by
  obtain ⟨e, rfl, he⟩ := at1 hd
  rw [C_f rfl rfl]; exact WriteByte_S (s_lib e he) hb x hl
theorem s_wstr (d : Nat) (hd : 2 ≤ d) : WStrC (C M d) := fun n b l h s hb hs hl => by
  obtain ⟨e, rfl, he⟩ := at1 hd
  rw [C_f rfl rfl]; exact WriteString_S (s_lib e he) hb s hs hl
theorem s_blen (d : Nat) (hd : 1 ≤ d) : BLenC (C M d) := fun n b l h hb => by
  obtain ⟨e, rfl, he⟩ := at1 hd
  rw [C_f rfl rfl]; exact Len_S hb
theorem s_bstr (d : Nat) (hd : 1 ≤ d) : BStrC (C M d) := fun n b l h hb hl => String_S (s_lib d hd) hb hl
theorem s_Word (hM : M < 1000000000) (d : Nat) (hd : 3 ≤ d) : WordC (C M d) 20 M := fun l h hl => by
  obtain ⟨e, rfl, he⟩ := at1 hd
  rw [C_big rfl rfl]; exact Word_S (s_lib e (by omega)) (s_plain e (by omega)) (s_wbyte e he) (s_wstr e he) M l h hl (by omega)
theorem s_rWord (hM : M < 1000000000) (d : Nat) (hd : 2 ≤ d) : WordC (C M d) 24 M := fun l h hl => by
  obtain ⟨e, rfl, he⟩ := at1 hd
  rw [C_big rfl rfl]; exact rWord_S (s_rplain e he) M l h hl (by omega)
theorem s_text (hM : M < 1000000000) (d : Nat) (hd : 2 ≤ d) : TextC (C M d) 27 M := fun l h hl => by
  obtain ⟨e, rfl, he⟩ := at1 hd
  rw [C_big rfl rfl]; exact text_S (s_lib e he) (s_plain e he) M l h hl (by omega)
theorem s_rtext (hM : M < 1000000000) (d : Nat) (hd : 2 ≤ d) : TextC (C M d) 30 M := fun l h hl => by
  obtain ⟨e, rfl, he⟩ := at1 hd
  rw [C_big rfl rfl]; exact rtext_S (s_digit e he) (s_rplain e he) M l h hl (by omega)
theorem s_verbs (d : Nat) (hd : 1 ≤ d) : VerbsC (C M d) := fun h => by
  obtain ⟨e, rfl, he⟩ := at1 hd
  rw [C_f rfl rfl]; exact verbs_S h
theorem s_Words (hM : M < 1000000000) (d : Nat) (hd : 1 ≤ d) : WordsC (C M d) M := fun l h hl => by
  obtain ⟨e, rfl, he⟩ := at1 hd
  rw [C_big rfl rfl]; exact Words_S M l h hl (by omega)
theorem s_Parts (hM : M < 1000000000) (h20 : 20 ≤ M) (d : Nat) (hd : 2 ≤ d) : PartsC (C M d) := fun k h => by
  obtain ⟨e, rfl, he⟩ := at1 hd
  rw [C_f rfl rfl]; exact Parts_S M h20 (s_Words hM e he) k h
theorem s_Number (d : Nat) (hd : 1 ≤ d) : NumberC (C M d) := fun n h hn => by
  obtain ⟨e, rfl, he⟩ := at1 hd
  rw [C_f rfl rfl]; exact Number_S n h hn.1 hn.2
theorem s_number (hM : M < 1000000000) (d : Nat) (hd : 2 ≤ d) : NumC (C M d) 28 M := fun w h hw hg => by
  obtain ⟨e, rfl, he⟩ := at1 hd
  rw [C_f rfl rfl]; exact number_S (s_lib e he) w h (by omega) hg
theorem s_rnumber (hM : M < 1000000000) (d : Nat) (hd : 2 ≤ d) : NumC (C M d) 31 M := fun w h hw hg => by
  obtain ⟨e, rfl, he⟩ := at1 hd
  rw [C_big rfl rfl]; exact rnumber_S (s_Number e he) M w h hw (by omega)
theorem s_Line (hM : M < 1000000000) (d : Nat) (hd : 4 ≤ d) : LineC (C M d) 9 M := fun a v h hr hg h4 ha => by
  obtain ⟨e, rfl, he⟩ := at1 hd
  rw [C_f rfl rfl]; exact Line_S (s_lib e (by omega)) (s_verbs e (by omega)) M (by omega) (s_Word hM e he) a v h hr hg h4 ha
theorem s_rLine (hM : M < 1000000000) (h20 : 20 ≤ M) (d : Nat) (hd : 3 ≤ d) : LineC (C M d) 10 M := fun a v h hr hg h4 ha => by
  obtain ⟨e, rfl, he⟩ := at1 hd
  rw [C_f rfl rfl]; exact rLine_S (s_Number e (by omega)) (s_Parts hM h20 e he) M (by omega) (s_rWord hM e he) a v h hr ha
theorem s_Act (hM : M < 1000000000) (d : Nat) (hd : 3 ≤ d) : ActC (C M d) 12 M := fun l h hl hg h4 => by
  obtain ⟨e, rfl, he⟩ := at1 hd
  rw [C_f rfl rfl]; exact Act_S (s_lib e (by omega)) (s_verbs e (by omega)) M (by omega) (s_text hM e he) (s_number hM e he) l h hl hg h4
theorem s_rAct (hM : M < 1000000000) (h20 : 20 ≤ M) (d : Nat) (hd : 3 ≤ d) : ActC (C M d) 13 M := fun l h hl hg h4 => by
  obtain ⟨e, rfl, he⟩ := at1 hd
  rw [C_f rfl rfl]; exact rAct_S M (s_Words hM e (by omega)) (s_Parts hM h20 e he) (by omega) (s_rtext hM e he) (s_rnumber hM e he) l h hl hg h4
theorem s_Same (d : Nat) (hd : 1 ≤ d) : SameC (C M d) := fun a b v w h hv hw => by
  obtain ⟨e, rfl, he⟩ := at1 hd
  rw [C_f rfl rfl]; exact Same_S a b v w h hv hw
theorem s_Clip (d : Nat) (hd : 1 ≤ d) : ClipC (C M d) := fun n h v LL ho h0 hl => by
  obtain ⟨e, rfl, he⟩ := at1 hd
  rw [C_f rfl rfl]; exact Clip_S n h v LL ho h0 hl
theorem s_Script (hM : M < 1000000000) (d : Nat) (hd : 5 ≤ d) : ScriptC (C M d) 15 M := fun v L h hL hs x => by
  obtain ⟨e, rfl, he⟩ := at1 hd
  rw [C_big rfl rfl]; exact Script_S M hM (s_Line hM e he) (s_wstr e (by omega)) (s_blen e (by omega)) (s_bstr e (by omega)) v L h hL hs x
theorem s_rScript (hM : M < 1000000000) (h20 : 20 ≤ M) (d : Nat) (hd : 4 ≤ d) : ScriptC (C M d) 16 M := fun v L h hL hs x => by
  obtain ⟨e, rfl, he⟩ := at1 hd
  rw [C_big rfl rfl]; exact rScript_S M hM (s_rLine hM h20 e he) v L h hL hs x
theorem s_Acts (hM : M < 1000000000) (d : Nat) (hd : 4 ≤ d) : ActsC (C M d) 17 M := fun s h hs hg h4 => by
  obtain ⟨e, rfl, he⟩ := at1 hd
  rw [C_big rfl rfl]; exact Acts_S (s_lib e (by omega)) M hM (s_Act hM e he) (s_Clip e (by omega)) s h hs hg h4
theorem s_rActs (hM : M < 1000000000) (h20 : 20 ≤ M) (d : Nat) (hd : 4 ≤ d) : ActsC (C M d) 18 M := fun s h hs hg h4 => by
  obtain ⟨e, rfl, he⟩ := at1 hd
  rw [C_big rfl rfl]; exact rActs_S M hM (s_rAct hM h20 e he) s h hs hg h4
theorem s_awake (hM : M < 1000000000) (h100 : 100 ≤ M) (d : Nat) (hd : 5 ≤ d) : AwC (C M d) := fun h hg h4 => by
  obtain ⟨e, rfl, he⟩ := at1 hd
  rw [C_f rfl rfl]; exact awake_S M h100 (s_Line hM e he) (s_Act hM e (by omega)) h hg h4
/- The laws. -/
theorem l_Lines (hM : M < 1000000000) (h100 : 100 ≤ M) (a : ActD) (d : Value) (h : AH) (hr : Row h.next h d (byteVals a.data) 5) (hg : Glob h) (h4 : 4 ≤ h.next) (ha : SmallA M a) : ∃ h', C M 10 3 [actV a d] h = some (.bool true, h') := by
  rw [C_f rfl rfl]; exact ActLines_S M (s_Line hM 9 (by omega)) (s_rLine hM (by omega) 9 (by omega)) (s_awake hM h100 9 (by omega)) a d h hr hg h4 ha
theorem l_Reads (hM : M < 1000000000) (h100 : 100 ≤ M) (s : List UInt8) (h : AH) (hs : s.length ≤ M) (hg : Glob h) (h4 : 4 ≤ h.next) : ∃ h', C M 10 4 [sv s] h = some (.bool true, h') := by
  rw [C_f rfl rfl]; exact ActReads_S M (s_Act hM 9 (by omega)) (s_rAct hM (by omega) 9 (by omega)) (s_awake hM h100 9 (by omega)) (s_Same 9 (by omega)) s h hs hg h4
theorem l_Scripts (hM : M < 1000000000) (h100 : 100 ≤ M) (v : Value) (L : AL) (h : AH) (hL : L.length ≤ M) (hsm : ∀ x ∈ L, SmallA M x.1) (x : ListI h.next h v L) : ∃ h', C M 10 6 [v] h = some (.bool true, h') := by
  rw [C_f rfl rfl]; exact ActScripts_S M (s_Script hM 9 (by omega)) (s_rScript hM (by omega) 9 (by omega)) (s_awake hM h100 9 (by omega)) v L h hL hsm x
theorem l_Texts (hM : M < 1000000000) (h100 : 100 ≤ M) (s : List UInt8) (h : AH) (hs : s.length ≤ M) (hg : Glob h) (h4 : 4 ≤ h.next) : ∃ h', C M 10 7 [sv s] h = some (.bool true, h') := by
  rw [C_big rfl rfl]; exact ActTexts_S M hM (s_Acts hM 9 (by omega)) (s_rActs hM (by omega) 9 (by omega)) (s_awake hM h100 9 (by omega)) (s_Same 9 (by omega)) s h hs hg h4 (Nat.le_trans (actsL_len s) hs)
theorem l_Back (hM : M < 1000000000) (h100 : 65536 ≤ M) (v : Value) (L : AL) (s : List UInt8) (h : AH) (hL : L.length ≤ M) (hsm : ∀ x ∈ L, SmallA M x.1) (hs : s.length ≤ M) (x : ListI h.next h v L) : ∃ h', C M 10 8 [v, sv s] h = some (.bool true, h') := by
  rw [C_big rfl rfl]; exact ActBack_S M hM h100 (s_Script hM 9 (by omega)) (s_Acts hM 9 (by omega)) (s_awake hM (by omega) 9 (by omega)) (s_Same 9 (by omega)) v L s h hL hsm hs x
theorem l_Words (K : Nat) (hM : M < 1000000000) (hK : 10 + 10 * (3 * (K + 5) + 21) ≤ M) (s t data : List UInt8) (n m : Int) (d : Value) (h : AH) (hr : Row h.next h d (byteVals data) 5) (hg : Glob h) (h4 : 4 ≤ h.next)
    (hs : s.length ≤ K) (ht : t.length ≤ K) (hd : data.length ≤ K) (hn : I64 n) (hm : I64 m) : ∃ h', C M 10 5 [sv s, sv t, d, iv n, iv m] h = some (.bool true, h') := by
  rw [C_big rfl rfl]; exact ActWords_S M K hM hK (s_Line hM 9 (by omega)) (s_Act hM 9 (by omega)) (s_Same 9 (by omega)) (s_awake hM (by omega) 9 (by omega)) s t data n m d h hr hg h4 hs ht hd hn hm
end
end Go.Proofs.YtknchhnibjfocaaDoor.Abs
namespace Go.Proofs.YtknchhnibjfocaaDoor.Abs
open Go Go.Proofs
noncomputable section
set_option maxRecDepth 10000
theorem HR.ofRo {P : Program} {r : Ren} {h : AH} {w : World} (live : ∀ b o, h.get b = some o → ∃ bk ob, r b = some bk ∧ w.heap[bk.blk]? = some ob ∧ OR P r bk o ob) (ro : ∀ b o, h.get b = some o → o.ro = true)
    (lt : ∀ b bk, r b = some bk → b < h.next ∧ bk.blk < w.heap.size) (glob : ∀ g, g < P.globals.size → r g = some ⟨g, 0, 0, 0⟩) : HR P r h w :=
  ⟨live, fun b b' o o' bk bk' e e' q _ _ _ => (by
    rw [ro b o e, ro b' o' e'] at q
    rcases q with q | q
    · cases q
    · cases q), lt, glob⟩
def startG (P : Program) (l : List AObj) (a : Nat → List Value) : AH := ((((startB P l).set 0 (.glob (a 0))).set 1 (.glob (a 1))).set 2 (.glob (a 2))).set 3 (.glob (a 3))
theorem startG_next {P : Program} {l : List AObj} {a : Nat → List Value} : (startG P l a).next = P.globals.size + l.length := startB_next
theorem startG_low {P : Program} {l : List AObj} {a : Nat → List Value} {g : Nat} (hg : g < 4) : (startG P l a).get g = some (.glob (a g)) := by
  unfold startG
  rw [AH.get_set, AH.get_set, AH.get_set, AH.get_set]
  match g, hg with
  | 0, _ => rfl
  | 1, _ => rfl
  | 2, _ => rfl
  | 3, _ => rfl
theorem startG_high {P : Program} {l : List AObj} {a : Nat → List Value} {g : Nat} (hg : 4 ≤ g) : (startG P l a).get g = (startB P l).get g := by
  unfold startG
  rw [AH.get_set, AH.get_set, AH.get_set, AH.get_set, if_neg (by omega), if_neg (by omega), if_neg (by omega), if_neg (by omega)]
theorem HR.startG {P : Program} {w : World} {l : List AObj} {bks : List Bk} {a : Nat → List Value} (hw : P.globals.size ≤ w.heap.size) (h4 : 4 ≤ P.globals.size) (hlen : l.length = bks.length) (hro : ∀ o ∈ l, o.ro = true)
    (hl : ∀ (i : Nat) (o : AObj) (bk : Bk), l[i]? = some o → bks[i]? = some bk → ∃ ob, w.heap[bk.blk]? = some ob ∧ OR P (renK P bks) bk o ob)
    (ha : ∀ g, g < 4 → ∃ cs el fz, w.heap[g]? = some (.cells cs el fz) ∧ LR (renK P bks) (a g) cs.toList) : HR P (renK P bks) (Abs.startG P l a) w := by
  have base := HR.startB (P := P) hw hlen hro hl
  refine HR.ofRo ?_ ?_ ?_ base.glob
  · intro b o e
    by_cases hb : b < 4
    · rw [startG_low hb] at e; cases e
      obtain ⟨cs, el, fz, h1, h2⟩ := ha b hb
      exact ⟨_, _, base.glob b (by omega), h1, cs, el, fz, rfl, h2⟩
    · rw [startG_high (by omega)] at e
      exact base.live b o e
  · intro b o e
    by_cases hb : b < 4
    · rw [startG_low hb] at e; cases e; rfl
    · rw [startG_high (by omega)] at e
      by_cases hb2 : b < P.globals.size
      · rw [startB_low hb2] at e; cases e
      · rw [show b = P.globals.size + (b - P.globals.size) by omega, startB_get] at e
        exact hro o (List.mem_of_getElem? e)
  · intro b bk e
    have := base.lt b bk e
    rw [startB_next] at this
    rw [startG_next]; exact this
theorem calls_startG {P : Program} {f : Nat} {args : List Value} {args' : Array Value} {v : Value} {h1 : AH} {l : List AObj} {bks : List Bk} {a : Nat → List Value} (hf : flat v = true) (E : CallOK (mkTab P) f args (startG P l a) v h1)
    {w : World} (hw : P.globals.size ≤ w.heap.size) (h4 : 4 ≤ P.globals.size) (hlen : l.length = bks.length) (hro : ∀ o ∈ l, o.ro = true)
    (hl : ∀ (i : Nat) (o : AObj) (bk : Bk), l[i]? = some o → bks[i]? = some bk → ∃ ob, w.heap[bk.blk]? = some ob ∧ OR P (renK P bks) bk o ob)
    (ha : ∀ g, g < 4 → ∃ cs el fz, w.heap[g]? = some (.cells cs el fz) ∧ LR (renK P bks) (a g) cs.toList)
    (hb : LR (renK P bks) args args'.toList) : Calls P f args' w fun e w' => e = .returned v ∧ Kept w w' := by
  intro ks
  obtain ⟨r2, w2, fr2, v2, p1, p2, p3, p4, p5, p6⟩ := E ks (renK P bks) w args' (HR.startG (P := P) hw h4 hlen hro hl ha) hb
  have := p4.flat_eq hf; subst this
  refine ⟨.returned v2, w2, fr2, ⟨rfl, p6.os, p6.size, ?_⟩, p1, p2, p3⟩
  intro i hi
  refine p6.keep i hi ?_
  intro j x bk hj hx
  by_cases hb : j < 4
  · rw [startG_low hb] at hj; cases hj; cases hx
  · rw [startG_high (by omega)] at hj
    by_cases hb2 : j < P.globals.size
    · rw [startB_low hb2] at hj; cases hj
    · rw [show j = P.globals.size + (j - P.globals.size) by omega, startB_get] at hj
      rw [hro x (List.mem_of_getElem? hj)] at hx; cases hx
/-- What a call finds in the package variables. -/
structure WorldG (W : World) : Prop where
  w0 : ∃ el fz, W.heap[0]? = some (.cells (powL.toArray) el fz)
  w1 : ∃ m el fz, W.heap[1]? = some (.cells #[.int .i64 m] el fz)
  w2 : ∃ t b o el fz cs el2 fz2, W.heap[2]? = some (.cells #[.iface t (.pointer (some ⟨b, o, none⟩))] el fz) ∧ W.heap[b]? = some (.cells cs el2 fz2)
  w3 : ∃ t b o el fz cs el2 fz2, W.heap[3]? = some (.cells #[.iface t (.pointer (some ⟨b, o, none⟩))] el fz) ∧ W.heap[b]? = some (.cells cs el2 fz2)
/-- A call's walk from a memory of package variables, error values and what came in. -/
theorem walkG {f : Nat} {W : World} (g : WorldG W) (hw : Tryd.prog.globals.size ≤ W.heap.size) (l : List AObj) (bks : List Bk) (hlen : l.length = bks.length) (hro : ∀ o ∈ l, o.ro = true) {args : List Value} {args' : Array Value} {v : Value} (hf : flat v = true) (d : Nat) (M : Nat) (hC : RecOK T0 (C M d))
    (E : ∀ h : AH, Glob h → 4 ≤ h.next → (∀ (i : Nat) (o : AObj), l[i]? = some o → h.get (10 + i) = some o ∧ 10 + i < h.next) → ∃ h', C M d f args h = some (v, h'))
    (hl : ∀ r : Ren, (∀ i bk, bks[i]? = some bk → r (10 + i) = some bk) → ∀ (i : Nat) (o : AObj) (bk : Bk), l[i]? = some o → bks[i]? = some bk → ∃ ob, W.heap[bk.blk]? = some ob ∧ OR Tryd.prog r bk o ob)
    (ha : ∀ r : Ren, (∀ i bk, bks[i]? = some bk → r (10 + i) = some bk) → LR r args args'.toList) : Calls Tryd.prog f args' W fun e w' => e = .returned v ∧ Kept W w' := by
  obtain ⟨t2, b2, o2, el2, fz2, cs2, ee2, ff2, p2, q2⟩ := g.w2
  obtain ⟨t3, b3, o3, el3, fz3, cs3, ee3, ff3, p3, q3⟩ := g.w3
  obtain ⟨el0, fz0, p0⟩ := g.w0
  obtain ⟨m, el1, fz1, p1⟩ := g.w1
  let bk2 : Bk := ⟨b2, 0, 0, 0⟩
  let bk3 : Bk := ⟨b3, 0, 0, 0⟩
  let a : Nat → List Value := fun g => match g with
    | 0 => powL
    | 1 => [.int .i64 m]
    | 2 => [.iface t2 (.pointer (some ⟨8, o2, none⟩))]
    | _ => [.iface t3 (.pointer (some ⟨9, o3, none⟩))]
  have hren : ∀ i bk, bks[i]? = some bk → renK Tryd.prog (bk2 :: bk3 :: bks) (10 + i) = some bk := fun i bk hi => by
    have := renK_at (P := Tryd.prog) (bks := bk2 :: bk3 :: bks) (i := i + 2) (bk := bk) (by simpa using hi)
    rw [gsize] at this
    rwa [show 8 + (i + 2) = 10 + i by omega] at this
  have h8 : renK Tryd.prog (bk2 :: bk3 :: bks) 8 = some bk2 := by
    have := renK_at (P := Tryd.prog) (bks := bk2 :: bk3 :: bks) (i := 0) (bk := bk2) rfl
    rwa [gsize] at this
  have h9 : renK Tryd.prog (bk2 :: bk3 :: bks) 9 = some bk3 := by
    have := renK_at (P := Tryd.prog) (bks := bk2 :: bk3 :: bks) (i := 1) (bk := bk3) rfl
    rwa [gsize] at this
  have hG : Glob (startG Tryd.prog (roObj ee2 :: roObj ee3 :: l) a) := ⟨startG_low (by omega), ⟨m, startG_low (by omega)⟩, ⟨_, _, startG_low (by omega)⟩, ⟨_, _, startG_low (by omega)⟩⟩
  obtain ⟨h', e⟩ := E _ hG (by rw [startG_next, gsize]; omega) (fun i o hi => by
    refine ⟨?_, ?_⟩
    · rw [startG_high (by omega)]
      have := startB_get (P := Tryd.prog) (l := roObj ee2 :: roObj ee3 :: l) (i := i + 2)
      rw [gsize] at this
      rw [show 10 + i = 8 + (i + 2) by omega, this]; simpa using hi
    · rw [startG_next, gsize]
      have := (List.getElem?_eq_some_iff.1 hi).1
      simp only [List.length_cons]; omega)
  refine calls_startG (a := a) (l := roObj ee2 :: roObj ee3 :: l) (bks := bk2 :: bk3 :: bks) hf (hC _ _ _ _ _ e) hw (by rw [gsize]; omega) (by simp [hlen]) ?_ ?_ ?_ (ha _ hren)
  · intro o ho
    simp only [List.mem_cons] at ho
    rcases ho with rfl | rfl | ho
    · rfl
    · rfl
    · exact hro o ho
  · intro i o bk hi hk
    match i, hi, hk with
    | 0, hi, hk => cases hi; cases hk; exact ⟨_, q2, roObj_OR rfl⟩
    | 1, hi, hk => cases hi; cases hk; exact ⟨_, q3, roObj_OR rfl⟩
    | i + 2, hi, hk => exact hl _ hren i o bk (by simpa using hi) (by simpa using hk)
  · intro g hg
    match g, hg with
    | 0, _ => exact ⟨_, el0, fz0, p0, LR.of_flat _ _ (by rfl)⟩
    | 1, _ => exact ⟨_, el1, fz1, p1, LR.of_flat _ _ (by rfl)⟩
    | 2, _ => exact ⟨_, el2, fz2, p2, LR.cons (.iface _ _ _ (.ptr 8 o2 bk2 h8)) (LR.nil _)⟩
    | 3, _ => exact ⟨_, el3, fz3, p3, LR.cons (.iface _ _ _ (.ptr 9 o3 bk3 h9)) (LR.nil _)⟩
end
end Go.Proofs.YtknchhnibjfocaaDoor.Abs
namespace Go.Proofs.YtknchhnibjfocaaDoor.Abs
open Go Go.Proofs Go.RowKit
open Go.Proofs.YtknchhnibjfocaaDoor
noncomputable section
set_option maxRecDepth 100000
abbrev laidL : List (String × DataW Unit) := Rows.actReadsUptoRow.laid
theorem tn_err : Tryd.prog.typeName? 3 115 = some "*errors.errorString" := by kernel_rfl
theorem row_err (u : TypeId) (h : Tryd.prog.typeName? 3 u = some "*errors.errorString") : u = 115 := by
  have hs : "*" ++ "errors.errorString" = "*errors.errorString" := by decide
  exact typeName_ptr_named (nm := "errors.errorString") (by rw [hs]; kernel_rfl) (by kernel_rfl) (by decide) u (by rw [hs]; exact h)
theorem worldG {W : World} (hL : laidMetH Tryd.prog laidL W) (hsh : W.ShapedOpen Tryd.prog) : WorldG W := by
  rw [MakeChecks.laidMetH_plain _ _ _ (by kernel_rfl)] at hL
  have h1 := hL.tail.tail
  have h2 := h1.tail.tail
  have h3 := h2.tail
  refine ⟨?_, ?_, ?_, ?_⟩
  · have ht : Lib.TabIs Tryd.prog W "internal/strconv.uint64pow10" .u64 Lib.pow10Tab := Lib.tabIs_of_head (g := 0) (by kernel_rfl) (t := 97) (by kernel_rfl) Tryd.underlying97 Tryd.underlying69 (by kernel_rfl) (by kernel_rfl) h1
    unfold Lib.TabIs World.var? at ht
    rw [show Tryd.prog.globalNamed "internal/strconv.uint64pow10" = some 0 from by kernel_rfl, Option.bind_some] at ht
    split at ht
    · rename_i cs el fz hh
      cases ht
      exact ⟨el, fz, hh⟩
    · cases ht
  · obtain ⟨cs, e1, e2, e3⟩ := hsh.1 1 #[.int .i64 0] 3 (by rw [gsize]; omega) (by kernel_rfl)
    obtain ⟨ts, t1, ⟨k, t2⟩, t3⟩ := e3 (by kernel_rfl)
    have hts : ts = [3] := Option.some.inj (t1.symm.trans (by kernel_rfl))
    subst hts
    have hsz : cs.size = 1 := e2
    obtain ⟨l⟩ := cs
    match l, hsz with
    | [v], _ =>
      obtain ⟨u, u1, u2⟩ := t3 0 v rfl
      have : u = 3 := by simpa using u1.symm
      subst this
      unfold Cell.ok at u2
      rw [Tryd.underlying3] at u2
      cases v with
      | int k' n => obtain ⟨rfl, _⟩ := u2; exact ⟨n, _, _, e1⟩
      | _ => exact absurd u2 (by simp)
  · obtain ⟨a, s, hv, hc, _, _⟩ := laid_sentinel h3 (g := 2) (by kernel_rfl) (ti := 60) (by kernel_rfl) Tryd.underlying60 row_err Tryd.underlying115 Tryd.underlying117 rfl rfl Tryd.underlying9 (by kernel_rfl) (by kernel_rfl)
    unfold World.var? at hv
    rw [show Tryd.prog.globalNamed "strconv.ErrSyntax" = some 2 from by kernel_rfl, Option.bind_some] at hv
    unfold World.cell? at hc
    obtain ⟨ab, ao, asp⟩ := a
    split at hv
    · rename_i cs el fz hh
      cases hv
      split at hc
      · rename_i c2 el2 fz2 hh2
        split at hc
        · cases hc
        · rename_i hsp
          have : asp = none := by cases asp with | none => rfl | some x => exact absurd rfl hsp
          subst this
          exact ⟨_, ab, ao, el, fz, c2, el2, fz2, hh, hh2⟩
      · cases hc
    · cases hv
  · obtain ⟨a, s, hv, hc, _, _⟩ := laid_sentinel h2 (g := 3) (by kernel_rfl) (ti := 60) (by kernel_rfl) Tryd.underlying60 row_err Tryd.underlying115 Tryd.underlying117 rfl rfl Tryd.underlying9 (by kernel_rfl) (by kernel_rfl)
    unfold World.var? at hv
    rw [show Tryd.prog.globalNamed "strconv.ErrRange" = some 3 from by kernel_rfl, Option.bind_some] at hv
    unfold World.cell? at hc
    obtain ⟨ab, ao, asp⟩ := a
    split at hv
    · rename_i cs el fz hh
      cases hv
      split at hc
      · rename_i c2 el2 fz2 hh2
        split at hc
        · cases hc
        · rename_i hsp
          have : asp = none := by cases asp with | none => rfl | some x => exact absurd rfl hsp
          subst this
          exact ⟨_, ab, ao, el, fz, c2, el2, fz2, hh, hh2⟩
      · cases hc
    · cases hv
end
end Go.Proofs.YtknchhnibjfocaaDoor.Abs
namespace Go.Proofs.YtknchhnibjfocaaDoor.acts
open Go.ChangeShapes Go.WideShapes Go.ChangeAt Go.RowKit Abs
open Go.ChangeMaps (open_string shut_string)

theorem own : ownKnob Tryd.prog.godebug = none := by kernel_rfl
theorem laidOut : laidOutB Tryd.prog = true := by kernel_rfl
theorem nok : namesOK Tryd.prog.funcs.toList = true := by kernel_rfl
theorem zok : zerosOK Tryd.prog.types.toList = true := by kernel_rfl
theorem mok : Tryd.prog.follows .mixedOrders = true := by kernel_rfl
theorem tok : TabOK T0 := tabOK mok nok
theorem tz : TabZ T0 := tabZ zok
theorem globals_lt : Nat.blt Tryd.prog.globals.size (begin Tryd.prog (fun _ _ => 0) default).world.heap.size = true := by kernel_rfl
theorem globals_in {w : World} (h : w.ShapedOpen Tryd.prog) : Tryd.prog.globals.size ≤ w.heap.size := by
  obtain ⟨o, o2, h1, _⟩ := h.2 Tryd.prog.globals.size (Nat.le_refl _) (Nat.le_of_ble_eq_true globals_lt)
  exact Nat.le_of_lt (Array.getElem?_eq_some_iff.1 h1).1
theorem recC (M d : Nat) : RecOK T0 (C M d) := callU_sound tok tz X0_ok actS_ok _ _
set_option maxRecDepth 100000
/-- A WORLD FOR THE WITNESS. -/
noncomputable def laidWorld (os : Os) : World :=
  let w0 := World.holding Tryd.prog os ⟨#[], #[], []⟩
  let put (h : Array Obj) (g : Nat) (cs : Array Value) : Array Obj := h.modify g fun
    | .cells _ t frozen => .cells cs t frozen
    | o => o
  let n := w0.heap.size
  let u8s (l : List Int) : Array Value := (l.map fun z => Value.int .u8 z).toArray
  let h1 := (w0.heap.push (.cells #[.string ⟨#[105, 110, 118, 97, 108, 105, 100, 32, 115, 121, 110, 116, 97, 120]⟩] 117)).push (.cells #[.string ⟨#[118, 97, 108, 117, 101, 32, 111, 117, 116, 32, 111, 102, 32, 114, 97, 110, 103, 101]⟩] 117)
  let h2 := put h1 0 powL.toArray
  let h3 := put h2 2 #[.iface 115 (.pointer (some ⟨n, 0, none⟩))]
  let h4 := put h3 3 #[.iface 115 (.pointer (some ⟨n + 1, 0, none⟩))]
  let h5 := put h4 4 (u8s (List.replicate 128 240 ++ List.replicate 66 241 ++ List.replicate 30 2 ++ [19] ++ List.replicate 12 3 ++ [35, 3, 3, 52, 4, 4, 4, 68] ++ List.replicate 11 241))
  let h6 := put h5 5 (u8s ([128, 191, 160, 191, 128, 159, 144, 191, 128, 143] ++ List.replicate 22 0))
  let h7 := put h6 6 (u8s [0, 1, 28, 2, 29, 14, 24, 3, 30, 22, 20, 15, 25, 17, 4, 8, 31, 27, 13, 23, 21, 19, 16, 7, 26, 12, 18, 6, 11, 5, 10, 9])
  let h8 := put h7 7 (u8s [0, 1, 56, 2, 57, 49, 28, 3, 61, 58, 42, 50, 38, 29, 17, 4, 62, 47, 59, 36, 45, 43, 51, 22, 53, 39, 33, 30, 24, 18, 12, 5, 63, 55, 48, 27, 60, 41, 37, 16, 46, 35, 44, 21, 52, 32, 23, 11, 54, 26, 40, 15, 34, 20, 31, 10, 25, 14, 19, 9, 13, 8, 7, 6])
  { w0 with heap := h8 }
theorem laid_met (os : Os) (args : Array Value) : laidMet Tryd.prog Rows.actReadsUptoRow.laid ((laidWorld os).forCall (fun _ _ => 0) ⟨#[], args, []⟩).memory :=
  laidMet_of_run' 8 (by kernel_rfl) (by kernel_rfl)
end Go.Proofs.YtknchhnibjfocaaDoor.acts
