
/- ImageSupers: two super blocks compared; the law's loops. -/
import Derived.Test.YtjdhdhmoedlfdaaGreatSize
import Derived.Test.YtjdhdhmoedlfdaaGreatAbsZN
namespace Go.Proofs.YtjdhdhmoedlfdaaGreat.Abs
open Go Go.Proofs
noncomputable section
variable {call : Abs.Callee}
set_option maxRecDepth 10000
theorem ft5 : T0.ft.get 5 = some Tryz.f5 := by kernel_rfl
def fsS : Array Field := match prun T0.P (underlying 36) with | some (.struct fs) => fs | _ => #[]
theorem pu_Sup : prun T0.P (underlying 36) = some (.struct fsS) := by kernel_rfl
theorem si_Sup : T0.P.stoodInHeld 36 = false := by kernel_rfl
theorem gd_Sup : T0.P.eqGuardType T0.P.depth 36 = false := by kernel_rfl
theorem fsS_eq : ∃ f0 f1 f2 f3 f4 : Field, fsS.toList = [f0, f1, f2, f3, f4] ∧ (f0.name ≠ "_" ∧ f0.type = 3 ∧ f0.offset = 0) ∧ (f1.name ≠ "_" ∧ f1.type = 3 ∧ f1.offset = 1) ∧ (f2.name ≠ "_" ∧ f2.type = 3 ∧ f2.offset = 2) ∧ (f3.name ≠ "_" ∧ f3.type = 3 ∧ f3.offset = 3) ∧ (f4.name ≠ "_" ∧ f4.type = 3 ∧ f4.offset = 4) := by
  have nm : ∀ i, decide ((fsS.toList.getD i default).name = "_") = false → (fsS.toList.getD i default).name ≠ "_" := fun i h => of_decide_eq_false h
  exact ⟨fsS.toList.getD 0 default, fsS.toList.getD 1 default, fsS.toList.getD 2 default, fsS.toList.getD 3 default, fsS.toList.getD 4 default, by kernel_rfl,
    ⟨nm 0 (by kernel_rfl), by kernel_rfl, by kernel_rfl⟩, ⟨nm 1 (by kernel_rfl), by kernel_rfl, by kernel_rfl⟩, ⟨nm 2 (by kernel_rfl), by kernel_rfl, by kernel_rfl⟩, ⟨nm 3 (by kernel_rfl), by kernel_rfl, by kernel_rfl⟩, ⟨nm 4 (by kernel_rfl), by kernel_rfl, by kernel_rfl⟩⟩
theorem part_s {a b c d e : Int} : prun T0.P (Go.part 3 #[iv a, iv b, iv c, iv d, iv e] 0) = some (iv a) ∧ prun T0.P (Go.part 3 #[iv a, iv b, iv c, iv d, iv e] 1) = some (iv b) ∧ prun T0.P (Go.part 3 #[iv a, iv b, iv c, iv d, iv e] 2) = some (iv c) ∧ prun T0.P (Go.part 3 #[iv a, iv b, iv c, iv d, iv e] 3) = some (iv d) ∧ prun T0.P (Go.part 3 #[iv a, iv b, iv c, iv d, iv e] 4) = some (iv e) := ⟨by kernel_rfl, by kernel_rfl, by kernel_rfl, by kernel_rfl, by kernel_rfl⟩
theorem eq_Sup (x : SI) : prun T0.P (Op.equalIn 10000 36 (siV x) (siV x)) = some true := by
  obtain ⟨f0, f1, f2, f3, f4, e, ⟨n0, t0, o0⟩, ⟨n1, t1, o1⟩, ⟨n2, t2, o2⟩, ⟨n3, t3, o3⟩, ⟨n4, t4, o4⟩⟩ := fsS_eq
  have pi : ∀ a : Int, prun T0.P (Op.equalIn 9999 3 (iv a) (iv a)) = some true := fun a => by
    rw [show (9999 : Nat) = 9998 + 1 from rfl, prun_int _ _ _ pu_int]; simp
  obtain ⟨s, f, j, c, g⟩ := x
  show prun T0.P (Op.equalIn 10000 36 (.agg #[iv s, iv f, iv j, iv c, iv g]) (.agg #[iv s, iv f, iv j, iv c, iv g])) = some true
  rw [show (10000 : Nat) = 9999 + 1 from rfl, prun_struct _ _ _ _ pu_Sup si_Sup, e]
  simp only [Op.eqFields, n0, n1, n2, n3, n4, t0, t1, t2, t3, t4, o0, o1, o2, o3, o4, ne_eq, not_false_eq_true, if_true, prun_bind, prun_ite, part_s, Option.bind_some, pi, if_false, prun_pure, Bool.not_eq_true', reduceCtorEq]
theorem flat_si (x : SI) : flat (siV x) = true := rfl
theorem S_neq {p q : Operand} {h : AH} (x : SI) : evBin T0 .neq 36 p q (siV x) (siV x) h = some (.bool false) := by
  show ifB (flat (siV x) && flat (siV x)) (slowBin T0 .neq 36 p q (siV x) (siV x)) none = _
  rw [flat_si]
  show slowBin T0 .neq 36 p q (siV x) (siV x) = _
  unfold slowBin
  rw [show siV x = .agg (siL x).toArray from rfl, prun_bind, prun_guard gd_Sup, Option.bind_some]
  simp only [binOp, prun_bind, Op.equal, Op.maxDepth]
  rw [show (.agg (siL x).toArray : Value) = siV x from rfl, eq_Sup]
  rfl
theorem S_eql {p q : Operand} {h : AH} (x : SI) : evBin T0 .eql 36 p q (siV x) (siV x) h = some (.bool true) := by
  show slowBin T0 .eql 36 p q (siV x) (siV x) = _
  unfold slowBin
  rw [show siV x = .agg (siL x).toArray from rfl, prun_bind, prun_guard gd_Sup, Option.bind_some]
  simp only [binOp, prun_bind, Op.equal, Op.maxDepth]
  rw [show (.agg (siL x).toArray : Value) = siV x from rfl, eq_Sup]
  rfl
noncomputable def bodyL1 : Code := part Tryz.f5 [1, 1, 1, 1, 1, 1, 1, 1, 1, 1, 1, 1, 0, 1, 0, 0]
noncomputable def bodyL2 : Code := part Tryz.f5 [1, 1, 1, 1, 1, 1, 1, 1, 1, 1, 1, 1, 1, 1, 1, 1, 1, 0, 1, 0, 0]
abbrev ELs : Env := ⟨5, 209, none⟩
theorem plan_l33 : planB (regOps Tryz.f5 [1, 1, 1, 1, 1, 1, 1, 1, 1, 1, 1, 1, 1, 1, 1, 1, 1, 0, 1, 0, 0, 1, 0, 0, 0]) 209 = some ([.one 0, .one 1, .one 2, .one 3, .one 4, .one 5, .one 6, .one 7, .one 8, .one 9, .one 10, .one 11, .one 12, .one 13, .one 14, .one 15, .one 16, .one 17, .one 18, .one 19, .one 20, .one 21, .one 22, .one 23, .one 24, .one 25, .one 26, .one 27, .one 28, .one 29, .one 30, .one 31, .one 32, .one 33, .one 34, .one 35, .one 36, .one 37, .one 38], []) := by kernel_rfl
theorem l1Lp (vm a0 a2 a5 a9 : Value) (more : List (List Nat)) (h : AH) (hv : AB h vm more) (hl : more.length < XB) : ∀ (l : List (List Nat)) (i : Nat) (g : Bool) (tm : PM Value) (N : Nat), more.drop i = l → i + l.length = more.length → l.length + 60 ≤ N →
      tm.get 3 = some vm → tm.get 16 = some (.bool g) → tm.get 18 = some (iv i) → tm.get 0 = some a0 → tm.get 2 = some a2 → tm.get 5 = some a5 → tm.get 9 = some a9 →
      ∃ tm', codeB T0 X0 call N ELs (.loop bodyL1) tm h [] = .jump (.exit 0) tm' h [] ∧ tm'.get 16 = some (.bool (g && !(l.any fun bs => !len64 bs))) ∧ tm'.get 0 = some a0 ∧ tm'.get 2 = some a2 ∧ tm'.get 3 = some vm ∧ tm'.get 5 = some a5 ∧ tm'.get 9 = some a9 := by
  rw [XB_val] at hl
  intro l
  induction l with
  | nil =>
    intro i g tm N hd hi hN g3 g16 g18 g0 g2 g5 g9
    obtain ⟨N, rfl⟩ : ∃ a, N = a + 60 := ⟨N - 60, by simp at hN; omega⟩
    apply Exists.intro
    refine ⟨?_, ?_, ?_, ?_, ?_, ?_, ?_⟩
    · rw [codeB_loop]
      simp only [bodyL1, part, Tryz.f5, sub, symM, opFn, Nat.reduceLT, Nat.reduceBEq, symM, g3, g18, hv.len, bin_lss, decide_eq_false (show ¬ (i : Int) < (more.length : Nat) by simp at hi; omega)]
      rfl
    · simp only [symM, Nat.reduceBEq, g16, List.any_nil, Bool.and_true]
    · simp only [symM, Nat.reduceBEq, g0]
    · simp only [symM, Nat.reduceBEq, g2]
    · simp only [symM, Nat.reduceBEq, g3]
    · simp only [symM, Nat.reduceBEq, g5]
    · simp only [symM, Nat.reduceBEq, g9]
  | cons bs l ih =>
    intro i g tm N hd hi hN g3 g16 g18 g0 g2 g5 g9
    obtain ⟨N, rfl⟩ : ∃ a, N = a + 60 := ⟨N - 60, by simp at hN; omega⟩
    have hx1 : more[i]? = some bs := by have := congrArg (fun l => l[0]?) hd; simpa using this
    have hil : i < more.length := (List.getElem?_eq_some_iff.1 hx1).1
    obtain ⟨p, w, a1, a2, a3⟩ := hv.at hx1
    have hw := a3.1
    have e : (g && !(List.any (bs :: l) fun bs => !len64 bs)) = ((g && len64 bs) && !(l.any fun bs => !len64 bs)) := by
      rw [List.any_cons]; cases g <;> cases len64 bs <;> rfl
    rw [e]
    rw [show N + 60 = (N + 59) + 1 from rfl, codeB_loop]
    cases g with
    | false =>
      simp only [bodyL1, part, Tryz.f5, sub, symM, opFn, Nat.reduceLT, Nat.reduceBEq, symM, g3, g16, g18, hv.len, bin_lss, decide_eq_true (show (i : Int) < (more.length : Nat) by omega), bin_add, wadd1x (show i + 1 < 9223372036854775808 by omega)]
      exact ih (i + 1) false _ (N + 59) (by rw [← List.drop_drop, hd]; rfl) (by simp at hi ⊢; omega) (by simp at hN ⊢; omega) (by simp only [symM, Nat.reduceBEq, g3]) (by simp only [symM, Nat.reduceBEq]) get_same (by simp only [symM, Nat.reduceBEq, g0]) (by simp only [symM, Nat.reduceBEq, g2]) (by simp only [symM, Nat.reduceBEq, g5]) (by simp only [symM, Nat.reduceBEq, g9])
    | true =>
      simp only [bodyL1, part, Tryz.f5, sub, symM, opFn, Nat.reduceLT, Nat.reduceBEq, symM, g3, g16, g18, hv.len, bin_lss, decide_eq_true (show (i : Int) < (more.length : Nat) by omega), a1, a2, hw, bin_eql, len64_int, bin_add, wadd1x (show i + 1 < 9223372036854775808 by omega)]
      exact ih (i + 1) (true && len64 bs) _ (N + 59) (by rw [← List.drop_drop, hd]; rfl) (by simp at hi ⊢; omega) (by simp at hN ⊢; omega) (by simp only [symM, Nat.reduceBEq, g3]) (by simp only [symM, Nat.reduceBEq, Bool.true_and]) get_same (by simp only [symM, Nat.reduceBEq, g0]) (by simp only [symM, Nat.reduceBEq, g2]) (by simp only [symM, Nat.reduceBEq, g5]) (by simp only [symM, Nat.reduceBEq, g9])
theorem l2Lp (n z L p5 : Nat) (s : SI) (v vm vn a9 : Value) (bss more nw : List (List Nat)) (h : AH) (hz : z ≤ 480) (hnl : nw.length = z) (hn : BL n h vn nw) (hv : WB h v bss) (hm : WB h vm more) (hs : SiB h p5 s) (hsL : s.s = (L : Int)) (hbb : ∀ bs ∈ bss, ∀ x ∈ bs, x < 256) (hmb : ∀ bs ∈ more, ∀ x ∈ bs, x < 256)
    (hw1 : ∀ i, 1 ≤ i → i < z → i < L → bss[i]? = nw[i]?) (hw2 : ∀ i, 1 ≤ i → i < z → L ≤ i → more[i - L]? = nw[i]?) :
    ∀ (k i : Nat) (tm : PM Value) (N : Nat), 1 ≤ i → i + k = z → k + 80 ≤ N → tm.get 0 = some v → tm.get 2 = some (iv z) → tm.get 3 = some vm → tm.get 5 = some (pv p5 0) → tm.get 9 = some a9 → tm.get 20 = some vn → tm.get 21 = some (iv i) →
      ∃ tm' h', codeB T0 X0 call N ELs (.loop bodyL2) tm h [] = .jump (.exit 2) tm' h' [] ∧ (h' = h ∧ tm'.get 9 = some a9) := by
  intro k
  induction k with
  | zero =>
    intro i tm N h1 hi hN g0 g2 g3 g5 g9 g20 g21
    obtain ⟨N, rfl⟩ : ∃ a, N = a + 80 := ⟨N - 80, by omega⟩
    apply Exists.intro; apply Exists.intro
    refine ⟨?_, rfl, ?_⟩
    · rw [codeB_loop]
      simp only [bodyL2, part, Tryz.f5, sub, symM, opFn, Nat.reduceLT, Nat.reduceBEq, symM, g2, g21, bin_lss, decide_eq_false (show ¬ (i : Int) < (z : Int) by omega)]
      rfl
    · simp only [symM, Nat.reduceBEq, g9]
  | succ k ih =>
    intro i tm N h1 hi hN g0 g2 g3 g5 g9 g20 g21
    obtain ⟨N, rfl⟩ : ∃ a, N = a + 80 := ⟨N - 80, by omega⟩
    have hiz : i < z := by omega
    have hx : nw[i]? = some nw[i] := List.getElem?_eq_getElem (by omega)
    obtain ⟨p, w, a1, a2, a3⟩ := hn.at hx
    have c1 := conv_b2s a3.row
    have ls := hs.loads.1
    rw [hsL] at ls
    have hp := plan_l33
    simp only [regOps, part, Tryz.f5, sub] at hp
    rw [show N + 80 = (N + 79) + 1 from rfl, codeB_loop]
    by_cases hiL : i < L
    · have hy := (hw1 i h1 hiz hiL).trans hx
      obtain ⟨q, u, b1, _, b2⟩ := hv.ats hy
      obtain ⟨b3, b4⟩ := b2 h (Grow.refl _ _)
      have c2 := conv_b2s b4.row
      have ce := fun p q => s_neq (p := p) (q := q) (h := h) a3.2.2.1 a3.2.2.1
      rw [decide_eq_true rfl] at ce
      simp only [bodyL2, part, Tryz.f5, sub, symM, opFn, Nat.reduceLT, Nat.reduceBEq, symM, g2, g21, bin_lss, decide_eq_true (show (i : Int) < (z : Int) by omega)]
      rw [codeB_draw, draw_plan hp rfl]
      simp only [drawAll, opFn, Nat.reduceLT, Nat.reduceBEq, g0, g5, g20, g21, field_Su0, ls, bin_lss, decide_eq_true (show (i : Int) < (L : Int) by omega), a1, a2, c1, b1, b3, c2, ce, bin_geq, decide_eq_false (show ¬ (i : Int) ≥ (L : Int) by omega), bin_add, wadd1 (show i ≤ 400000 by omega)]
      exact ih (i + 1) _ (N + 79) (by omega) (by omega) (by omega) (by simp only [symM, Nat.reduceBEq, g0]) (by simp only [symM, Nat.reduceBEq, g2]) (by simp only [symM, Nat.reduceBEq, g3]) (by simp only [symM, Nat.reduceBEq, g5]) (by simp only [symM, Nat.reduceBEq, g9]) (by simp only [symM, Nat.reduceBEq, g20]) get_same
    · have hy := (hw2 i h1 hiz (by omega)).trans hx
      obtain ⟨q, u, b1, _, b2⟩ := hm.ats hy
      obtain ⟨b3, b4⟩ := b2 h (Grow.refl _ _)
      have c2 := conv_b2s b4.row
      have ce := fun p q => s_neq (p := p) (q := q) (h := h) a3.2.2.1 a3.2.2.1
      rw [decide_eq_true rfl] at ce
      have ws : IntKind.i64.wrap ((i : Int) - (L : Int)) = ((i - L : Nat) : Int) := by rw [wz (by omega)]; omega
      simp only [bodyL2, part, Tryz.f5, sub, symM, opFn, Nat.reduceLT, Nat.reduceBEq, symM, g2, g21, bin_lss, decide_eq_true (show (i : Int) < (z : Int) by omega)]
      rw [codeB_draw, draw_plan hp rfl]
      simp only [drawAll, opFn, Nat.reduceLT, Nat.reduceBEq, g3, g5, g20, g21, field_Su0, ls, bin_lss, decide_eq_false (show ¬ (i : Int) < (L : Int) by omega), a1, a2, c1, bin_geq, decide_eq_true (show (i : Int) ≥ (L : Int) by omega), bin_sub, ws, b1, b3, c2, ce, bin_add, wadd1 (show i ≤ 400000 by omega)]
      exact ih (i + 1) _ (N + 79) (by omega) (by omega) (by omega) (by simp only [symM, Nat.reduceBEq, g0]) (by simp only [symM, Nat.reduceBEq, g2]) (by simp only [symM, Nat.reduceBEq, g3]) (by simp only [symM, Nat.reduceBEq, g5]) (by simp only [symM, Nat.reduceBEq, g9]) (by simp only [symM, Nat.reduceBEq, g20]) get_same
end
end Go.Proofs.YtjdhdhmoedlfdaaGreat.Abs
namespace Go.Proofs.YtjdhdhmoedlfdaaGreat.Abs
open Go Go.Proofs
noncomputable section
variable {call : Abs.Callee}
set_option maxRecDepth 10000
abbrev OpenC (call : Abs.Callee) (B : Nat) : Prop := ∀ (bss : List (List Nat)) (v : Value) (h : AH), (∀ bs ∈ bss, ∀ x ∈ bs, x < 256) → bss.length ≤ B → AB h v bss → ∃ r h', call 6 [v] h = some (r, h') ∧ Grow h.next h h' ∧ OpenR h.next h' bss r
abbrev ROpenC (call : Abs.Callee) (B : Nat) : Prop := ∀ (bss : List (List Nat)) (v : Value) (h : AH), (∀ bs ∈ bss, ∀ x ∈ bs, x < 256) → bss.length ≤ B → AB h v bss → ∃ r h', call 7 [v] h = some (r, h') ∧ Grow h.next h h' ∧ VolR h.next h' bss v r
abbrev AwC (call : Abs.Callee) : Prop := ∀ h, call 8 [] h = some (.bool true, h)
theorem okO_parts {bss : List (List Nat)} (h : okO bss = true) : 64 ≤ bss.length ∧ (∀ bs ∈ bss, bs.length = 64) ∧ okI (svOf (bss.getD 0 [])).si = true ∧ (svOf (bss.getD 0 [])).s = bss.length := by
  unfold okO at h
  simp only [Bool.and_eq_true, decide_eq_true_eq, Bool.not_eq_true'] at h
  obtain ⟨h1, h2, h3, h4, _⟩ := h
  refine ⟨h1, any64 h2, ?_, h4⟩
  unfold okDS at h3
  rw [Bool.and_eq_true] at h3
  exact h3.1
theorem plan_l9 : planB (regOps Tryz.f5 [1, 1, 1, 1, 1, 1, 1, 0, 0]) 209 = some ([.one 0, .one 1, .one 2, .one 3, .one 4, .one 5, .one 6, .one 7, .one 8, .one 9, .one 10, .one 11], []) := by kernel_rfl
theorem plan_l10 : planB (regOps Tryz.f5 [1, 1, 1, 1, 1, 1, 1, 0, 1, 0, 0, 0]) 209 = some ([.one 0, .one 1, .one 2, .one 3, .one 5, .one 6, .one 7, .one 8, .eff [] 4 [5, 6, 7, 8], .one 9, .one 10], []) := by kernel_rfl
theorem plan_l13 : planB (regOps Tryz.f5 [1, 1, 1, 1, 1, 1, 1, 0, 1, 1, 0]) 209 = some ([.one 0, .one 1, .one 2, .one 3, .one 5, .eff [] 4 [5], .one 6, .one 7], []) := by kernel_rfl
theorem plan_l26 : planB (regOps Tryz.f5 [1, 1, 1, 1, 1, 1, 1, 1, 1, 1, 1, 1, 1, 1, 0, 1, 0, 0]) 209 = some ([.one 0, .one 1, .one 2, .one 3, .one 5, .eff [] 4 [5], .one 6, .one 7, .one 8], []) := by kernel_rfl
def tailL : Code := part Tryz.f5 [1, 1, 1, 1, 1, 1, 1, 1, 1, 1, 1, 1, 1]
theorem field_Sz0 (x : SI) : evField T0 36 (siV x) 0 = some (iv x.s) := by
  obtain ⟨s, f, j, c, g⟩ := x
  kernel_rfl
theorem law_tail (N M B : Nat) (hSup : YSuperC call) (hRes : YResC call B) (hBl : YBlocksC call) (hCh : YChangesC call) (n pI p5 : Nat) (x y : SI) (bs0 bss more : List (List Nat)) (fb : List Nat) (v vm : Value) (size : Int) (h0 h : AH) (tm : PM Value)
    (hn : n = h0.next) (hG : Grow n h0 h) (hv : WB h0 v bs0) (hm : AB h0 vm more) (hbb : ∀ bs ∈ bs0, ∀ x ∈ bs, x < 256) (hmb : ∀ bs ∈ more, ∀ x ∈ bs, x < 256) (hmB : more.length ≤ B) (hI : ImgY n h pI x y bss bs0 fb) (hnI : n ≤ pI) (hs : SiB h p5 x) (hp5 : p5 < n) (hok : okI x = true) (hxs : x.s = (bss.length : Int)) (hys : y.s = (bs0.length : Int)) (hws : bs0.length = bss.length) (he : ∀ i, 1 ≤ i → bss[i]? = bs0[i]?)
    (g0 : tm.get 0 = some v) (g2 : tm.get 2 = some (iv size)) (g3 : tm.get 3 = some vm) (g5 : tm.get 5 = some (pv p5 0)) (g9 : tm.get 9 = some (pv pI 0)) (g16 : tm.get 16 = some (.bool (okRz bss.length size more))) :
    ∃ h', endF T0 5 (codeB T0 X0 call (N + 700) ELs (.code tailL) tm h []) = some (.bool true, h') := by
  obtain ⟨r1, h1, a1, a2, a3⟩ := hRes n pI x y bss bs0 more fb vm size h0 h hn hG hm hmb hmB hI hnI hok hxs hys hws
  have G1 : Grow n h0 h1 := hG.trans a3 (Nat.le_refl _)
  have hs1 : SiB h1 p5 x := BoxL.grow hs a3 hp5
  have ls1 := hs1.loads
  rcases a2 with ⟨k1, rfl, hI1⟩ | ⟨k1, rfl, hI1⟩
  · rw [k1] at g16
    obtain ⟨h2, b1, b2⟩ := hSup n pI _ _ _ _ _ h1 hI1
    have hs2 : SiB h2 p5 x := BoxL.grow hs1 b2 (by have := G1.next; omega)
    have ls2 := hs2.loads
    have hp := plan_l26
    simp only [regOps, part, Tryz.f5, sub] at hp
    refine ⟨h2, ?_⟩
    simp only [tailL, part, Tryz.f5, sub, symM, opFn, Nat.reduceLT, Nat.reduceBEq, symM, g2, g3, g9, g16, evCall_fn ft22 rfl, a1]
    rw [codeB_draw, draw_plan hp rfl]
    simp only [drawAll, opFn, Nat.reduceBEq, g5, g9, bin_eql, show ((1 : Int) == 1) = true from rfl, evCall_fn ft14 rfl, b1, effE_cons, eqV_si, ls1, ls2, S_eql]
    exact retB_one ft5 rfl get_same
  · rw [k1] at g16
    have hz : 64 ≤ size ∧ size ≤ 480 ∧ more.length = (size - bss.length).toNat ∧ (more.any fun bs => !len64 bs) = false := by
      unfold okRz at k1
      simp only [Bool.and_eq_true, decide_eq_true_eq, Bool.not_eq_true'] at k1
      exact ⟨k1.1.1, k1.1.2, k1.2.1, k1.2.2⟩
    obtain ⟨z1, z2, z3, z4⟩ := hz
    obtain ⟨z, rfl⟩ : ∃ z : Nat, size = (z : Int) := ⟨size.toNat, by omega⟩
    rw [Int.toNat_natCast] at hI1
    have hL := (okI_true hok).1
    have hal : (bss ++ more).length = bss.length + more.length := List.length_append
    have hnl : (((bss ++ more).take z).set 0 (svB (sizeI x z).sv)).length = z := by rw [List.length_set, List.length_take]; omega
    generalize hnw : ((bss ++ more).take z).set 0 (svB (sizeI x z).sv) = nw at *
    have hge : ∀ i, 1 ≤ i → i < z → nw[i]? = (bss ++ more)[i]? := fun i h1 h2 => by
      rw [← hnw, List.getElem?_set_ne (by omega), List.getElem?_take, if_pos h2]
    obtain ⟨vn, h2, b1, b2, b3⟩ := hBl n pI _ _ _ _ _ h1 hI1 (by omega)
    have hI2 := hI1.grow b3
    obtain ⟨h3, c1, c2⟩ := hSup n pI _ _ _ _ _ h2 hI2
    have n1 := G1.next
    have n2 := b3.next
    have n3 := c2.next
    have hI3 := hI2.grow c2
    have hs3 : SiB h3 p5 x := BoxL.grow (BoxL.grow hs1 b3 (by omega) : SiB h2 p5 x) c2 (by omega)
    have b23 := b2.grow c2
    have G3 : Grow n h0 h3 := (G1.trans (b3.less (by omega)) (Nat.le_refl _)).trans (c2.less (by omega)) (Nat.le_refl _)
    have hv3 := hv.grow (hn ▸ G3)
    have hm64 : ∀ bs ∈ more, bs.length = 64 := any64 z4
    have hm3 := (hm.wb hm64).grow (hn ▸ G3)
    have hlen : ∀ ty h', evBuiltin T0 .len #[22] ty [vn] h' = some (.value (iv z), h') := fun ty h' => by rw [b2.len ty, hnl]
    obtain ⟨vw, kw, h4, d1, d2, d3, d4⟩ := hCh n pI _ _ _ _ _ h3 hI3 (by omega) (by omega) (fun i h1 h2 => by
      rw [hge i h1 (by omega)]
      by_cases hb : i < bss.length
      · rw [List.getElem?_append_left hb, List.getElem?_append_left (by omega), he i h1]
      · rw [List.getElem?_append_right (by omega), List.getElem?_append_right (by omega), hws]) (by rw [List.length_append]; omega)
    have hk1 : decide ((kw : Int) ≤ 1) = true := decide_eq_true (by omega)
    simp only [tailL, part, Tryz.f5, sub, symM, opFn, Nat.reduceLT, Nat.reduceBEq, symM, symL, g2, g3, g9, g16, evCall_fn ft22 rfl, a1, evCall_fn ft12 rfl, b1, bin_neq, show ((0 : Int) == 0) = true from rfl, evCall_fn ft14 rfl, c1, field_Sz0, show (sizeI x (z : Int)).s = (z : Int) from rfl, show ((z : Int) == (z : Int)) = true from by simp, hlen]
    generalize hX : codeB T0 X0 call _ ELs (.loop _) _ _ _ = X
    obtain ⟨t2, h5, e1, e2, e3⟩ := use_exit hX (l2Lp h1.next z bss.length p5 x v vm vn (pv pI 0) bs0 more nw h3 (by omega) hnl b23 hv3 hm3 hs3 hxs hbb hmb (fun i h1 h2 h3 => by rw [hge i h1 h2, List.getElem?_append_left h3, he i h1]) (fun i h1 h2 h3 => by rw [hge i h1 h2, List.getElem?_append_right h3]) (z - 1) 1 _ _ (by omega) (by omega) (by omega) (by simp only [symM, Nat.reduceBEq, g0]) (by simp only [symM, Nat.reduceBEq, g2]) (by simp only [symM, Nat.reduceBEq, g3]) (by simp only [symM, Nat.reduceBEq, g5]) (by simp only [symM, Nat.reduceBEq, g9]) (by simp only [symM, Nat.reduceBEq]) (by simp only [symM]; rfl))
    clear hX
    subst e1 e2
    refine ⟨h4, ?_⟩
    simp only [symM, opFn, Nat.reduceLT, symM, symL, e3, evCall_fn ft23 rfl, d1, d2.len, bin_leq, hk1]
    exact retB_one ft5 rfl get_same
end
end Go.Proofs.YtjdhdhmoedlfdaaGreat.Abs
namespace Go.Proofs.YtjdhdhmoedlfdaaGreat.Abs
open Go Go.Proofs
noncomputable section
variable {call : Abs.Callee}
set_option maxRecDepth 10000
theorem ft8 : T0.ft.get 8 = some Tryz.f8 := by kernel_rfl
theorem base_grow {h H : AH} (n : Nat) (hn : h.next ≤ n) (G : Grow h.next h H) : Grow h.next h { H with next := n } := ⟨hn, fun k hk => G.keep k hk⟩
theorem base_to {H : AH} (n : Nat) (hn : n ≤ H.next) : Grow n { H with next := n } H := ⟨hn, fun _ _ => rfl⟩
set_option maxHeartbeats 1600000 in
theorem law_G (M B : Nat) (hO : OpenC call B) (hR : ROpenC call B) (hAw : AwC call) (hSet : YSetC call) (hEnc : RGEncC call) (hSup : YSuperC call) (hRes : YResC call B) (hBl : YBlocksC call) (hCh : YChangesC call)
    (v vm : Value) (s : SI) (size : Int) (bss more : List (List Nat)) (h : AH) (hv : AB h v bss) (hm : AB h vm more) (hbb : ∀ bs ∈ bss, ∀ x ∈ bs, x < 256) (hmb : ∀ bs ∈ more, ∀ x ∈ bs, x < 256) (hbB : bss.length ≤ B) (hmB : more.length ≤ B) (hmX : more.length < XB) (hmM : more.length ≤ M) :
    ∃ h', frameB T0 X0 call (M + 3000) 5 [v, siV s, iv size, vm] h = some (.bool true, h') := by
  generalize hh1 : h.new (.cells (PM.ofList (siL s)) (siL s).length 36 0 0 .ex) = h1
  have g1 : Grow h.next h h1 := by rw [← hh1]; exact Grow.new _ _
  have n1 : h1.next = h.next + 1 := by rw [← hh1]; rfl
  have s1 : SiB h1 h.next s := by rw [← hh1]; exact BoxL.new _ _ _
  obtain ⟨r2, h2, a1, a2, a3⟩ := hO bss v h1 hbb hbB (hv.grow g1)
  have n2 := a2.next
  have G2 : Grow h.next h h2 := g1.trans a2 (by omega)
  obtain ⟨r3, h3, b1, b2, b3⟩ := hR bss v h2 hbb hbB (hv.grow G2)
  have n3 := b2.next
  have G3 : Grow h.next h h3 := G2.trans b2 (by omega)
  have aw := hAw h3
  rcases a3 with ⟨k1, rfl⟩ | ⟨k1, pI, rfl, hnI, hI⟩
  · rcases b3 with ⟨k2, rfl⟩ | ⟨k2, _⟩
    · refine ⟨h3, ?_⟩
      rw [frameB_eq ft5 rfl rfl]
      simp only [Tryz.f5, symM, opFn, Nat.reduceLT, Nat.reduceBEq, symM, box_Si, hh1, evCall_fn ft6 rfl, a1, evCall_fn ft7 rfl, b1, evCall_fn ft8 rfl, aw, bin_eql, show ((2 : Int) == 2) = true from rfl]
      exact retB_one ft5 rfl get_same
    · rw [k1] at k2; cases k2
  rcases b3 with ⟨k2, _⟩ | ⟨k2, pV, rfl, hnV, hV⟩
  · rw [k1] at k2; cases k2
  obtain ⟨o1, o2, o3, o4⟩ := okO_parts k1
  generalize hx : (svOf (bss.getD 0 [])).si = x at *
  generalize hfb : (bss.getD 2 []).take 60 = fb at *
  have hxL : x.s = (bss.length : Int) := by rw [← hx, ← o4]; rfl
  have hL := (okI_true o3).1
  have hI3 : ImgY h1.next h3 pI x x bss bss fb := ImgY.grow hI b2
  obtain ⟨hpV, vu, vn, hVb, _⟩ := hV
  obtain ⟨r4, h4, c1, c2, c3, c4⟩ := hSet h1.next pI x x s bss bss fb h3 hI3 hnI (by omega)
  have n4 := c3.next
  have s3 : SiB h3 h.next s := BoxL.grow (BoxL.grow s1 a2 (by omega) : SiB h2 h.next s) b2 (by omega)
  have s4 : SiB h4 h.next s := BoxL.grow s3 c3 (by omega)
  have ls3 := s3.loads.2.2.2.2.2
  have ls4 := s4.loads.2.2.2.2.2
  have V4 : BoxL h4 pV 40 (stX x vu vn v) := hVb.keep (c4 pV _ hpV hVb.ty (by decide) (by decide))
  obtain ⟨r5, h5, d1, d2, d3⟩ := hEnc s h4
  have n5 := d2.next
  have s5 : SiB h5 h.next s := BoxL.grow s4 d2 (by omega)
  have li5 := s5.loads.1
  have ls5 := s5.loads.2.2.2.2.2
  have V5 : BoxL h5 pV 40 (stX x vu vn v) := V4.grow d2 (by omega)
  have lv5 : evLoad T0 3 (pv pV 0) h5 = some (iv x.s) := V5.load agg_int rfl
  have lV5 : evLoad T0 36 (pv pV 0) h5 = some (siV x) := V5.loadA (o := 0) (ws := siL x) agg_Sup sz_Sup (by simp [stX, siL]) (fun i y hi => by
    rw [Nat.zero_add]
    unfold stX
    rw [List.getElem?_append_left (List.getElem?_eq_some_iff.1 hi).1]; exact hi)
  have G4 : Grow h.next h h4 := G3.trans (c3.less (by omega)) (Nat.le_refl _)
  have G5 : Grow h.next h h5 := G4.trans d2 (by omega)
  have hp9 := plan_l9
  simp only [regOps, part, Tryz.f5, sub] at hp9
  have hp10 := plan_l10
  simp only [regOps, part, Tryz.f5, sub] at hp10
  have hp13 := plan_l13
  simp only [regOps, part, Tryz.f5, sub] at hp13
  rcases c2 with ⟨k3, rfl, hI4⟩ | ⟨k3, rfl, hI4⟩
  · have hI5 := hI4.grow d2
    obtain ⟨h6, f1, f2⟩ := hSup h1.next pI _ _ _ _ _ h5 hI5
    have n6 := f2.next
    have V6 : BoxL h6 pV 40 (stX x vu vn v) := V5.grow f2 (by omega)
    have s6 : SiB h6 h.next s := BoxL.grow s5 f2 (by omega)
    have lV6 : evLoad T0 36 (pv pV 0) h6 = some (siV x) := V6.loadA (o := 0) (ws := siL x) agg_Sup sz_Sup (by simp [stX, siL]) (fun i y hi => by
      rw [Nat.zero_add]
      unfold stX
      rw [List.getElem?_append_left (List.getElem?_eq_some_iff.1 hi).1]; exact hi)
    obtain ⟨h7, q1, q2, q3⟩ := s6.storeAll x
    have n7 := q3.next
    have hI7 : ImgY h1.next h7 pI x x bss bss fb := (hI5.grow f2).keepS q3 s6.ty
    have G7 : Grow h.next h h7 := (G5.trans f2 (by omega)).trans (q3.grow (Nat.le_refl _)) (Nat.le_refl _)
    have li7 : evLoad T0 3 (pv h.next 0) h7 = some (iv (bss.length : Int)) := by rw [← hxL]; exact q2.loads.1
    rcases d3 with ⟨k4, rfl⟩ | ⟨k4, v5, rfl, _⟩
    · by_cases z1 : size < 64
      · rw [frameB_eq ft5 rfl rfl]
        simp only [Tryz.f5, symM, opFn, Nat.reduceLT, Nat.reduceBEq, symM, box_Si, hh1, evCall_fn ft6 rfl, a1, evCall_fn ft7 rfl, b1, evCall_fn ft8 rfl, aw, bin_neq, show ((0 : Int) == 0) = true from rfl, ptr_eql, ls3, evCall_fn ft20 rfl, c1, ls4, evCall_fn ft21 rfl, d1]
        rw [codeB_draw, draw_plan hp9 rfl]
        simp only [drawAll, opFn, Nat.reduceBEq, bin_neq, show ((2 : Int) == 0) = false from rfl]
        rw [draw_plan hp10 rfl]
        simp only [drawAll, opFn, Nat.reduceLT, Nat.reduceBEq, bin_neq, show ((2 : Int) == 2) = true from rfl, evCall_fn ft14 rfl, f1, effE_cons, nil_pv, field_V, field_Su0, eqV_si, lV5, lV6, S_neq, q1, li7, bin_geq, decide_eq_false (show ¬ size ≥ 64 by omega), bin_gtr, decide_eq_false (show ¬ size > (bss.length : Int) by omega)]
        simp only [symL]
        generalize hX : codeB T0 X0 call _ ELs (.loop _) _ _ _ = X
        obtain ⟨t1, e1, e2, e3, e4, e5, e6, e7⟩ := use_loop (P := fun X => ∃ tm', X = .jump (.exit 0) tm' h7 [] ∧ tm'.get 16 = some (.bool (false && !(more.any fun bs => !len64 bs))) ∧ tm'.get 0 = some v ∧ tm'.get 2 = some (iv size) ∧ tm'.get 3 = some vm ∧ tm'.get 5 = some (pv h.next 0) ∧ tm'.get 9 = some (pv pI 0)) hX (l1Lp vm v (iv size) (pv h.next 0) (pv pI 0) more h7 (hm.grow G7) hmX more 0 (false) _ _ rfl (by simp) (by omega) (by simp only [symM, Nat.reduceBEq]) (by simp only [symM, Nat.reduceBEq]) (by simp only [symM]; rfl) (by simp only [symM, Nat.reduceBEq]) (by simp only [symM, Nat.reduceBEq]) (by simp only [symM, Nat.reduceBEq]) (by simp only [symM, Nat.reduceBEq]))
        clear hX
        subst e1
        rw [show (false && !(more.any fun bs => !len64 bs)) = okRz (bss).length size more from by unfold okRz; rw [decide_eq_false (show ¬ (64 ≤ size ∧ size ≤ 480) by omega)]; rfl] at e2
        obtain ⟨hf, T⟩ := law_tail (call := call) (M + 2287) M B hSup hRes hBl hCh h1.next pI h.next x x bss (bss) more fb v vm size { h7 with next := h1.next } h7 t1 rfl (base_to _ (by omega)) ((hv.grow (base_grow _ (by omega) G7)).wb o2) (hm.grow (base_grow _ (by omega) G7)) hbb hmb hmB hI7 hnI q2 (by omega) o3 (by exact hxL) hxL (by simp) (fun i hi => rfl) e3 e4 e5 e6 e7 e2
        refine ⟨hf, ?_⟩
        rw [show M + 2287 + 700 = M + 2987 from by omega] at T
        simp only [tailL, part, Tryz.f5, sub] at T
        exact T
      by_cases z2 : 480 < size
      · rw [frameB_eq ft5 rfl rfl]
        simp only [Tryz.f5, symM, opFn, Nat.reduceLT, Nat.reduceBEq, symM, box_Si, hh1, evCall_fn ft6 rfl, a1, evCall_fn ft7 rfl, b1, evCall_fn ft8 rfl, aw, bin_neq, show ((0 : Int) == 0) = true from rfl, ptr_eql, ls3, evCall_fn ft20 rfl, c1, ls4, evCall_fn ft21 rfl, d1]
        rw [codeB_draw, draw_plan hp9 rfl]
        simp only [drawAll, opFn, Nat.reduceBEq, bin_neq, show ((2 : Int) == 0) = false from rfl]
        rw [draw_plan hp10 rfl]
        simp only [drawAll, opFn, Nat.reduceLT, Nat.reduceBEq, bin_neq, show ((2 : Int) == 2) = true from rfl, evCall_fn ft14 rfl, f1, effE_cons, nil_pv, field_V, field_Su0, eqV_si, lV5, lV6, S_neq, q1, li7, bin_geq, decide_eq_true (show size ≥ 64 by omega), bin_leq, decide_eq_false (show ¬ size ≤ 480 by omega), bin_gtr, decide_eq_true (show size > (bss.length : Int) by omega), bin_sub]
        simp only [symL]
        generalize hX : codeB T0 X0 call _ ELs (.loop _) _ _ _ = X
        obtain ⟨t1, e1, e2, e3, e4, e5, e6, e7⟩ := use_loop (P := fun X => ∃ tm', X = .jump (.exit 0) tm' h7 [] ∧ tm'.get 16 = some (.bool (false && !(more.any fun bs => !len64 bs))) ∧ tm'.get 0 = some v ∧ tm'.get 2 = some (iv size) ∧ tm'.get 3 = some vm ∧ tm'.get 5 = some (pv h.next 0) ∧ tm'.get 9 = some (pv pI 0)) hX (l1Lp vm v (iv size) (pv h.next 0) (pv pI 0) more h7 (hm.grow G7) hmX more 0 (false) _ _ rfl (by simp) (by omega) (by simp only [symM, Nat.reduceBEq]) (by simp only [symM, Nat.reduceBEq]) (by simp only [symM]; rfl) (by simp only [symM, Nat.reduceBEq]) (by simp only [symM, Nat.reduceBEq]) (by simp only [symM, Nat.reduceBEq]) (by simp only [symM, Nat.reduceBEq]))
        clear hX
        subst e1
        rw [show (false && !(more.any fun bs => !len64 bs)) = okRz (bss).length size more from by unfold okRz; rw [decide_eq_false (show ¬ (64 ≤ size ∧ size ≤ 480) by omega)]; rfl] at e2
        obtain ⟨hf, T⟩ := law_tail (call := call) (M + 2287) M B hSup hRes hBl hCh h1.next pI h.next x x bss (bss) more fb v vm size { h7 with next := h1.next } h7 t1 rfl (base_to _ (by omega)) ((hv.grow (base_grow _ (by omega) G7)).wb o2) (hm.grow (base_grow _ (by omega) G7)) hbb hmb hmB hI7 hnI q2 (by omega) o3 (by exact hxL) hxL (by simp) (fun i hi => rfl) e3 e4 e5 e6 e7 e2
        refine ⟨hf, ?_⟩
        rw [show M + 2287 + 700 = M + 2987 from by omega] at T
        simp only [tailL, part, Tryz.f5, sub] at T
        exact T
      obtain ⟨z, rfl⟩ : ∃ z : Nat, size = (z : Int) := ⟨size.toNat, by omega⟩
      by_cases z3 : bss.length < z
      · have w1 : IntKind.i64.wrap ((z : Int) - (bss.length : Int)) = ((z - bss.length : Nat) : Int) := by rw [wz (by omega)]; omega
        have hq : (((z - bss.length : Nat) : Int) == ((more.length : Nat) : Int)) = decide (more.length = ((z : Int) - (bss.length : Int)).toNat) := by rw [int_ne, show ((z : Int) - (bss.length : Int)).toNat = z - bss.length by omega, Bool.eq_iff_iff]; simp only [decide_eq_true_eq]; omega
        rw [frameB_eq ft5 rfl rfl]
        simp only [Tryz.f5, symM, opFn, Nat.reduceLT, Nat.reduceBEq, symM, box_Si, hh1, evCall_fn ft6 rfl, a1, evCall_fn ft7 rfl, b1, evCall_fn ft8 rfl, aw, bin_neq, show ((0 : Int) == 0) = true from rfl, ptr_eql, ls3, evCall_fn ft20 rfl, c1, ls4, evCall_fn ft21 rfl, d1]
        rw [codeB_draw, draw_plan hp9 rfl]
        simp only [drawAll, opFn, Nat.reduceBEq, bin_neq, show ((2 : Int) == 0) = false from rfl]
        rw [draw_plan hp10 rfl]
        simp only [drawAll, opFn, Nat.reduceLT, Nat.reduceBEq, bin_neq, show ((2 : Int) == 2) = true from rfl, evCall_fn ft14 rfl, f1, effE_cons, nil_pv, field_V, field_Su0, eqV_si, lV5, lV6, S_neq, q1, li7, bin_geq, decide_eq_true (show (z : Int) ≥ 64 by omega), bin_leq, decide_eq_true (show (z : Int) ≤ 480 by omega), bin_gtr, decide_eq_true (show (z : Int) > (bss.length : Int) by omega), bin_sub, w1, (hm.grow G7).len, bin_eql, hq]
        simp only [symL]
        generalize hX : codeB T0 X0 call _ ELs (.loop _) _ _ _ = X
        obtain ⟨t1, e1, e2, e3, e4, e5, e6, e7⟩ := use_loop (P := fun X => ∃ tm', X = .jump (.exit 0) tm' h7 [] ∧ tm'.get 16 = some (.bool (decide (more.length = ((z : Int) - (bss.length : Int)).toNat) && !(more.any fun bs => !len64 bs))) ∧ tm'.get 0 = some v ∧ tm'.get 2 = some (iv (z : Int)) ∧ tm'.get 3 = some vm ∧ tm'.get 5 = some (pv h.next 0) ∧ tm'.get 9 = some (pv pI 0)) hX (l1Lp vm v (iv (z : Int)) (pv h.next 0) (pv pI 0) more h7 (hm.grow G7) hmX more 0 (decide (more.length = ((z : Int) - (bss.length : Int)).toNat)) _ _ rfl (by simp) (by omega) (by simp only [symM, Nat.reduceBEq]) (by simp only [symM, Nat.reduceBEq]) (by simp only [symM]; rfl) (by simp only [symM, Nat.reduceBEq]) (by simp only [symM, Nat.reduceBEq]) (by simp only [symM, Nat.reduceBEq]) (by simp only [symM, Nat.reduceBEq]))
        clear hX
        subst e1
        rw [show (decide (more.length = ((z : Int) - (bss.length : Int)).toNat) && !(more.any fun bs => !len64 bs)) = okRz (bss).length (z : Int) more from by unfold okRz; rw [decide_eq_true (show 64 ≤ (z : Int) ∧ (z : Int) ≤ 480 by omega)]; simp] at e2
        obtain ⟨hf, T⟩ := law_tail (call := call) (M + 2287) M B hSup hRes hBl hCh h1.next pI h.next x x bss (bss) more fb v vm (z : Int) { h7 with next := h1.next } h7 t1 rfl (base_to _ (by omega)) ((hv.grow (base_grow _ (by omega) G7)).wb o2) (hm.grow (base_grow _ (by omega) G7)) hbb hmb hmB hI7 hnI q2 (by omega) o3 (by exact hxL) hxL (by simp) (fun i hi => rfl) e3 e4 e5 e6 e7 e2
        refine ⟨hf, ?_⟩
        rw [show M + 2287 + 700 = M + 2987 from by omega] at T
        simp only [tailL, part, Tryz.f5, sub] at T
        exact T
      · have hq : ((0 : Int) == ((more.length : Nat) : Int)) = decide (more.length = ((z : Int) - (bss.length : Int)).toNat) := by rw [show ((z : Int) - (bss.length : Int)).toNat = 0 by omega, Bool.eq_iff_iff]; simp only [beq_iff_eq, decide_eq_true_eq]; omega
        rw [frameB_eq ft5 rfl rfl]
        simp only [Tryz.f5, symM, opFn, Nat.reduceLT, Nat.reduceBEq, symM, box_Si, hh1, evCall_fn ft6 rfl, a1, evCall_fn ft7 rfl, b1, evCall_fn ft8 rfl, aw, bin_neq, show ((0 : Int) == 0) = true from rfl, ptr_eql, ls3, evCall_fn ft20 rfl, c1, ls4, evCall_fn ft21 rfl, d1]
        rw [codeB_draw, draw_plan hp9 rfl]
        simp only [drawAll, opFn, Nat.reduceBEq, bin_neq, show ((2 : Int) == 0) = false from rfl]
        rw [draw_plan hp10 rfl]
        simp only [drawAll, opFn, Nat.reduceLT, Nat.reduceBEq, bin_neq, show ((2 : Int) == 2) = true from rfl, evCall_fn ft14 rfl, f1, effE_cons, nil_pv, field_V, field_Su0, eqV_si, lV5, lV6, S_neq, q1, li7, bin_geq, decide_eq_true (show (z : Int) ≥ 64 by omega), bin_leq, decide_eq_true (show (z : Int) ≤ 480 by omega), bin_gtr, decide_eq_false (show ¬ (z : Int) > (bss.length : Int) by omega), (hm.grow G7).len, bin_eql, hq]
        simp only [symL]
        generalize hX : codeB T0 X0 call _ ELs (.loop _) _ _ _ = X
        obtain ⟨t1, e1, e2, e3, e4, e5, e6, e7⟩ := use_loop (P := fun X => ∃ tm', X = .jump (.exit 0) tm' h7 [] ∧ tm'.get 16 = some (.bool (decide (more.length = ((z : Int) - (bss.length : Int)).toNat) && !(more.any fun bs => !len64 bs))) ∧ tm'.get 0 = some v ∧ tm'.get 2 = some (iv (z : Int)) ∧ tm'.get 3 = some vm ∧ tm'.get 5 = some (pv h.next 0) ∧ tm'.get 9 = some (pv pI 0)) hX (l1Lp vm v (iv (z : Int)) (pv h.next 0) (pv pI 0) more h7 (hm.grow G7) hmX more 0 (decide (more.length = ((z : Int) - (bss.length : Int)).toNat)) _ _ rfl (by simp) (by omega) (by simp only [symM, Nat.reduceBEq]) (by simp only [symM, Nat.reduceBEq]) (by simp only [symM]; rfl) (by simp only [symM, Nat.reduceBEq]) (by simp only [symM, Nat.reduceBEq]) (by simp only [symM, Nat.reduceBEq]) (by simp only [symM, Nat.reduceBEq]))
        clear hX
        subst e1
        rw [show (decide (more.length = ((z : Int) - (bss.length : Int)).toNat) && !(more.any fun bs => !len64 bs)) = okRz (bss).length (z : Int) more from by unfold okRz; rw [decide_eq_true (show 64 ≤ (z : Int) ∧ (z : Int) ≤ 480 by omega)]; simp] at e2
        obtain ⟨hf, T⟩ := law_tail (call := call) (M + 2287) M B hSup hRes hBl hCh h1.next pI h.next x x bss (bss) more fb v vm (z : Int) { h7 with next := h1.next } h7 t1 rfl (base_to _ (by omega)) ((hv.grow (base_grow _ (by omega) G7)).wb o2) (hm.grow (base_grow _ (by omega) G7)) hbb hmb hmB hI7 hnI q2 (by omega) o3 (by exact hxL) hxL (by simp) (fun i hi => rfl) e3 e4 e5 e6 e7 e2
        refine ⟨hf, ?_⟩
        rw [show M + 2287 + 700 = M + 2987 from by omega] at T
        simp only [tailL, part, Tryz.f5, sub] at T
        exact T
    · have hz : (s.s == x.s) = false := by
        unfold okSet at k3
        rw [k4, Bool.true_and] at k3
        simpa using k3
      by_cases z1 : size < 64
      · rw [frameB_eq ft5 rfl rfl]
        simp only [Tryz.f5, symM, opFn, Nat.reduceLT, Nat.reduceBEq, symM, box_Si, hh1, evCall_fn ft6 rfl, a1, evCall_fn ft7 rfl, b1, evCall_fn ft8 rfl, aw, bin_neq, show ((0 : Int) == 0) = true from rfl, ptr_eql, ls3, evCall_fn ft20 rfl, c1, ls4, evCall_fn ft21 rfl, d1]
        rw [codeB_draw, draw_plan hp9 rfl]
        simp only [drawAll, opFn, Nat.reduceBEq, bin_neq, show ((0 : Int) == 0) = true from rfl, field_V, field_Su0, nil_pv, li5, lv5, hz]
        rw [draw_plan hp10 rfl]
        simp only [drawAll, opFn, Nat.reduceLT, Nat.reduceBEq, bin_neq, show ((2 : Int) == 2) = true from rfl, evCall_fn ft14 rfl, f1, effE_cons, nil_pv, field_V, field_Su0, eqV_si, lV5, lV6, S_neq, q1, li7, bin_geq, decide_eq_false (show ¬ size ≥ 64 by omega), bin_gtr, decide_eq_false (show ¬ size > (bss.length : Int) by omega)]
        simp only [symL]
        generalize hX : codeB T0 X0 call _ ELs (.loop _) _ _ _ = X
        obtain ⟨t1, e1, e2, e3, e4, e5, e6, e7⟩ := use_loop (P := fun X => ∃ tm', X = .jump (.exit 0) tm' h7 [] ∧ tm'.get 16 = some (.bool (false && !(more.any fun bs => !len64 bs))) ∧ tm'.get 0 = some v ∧ tm'.get 2 = some (iv size) ∧ tm'.get 3 = some vm ∧ tm'.get 5 = some (pv h.next 0) ∧ tm'.get 9 = some (pv pI 0)) hX (l1Lp vm v (iv size) (pv h.next 0) (pv pI 0) more h7 (hm.grow G7) hmX more 0 (false) _ _ rfl (by simp) (by omega) (by simp only [symM, Nat.reduceBEq]) (by simp only [symM, Nat.reduceBEq]) (by simp only [symM]; rfl) (by simp only [symM, Nat.reduceBEq]) (by simp only [symM, Nat.reduceBEq]) (by simp only [symM, Nat.reduceBEq]) (by simp only [symM, Nat.reduceBEq]))
        clear hX
        subst e1
        rw [show (false && !(more.any fun bs => !len64 bs)) = okRz (bss).length size more from by unfold okRz; rw [decide_eq_false (show ¬ (64 ≤ size ∧ size ≤ 480) by omega)]; rfl] at e2
        obtain ⟨hf, T⟩ := law_tail (call := call) (M + 2287) M B hSup hRes hBl hCh h1.next pI h.next x x bss (bss) more fb v vm size { h7 with next := h1.next } h7 t1 rfl (base_to _ (by omega)) ((hv.grow (base_grow _ (by omega) G7)).wb o2) (hm.grow (base_grow _ (by omega) G7)) hbb hmb hmB hI7 hnI q2 (by omega) o3 (by exact hxL) hxL (by simp) (fun i hi => rfl) e3 e4 e5 e6 e7 e2
        refine ⟨hf, ?_⟩
        rw [show M + 2287 + 700 = M + 2987 from by omega] at T
        simp only [tailL, part, Tryz.f5, sub] at T
        exact T
      by_cases z2 : 480 < size
      · rw [frameB_eq ft5 rfl rfl]
        simp only [Tryz.f5, symM, opFn, Nat.reduceLT, Nat.reduceBEq, symM, box_Si, hh1, evCall_fn ft6 rfl, a1, evCall_fn ft7 rfl, b1, evCall_fn ft8 rfl, aw, bin_neq, show ((0 : Int) == 0) = true from rfl, ptr_eql, ls3, evCall_fn ft20 rfl, c1, ls4, evCall_fn ft21 rfl, d1]
        rw [codeB_draw, draw_plan hp9 rfl]
        simp only [drawAll, opFn, Nat.reduceBEq, bin_neq, show ((0 : Int) == 0) = true from rfl, field_V, field_Su0, nil_pv, li5, lv5, hz]
        rw [draw_plan hp10 rfl]
        simp only [drawAll, opFn, Nat.reduceLT, Nat.reduceBEq, bin_neq, show ((2 : Int) == 2) = true from rfl, evCall_fn ft14 rfl, f1, effE_cons, nil_pv, field_V, field_Su0, eqV_si, lV5, lV6, S_neq, q1, li7, bin_geq, decide_eq_true (show size ≥ 64 by omega), bin_leq, decide_eq_false (show ¬ size ≤ 480 by omega), bin_gtr, decide_eq_true (show size > (bss.length : Int) by omega), bin_sub]
        simp only [symL]
        generalize hX : codeB T0 X0 call _ ELs (.loop _) _ _ _ = X
        obtain ⟨t1, e1, e2, e3, e4, e5, e6, e7⟩ := use_loop (P := fun X => ∃ tm', X = .jump (.exit 0) tm' h7 [] ∧ tm'.get 16 = some (.bool (false && !(more.any fun bs => !len64 bs))) ∧ tm'.get 0 = some v ∧ tm'.get 2 = some (iv size) ∧ tm'.get 3 = some vm ∧ tm'.get 5 = some (pv h.next 0) ∧ tm'.get 9 = some (pv pI 0)) hX (l1Lp vm v (iv size) (pv h.next 0) (pv pI 0) more h7 (hm.grow G7) hmX more 0 (false) _ _ rfl (by simp) (by omega) (by simp only [symM, Nat.reduceBEq]) (by simp only [symM, Nat.reduceBEq]) (by simp only [symM]; rfl) (by simp only [symM, Nat.reduceBEq]) (by simp only [symM, Nat.reduceBEq]) (by simp only [symM, Nat.reduceBEq]) (by simp only [symM, Nat.reduceBEq]))
        clear hX
        subst e1
        rw [show (false && !(more.any fun bs => !len64 bs)) = okRz (bss).length size more from by unfold okRz; rw [decide_eq_false (show ¬ (64 ≤ size ∧ size ≤ 480) by omega)]; rfl] at e2
        obtain ⟨hf, T⟩ := law_tail (call := call) (M + 2287) M B hSup hRes hBl hCh h1.next pI h.next x x bss (bss) more fb v vm size { h7 with next := h1.next } h7 t1 rfl (base_to _ (by omega)) ((hv.grow (base_grow _ (by omega) G7)).wb o2) (hm.grow (base_grow _ (by omega) G7)) hbb hmb hmB hI7 hnI q2 (by omega) o3 (by exact hxL) hxL (by simp) (fun i hi => rfl) e3 e4 e5 e6 e7 e2
        refine ⟨hf, ?_⟩
        rw [show M + 2287 + 700 = M + 2987 from by omega] at T
        simp only [tailL, part, Tryz.f5, sub] at T
        exact T
      obtain ⟨z, rfl⟩ : ∃ z : Nat, size = (z : Int) := ⟨size.toNat, by omega⟩
      by_cases z3 : bss.length < z
      · have w1 : IntKind.i64.wrap ((z : Int) - (bss.length : Int)) = ((z - bss.length : Nat) : Int) := by rw [wz (by omega)]; omega
        have hq : (((z - bss.length : Nat) : Int) == ((more.length : Nat) : Int)) = decide (more.length = ((z : Int) - (bss.length : Int)).toNat) := by rw [int_ne, show ((z : Int) - (bss.length : Int)).toNat = z - bss.length by omega, Bool.eq_iff_iff]; simp only [decide_eq_true_eq]; omega
        rw [frameB_eq ft5 rfl rfl]
        simp only [Tryz.f5, symM, opFn, Nat.reduceLT, Nat.reduceBEq, symM, box_Si, hh1, evCall_fn ft6 rfl, a1, evCall_fn ft7 rfl, b1, evCall_fn ft8 rfl, aw, bin_neq, show ((0 : Int) == 0) = true from rfl, ptr_eql, ls3, evCall_fn ft20 rfl, c1, ls4, evCall_fn ft21 rfl, d1]
        rw [codeB_draw, draw_plan hp9 rfl]
        simp only [drawAll, opFn, Nat.reduceBEq, bin_neq, show ((0 : Int) == 0) = true from rfl, field_V, field_Su0, nil_pv, li5, lv5, hz]
        rw [draw_plan hp10 rfl]
        simp only [drawAll, opFn, Nat.reduceLT, Nat.reduceBEq, bin_neq, show ((2 : Int) == 2) = true from rfl, evCall_fn ft14 rfl, f1, effE_cons, nil_pv, field_V, field_Su0, eqV_si, lV5, lV6, S_neq, q1, li7, bin_geq, decide_eq_true (show (z : Int) ≥ 64 by omega), bin_leq, decide_eq_true (show (z : Int) ≤ 480 by omega), bin_gtr, decide_eq_true (show (z : Int) > (bss.length : Int) by omega), bin_sub, w1, (hm.grow G7).len, bin_eql, hq]
        simp only [symL]
        generalize hX : codeB T0 X0 call _ ELs (.loop _) _ _ _ = X
        obtain ⟨t1, e1, e2, e3, e4, e5, e6, e7⟩ := use_loop (P := fun X => ∃ tm', X = .jump (.exit 0) tm' h7 [] ∧ tm'.get 16 = some (.bool (decide (more.length = ((z : Int) - (bss.length : Int)).toNat) && !(more.any fun bs => !len64 bs))) ∧ tm'.get 0 = some v ∧ tm'.get 2 = some (iv (z : Int)) ∧ tm'.get 3 = some vm ∧ tm'.get 5 = some (pv h.next 0) ∧ tm'.get 9 = some (pv pI 0)) hX (l1Lp vm v (iv (z : Int)) (pv h.next 0) (pv pI 0) more h7 (hm.grow G7) hmX more 0 (decide (more.length = ((z : Int) - (bss.length : Int)).toNat)) _ _ rfl (by simp) (by omega) (by simp only [symM, Nat.reduceBEq]) (by simp only [symM, Nat.reduceBEq]) (by simp only [symM]; rfl) (by simp only [symM, Nat.reduceBEq]) (by simp only [symM, Nat.reduceBEq]) (by simp only [symM, Nat.reduceBEq]) (by simp only [symM, Nat.reduceBEq]))
        clear hX
        subst e1
        rw [show (decide (more.length = ((z : Int) - (bss.length : Int)).toNat) && !(more.any fun bs => !len64 bs)) = okRz (bss).length (z : Int) more from by unfold okRz; rw [decide_eq_true (show 64 ≤ (z : Int) ∧ (z : Int) ≤ 480 by omega)]; simp] at e2
        obtain ⟨hf, T⟩ := law_tail (call := call) (M + 2287) M B hSup hRes hBl hCh h1.next pI h.next x x bss (bss) more fb v vm (z : Int) { h7 with next := h1.next } h7 t1 rfl (base_to _ (by omega)) ((hv.grow (base_grow _ (by omega) G7)).wb o2) (hm.grow (base_grow _ (by omega) G7)) hbb hmb hmB hI7 hnI q2 (by omega) o3 (by exact hxL) hxL (by simp) (fun i hi => rfl) e3 e4 e5 e6 e7 e2
        refine ⟨hf, ?_⟩
        rw [show M + 2287 + 700 = M + 2987 from by omega] at T
        simp only [tailL, part, Tryz.f5, sub] at T
        exact T
      · have hq : ((0 : Int) == ((more.length : Nat) : Int)) = decide (more.length = ((z : Int) - (bss.length : Int)).toNat) := by rw [show ((z : Int) - (bss.length : Int)).toNat = 0 by omega, Bool.eq_iff_iff]; simp only [beq_iff_eq, decide_eq_true_eq]; omega
        rw [frameB_eq ft5 rfl rfl]
        simp only [Tryz.f5, symM, opFn, Nat.reduceLT, Nat.reduceBEq, symM, box_Si, hh1, evCall_fn ft6 rfl, a1, evCall_fn ft7 rfl, b1, evCall_fn ft8 rfl, aw, bin_neq, show ((0 : Int) == 0) = true from rfl, ptr_eql, ls3, evCall_fn ft20 rfl, c1, ls4, evCall_fn ft21 rfl, d1]
        rw [codeB_draw, draw_plan hp9 rfl]
        simp only [drawAll, opFn, Nat.reduceBEq, bin_neq, show ((0 : Int) == 0) = true from rfl, field_V, field_Su0, nil_pv, li5, lv5, hz]
        rw [draw_plan hp10 rfl]
        simp only [drawAll, opFn, Nat.reduceLT, Nat.reduceBEq, bin_neq, show ((2 : Int) == 2) = true from rfl, evCall_fn ft14 rfl, f1, effE_cons, nil_pv, field_V, field_Su0, eqV_si, lV5, lV6, S_neq, q1, li7, bin_geq, decide_eq_true (show (z : Int) ≥ 64 by omega), bin_leq, decide_eq_true (show (z : Int) ≤ 480 by omega), bin_gtr, decide_eq_false (show ¬ (z : Int) > (bss.length : Int) by omega), (hm.grow G7).len, bin_eql, hq]
        simp only [symL]
        generalize hX : codeB T0 X0 call _ ELs (.loop _) _ _ _ = X
        obtain ⟨t1, e1, e2, e3, e4, e5, e6, e7⟩ := use_loop (P := fun X => ∃ tm', X = .jump (.exit 0) tm' h7 [] ∧ tm'.get 16 = some (.bool (decide (more.length = ((z : Int) - (bss.length : Int)).toNat) && !(more.any fun bs => !len64 bs))) ∧ tm'.get 0 = some v ∧ tm'.get 2 = some (iv (z : Int)) ∧ tm'.get 3 = some vm ∧ tm'.get 5 = some (pv h.next 0) ∧ tm'.get 9 = some (pv pI 0)) hX (l1Lp vm v (iv (z : Int)) (pv h.next 0) (pv pI 0) more h7 (hm.grow G7) hmX more 0 (decide (more.length = ((z : Int) - (bss.length : Int)).toNat)) _ _ rfl (by simp) (by omega) (by simp only [symM, Nat.reduceBEq]) (by simp only [symM, Nat.reduceBEq]) (by simp only [symM]; rfl) (by simp only [symM, Nat.reduceBEq]) (by simp only [symM, Nat.reduceBEq]) (by simp only [symM, Nat.reduceBEq]) (by simp only [symM, Nat.reduceBEq]))
        clear hX
        subst e1
        rw [show (decide (more.length = ((z : Int) - (bss.length : Int)).toNat) && !(more.any fun bs => !len64 bs)) = okRz (bss).length (z : Int) more from by unfold okRz; rw [decide_eq_true (show 64 ≤ (z : Int) ∧ (z : Int) ≤ 480 by omega)]; simp] at e2
        obtain ⟨hf, T⟩ := law_tail (call := call) (M + 2287) M B hSup hRes hBl hCh h1.next pI h.next x x bss (bss) more fb v vm (z : Int) { h7 with next := h1.next } h7 t1 rfl (base_to _ (by omega)) ((hv.grow (base_grow _ (by omega) G7)).wb o2) (hm.grow (base_grow _ (by omega) G7)) hbb hmb hmB hI7 hnI q2 (by omega) o3 (by exact hxL) hxL (by simp) (fun i hi => rfl) e3 e4 e5 e6 e7 e2
        refine ⟨hf, ?_⟩
        rw [show M + 2287 + 700 = M + 2987 from by omega] at T
        simp only [tailL, part, Tryz.f5, sub] at T
        exact T
  · have k4 : okI s = true := by unfold okSet at k3; rw [Bool.and_eq_true] at k3; exact k3.1
    have k5 : s.s = x.s := by unfold okSet at k3; rw [Bool.and_eq_true, decide_eq_true_eq] at k3; exact k3.2
    have hz : (s.s == x.s) = true := by rw [k5]; simp
    rcases d3 with ⟨k6, _⟩ | ⟨_, v5, rfl, _⟩
    · rw [k4] at k6; cases k6
    have hI5 := hI4.grow d2
    obtain ⟨h6, f1, f2⟩ := hSup h1.next pI _ _ _ _ _ h5 hI5
    have n6 := f2.next
    have s6 : SiB h6 h.next s := BoxL.grow s5 f2 (by omega)
    have ls6 := s6.loads.2.2.2.2.2
    have hI6 := hI5.grow f2
    have G6 : Grow h.next h h6 := G5.trans f2 (by omega)
    have li6 : evLoad T0 3 (pv h.next 0) h6 = some (iv (bss.length : Int)) := by rw [← hxL, ← k5]; exact s6.loads.1
    by_cases z1 : size < 64
    · rw [frameB_eq ft5 rfl rfl]
      simp only [Tryz.f5, symM, opFn, Nat.reduceLT, Nat.reduceBEq, symM, box_Si, hh1, evCall_fn ft6 rfl, a1, evCall_fn ft7 rfl, b1, evCall_fn ft8 rfl, aw, bin_neq, show ((0 : Int) == 0) = true from rfl, ptr_eql, ls3, evCall_fn ft20 rfl, c1, ls4, evCall_fn ft21 rfl, d1]
      rw [codeB_draw, draw_plan hp9 rfl]
      simp only [drawAll, opFn, Nat.reduceBEq, bin_neq, show ((0 : Int) == 0) = true from rfl, field_V, field_Su0, nil_pv, li5, lv5, hz]
      rw [draw_plan hp13 rfl]
      simp only [drawAll, opFn, Nat.reduceLT, Nat.reduceBEq, bin_neq, show ((0 : Int) == 0) = true from rfl, evCall_fn ft14 rfl, f1, effE_cons, eqV_si, ls5, ls6, S_neq, field_Su0, li6, bin_geq, decide_eq_false (show ¬ size ≥ 64 by omega), bin_gtr, decide_eq_false (show ¬ size > (bss.length : Int) by omega)]
      simp only [symL]
      generalize hX : codeB T0 X0 call _ ELs (.loop _) _ _ _ = X
      obtain ⟨t1, e1, e2, e3, e4, e5, e6, e7⟩ := use_loop (P := fun X => ∃ tm', X = .jump (.exit 0) tm' h6 [] ∧ tm'.get 16 = some (.bool (false && !(more.any fun bs => !len64 bs))) ∧ tm'.get 0 = some v ∧ tm'.get 2 = some (iv size) ∧ tm'.get 3 = some vm ∧ tm'.get 5 = some (pv h.next 0) ∧ tm'.get 9 = some (pv pI 0)) hX (l1Lp vm v (iv size) (pv h.next 0) (pv pI 0) more h6 (hm.grow G6) hmX more 0 (false) _ _ rfl (by simp) (by omega) (by simp only [symM, Nat.reduceBEq]) (by simp only [symM, Nat.reduceBEq]) (by simp only [symM]; rfl) (by simp only [symM, Nat.reduceBEq]) (by simp only [symM, Nat.reduceBEq]) (by simp only [symM, Nat.reduceBEq]) (by simp only [symM, Nat.reduceBEq]))
      clear hX
      subst e1
      rw [show (false && !(more.any fun bs => !len64 bs)) = okRz (bss.set 0 (svB s.sv)).length size more from by unfold okRz; rw [decide_eq_false (show ¬ (64 ≤ size ∧ size ≤ 480) by omega)]; rfl] at e2
      obtain ⟨hf, T⟩ := law_tail (call := call) (M + 2287) M B hSup hRes hBl hCh h1.next pI h.next s x bss (bss.set 0 (svB s.sv)) more fb v vm size { h6 with next := h1.next } h6 t1 rfl (base_to _ (by omega)) ((hv.grow (base_grow _ (by omega) G6)).wb o2) (hm.grow (base_grow _ (by omega) G6)) hbb hmb hmB hI6 hnI s6 (by omega) k4 (by rw [List.length_set, ← hxL]; exact k5) hxL (by simp) (fun i hi => List.getElem?_set_ne (by omega)) e3 e4 e5 e6 e7 e2
      refine ⟨hf, ?_⟩
      rw [show M + 2287 + 700 = M + 2987 from by omega] at T
      simp only [tailL, part, Tryz.f5, sub] at T
      exact T
    by_cases z2 : 480 < size
    · rw [frameB_eq ft5 rfl rfl]
      simp only [Tryz.f5, symM, opFn, Nat.reduceLT, Nat.reduceBEq, symM, box_Si, hh1, evCall_fn ft6 rfl, a1, evCall_fn ft7 rfl, b1, evCall_fn ft8 rfl, aw, bin_neq, show ((0 : Int) == 0) = true from rfl, ptr_eql, ls3, evCall_fn ft20 rfl, c1, ls4, evCall_fn ft21 rfl, d1]
      rw [codeB_draw, draw_plan hp9 rfl]
      simp only [drawAll, opFn, Nat.reduceBEq, bin_neq, show ((0 : Int) == 0) = true from rfl, field_V, field_Su0, nil_pv, li5, lv5, hz]
      rw [draw_plan hp13 rfl]
      simp only [drawAll, opFn, Nat.reduceLT, Nat.reduceBEq, bin_neq, show ((0 : Int) == 0) = true from rfl, evCall_fn ft14 rfl, f1, effE_cons, eqV_si, ls5, ls6, S_neq, field_Su0, li6, bin_geq, decide_eq_true (show size ≥ 64 by omega), bin_leq, decide_eq_false (show ¬ size ≤ 480 by omega), bin_gtr, decide_eq_true (show size > (bss.length : Int) by omega), bin_sub]
      simp only [symL]
      generalize hX : codeB T0 X0 call _ ELs (.loop _) _ _ _ = X
      obtain ⟨t1, e1, e2, e3, e4, e5, e6, e7⟩ := use_loop (P := fun X => ∃ tm', X = .jump (.exit 0) tm' h6 [] ∧ tm'.get 16 = some (.bool (false && !(more.any fun bs => !len64 bs))) ∧ tm'.get 0 = some v ∧ tm'.get 2 = some (iv size) ∧ tm'.get 3 = some vm ∧ tm'.get 5 = some (pv h.next 0) ∧ tm'.get 9 = some (pv pI 0)) hX (l1Lp vm v (iv size) (pv h.next 0) (pv pI 0) more h6 (hm.grow G6) hmX more 0 (false) _ _ rfl (by simp) (by omega) (by simp only [symM, Nat.reduceBEq]) (by simp only [symM, Nat.reduceBEq]) (by simp only [symM]; rfl) (by simp only [symM, Nat.reduceBEq]) (by simp only [symM, Nat.reduceBEq]) (by simp only [symM, Nat.reduceBEq]) (by simp only [symM, Nat.reduceBEq]))
      clear hX
      subst e1
      rw [show (false && !(more.any fun bs => !len64 bs)) = okRz (bss.set 0 (svB s.sv)).length size more from by unfold okRz; rw [decide_eq_false (show ¬ (64 ≤ size ∧ size ≤ 480) by omega)]; rfl] at e2
      obtain ⟨hf, T⟩ := law_tail (call := call) (M + 2287) M B hSup hRes hBl hCh h1.next pI h.next s x bss (bss.set 0 (svB s.sv)) more fb v vm size { h6 with next := h1.next } h6 t1 rfl (base_to _ (by omega)) ((hv.grow (base_grow _ (by omega) G6)).wb o2) (hm.grow (base_grow _ (by omega) G6)) hbb hmb hmB hI6 hnI s6 (by omega) k4 (by rw [List.length_set, ← hxL]; exact k5) hxL (by simp) (fun i hi => List.getElem?_set_ne (by omega)) e3 e4 e5 e6 e7 e2
      refine ⟨hf, ?_⟩
      rw [show M + 2287 + 700 = M + 2987 from by omega] at T
      simp only [tailL, part, Tryz.f5, sub] at T
      exact T
    obtain ⟨z, rfl⟩ : ∃ z : Nat, size = (z : Int) := ⟨size.toNat, by omega⟩
    by_cases z3 : bss.length < z
    · have w1 : IntKind.i64.wrap ((z : Int) - (bss.length : Int)) = ((z - bss.length : Nat) : Int) := by rw [wz (by omega)]; omega
      have hq : (((z - bss.length : Nat) : Int) == ((more.length : Nat) : Int)) = decide (more.length = ((z : Int) - (bss.length : Int)).toNat) := by rw [int_ne, show ((z : Int) - (bss.length : Int)).toNat = z - bss.length by omega, Bool.eq_iff_iff]; simp only [decide_eq_true_eq]; omega
      rw [frameB_eq ft5 rfl rfl]
      simp only [Tryz.f5, symM, opFn, Nat.reduceLT, Nat.reduceBEq, symM, box_Si, hh1, evCall_fn ft6 rfl, a1, evCall_fn ft7 rfl, b1, evCall_fn ft8 rfl, aw, bin_neq, show ((0 : Int) == 0) = true from rfl, ptr_eql, ls3, evCall_fn ft20 rfl, c1, ls4, evCall_fn ft21 rfl, d1]
      rw [codeB_draw, draw_plan hp9 rfl]
      simp only [drawAll, opFn, Nat.reduceBEq, bin_neq, show ((0 : Int) == 0) = true from rfl, field_V, field_Su0, nil_pv, li5, lv5, hz]
      rw [draw_plan hp13 rfl]
      simp only [drawAll, opFn, Nat.reduceLT, Nat.reduceBEq, bin_neq, show ((0 : Int) == 0) = true from rfl, evCall_fn ft14 rfl, f1, effE_cons, eqV_si, ls5, ls6, S_neq, field_Su0, li6, bin_geq, decide_eq_true (show (z : Int) ≥ 64 by omega), bin_leq, decide_eq_true (show (z : Int) ≤ 480 by omega), bin_gtr, decide_eq_true (show (z : Int) > (bss.length : Int) by omega), bin_sub, w1, (hm.grow G6).len, bin_eql, hq]
      simp only [symL]
      generalize hX : codeB T0 X0 call _ ELs (.loop _) _ _ _ = X
      obtain ⟨t1, e1, e2, e3, e4, e5, e6, e7⟩ := use_loop (P := fun X => ∃ tm', X = .jump (.exit 0) tm' h6 [] ∧ tm'.get 16 = some (.bool (decide (more.length = ((z : Int) - (bss.length : Int)).toNat) && !(more.any fun bs => !len64 bs))) ∧ tm'.get 0 = some v ∧ tm'.get 2 = some (iv (z : Int)) ∧ tm'.get 3 = some vm ∧ tm'.get 5 = some (pv h.next 0) ∧ tm'.get 9 = some (pv pI 0)) hX (l1Lp vm v (iv (z : Int)) (pv h.next 0) (pv pI 0) more h6 (hm.grow G6) hmX more 0 (decide (more.length = ((z : Int) - (bss.length : Int)).toNat)) _ _ rfl (by simp) (by omega) (by simp only [symM, Nat.reduceBEq]) (by simp only [symM, Nat.reduceBEq]) (by simp only [symM]; rfl) (by simp only [symM, Nat.reduceBEq]) (by simp only [symM, Nat.reduceBEq]) (by simp only [symM, Nat.reduceBEq]) (by simp only [symM, Nat.reduceBEq]))
      clear hX
      subst e1
      rw [show (decide (more.length = ((z : Int) - (bss.length : Int)).toNat) && !(more.any fun bs => !len64 bs)) = okRz (bss.set 0 (svB s.sv)).length (z : Int) more from by unfold okRz; rw [decide_eq_true (show 64 ≤ (z : Int) ∧ (z : Int) ≤ 480 by omega)]; simp] at e2
      obtain ⟨hf, T⟩ := law_tail (call := call) (M + 2287) M B hSup hRes hBl hCh h1.next pI h.next s x bss (bss.set 0 (svB s.sv)) more fb v vm (z : Int) { h6 with next := h1.next } h6 t1 rfl (base_to _ (by omega)) ((hv.grow (base_grow _ (by omega) G6)).wb o2) (hm.grow (base_grow _ (by omega) G6)) hbb hmb hmB hI6 hnI s6 (by omega) k4 (by rw [List.length_set, ← hxL]; exact k5) hxL (by simp) (fun i hi => List.getElem?_set_ne (by omega)) e3 e4 e5 e6 e7 e2
      refine ⟨hf, ?_⟩
      rw [show M + 2287 + 700 = M + 2987 from by omega] at T
      simp only [tailL, part, Tryz.f5, sub] at T
      exact T
    · have hq : ((0 : Int) == ((more.length : Nat) : Int)) = decide (more.length = ((z : Int) - (bss.length : Int)).toNat) := by rw [show ((z : Int) - (bss.length : Int)).toNat = 0 by omega, Bool.eq_iff_iff]; simp only [beq_iff_eq, decide_eq_true_eq]; omega
      rw [frameB_eq ft5 rfl rfl]
      simp only [Tryz.f5, symM, opFn, Nat.reduceLT, Nat.reduceBEq, symM, box_Si, hh1, evCall_fn ft6 rfl, a1, evCall_fn ft7 rfl, b1, evCall_fn ft8 rfl, aw, bin_neq, show ((0 : Int) == 0) = true from rfl, ptr_eql, ls3, evCall_fn ft20 rfl, c1, ls4, evCall_fn ft21 rfl, d1]
      rw [codeB_draw, draw_plan hp9 rfl]
      simp only [drawAll, opFn, Nat.reduceBEq, bin_neq, show ((0 : Int) == 0) = true from rfl, field_V, field_Su0, nil_pv, li5, lv5, hz]
      rw [draw_plan hp13 rfl]
      simp only [drawAll, opFn, Nat.reduceLT, Nat.reduceBEq, bin_neq, show ((0 : Int) == 0) = true from rfl, evCall_fn ft14 rfl, f1, effE_cons, eqV_si, ls5, ls6, S_neq, field_Su0, li6, bin_geq, decide_eq_true (show (z : Int) ≥ 64 by omega), bin_leq, decide_eq_true (show (z : Int) ≤ 480 by omega), bin_gtr, decide_eq_false (show ¬ (z : Int) > (bss.length : Int) by omega), (hm.grow G6).len, bin_eql, hq]
      simp only [symL]
      generalize hX : codeB T0 X0 call _ ELs (.loop _) _ _ _ = X
      obtain ⟨t1, e1, e2, e3, e4, e5, e6, e7⟩ := use_loop (P := fun X => ∃ tm', X = .jump (.exit 0) tm' h6 [] ∧ tm'.get 16 = some (.bool (decide (more.length = ((z : Int) - (bss.length : Int)).toNat) && !(more.any fun bs => !len64 bs))) ∧ tm'.get 0 = some v ∧ tm'.get 2 = some (iv (z : Int)) ∧ tm'.get 3 = some vm ∧ tm'.get 5 = some (pv h.next 0) ∧ tm'.get 9 = some (pv pI 0)) hX (l1Lp vm v (iv (z : Int)) (pv h.next 0) (pv pI 0) more h6 (hm.grow G6) hmX more 0 (decide (more.length = ((z : Int) - (bss.length : Int)).toNat)) _ _ rfl (by simp) (by omega) (by simp only [symM, Nat.reduceBEq]) (by simp only [symM, Nat.reduceBEq]) (by simp only [symM]; rfl) (by simp only [symM, Nat.reduceBEq]) (by simp only [symM, Nat.reduceBEq]) (by simp only [symM, Nat.reduceBEq]) (by simp only [symM, Nat.reduceBEq]))
      clear hX
      subst e1
      rw [show (decide (more.length = ((z : Int) - (bss.length : Int)).toNat) && !(more.any fun bs => !len64 bs)) = okRz (bss.set 0 (svB s.sv)).length (z : Int) more from by unfold okRz; rw [decide_eq_true (show 64 ≤ (z : Int) ∧ (z : Int) ≤ 480 by omega)]; simp] at e2
      obtain ⟨hf, T⟩ := law_tail (call := call) (M + 2287) M B hSup hRes hBl hCh h1.next pI h.next s x bss (bss.set 0 (svB s.sv)) more fb v vm (z : Int) { h6 with next := h1.next } h6 t1 rfl (base_to _ (by omega)) ((hv.grow (base_grow _ (by omega) G6)).wb o2) (hm.grow (base_grow _ (by omega) G6)) hbb hmb hmB hI6 hnI s6 (by omega) k4 (by rw [List.length_set, ← hxL]; exact k5) hxL (by simp) (fun i hi => List.getElem?_set_ne (by omega)) e3 e4 e5 e6 e7 e2
      refine ⟨hf, ?_⟩
      rw [show M + 2287 + 700 = M + 2987 from by omega] at T
      simp only [tailL, part, Tryz.f5, sub] at T
      exact T
end
end Go.Proofs.YtjdhdhmoedlfdaaGreat.Abs
namespace Go.Proofs.YtjdhdhmoedlfdaaGreat.Abs
open Go Go.Proofs
noncomputable section
variable {call : Abs.Callee} {M : Nat}
set_option maxRecDepth 10000
def awS : Sums := addS 8 trueT noSums
def bigF (f : Nat) : Bool := Nat.beq f 72 || (Nat.beq f 7 || Nat.beq f 5)
def fuL (M f : Nat) : Nat := bif bigF f then M + 3000 else 3000
abbrev C (M d : Nat) : Abs.Callee := callU T0 X0 awS (fuL M) d
theorem C_fu {f : Nat} (hf : Nat.beq f 8 = false) (d : Nat) (args : List Value) (h : AH) : C M (d + 1) f args h = frameB T0 X0 (C M d) (fuL M f) f args h := by
  have hn : awS f = none := by unfold awS addS; rw [hf]; rfl
  show (match awS f with
    | some g => (match g args h with
      | some r => some r
      | none => frameB T0 X0 (C M d) (fuL M f) f args h)
    | none => frameB T0 X0 (C M d) (fuL M f) f args h) = _
  rw [hn]
theorem C_f {f : Nat} (hf : (Nat.beq f 8 || bigF f) = false) (d : Nat) (args : List Value) (h : AH) : C M (d + 1) f args h = frameB T0 X0 (C M d) 3000 f args h := by
  rw [Bool.or_eq_false_iff] at hf
  rw [C_fu hf.1]
  unfold fuL
  rw [hf.2]; rfl
theorem C_big {f : Nat} (hf : (Nat.beq f 8 || !bigF f) = false) (d : Nat) (args : List Value) (h : AH) : C M (d + 1) f args h = frameB T0 X0 (C M d) (M + 3000) f args h := by
  rw [Bool.or_eq_false_iff, Bool.not_eq_false'] at hf
  rw [C_fu hf.1]
  unfold fuL
  rw [hf.2]; rfl
theorem C_aw (d : Nat) (hd : 1 ≤ d) (h : AH) : C M d 8 [] h = some (.bool true, h) := by
  obtain ⟨e, rfl⟩ : ∃ e, d = e + 1 := ⟨d - 1, by omega⟩
  rfl
theorem at1 {d k : Nat} (h : k + 1 ≤ d) : ∃ e, d = e + 1 ∧ k ≤ e := ⟨d - 1, by omega, by omega⟩
theorem s_Abs (d : Nat) (hd : 1 ≤ d) (x : Nat) (h : AH) (hx : zok x = true) : C M d 217 [fl x] h = some (fl x, h) := by
  obtain ⟨e, rfl, _⟩ := at1 hd
  rw [C_f rfl]; exact Abs_S x hx h
theorem s_Trunc (d : Nat) (hd : 1 ≤ d) (x : Int) (h : AH) (hx : zok x = true) : C M d 218 [fl x] h = some (fl x, h) := by
  obtain ⟨e, rfl, _⟩ := at1 hd
  rw [C_f rfl]; exact Trunc_S x hx h
theorem s_whole (d : Nat) (hd : 2 ≤ d) (x : Nat) (h : AH) (hx : x ≤ 1048576) : C M d 202 [fl x] h = some (.bool true, h) := by
  obtain ⟨e, rfl, he⟩ := at1 hd
  rw [C_f rfl]; exact whole_S (s_Abs e he) (s_Trunc e he) x hx h
theorem s_Whole (d : Nat) (hd : 3 ≤ d) (x y : Nat) (h : AH) (hx : x ≤ 1048576) (hy : y ≤ 1048576) : C M d 161 [cx x y] h = some (.bool true, h) := by
  obtain ⟨e, rfl, he⟩ := at1 hd
  rw [C_f rfl]; exact Whole_S (s_whole e he) x y hx hy h
theorem s_RSound (d : Nat) (hd : 4 ≤ d) (x y : Nat) (h : AH) (hx : x ≤ 1048576) (hy : y ≤ 1048576) : C M d 107 [cx x y] h = some (.bool (runOK x y), h) := by
  obtain ⟨e, rfl, he⟩ := at1 hd
  rw [C_f rfl]; exact Sound_S (s_Whole e he) x y hx hy h
theorem s_parts (d : Nat) (hd : 1 ≤ d) (x y : Nat) (h : AH) (hx : x ≤ 1048576) (hy : y ≤ 1048576) : C M d 108 [cx x y] h = some (.tuple #[iv x, iv y], h) := by
  obtain ⟨e, rfl, he⟩ := at1 hd
  rw [C_f rfl]; exact parts_S x y hx hy h
theorem s_Parts (d : Nat) (hd : 5 ≤ d) (x y : Nat) (h : AH) (hx : x ≤ 1048576) (hy : y ≤ 1048576) : C M d 43 [cx x y] h = some (partsV x y, h) := by
  obtain ⟨e, rfl, he⟩ := at1 hd
  rw [C_f rfl]; exact Parts_S (s_RSound e he) (s_parts e (by omega)) x y hx hy h
theorem s_make1 (d : Nat) (hd : 1 ≤ d) (x y : Int) (h : AH) (hx : zok x = true) (hy : zok y = true) : C M d 163 [iv x, iv y] h = some (make1V x y, h) := by
  obtain ⟨e, rfl, he⟩ := at1 hd
  rw [C_f rfl]; exact make1_S x y hx hy h
theorem s_Meet (d : Nat) (hd : 5 ≤ d) (r x : XV) (h : AH) (hr : runOK r.x r.y = true) (hx : runOK x.x x.y = true) :
    ∃ a b : Int, C M d 169 [cx r.x r.y, cx x.x x.y] h = some (make1V a b, h) ∧ zok a = true ∧ zok b = true ∧ decide (0 < b) = meetX r x := by
  obtain ⟨e, rfl, he⟩ := at1 hd
  rw [C_f rfl]; exact Meet_S (s_RSound e he) (s_parts e (by omega)) (s_make1 e (by omega)) r x hr hx h
theorem s_Ext1 (d : Nat) (hd : 6 ≤ d) (r x : XV) (hr : runOK r.x r.y = true) (hx : runOK x.x x.y = true) (b : Nat) (h : AH) (hb : BoxL h b 107 [iv x.a, cx x.x x.y]) :
    C M d 168 [cx r.x r.y, pv b 0] h = some (.bool (meetX r x), h) := by
  obtain ⟨e, rfl, he⟩ := at1 hd
  rw [C_f rfl]; exact Ext1_S (s_Meet e he) r x hr hx b h hb
def meetP (x : XV) : Value → Bool
  | .complex .f64 a b => (match dz a, dz b with
    | some u, some w => decide (u < x.x + x.y ∧ (x.x : Int) < u + w)
    | _, _ => false)
  | _ => false
theorem meetP_cx (r x : XV) (hr : runOK r.x r.y = true) : meetP x (cx r.x r.y) = meetX r x := by
  have hr2 : 1 ≤ r.y ∧ r.x + r.y ≤ 480 := by simpa [runOK] using hr
  unfold meetP meetX
  simp only [dz_zd (zok_k (x := (r.x : Int)) (by omega)), dz_zd (zok_k (x := (r.y : Int)) (by omega))]
  rw [Bool.eq_iff_iff]
  simp only [decide_eq_true_eq]
  omega
theorem s_IndexE (d : Nat) (hd : 7 ≤ d) (v : Value) (prev : List XV) (x : XV) (n0 : Nat) (h : AH) (b : Nat) (hv : Row n0 h v (runsV prev) 84) (hl : prev.length < 200) (hb : BoxL h b 107 [iv x.a, cx x.x x.y]) (hp : ∀ r ∈ prev, runOK r.x r.y = true) (hx : runOK x.x x.y = true) :
    C M d 155 [v, .func (.func 168) #[] #[pv b 0]] h = some (iv (idxF (meetP x) (runsV prev) 0), h) := by
  obtain ⟨e, rfl, he⟩ := at1 hd
  rw [C_f rfl]
  refine Index_S v (runsV prev) n0 h 168 [pv b 0] _ _ ft168 rfl (meetP x) hv (by simp [runsV]; omega) (fun y hy => ?_)
  simp only [runsV, List.mem_map] at hy
  obtain ⟨r, hr, rfl⟩ := hy
  rw [s_Ext1 e he r x (hp r hr) hx b h hb, meetP_cx r x (hp r hr)]
theorem s_ContE (d : Nat) (hd : 8 ≤ d) (v : Value) (prev : List XV) (x : XV) (n0 : Nat) (h : AH) (b : Nat) (hv : Row n0 h v (runsV prev) 84) (hl : prev.length < 200) (hb : BoxL h b 107 [iv x.a, cx x.x x.y]) (hp : ∀ r ∈ prev, runOK r.x r.y = true) (hx : runOK x.x x.y = true) :
    C M d 167 [v, .func (.func 168) #[] #[pv b 0]] h = some (.bool (prev.any fun r => meetX r x), h) := by
  obtain ⟨e, rfl, he⟩ := at1 hd
  rw [C_f rfl, Contains_S v _ (runsV prev) (meetP x) h (s_IndexE e he v prev x n0 h b hv hl hb hp hx)]
  congr 3
  unfold runsV
  rw [List.any_map]
  rw [Bool.eq_iff_iff]
  simp only [List.any_eq_true, Function.comp_apply]
  exact ⟨fun ⟨r, h1, h2⟩ => ⟨r, h1, by rwa [meetP_cx r x (hp r h1)] at h2⟩, fun ⟨r, h1, h2⟩ => ⟨r, h1, by rwa [meetP_cx r x (hp r h1)]⟩⟩
theorem s_Extents (d : Nat) (hd : 9 ≤ d) (v : Value) (xs : List XV) (n0 : Nat) (h : AH) (hn : n0 ≤ h.next) (hx : ∀ x ∈ xs, okX x) (hL : xs.length ≤ 96) (hv : RowE n0 h v xs) : ∃ h', C M d 120 [v] h = some (.bool (extG 0 (-1) [] xs), h') ∧ Grow h.next h h' := by
  obtain ⟨e, rfl, he⟩ := at1 hd
  rw [C_f rfl]; exact Extents_S (s_Parts e (by omega)) (s_ContE e he) v xs n0 h hn hx hL hv
theorem s_mod (d : Nat) (hd : 1 ≤ d) (z : Int) (h : AH) (h1 : -65521 < z) (h2 : z < 1000000) : C M d 219 [fl z] h = some (fl (z % 65521), h) := by
  obtain ⟨e, rfl, he⟩ := at1 hd
  rw [C_f rfl]; exact mod_S z h1 h2 h
theorem s_reduce (d : Nat) (hd : 2 ≤ d) (x y : Int) (h : AH) (hx1 : -65521 < x) (hx2 : x < 1000000) (hy1 : -65521 < y) (hy2 : y < 1000000) : C M d 205 [cx x y] h = some (cx (x % 65521) (y % 65521), h) := by
  obtain ⟨e, rfl, he⟩ := at1 hd
  rw [C_f rfl]; exact reduce_S (s_mod e he) x y hx1 hx2 hy1 hy2 h
theorem s_step (d : Nat) (hd : 3 ≤ d) (s : Nat × Nat) (x : Nat) (h : AH) (h1 : s.1 < 65521) (h2 : s.2 < 65521) (hx : x < 256) : C M d 176 [cx s.1 s.2, .int .u8 x] h = some (cx (spinStep s x).1 (spinStep s x).2, h) := by
  obtain ⟨e, rfl, he⟩ := at1 hd
  rw [C_f rfl]; exact step_S (s_reduce e he) s x h1 h2 hx h
theorem s_sum (d : Nat) (hd : 1 ≤ d) (s : Nat × Nat) (h : AH) (h1 : s.1 < 65521) (h2 : s.2 < 65521) : C M d 177 [cx s.1 s.2] h = some (wv (spinU s), h) := by
  obtain ⟨e, rfl, he⟩ := at1 hd
  rw [C_f rfl]; exact sum_S s h1 h2 h
theorem s_from (d : Nat) (hd : 3 ≤ d) (h : AH) : C M d 175 [wv 65536] h = some (cx ((1 : Nat) : Int) ((0 : Nat) : Int), h) := by
  obtain ⟨e, rfl, he⟩ := at1 hd
  rw [C_f rfl]; exact from_S (s_reduce e he) h
theorem s_More (d : Nat) (hd : 4 ≤ d) (bs : List Nat) (v : Value) (h : AH) (hbs : ∀ x ∈ bs, x < 256) (hl : bs.length ≤ 1000) (hv : Row h.next h v (bytesV bs) 5) : C M d 137 [wv 65536, v] h = some (wv (spinU (spinN bs)), h) := by
  obtain ⟨e, rfl, he⟩ := at1 hd
  rw [C_f rfl]; exact More_S (s_from e he) (s_step e he) (s_sum e (by omega)) bs hbs hl v _ h hv
theorem s_Sum (d : Nat) (hd : 5 ≤ d) (bs : List Nat) (v : Value) (h : AH) (hbs : ∀ x ∈ bs, x < 256) (hl : bs.length ≤ 1000) (hv : Row h.next h v (bytesV bs) 5) : C M d 76 [v] h = some (wv (spinU (spinN bs)), h) := by
  obtain ⟨e, rfl, he⟩ := at1 hd
  rw [C_f rfl]; exact Sum_S (s_More e he) bs hbs hl v h hv
theorem s_rMore (d : Nat) (hd : 1 ≤ d) (bs : List Nat) (v : Value) (h : AH) (hbs : ∀ x ∈ bs, x < 256) (hl : bs.length ≤ 1000) (hv : Row h.next h v (bytesV bs) 5) : C M d 174 [wv 65536, v] h = some (wv (spinU (spinN bs)), h) := by
  obtain ⟨e, rfl, he⟩ := at1 hd
  rw [C_f rfl]; exact rMore_S bs hbs hl v _ h hv
theorem s_rSum (d : Nat) (hd : 2 ≤ d) (bs : List Nat) (v : Value) (h : AH) (hbs : ∀ x ∈ bs, x < 256) (hl : bs.length ≤ 1000) (hv : Row h.next h v (bytesV bs) 5) : C M d 135 [v] h = some (wv (spinU (spinN bs)), h) := by
  obtain ⟨e, rfl, he⟩ := at1 hd
  rw [C_f rfl]; exact rSum_S (s_rMore e he) bs hbs hl v h hv
theorem s_rPut (d : Nat) (hd : 1 ≤ d) (n size n0 : Nat) (bs : List Nat) (v : Value) (h : AH) (hn32 : n < 4294967296) (hs : size ≤ 4) (hl : bs.length < 400) (hn : n0 ≤ h.next) (ho : Own n0 h v (bytesV bs) 5) :
    ∃ v' h', C M d 66 [v, iv n, iv size] h = some (v', h') ∧ Own n0 h' v' (bytesV (bs ++ leN n size)) 5 ∧ Grow n0 h h' ∧ (∀ k, k < h.next → Off v k → h'.get k = h.get k) ∧ (0 < size → Own h.next h' v' (bytesV (bs ++ leN n size)) 5) := by
  obtain ⟨e, rfl, he⟩ := at1 hd
  rw [C_f rfl]; exact rPut_S n size hn32 hs n0 bs v h hl hn ho
theorem s_put (d : Nat) (hd : 1 ≤ d) (n n0 : Nat) (rest : List Nat) (v : Value) (h : AH) (hn32 : n < 4294967296) (hr : rest.length = 4) (hn : n0 ≤ h.next) (ho : Own n0 h v (bytesV rest) 5) : ∃ h', C M d 162 [v, wv n] h = some (.tuple #[], h') ∧ Own n0 h' v (bytesV (leN n 4)) 5 ∧ Grow n0 h h' := by
  obtain ⟨e, rfl, he⟩ := at1 hd
  rw [C_f rfl]; exact put_S n hn32 n0 rest hr v h hn ho
theorem s_Put32 (d : Nat) (hd : 2 ≤ d) (n : Nat) (h : AH) (hn32 : n < 4294967296) : ∃ v' h', C M d 140 [wv n] h = some (v', h') ∧ Own h.next h' v' (bytesV (leN n 4)) 5 ∧ Grow h.next h h' := by
  obtain ⟨e, rfl, he⟩ := at1 hd
  rw [C_f rfl]; exact Put32_S (s_put e he) n hn32 h
theorem s_PutExt (d : Nat) (hd : 1 ≤ d) (x : XV) (h : AH) (hx : okX x) : ∃ v' h', C M d 138 [extV x] h = some (v', h') ∧ Own h.next h' v' (bytesV (encX x)) 5 ∧ Grow h.next h h' := by
  obtain ⟨e, rfl, he⟩ := at1 hd
  rw [C_f rfl]; exact PutExt_S x hx h
theorem s_rpart (d : Nat) (hd : 1 ≤ d) (x : Nat) (h : AH) (hx : x ≤ 1048576) : C M d 204 [fl x] h = some (.tuple #[iv x, .bool true], h) := by
  obtain ⟨e, rfl, he⟩ := at1 hd
  rw [C_f rfl]; exact rpart_S x hx h
theorem s_rOf (d : Nat) (hd : 2 ≤ d) (x y : Nat) (h : AH) (hx : x ≤ 1048576) (hy : y ≤ 1048576) : ∃ h', C M d 173 [cx x y] h = some (.tuple #[zv x y, .bool true], h') ∧ Grow h.next h h' := by
  obtain ⟨e, rfl, he⟩ := at1 hd
  rw [C_f rfl]; exact rOf_S (s_rpart e he) x y hx hy h
theorem s_rParts (d : Nat) (hd : 3 ≤ d) (x y : Nat) (h : AH) (hx : x ≤ 1048576) (hy : y ≤ 1048576) : ∃ h', C M d 132 [cx x y] h = some (.tuple #[iv x, iv y, .bool (runOK x y)], h') ∧ Grow h.next h h' := by
  obtain ⟨e, rfl, he⟩ := at1 hd
  rw [C_f rfl]; exact rParts_S x y h (s_rOf e he x y h hx hy) hx hy
theorem s_rPutExt (d : Nat) (hd : 4 ≤ d) (x : XV) (n0 : Nat) (bs : List Nat) (v : Value) (h : AH) (hx : okX x) (hl : bs.length < 300) (hn : n0 ≤ h.next) (ho : Own n0 h v (bytesV bs) 5) :
    ∃ v' h', C M d 143 [v, extV x] h = some (v', h') ∧ Own n0 h' v' (bytesV (bs ++ encX x)) 5 ∧ Grow n0 h h' := by
  obtain ⟨e, rfl, he⟩ := at1 hd
  rw [C_f rfl]; exact rPutExt_S (s_rPut e (by omega)) (s_rParts e he) x hx n0 bs v h hl hn ho
theorem s_Equal (d : Nat) (hd : 1 ≤ d) (v w : Value) (xs ys : List XV) (n0 : Nat) (h : AH) (hv : RowE n0 h v xs) (hw : RowE n0 h w ys) (hx : ∀ x ∈ xs, okE x) (hy : ∀ y ∈ ys, okE y) (hL : xs.length < 1000) : C M d 178 [v, w] h = some (.bool (eqL xs ys), h) := by
  obtain ⟨e, rfl, he⟩ := at1 hd
  rw [C_f rfl]; exact Equal_S v w xs ys n0 h hv hw hx hy hL
theorem s_SameE (d : Nat) (hd : 1 ≤ d) (v w : Value) (xs ys : List XV) (n0 : Nat) (h : AH) (hv : RowE n0 h v xs) (hw : RowE n0 h w ys) (hx : ∀ x ∈ xs, okE x) (hy : ∀ y ∈ ys, okE y) (hL : xs.length < 1000) : C M d 63 [v, w] h = some (.bool (eqL xs ys), h) := by
  obtain ⟨e, rfl, he⟩ := at1 hd
  rw [C_f rfl]; exact SameE_S v w xs ys n0 h hv hw hx hy hL
theorem s_Same (d : Nat) (hd : 2 ≤ d) (n m : NV) (v w : Value) (xs ys : List XV) (n0 : Nat) (h : AH) (hv : RowE n0 h v xs) (hw : RowE n0 h w ys) (hx : ∀ x ∈ xs, okE x) (hy : ∀ y ∈ ys, okE y) (hL : xs.length < 1000) (hn : n0 ≤ h.next) :
    ∃ h', C M d 145 [nodeV n v, nodeV m w] h = some (.bool (sameN n m && eqL xs ys), h') ∧ Grow h.next h h' := by
  obtain ⟨e, rfl, he⟩ := at1 hd
  rw [C_f rfl]; exact Same_S (s_Equal e he) n m v w xs ys n0 h hv hw hx hy hL hn
theorem s_rSame (d : Nat) (hd : 2 ≤ d) (n m : NV) (v w : Value) (xs ys : List XV) (n0 : Nat) (h : AH) (hv : RowE n0 h v xs) (hw : RowE n0 h w ys) (hx : ∀ x ∈ xs, okE x) (hy : ∀ y ∈ ys, okE y) (hL : xs.length < 1000) (hn : n0 ≤ h.next) :
    ∃ h', C M d 18 [nodeV n v, nodeV m w] h = some (.bool (sameN n m && eqL xs ys), h') ∧ Grow h.next h h' := by
  obtain ⟨e, rfl, he⟩ := at1 hd
  rw [C_f rfl]; exact rSame_S (s_SameE e he) n m v w xs ys n0 h hv hw hx hy hL hn
theorem s_Data (d : Nat) (hd : 1 ≤ d) (n : Nat) (h : AH) : C M d 119 [iv n] h = some (.bool (dataN n), h) := by
  obtain ⟨e, rfl, he⟩ := at1 hd
  rw [C_f rfl]; exact Data_S n h
theorem s_rData (d : Nat) (hd : 1 ≤ d) (n : Nat) (h : AH) : C M d 172 [iv n] h = some (.bool (dataN n), h) := by
  obtain ⟨e, rfl, he⟩ := at1 hd
  rw [C_f rfl]; exact rData_S n h
theorem s_named (d : Nat) (hd : 2 ≤ d) (n : Nat) (h : AH) : C M d 147 [iv n] h = some (.bool (namedN n), h) := by
  obtain ⟨e, rfl, he⟩ := at1 hd
  rw [C_f rfl]; exact named_S (s_Data e he) n h
theorem s_Snd1 (d : Nat) (hd : 3 ≤ d) (n : Nat) (h : AH) : C M d 146 [iv n] h = some (.bool (!namedN n), h) := by
  obtain ⟨e, rfl, he⟩ := at1 hd
  rw [C_f rfl]; exact Snd1_S (s_named e he) n h
theorem s_Snd2 (d : Nat) (hd : 1 ≤ d) (n : Nat) (h : AH) : C M d 148 [iv n] h = some (.bool (!decide (n = 0)), h) := by
  obtain ⟨e, rfl, he⟩ := at1 hd
  rw [C_f rfl]; exact Snd2_S n h
def natP (p : Nat → Bool) : Value → Bool
  | .int _ n => p n.toNat
  | _ => false
theorem any_natP (p : Nat → Bool) (L : List Nat) : (intsV L).any (natP p) = L.any p := by
  unfold intsV; rw [List.any_map]; rfl
theorem s_Cont1 (d : Nat) (hd : 5 ≤ d) (v : Value) (L : List Nat) (n0 : Nat) (h : AH) (hv : Row n0 h v (intsV L) 3) (hl : L.length < 100) : C M d 53 [v, .func (.func 146) #[] #[]] h = some (.bool (L.any fun p => !namedN p), h) := by
  obtain ⟨e, rfl, he⟩ := at1 hd
  obtain ⟨e, rfl, he⟩ := at1 he
  rw [C_f rfl, ← any_natP]
  refine ContainsI_S v _ (intsV L) (natP fun p => !namedN p) h ?_
  rw [C_f rfl]
  refine IndexI_S v (intsV L) n0 h 146 [] _ _ ft146 rfl _ hv (by simp [intsV]; omega) (fun x hx => ?_)
  simp only [intsV, List.mem_map] at hx
  obtain ⟨n, _, rfl⟩ := hx
  exact s_Snd1 e (by omega) n h
theorem s_Cont2 (d : Nat) (hd : 5 ≤ d) (v : Value) (L : List Nat) (n0 : Nat) (h : AH) (hv : Row n0 h v (intsV L) 3) (hl : L.length < 100) : C M d 53 [v, .func (.func 148) #[] #[]] h = some (.bool (L.any fun p => !decide (p = 0)), h) := by
  obtain ⟨e, rfl, he⟩ := at1 hd
  obtain ⟨e, rfl, he⟩ := at1 he
  rw [C_f rfl, ← any_natP]
  refine ContainsI_S v _ (intsV L) (natP fun p => !decide (p = 0)) h ?_
  rw [C_f rfl]
  refine IndexI_S v (intsV L) n0 h 148 [] _ _ ft148 rfl _ hv (by simp [intsV]; omega) (fun x hx => ?_)
  simp only [intsV, List.mem_map] at hx
  obtain ⟨n, _, rfl⟩ := hx
  exact s_Snd2 e (by omega) n h
theorem s_pointers (d : Nat) (hd : 1 ≤ d) (n : NV) (w : Value) (h : AH) : ∃ v' h', C M d 139 [nodeV n w] h = some (v', h') ∧ Own h.next h' v' (intsV (ptrs n)) 3 ∧ Grow h.next h h' := by
  obtain ⟨e, rfl, he⟩ := at1 hd
  rw [C_f rfl]; exact pointers_S n w h
theorem s_all (d : Nat) (hd : 1 ≤ d) (n : NV) (w : Value) (h : AH) : ∃ v' h', C M d 144 [nodeV n w] h = some (v', h') ∧ Own h.next h' v' (intsV (ptrs n)) 3 ∧ Grow h.next h h' := by
  obtain ⟨e, rfl, he⟩ := at1 hd
  rw [C_f rfl]; exact all_S n w h
theorem s_rExtents (d : Nat) (hd : 4 ≤ d) (v : Value) (xs : List XV) (n0 : Nat) (h : AH) (hn : n0 ≤ h.next) (hx : ∀ x ∈ xs, okX x) (hL : xs.length ≤ 96) (hv : RowE n0 h v xs) : ∃ h', C M d 131 [v] h = some (.bool (extG 0 (-1) [] xs), h') ∧ Grow h.next h h' := by
  obtain ⟨e, rfl, he⟩ := at1 hd
  rw [C_f rfl]; exact rExtents_S (s_rParts e he) v xs n0 h hn hx hL hv
theorem s_Snd (d : Nat) (hd : 10 ≤ d) (n : NV) (v : Value) (xs : List XV) (n0 : Nat) (h : AH) (hv : RowE n0 h v xs) (hx : ∀ x ∈ xs, okX x) (hL : xs.length ≤ 96) (hn : n0 ≤ h.next) : ∃ h', C M d 88 [nodeV n v] h = some (.bool (soundN n xs), h') ∧ Grow h.next h h' := by
  obtain ⟨e, rfl, he⟩ := at1 hd
  rw [C_f rfl]
  refine Snd_S (fun n v xs n0 h hv hx hL hn => ?_) (s_pointers e (by omega)) (s_Cont1 e (by omega)) (s_Cont2 e (by omega)) (s_named e (by omega)) (s_Extents e he) n v xs n0 h hv hx hL hn
  exact s_Same e (by omega) n NV.zero v nilV xs [] n0 h hv (RowE.nil _ _) hx (by simp) hL hn
theorem s_rSnd (d : Nat) (hd : 5 ≤ d) (n : NV) (v : Value) (xs : List XV) (n0 : Nat) (h : AH) (hv : RowE n0 h v xs) (hx : ∀ x ∈ xs, okX x) (hL : xs.length ≤ 96) (hn : n0 ≤ h.next) : ∃ h', C M d 142 [nodeV n v] h = some (.bool (soundN n xs), h') ∧ Grow h.next h h' := by
  obtain ⟨e, rfl, he⟩ := at1 hd
  rw [C_f rfl]
  refine rSnd_S (fun n v xs n0 h hv hx hL hn => ?_) (s_all e (by omega)) (s_rData e (by omega)) (s_rExtents e he) n v xs n0 h hv hx hL hn
  exact s_rSame e (by omega) n NV.zero v nilV xs [] n0 h hv (RowE.nil _ _) hx (by simp) hL hn
theorem s_BEq (d : Nat) (hd : 1 ≤ d) : BEqC (C M d) := by
  intro l m v w n0 n1 h hl hm hv hw
  obtain ⟨e, rfl, he⟩ := at1 hd
  rw [C_f rfl]; exact BEqual_S l m hl hm v w n0 n1 h hv hw
theorem s_BClone (d : Nat) (hd : 1 ≤ d) : BCloneC (C M d) := by
  intro p v bs h ho hp h0 hl
  obtain ⟨e, rfl, he⟩ := at1 hd
  rw [C_f rfl]; exact BCloneV_S p v bs h ho hp h0 hl
theorem s_putV (d : Nat) (hd : 1 ≤ d) : PutVC (C M d) := by
  intro n p o l cap bs h hl hol hb
  obtain ⟨e, rfl, he⟩ := at1 hd
  rw [C_f rfl]; exact putV_S n p o l cap bs hl hol h hb
theorem s_putI (d : Nat) (hd : 1 ≤ d) : PutIC (C M d) := by
  intro P n p o l cap h hl hst hb
  obtain ⟨e, rfl, he⟩ := at1 hd
  rw [C_f rfl]; exact putI_S P n p o l cap hl hst h hb
theorem s_NewPage (d : Nat) (hd : 1 ≤ d) : NewPageC (C M d) := by
  intro nm h hn h0 h256
  obtain ⟨e, rfl, he⟩ := at1 hd
  rw [C_f rfl]; exact NewPageV_S nm h hn h0 h256
theorem s_SetV (d : Nat) (hd : 2 ≤ d) : SetVC (C M d) := by
  intro b p at_ size lb ns bs h hbp hs ha hn hL hpg hr hlb
  obtain ⟨e, rfl, he⟩ := at1 hd
  rw [C_f rfl]; exact SetV_S (s_putV e he) b p at_ size lb ns bs h hbp hs ha hn hL hpg hr hlb
theorem s_SumC (d : Nat) (hd : 5 ≤ d) : SumC (C M d) 76 := fun bs v h hb hl hr => s_Sum d hd bs v h hb hl hr
theorem s_rSumC (d : Nat) (hd : 2 ≤ d) : SumC (C M d) 135 := fun bs v h hb hl hr => s_rSum d hd bs v h hb hl hr
theorem s_FSeal (d : Nat) (hd : 6 ≤ d) (p : Nat) (bs : List Nat) (h : AH) (hl : bs.length = 64) (hb : ∀ x ∈ bs, x < 256) (ho : BlkV h p bs) (hp : p < h.next) :
    ∃ v' p' h', C M d 109 [.slice (some ⟨p, 0, none⟩) 64 64] h = some (.tuple #[v', iv 0], h') ∧ h.next ≤ p' ∧ p' < h'.next ∧ OwnB p' h' v' (sealB bs) ∧ Grow h.next h h' := by
  obtain ⟨e, rfl, he⟩ := at1 hd
  rw [C_f rfl]; exact SealV_S (s_BClone e (by omega)) (s_SumC e he) (s_putI e (by omega)) p bs h hl hb ho hp
theorem s_PSeal (d : Nat) (hd : 7 ≤ d) : PSealC (C M d) := by
  intro b p bs h hpg hp
  obtain ⟨e, rfl, he⟩ := at1 hd
  rw [C_f rfl]; exact PSealV_S (s_FSeal e he) b p bs h hpg hp
theorem s_rPutC (d : Nat) (hd : 1 ≤ d) : RPutC (C M d) := fun n size n0 bs v h h1 h2 h3 h4 h5 => s_rPut d hd n size n0 bs v h h1 h2 h3 h4 h5
theorem s_rSeal (d : Nat) (hd : 3 ≤ d) : RSealC (C M d) := by
  intro n0 bs v h hl h0 hb ho
  obtain ⟨e, rfl, he⟩ := at1 hd
  rw [C_f rfl]; exact rSeal_S (s_rPutC e (by omega)) (s_rSumC e he) n0 bs v h hl h0 hb ho
theorem s_New (d : Nat) (hd : 1 ≤ d) : NewC (C M d) := by
  intro h
  obtain ⟨e, rfl, he⟩ := at1 hd
  rw [C_f rfl]; exact New_S h
theorem s_pow (d : Nat) (hd : 1 ≤ d) : PowC (C M d) := by
  intro n h hn
  obtain ⟨e, rfl, he⟩ := at1 hd
  rw [C_f rfl]; exact rpower_S n hn h
theorem s_Up (d : Nat) (hd : 2 ≤ d) (bs : List Nat) (m : Value) (h : AH) (hbs : ∀ x ∈ bs, x < 256) (hl : bs.length = 60) (hm : Row h.next h m (bytesV bs) 5) : ∃ v h', C M d 36 [m] h = some (v, h') ∧ Own h.next h' v (boolsV (bitB bs) 0 480) 4 ∧ Grow h.next h h' := by
  obtain ⟨e, rfl, he⟩ := at1 hd
  rw [C_f rfl]; exact Up_S bs hbs hl m h hm (s_pow e he)
end
end Go.Proofs.YtjdhdhmoedlfdaaGreat.Abs
namespace Go.Proofs.YtjdhdhmoedlfdaaGreat.Abs
open Go Go.Proofs
noncomputable section
variable {call : Abs.Callee} {M : Nat}
set_option maxRecDepth 10000
theorem s_get (d : Nat) (hd : 1 ≤ d) (x y : Nat) (v : Value) (n0 : Nat) (h : AH) (hx : x < 256) (hy : y < 256) (hv : Row n0 h v (bytesV [x, y]) 5) : C M d 75 [v] h = some (iv (num2 x y), h) := by
  obtain ⟨e, rfl, he⟩ := at1 hd
  rw [C_f rfl]; exact get_S x y hx hy v n0 h hv
theorem s_Num (d : Nat) (hd : 2 ≤ d) : NumC (C M d) 73 := by
  intro bs i v n0 h hbs hi hl hv
  obtain ⟨e, rfl, he⟩ := at1 hd
  rw [C_f rfl]; exact Num_S (s_get e he) bs hbs i hi hl v n0 h hv
theorem s_Nums (d : Nat) (hd : 3 ≤ d) : NumsC (C M d) := by
  intro bs v a cnt n0 h hbs hl hal hn hv
  obtain ⟨e, rfl, he⟩ := at1 hd
  rw [C_f rfl]; exact Nums_S (s_Num e he) bs hbs hl v a cnt n0 hal h hn hv
theorem s_rNum (d : Nat) (hd : 1 ≤ d) : NumC (C M d) 81 := by
  intro bs i v n0 h hbs hi hl hv
  obtain ⟨e, rfl, he⟩ := at1 hd
  rw [C_f rfl]; exact rNum_S bs hbs i hi hl v n0 h hv
theorem s_GetExt (d : Nat) (hd : 1 ≤ d) : GetC (C M d) := by
  intro bs v n0 h hbs hl hv hn
  obtain ⟨e, rfl, he⟩ := at1 hd
  rw [C_f rfl]; exact GetExt_S bs hbs hl v n0 h hv hn
theorem s_rGetExt (d : Nat) (hd : 2 ≤ d) : rGetC (C M d) := by
  intro bs v n0 h hbs hl hl2 hv hn
  obtain ⟨e, rfl, he⟩ := at1 hd
  rw [C_f rfl]; exact rGetExt_S (s_rNum e he) bs hbs hl hl2 v n0 h hv hn
theorem s_DEnc (d : Nat) (hd : 11 ≤ d) : DEncC (C M d) 79 := by
  intro n v xs n0 h _ hv hx hL hn
  obtain ⟨e, rfl, he⟩ := at1 hd
  rw [C_f rfl]; exact Enc_S (s_PutExt e (by omega)) (s_pointers e (by omega)) (s_Snd e he) (s_Sum e (by omega)) (s_Put32 e (by omega)) n v xs n0 h hv hx (by omega) hn
theorem s_rDEnc (d : Nat) (hd : 6 ≤ d) : DEncC (C M d) 85 := by
  intro n v xs n0 h hok hv hx hL hn
  obtain ⟨e, rfl, he⟩ := at1 hd
  rw [C_f rfl]; exact rEnc_S (s_rPut e (by omega)) (s_rPutExt e (by omega)) (s_all e (by omega)) (s_rSnd e he) (s_rSum e (by omega)) n hok v xs n0 h hv hx hL hn
theorem s_GDec (d : Nat) (hd : 12 ≤ d) : GDecC (C M d) 31 := by
  intro bs v n0 h hbs hl hn hv
  obtain ⟨e, rfl, he⟩ := at1 hd
  rw [C_f rfl]; exact Dec_S (s_Num e (by omega)) (s_GetExt e (by omega)) (s_Nums e (by omega)) (s_DEnc e he) (s_BEq e (by omega)) bs hbs hl v n0 h hn hv
theorem s_rGDec (d : Nat) (hd : 7 ≤ d) : GDecC (C M d) 37 := by
  intro bs v n0 h hbs hl hn hv
  obtain ⟨e, rfl, he⟩ := at1 hd
  rw [C_f rfl]; exact rDec_S (s_rNum e (by omega)) (s_rGetExt e (by omega)) (s_rDEnc e he) bs hbs hl v n0 h hn hv
theorem s_getG (d : Nat) (hd : 1 ≤ d) : GetGC (C M d) := by
  intro bs v h hbs hl hv
  obtain ⟨e, rfl, he⟩ := at1 hd
  rw [C_f rfl]; exact getG_S bs hbs hl v h hv
theorem s_NumG (d : Nat) (hd : 2 ≤ d) : NumGC (C M d) := by
  intro bs i s v h hbs h0 hs hi hl hv
  obtain ⟨e, rfl, he⟩ := at1 hd
  rw [C_f rfl]; exact NumG_S (s_getG e he) bs hbs i s h0 hs hi hl v h hv
theorem s_GSeal (d : Nat) (hd : 6 ≤ d) : GSealC (C M d) := by
  intro bs v h hl hbs hv
  obtain ⟨e, rfl, he⟩ := at1 hd
  rw [C_f rfl]; exact GSeal_S (s_getG e (by omega)) (s_SumC e he) bs hl hbs v h hv
theorem s_gin (d : Nat) (hd : 1 ≤ d) : GInC (C M d) 136 := by
  intro a lo hi h
  obtain ⟨e, rfl, he⟩ := at1 hd
  rw [C_f rfl]; exact gin_S a lo hi h
theorem s_grin (d : Nat) (hd : 1 ≤ d) : GInC (C M d) 65 := by
  intro a lo hi h
  obtain ⟨e, rfl, he⟩ := at1 hd
  rw [C_f rfl]; exact grin_S a lo hi h
theorem s_GSound (d : Nat) (hd : 2 ≤ d) : GSoundC (C M d) := by
  intro x h
  obtain ⟨e, rfl, he⟩ := at1 hd
  rw [C_f rfl]; exact GSound_S (s_gin e he) x h
theorem s_GEnc (d : Nat) (hd : 8 ≤ d) : GEncC (C M d) 64 := by
  intro x h
  obtain ⟨e, rfl, he⟩ := at1 hd
  rw [C_f rfl]; exact GEnc_S (s_GSound e (by omega)) (s_NewPage e (by omega)) (s_SetV e (by omega)) (s_PSeal e he) x h
theorem s_GPH (d : Nat) (hd : 8 ≤ d) : GPHC (C M d) 74 := by
  intro a s h
  obtain ⟨e, rfl, he⟩ := at1 hd
  rw [C_f rfl]; exact GPutHead_S (s_gin e (by omega)) (s_NewPage e (by omega)) (s_SetV e (by omega)) (s_PSeal e he) a s h
theorem s_GSDec (d : Nat) (hd : 9 ≤ d) : GSDecC (C M d) := by
  intro bs v h hl hbs hv
  obtain ⟨e, rfl, he⟩ := at1 hd
  rw [C_f rfl]; exact GSDec_S (s_GSeal e (by omega)) (s_NumG e (by omega)) (s_GEnc e he) (s_BEq e (by omega)) bs hl hbs v h hv
theorem s_GGHead (d : Nat) (hd : 9 ≤ d) : GGHeadC (C M d) := by
  intro bs v h hl hbs hv
  obtain ⟨e, rfl, he⟩ := at1 hd
  rw [C_f rfl]; exact GGetHead_S (s_GSeal e (by omega)) (s_NumG e (by omega)) (s_GPH e he) (s_BEq e (by omega)) bs hl hbs v h hv
theorem s_Open1 (d : Nat) (hd : 1 ≤ d) : GOpen1C (C M d) := by
  intro v bs h hv
  obtain ⟨e, rfl, he⟩ := at1 hd
  rw [C_f rfl]; exact GOpen1_S v bs h hv
theorem s_IdxB (d : Nat) (hd : 2 ≤ d) (hX : M < XB) : GIdxBC (C M d) M := by
  intro v bss h hv hl
  obtain ⟨e, rfl, he⟩ := at1 hd
  rw [C_big rfl]; exact GIdxB_S (s_Open1 e he) v bss h hv (by omega) M hl
theorem s_ContB (d : Nat) (hd : 3 ≤ d) (hX : M < XB) : GContBC (C M d) M := by
  intro v bss h hv hl
  obtain ⟨e, rfl, he⟩ := at1 hd
  rw [C_f rfl]; exact GContB_S v bss h (s_IdxB e he hX v bss h hv hl)
theorem s_Res1 (d : Nat) (hd : 1 ≤ d) : GRes1C (C M d) := by
  intro v bs h hv
  obtain ⟨e, rfl, he⟩ := at1 hd
  rw [C_f rfl]; exact GRes1_S v bs h hv
theorem s_IdxR (d : Nat) (hd : 2 ≤ d) (hX : M < XB) : GIdxRC (C M d) M := by
  intro v bss h hv hl
  obtain ⟨e, rfl, he⟩ := at1 hd
  rw [C_big rfl]; exact GIdxR_S (s_Res1 e he) v bss h hv (by omega) M hl
theorem s_ContR (d : Nat) (hd : 3 ≤ d) (hX : M < XB) : GContRC (C M d) M := by
  intro v bss h hv hl
  obtain ⟨e, rfl, he⟩ := at1 hd
  rw [C_f rfl]; exact GContR_S v bss h (s_IdxR e he hX v bss h hv hl)
theorem s_WClone (d : Nat) (hd : 1 ≤ d) : WCloneC (C M d) := by
  intro v bs h hv h0 hl hb
  obtain ⟨e, rfl, he⟩ := at1 hd
  rw [C_f rfl]; exact WClone_S v bs h hv h0 hl hb
theorem s_CloN2 (d : Nat) (hd : 1 ≤ d) : CloN2C (C M d) := by
  intro n k v cs h h1 h2 h3 h4
  obtain ⟨e, rfl, he⟩ := at1 hd
  rw [C_f rfl]; exact CloneN2_S n k v cs h h1 h2 h3 h4
theorem s_CloBB (d : Nat) (hd : 1 ≤ d) : CloBC (C M d) := by
  intro n v bss h hb h0 hl
  obtain ⟨e, rfl, he⟩ := at1 hd
  rw [C_f rfl]; exact CloneBB_S n v bss h hb h0 hl
theorem s_CloBW (d : Nat) (hd : 1 ≤ d) : CloBWC (C M d) := by
  intro v bss h hb hl
  obtain ⟨e, rfl, he⟩ := at1 hd
  rw [C_f rfl]; exact CloneBW_S v bss h hb hl
theorem s_Copy3 (d : Nat) (hd : 2 ≤ d) : Copy3C (C M d) := by
  intro n x vf vn vb fb bss h h1 h2 h3 h4 h5 h6
  obtain ⟨e, rfl, he⟩ := at1 hd
  rw [C_f rfl]; exact Copy3_S (s_BClone e he) (s_CloN2 e he) (s_CloBB e he) n x vf vn vb fb bss h h1 h2 h3 h4 h5 h6
theorem s_Settle3 (d : Nat) (hd : 3 ≤ d) : Settle3C (C M d) := by
  intro pI n x vf vn vb fb ws bss h hw hI hpI hnI hvn hNc hF hb h0 hl
  obtain ⟨e, rfl, he⟩ := at1 hd
  rw [C_f rfl]; exact Settle3_S (s_Copy3 e he) pI n x vf vn vb fb ws hw bss h hI hpI hnI hvn hNc hF hb h0 hl
theorem s_mustC (d : Nat) (hd : 1 ≤ d) : MustC (C M d) := by
  intro v h
  obtain ⟨e, rfl, he⟩ := at1 hd
  rw [C_f rfl]; exact must_S v h
theorem s_putY (d : Nat) (hd : 2 ≤ d) : PutYC (C M d) := by
  intro pI n i L vb vd bs bss h hI hp h7 hb hi hd' hn
  obtain ⟨e, rfl, he⟩ := at1 hd
  rw [C_f rfl]; exact put_S' (s_BClone e he) (s_BEq e he) pI n i L vb vd bs bss h hI hp h7 hb hi hd' hn
theorem s_OpenY (d : Nat) (hd : 13 ≤ d) (hX : M < XB) : OpenC (C M d) M := by
  intro bss v h hbs hl hv
  obtain ⟨e, rfl, he⟩ := at1 hd
  rw [C_f rfl]; exact GOpen_S M (s_ContB e (by omega) hX) (s_GSDec e (by omega)) (s_GGHead e (by omega)) (s_GSeal e (by omega)) (s_New e (by omega)) (s_WClone e (by omega)) (s_GDec e he) (s_Settle3 e (by omega)) bss hbs hl v h hv
theorem s_RGEnc (d : Nat) (hd : 4 ≤ d) : RGEncC (C M d) := by
  intro x h
  obtain ⟨e, rfl, he⟩ := at1 hd
  rw [C_f rfl]; exact rgEnc_S (s_grin e (by omega)) (s_rPutC e (by omega)) (s_rSeal e he) x h
theorem s_RGPH (d : Nat) (hd : 4 ≤ d) : RGPHC (C M d) := by
  intro a s h
  obtain ⟨e, rfl, he⟩ := at1 hd
  rw [C_f rfl]; exact rgPutHead_S (s_grin e (by omega)) (s_rPutC e (by omega)) (s_rSeal e he) a s h
theorem s_RNumG (d : Nat) (hd : 1 ≤ d) : RNumGC (C M d) := by
  intro bs i s v h hbs h0 hs hi hl hv
  obtain ⟨e, rfl, he⟩ := at1 hd
  rw [C_f rfl]; exact rNumG_S bs hbs i s h0 hs hi hl v h hv
theorem s_RSDec (d : Nat) (hd : 5 ≤ d) : RSDecC (C M d) := by
  intro bs v h hl hbs hv
  obtain ⟨e, rfl, he⟩ := at1 hd
  rw [C_f rfl]; exact rgDec_S (s_RNumG e (by omega)) (s_RGEnc e he) bs hl hbs v h hv
theorem s_RGHead (d : Nat) (hd : 5 ≤ d) : RGHeadC (C M d) := by
  intro bs v h hl hbs hv
  obtain ⟨e, rfl, he⟩ := at1 hd
  rw [C_f rfl]; exact rgGetHead_S (s_RNumG e (by omega)) (s_RGPH e he) bs hl hbs v h hv
theorem s_RPutI (d : Nat) (hd : 1 ≤ d) : RPutIC (C M d) := by
  intro n n0 bs v h h1 h2 h3
  obtain ⟨e, rfl, he⟩ := at1 hd
  rw [C_f rfl]; exact rPutI_S n n0 bs v h h1 h2 h3
theorem s_RSeal64 (d : Nat) (hd : 3 ≤ d) : RSeal64C (C M d) := by
  intro bs v h hl hbs hv
  obtain ⟨e, rfl, he⟩ := at1 hd
  rw [C_f rfl]; exact rSeal64_S (s_RPutI e (by omega)) (s_rSumC e he) bs v h hl hbs hv
theorem s_RSealed (d : Nat) (hd : 4 ≤ d) : RSealedC (C M d) := by
  intro bs v h hl hbs hv
  obtain ⟨e, rfl, he⟩ := at1 hd
  rw [C_f rfl]; exact rSealed_S (s_RSeal64 e he) bs v h hl hbs hv
theorem s_RUp (d : Nat) (hd : 2 ≤ d) : RUpC (C M d) := fun bs m h hbs hl hm => s_Up d hd bs m h hbs hl hm
theorem s_ROpen (d : Nat) (hd : 8 ≤ d) (hX : M < XB) : ROpenC (C M d) M := by
  intro bss v h hbs hl hv
  obtain ⟨e, rfl, he⟩ := at1 hd
  rw [C_big rfl]; exact rOpen_S M (s_RSDec e (by omega)) (s_RGHead e (by omega)) (s_RSealed e (by omega)) (s_RUp e (by omega)) (s_rGDec e he) bss hbs (by omega) hl v h hv
theorem s_YSuper (d : Nat) (hd : 1 ≤ d) : YSuperC (C M d) := by
  intro n pI x y bss was fb h hI
  obtain ⟨e, rfl, he⟩ := at1 hd
  rw [C_f rfl]; exact YSuper_S n pI x y bss was fb h hI
theorem s_YSet (d : Nat) (hd : 9 ≤ d) : YSetC (C M d) := by
  intro n pI x y s bss was fb h hI hn h0
  obtain ⟨e, rfl, he⟩ := at1 hd
  rw [C_f rfl]; exact YSet_S (s_GEnc e he) (s_putY e (by omega)) n pI x y s bss was fb h hI hn h0
theorem s_YRes (d : Nat) (hd : 9 ≤ d) (hX : M < XB) : YResC (C M d) M := by
  intro n pI x y bss was more fb vm size h0 h h1 h2 h3 h4 h5 h6 h7 h8 h9 h10 h11
  obtain ⟨e, rfl, he⟩ := at1 hd
  rw [C_f rfl]; exact YRes_S M (s_ContR e (by omega) hX) (s_WClone e (by omega)) (s_CloBW e (by omega)) (s_GEnc e he) (s_mustC e (by omega)) (s_putY e (by omega)) n pI x y bss was more fb vm size h0 h h1 h2 h3 h4 h5 h6 h7 h8 h9 h10 h11
theorem s_YBlocks (d : Nat) (hd : 2 ≤ d) : YBlocksC (C M d) := by
  intro n pI x y bss was fb h hI hl
  obtain ⟨e, rfl, he⟩ := at1 hd
  rw [C_f rfl]; exact YBlocks_S (s_BClone e he) n pI x y bss was fb h hI hl
theorem s_YChanges (d : Nat) (hd : 2 ≤ d) : YChangesC (C M d) := by
  intro n pI x y bss was fb h hI hl h0 hw hl2
  obtain ⟨e, rfl, he⟩ := at1 hd
  rw [C_f rfl]; exact YChanges_S (s_BEq e he) (s_BClone e he) n pI x y bss was fb h hI hl h0 hw hl2
theorem law_T (hX : M < XB) (v vm : Value) (s : SI) (size : Int) (bss more : List (List Nat)) (h : AH) (hv : AB h v bss) (hm : AB h vm more) (hbb : ∀ bs ∈ bss, ∀ x ∈ bs, x < 256) (hmb : ∀ bs ∈ more, ∀ x ∈ bs, x < 256) (hbM : bss.length ≤ M) (hmM : more.length ≤ M) :
    ∃ h', C M 20 5 [v, siV s, iv size, vm] h = some (.bool true, h') := by
  rw [C_big rfl]
  exact law_G M M (s_OpenY 19 (by omega) hX) (s_ROpen 19 (by omega) hX) (fun h => C_aw 19 (by omega) h) (s_YSet 19 (by omega)) (s_RGEnc 19 (by omega)) (s_YSuper 19 (by omega)) (s_YRes 19 (by omega) hX) (s_YBlocks 19 (by omega)) (s_YChanges 19 (by omega)) v vm s size bss more h hv hm hbb hmb hbM hmM (by omega) hmM
end
end Go.Proofs.YtjdhdhmoedlfdaaGreat.Abs
