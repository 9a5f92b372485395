
/- The super block. -/
import Derived.Test.YtjiilfinllfmgaaGreatPage
namespace Go.Proofs.YtjiilfinllfmgaaGreat.Abs
open Go Go.Proofs
noncomputable section
variable {call : Abs.Callee}
set_option maxRecDepth 10000
theorem ft31 : T0.ft.get 31 = some Tryz.f31 := by kernel_rfl
theorem ft75 : T0.ft.get 75 = some Tryz.f75 := by kernel_rfl
theorem ft14 : T0.ft.get 14 = some Tryz.f14 := by kernel_rfl
theorem ft37 : T0.ft.get 37 = some Tryz.f37 := by kernel_rfl
theorem ft60 : T0.ft.get 60 = some Tryz.f60 := by kernel_rfl
theorem in_S (a lo hi : Int) (h : AH) (h1 : lo ≤ a) (h2 : a ≤ hi) : frameB T0 X0 call 3000 31 [iv a, iv lo, iv hi] h = some (.bool true, h) := by
  rw [frameB_eq ft31 rfl rfl]
  simp only [Tryz.f31, symM, opFn, Nat.reduceLT, Nat.reduceBEq, symM, bin_geq, bin_leq, decide_eq_true h1, decide_eq_true h2]
  exact retB_one ft31 rfl get_same
theorem rin_S (a lo hi : Int) (h : AH) (h1 : lo ≤ a) (h2 : a ≤ hi) : frameB T0 X0 call 3000 60 [iv a, iv lo, iv hi] h = some (.bool true, h) := by
  rw [frameB_eq ft60 rfl rfl]
  simp only [Tryz.f60, symM, opFn, Nat.reduceLT, Nat.reduceBEq, symM, bin_geq, bin_leq, decide_eq_true h1, decide_eq_true h2]
  exact retB_one ft60 rfl get_same
abbrev InC (call : Abs.Callee) (f : Nat) : Prop := ∀ (a lo hi : Int) (h : AH), lo ≤ a → a ≤ hi → call f [iv a, iv lo, iv hi] h = some (.bool true, h)
/-- The super block of a new image. -/
def supL (b f : Nat) : List Value := [iv b, iv f, iv 0, iv 0, iv 0]
def supV (b f : Nat) : Value := .agg (supL b f).toArray
theorem sz_Sup : szOf T0 32 = some 5 := by kernel_rfl
theorem agg_Sup : aggT T0 32 = some true := by kernel_rfl
theorem field_S {b o : Nat} : evFieldAddr T0 32 (pv b o) 0 = some (pv b o) ∧ evFieldAddr T0 32 (pv b o) 1 = some (pv b (o + 1)) ∧ evFieldAddr T0 32 (pv b o) 2 = some (pv b (o + 2)) ∧ evFieldAddr T0 32 (pv b o) 3 = some (pv b (o + 3)) ∧ evFieldAddr T0 32 (pv b o) 4 = some (pv b (o + 4)) :=
  ⟨by kernel_rfl, by kernel_rfl, by kernel_rfl, by kernel_rfl, by kernel_rfl⟩
def SupB (h : AH) (p b f : Nat) : Prop := BoxL h p 32 (supL b f)
theorem SupB.loads {h : AH} {p b f : Nat} (hb : SupB h p b f) : evLoad T0 3 (pv p 0) h = some (iv b) ∧ evLoad T0 3 (pv p (0 + 1)) h = some (iv f) ∧ evLoad T0 3 (pv p (0 + 2)) h = some (iv 0) ∧ evLoad T0 3 (pv p (0 + 3)) h = some (iv 0) ∧ evLoad T0 3 (pv p (0 + 4)) h = some (iv 0) ∧ evLoad T0 32 (pv p 0) h = some (supV b f) :=
  ⟨BoxL.load hb agg_int rfl, BoxL.load hb agg_int rfl, BoxL.load hb agg_int rfl, BoxL.load hb agg_int rfl, BoxL.load hb agg_int rfl, BoxL.loadA (o := 0) (ws := supL b f) hb agg_Sup sz_Sup (Nat.le_refl _) (fun i x hi => by rw [Nat.zero_add]; exact hi)⟩
theorem box_S {b f : Nat} {h : AH} : rp (some (evNewVar h 32 (supV b f))) = some (.value (pv h.next 0), h.new (.cells (PM.ofList (supL b f)) (supL b f).length 32 0 0 .ex)) := box_agg
theorem SupSound_S (hI : InC call 31) (b f : Nat) (h : AH) (h1 : 64 ≤ b) (h2 : b ≤ 480) (h3 : 1 ≤ f) (h4 : f ≤ 2) :
    ∃ h', frameB T0 X0 call 3000 75 [supV b f] h = some (.bool true, h') ∧ Grow h.next h h' := by
  generalize hh1 : h.new (.cells (PM.ofList (supL b f)) (supL b f).length 32 0 0 .ex) = h1
  have g1 : Grow h.next h h1 := by rw [← hh1]; exact Grow.new _ _
  have hb : SupB h1 h.next b f := by rw [← hh1]; exact BoxL.new _ _ _
  refine ⟨h1, ?_, g1⟩
  rw [frameB_eq ft75 rfl rfl]
  simp only [Tryz.f75, symM, opFn, Nat.reduceLT, Nat.reduceBEq, symM, box_S, hh1, field_S, hb.loads, evCall_fn ft31 rfl, hI b 64 480 _ (by omega) (by omega), hI f 1 3 _ (by omega) (by omega), hI 0 0 3 _ (by omega) (by omega), hI 0 0 32 _ (by omega) (by omega), hI 0 0 480 _ (by omega) (by omega)]
  exact retB_one ft75 rfl get_same
abbrev NewPageC (call : Abs.Callee) : Prop := ∀ (nm : List Nat) (h : AH), nm.length ≤ 64 → nm ≠ [] → (∀ x ∈ nm, x < 256) → ∃ b p h', call 32 [strB nm] h = some (pv b 0, h') ∧ h.next ≤ b ∧ h.next ≤ p ∧ b ≠ p ∧ b < h'.next ∧ p < h'.next ∧ PageV h' b p (setAt (List.replicate 64 0) 0 nm) ∧ Grow h.next h h'
abbrev SetVC (call : Abs.Callee) : Prop := ∀ (b p at_ size lb : Nat) (ns bs : List Nat) (h : AH), b ≠ p → size ≤ 4 → at_ + ns.length * size ≤ 60 → (∀ n ∈ ns, n < 4294967296) → ns.length < 100 → PageV h b p bs → BoxL h lb 3 (intsV ns) → lb ≠ p →
  ∃ h', call 33 [pv b 0, iv at_, iv size, listV lb ns] h = some (pv b 0, h') ∧ PageV h' b p (setsAt size bs at_ ns) ∧ One p h h'
abbrev PSealC (call : Abs.Callee) : Prop := ∀ (b p : Nat) (bs : List Nat) (h : AH), PageV h b p bs → p < h.next → ∃ v' p' h', call 34 [pv b 0] h = some (v', h') ∧ h.next ≤ p' ∧ p' < h'.next ∧ OwnB p' h' v' (sealB bs) ∧ Grow h.next h h'
theorem PageV.one {h h' : AH} {b p q : Nat} {bs : List Nat} (hp : PageV h b p bs) (o : One q h h') (h1 : b ≠ q) (h2 : p ≠ q) : PageV h' b p bs := ⟨hp.1.one o h1, BoxL.one hp.2.1 o h2, hp.2.2⟩
/-- One Set, its numbers built first. -/
theorem set_one (hS : SetVC call) (b p at_ size n0 : Nat) (ns bs : List Nat) (h : AH) (hbp : b ≠ p) (hn0b : n0 ≤ p) (hs : size ≤ 4) (ha : at_ + ns.length * size ≤ 60) (hn : ∀ n ∈ ns, n < 4294967296) (hL : ns.length < 100) (hb : b < h.next) (hp : p < h.next) (hpg : PageV h b p bs) :
    ∃ h2, call 33 [pv b 0, iv at_, iv size, .slice (some ⟨h.next, 0, none⟩) ns.length ns.length] (h.new (.cells (PM.ofList (intsV ns)) (intsV ns).length 3 0 0 .ex)) = some (pv b 0, h2) ∧ PageV h2 b p (setsAt size bs at_ ns) ∧ h.next < h2.next ∧ Grow n0 h h2 := by
  have g1 := Grow.new h (.cells (PM.ofList (intsV ns)) (intsV ns).length 3 0 0 .ex)
  obtain ⟨h2, e1, e2, e3⟩ := hS b p at_ size h.next ns bs _ hbp hs ha hn hL (hpg.grow g1 hb hp) (BoxL.new _ _ _) (by omega)
  exact ⟨h2, e1, e2, by rw [e3.next]; exact Nat.lt_succ_self _, (g1.less (by omega)).trans (e3.grow hn0b) (Nat.le_refl _)⟩
def headBy : List Nat := sealB (setsAt 4 (setsAt 1 (setAt (List.replicate 64 0) 0 [72, 69, 65, 68]) 4 [0]) 8 [1])
def headV0 : Value := .agg #[iv 0, iv 1]
theorem sz_Head : szOf T0 54 = some 2 := by kernel_rfl
theorem box_H {h : AH} : rp (some (evNewVar h 54 headV0)) = some (.value (pv h.next 0), h.new (.cells (PM.ofList [iv 0, iv 1]) [iv 0, iv 1].length 54 0 0 .ex)) := box_agg
theorem field_H {b : Nat} : evFieldAddr T0 54 (pv b 0) 0 = some (pv b 0) ∧ evFieldAddr T0 54 (pv b 0) 1 = some (pv b 1) := ⟨by kernel_rfl, by kernel_rfl⟩
theorem plan_PH : planB (regOps Tryz.f14 [1, 1, 0]) 24 = some ([.one 1, .one 2, .one 5, .one 6, .eff [] 0 [1, 2, 5, 6], .eff [3] 4 [5, 6], .eff [7] 8 [], .eff [] 9 [], .one 10, .one 11], []) := by kernel_rfl
theorem PutHead_S (hI : InC call 31) (hN : NewPageC call) (hS : SetVC call) (hL : PSealC call) (h : AH) :
    ∃ v' p' h', frameB T0 X0 call 3000 14 [headV0] h = some (.tuple #[v', iv 0], h') ∧ h.next ≤ p' ∧ p' < h'.next ∧ OwnB p' h' v' headBy ∧ Grow h.next h h' := by
  generalize hh1 : h.new (.cells (PM.ofList [iv 0, iv 1]) [iv 0, iv 1].length 54 0 0 .ex) = h1
  have g1 : Grow h.next h h1 := by rw [← hh1]; exact Grow.new _ _
  have n1 : h1.next = h.next + 1 := by rw [← hh1]; rfl
  have hb : BoxL h1 h.next 54 [iv 0, iv 1] := by rw [← hh1]; exact BoxL.new _ _ _
  have l0 : evLoad T0 3 (pv h.next 0) h1 = some (iv 0) := hb.load agg_int rfl
  have l1 : evLoad T0 3 (pv h.next 1) h1 = some (iv 1) := hb.load agg_int rfl
  obtain ⟨b, p, h2, a1, a2, a3, a4, a5, a6, a7, a8⟩ := hN [72, 69, 65, 68] h1 (by decide) (by decide) (by decide)
  obtain ⟨h3, b1, b2, b3, b4⟩ := set_one hS b p 4 1 h1.next [0] _ h2 a4 a3 (by decide) (by decide) (by decide) (by decide) a5 a6 a7
  obtain ⟨h4, c1, c2, c3, c4⟩ := set_one hS b p 8 4 h1.next [1] _ h3 a4 a3 (by decide) (by decide) (by decide) (by decide) (by omega) (by omega) b2
  obtain ⟨v', p', h5, d1, d2, d3, d4, d5⟩ := hL b p _ h4 c2 (by omega)
  have l0b : evLoad T0 3 (pv h.next 0) h2 = some (iv 0) := (hb.grow a8 (by omega)).load agg_int rfl
  have l1b : evLoad T0 3 (pv h.next 1) h2 = some (iv 1) := (hb.grow a8 (by omega)).load agg_int rfl
  have g3 : Grow h1.next h1 h3 := a8.trans b4 (Nat.le_refl _)
  have l1c : evLoad T0 3 (pv h.next 1) h3 = some (iv 1) := (hb.grow g3 (by omega)).load agg_int rfl
  have g4 : Grow h.next h h4 := g1.trans (g3.trans c4 (Nat.le_refl _)) (by omega)
  refine ⟨v', p', h5, ?_, Nat.le_trans g4.next d2, d3, d4, g4.trans d5 g4.next⟩
  have hp := plan_PH
  simp only [regOps, part, Tryz.f14, sub] at hp
  have b1 : call 33 [pv b 0, iv 4, iv 1, .slice (some ⟨h2.next, 0, none⟩) 1 1] (h2.new (.cells (PM.ofList [iv 0]) 1 3 0 0 .ex)) = some (pv b 0, h3) := b1
  have c1 : call 33 [pv b 0, iv 8, iv 4, .slice (some ⟨h3.next, 0, none⟩) 1 1] (h3.new (.cells (PM.ofList [iv 1]) 1 3 0 0 .ex)) = some (pv b 0, h4) := c1
  rw [frameB_eq ft14 rfl rfl]
  simp only [Tryz.f14, symM, opFn, Nat.reduceLT, Nat.reduceBEq, symM, box_H, hh1, field_H, l0, l1, evCall_fn ft31 rfl, hI 0 0 39 _ (by omega) (by omega), hI 1 1 1073741824 _ (by omega) (by omega)]
  have a1 : call 32 [.string ⟨#[72, 69, 65, 68]⟩] h1 = some (pv b 0, h2) := a1
  rw [codeB_draw, draw_plan hp rfl]


  simp only [drawAll, opFn, Nat.reduceBEq, field_H, l0, l1, l0b, l1b, l1c, evCall_fn ft32 rfl, a1, effE_cons, goAB_some bs_int1, evCall_fn ft33 rfl, b1, c1, evCall_fn ft34 rfl, d1]
  exact retB_two ft14 rfl (by simp only [symM, Nat.reduceBEq]) get_same
def supBy (b f : Nat) : List Nat := sealB (setsAt 2 (setsAt 1 (setsAt 2 (setAt (List.replicate 64 0) 0 [68, 82, 89, 68]) 4 [b]) 6 [f, 0, 0]) 10 [0])
theorem bs_int3 {a b c : Int} {h : AH} : evBuildSlice T0 55 3 [(0, iv a), (1, iv b), (2, iv c)] h = some (.slice (some ⟨h.next, 0, none⟩) 3 3, h.new (.cells (PM.ofList [iv a, iv b, iv c]) 3 3 0 0 .ex)) := by
  unfold evBuildSlice
  simp only [und_ints, sz_int, zero_int]
  rfl
theorem plan_SuE : planB (regOps Tryz.f37 [1, 1, 0]) 25 = some ([.one 1, .one 2, .one 5, .one 6, .one 7, .one 8, .one 9, .one 10, .one 13, .one 14, .eff [] 0 [1, 2, 5, 6, 7, 8, 9, 10, 13, 14], .eff [3] 4 [5, 6, 7, 8, 9, 10, 13, 14], .eff [11] 12 [13, 14], .eff [15] 16 [], .eff [] 17 [], .one 18, .one 19], []) := by kernel_rfl
theorem SEnc_S (hSd : ∀ (b f : Nat) (h : AH), 64 ≤ b → b ≤ 480 → 1 ≤ f → f ≤ 2 → ∃ h', call 75 [supV b f] h = some (.bool true, h') ∧ Grow h.next h h')
    (hN : NewPageC call) (hS : SetVC call) (hL : PSealC call) (B f : Nat) (h : AH) (k1 : 64 ≤ B) (k2 : B ≤ 480) (k3 : 1 ≤ f) (k4 : f ≤ 2) :
    ∃ v' p' h', frameB T0 X0 call 3000 37 [supV B f] h = some (.tuple #[v', iv 0], h') ∧ h.next ≤ p' ∧ p' < h'.next ∧ OwnB p' h' v' (supBy B f) ∧ Grow h.next h h' := by
  generalize hh0 : h.new (.cells (PM.ofList (supL B f)) (supL B f).length 32 0 0 .ex) = h0
  have g0 : Grow h.next h h0 := by rw [← hh0]; exact Grow.new _ _
  have n0 : h0.next = h.next + 1 := by rw [← hh0]; rfl
  have hb0 : SupB h0 h.next B f := by rw [← hh0]; exact BoxL.new _ _ _
  obtain ⟨h1, s1, s2⟩ := hSd B f h0 k1 k2 k3 k4
  have n1 := s2.next
  have hb : SupB h1 h.next B f := BoxL.grow hb0 s2 (by omega)
  obtain ⟨b, p, h2, a1, a2, a3, a4, a5, a6, a7, a8⟩ := hN [68, 82, 89, 68] h1 (by decide) (by decide) (by decide)
  obtain ⟨h3, b1, b2, b3, b4⟩ := set_one hS b p 4 2 h1.next [B] _ h2 a4 a3 (by decide) (by simp) (by intro n hn; simp at hn; omega) (by simp) a5 a6 a7
  obtain ⟨h4, c1, c2, c3, c4⟩ := set_one hS b p 6 1 h1.next [f, 0, 0] _ h3 a4 a3 (by decide) (by simp) (by intro n hn; simp at hn; omega) (by simp) (by omega) (by omega) b2
  obtain ⟨h5, d1, d2, d3, d4⟩ := set_one hS b p 10 2 h1.next [0] _ h4 a4 a3 (by decide) (by simp) (by intro n hn; simp at hn; omega) (by simp) (by omega) (by omega) c2
  obtain ⟨v', p', h6, e1, e2, e3, e4, e5⟩ := hL b p _ h5 d2 (by omega)
  have hb2 : SupB h2 h.next B f := BoxL.grow hb a8 (by omega)
  have g3 : Grow h1.next h1 h3 := a8.trans b4 (Nat.le_refl _)
  have hb3 : SupB h3 h.next B f := BoxL.grow hb g3 (by omega)
  have g4 : Grow h1.next h1 h4 := g3.trans c4 (Nat.le_refl _)
  have hb4 : SupB h4 h.next B f := BoxL.grow hb g4 (by omega)
  have g5 : Grow h1.next h1 h5 := g4.trans d4 (Nat.le_refl _)
  have g6 : Grow h.next h h5 := (g0.trans s2 (by omega)).trans g5 (by omega)
  refine ⟨v', p', h6, ?_, Nat.le_trans g6.next e2, e3, e4, g6.trans e5 g6.next⟩
  have hp := plan_SuE
  simp only [regOps, part, Tryz.f37, sub] at hp
  have a1 : call 32 [.string ⟨#[68, 82, 89, 68]⟩] h1 = some (pv b 0, h2) := a1
  have b1 : call 33 [pv b 0, iv 4, iv 2, .slice (some ⟨h2.next, 0, none⟩) 1 1] (h2.new (.cells (PM.ofList [iv B]) 1 3 0 0 .ex)) = some (pv b 0, h3) := b1
  have c1 : call 33 [pv b 0, iv 6, iv 1, .slice (some ⟨h3.next, 0, none⟩) 3 3] (h3.new (.cells (PM.ofList [iv f, iv 0, iv 0]) 3 3 0 0 .ex)) = some (pv b 0, h4) := c1
  have d1 : call 33 [pv b 0, iv 10, iv 2, .slice (some ⟨h4.next, 0, none⟩) 1 1] (h4.new (.cells (PM.ofList [iv 0]) 1 3 0 0 .ex)) = some (pv b 0, h5) := d1
  rw [frameB_eq ft37 rfl rfl]
  simp only [Tryz.f37, symM, opFn, Nat.reduceLT, Nat.reduceBEq, symM, box_S, hh0, hb0.loads, evCall_fn ft75 rfl, s1]
  rw [codeB_draw, draw_plan hp rfl]
  simp only [drawAll, opFn, Nat.reduceBEq, field_S, hb.loads, hb2.loads, hb3.loads, evCall_fn ft32 rfl, a1, effE_cons, goAB_some bs_int1, evCall_fn ft33 rfl, b1]
  rw [goA_bsn (vs := [(0, iv f), (1, iv 0), (2, iv 0)]) (by simp only [drawAll, Nat.reduceBEq]) bs_int3]
  simp only [drawAll, opFn, Nat.reduceBEq, field_S, hb4.loads, c1, effE_cons, goAB_some bs_int1, evCall_fn ft33 rfl, d1, evCall_fn ft34 rfl, e1]
  exact retB_two ft37 rfl (by simp only [symM, Nat.reduceBEq]) get_same
end
end Go.Proofs.YtjiilfinllfmgaaGreat.Abs
namespace Go.Proofs.YtjiilfinllfmgaaGreat.Abs
open Go Go.Proofs
noncomputable section
variable {call : Abs.Callee}
set_option maxRecDepth 10000
theorem ft25 : T0.ft.get 25 = some Tryz.f25 := by kernel_rfl
theorem ft21 : T0.ft.get 21 = some Tryz.f21 := by kernel_rfl
theorem ft22 : T0.ft.get 22 = some Tryz.f22 := by kernel_rfl
noncomputable def bodySl : Code := part Tryz.f25 [1, 1, 0, 0, 0]
abbrev ESl : Env := ⟨25, 20, none⟩
theorem padSl (n1 : Nat) : ∀ (k : Nat) (bs : List Nat) (w : Value) (h : AH) (tm : PM Value) (N : Nat), bs.length + k = 60 → k + 40 ≤ N → n1 ≤ h.next → Own n1 h w (bytesV bs) 5 → tm.get 3 = some w →
    ∃ tm' h', codeB T0 X0 call N ESl (.loop bodySl) tm h [] = .jump (.exit 0) tm' h' [] ∧ ((∃ w', tm'.get 3 = some w' ∧ Own n1 h' w' (bytesV (bs ++ List.replicate k 0)) 5) ∧ Grow n1 h h') := by
  intro k
  induction k with
  | zero =>
    intro bs w h tm N hk hN hn ho g3
    obtain ⟨N, rfl⟩ : ∃ a, N = a + 40 := ⟨N - 40, by omega⟩
    have hl : ∀ ty h', evBuiltin T0 .len #[38] ty [w] h' = some (.value (iv bs.length), h') := fun ty h' => by rw [ho.row.len und_bytes, bytesV_len]
    apply Exists.intro; apply Exists.intro
    refine ⟨?_, ⟨w, ?_, by simpa using ho⟩, Grow.refl _ _⟩
    · rw [codeB_loop]
      simp only [bodySl, part, Tryz.f25, sub, symM, opFn, Nat.reduceLT, symM, g3, hl, bin_lss, decide_eq_false (show ¬ (bs.length : Int) < 60 by omega)]
      rfl
    · simp only [symM, Nat.reduceBEq, g3]
  | succ k ih =>
    intro bs w h tm N hk hN hn ho g3
    obtain ⟨N, rfl⟩ : ∃ a, N = a + 40 := ⟨N - 40, by omega⟩
    have hl : ∀ ty h', evBuiltin T0 .len #[38] ty [w] h' = some (.value (iv bs.length), h') := fun ty h' => by rw [ho.row.len und_bytes, bytesV_len]
    obtain ⟨v1, h1, e1, e2', e3, e4⟩ := app_u8 ho 0 (by omega) hn 38
    have e1 : evBuiltin T0 .append #[38, 38] 38 [w, .slice (some ⟨h.next, 0, none⟩) 1 1] (h.new (.cells (PM.ofList [.int .u8 0]) 1 5 0 0 .ex)) = some (.value v1, h1) := e1
    rw [show N + 40 = (N + 39) + 1 from rfl, codeB_loop]
    simp only [bodySl, part, Tryz.f25, sub, symM, opFn, Nat.reduceLT, Nat.reduceBEq, symM, g3, hl, bin_lss, decide_eq_true (show (bs.length : Int) < 60 by omega), bs_u80, e1]
    rw [List.replicate_succ, show bs ++ 0 :: List.replicate k 0 = (bs ++ [0]) ++ List.replicate k 0 by simp]
    exact wrapE (ih (bs ++ [0]) v1 h1 _ (N + 39) (by simp; omega) (by omega) (Nat.le_trans hn e3.next) (e2'.less hn) get_same) e3
/-- All sixty bytes are the bytes. -/
theorem cut_all {n : Nat} {h : AH} {v : Value} {bs : List Nat} (hl : bs.length = 60) (ho : Own n h v (bytesV bs) 5) : evSliceX T0 38 v none (some (iv 60)) none h = some (v, h) := by
  rcases ho with ⟨_, q⟩ | ⟨p, c, kd, cap, h1, h2, rfl, h4, h5, h6⟩
  · have := congrArg List.length q
    rw [bytesV_len, hl] at this; simp at this
  · rw [bytesV_len, hl] at h4 h6 ⊢
    have hbnd : boundsA 60 60 none (some (iv ((60 : Nat) : Int))) none = some (0, 60, 60) := rfl
    rcases h6 with ⟨rfl, rfl⟩ | ⟨rfl, rfl⟩
    · show evSliceX T0 38 (.slice (some ⟨p, 0, none⟩) 60 60) none (some (iv ((60 : Nat) : Int))) none h = _
      simp only [evSliceX, evSlice, und_bytes, sz_u8, evSliceS, capOf_lt (show 60 < XB by rw [XB_val]; omega), hbnd, Nat.ble_eq_true_of_le (Nat.le_refl 60), ifB_true, ble_lt' (show 60 < XB by rw [XB_val]; omega), ifB_false, offS]
      rfl
    · have hls : looseSz T0 h p 1 = true := by
        unfold looseSz
        rw [h4]
        simp only [sz_u8]
        rfl
      show evSliceX T0 38 (.slice (some ⟨p, 0, none⟩) 60 (XB + 60)) none (some (iv ((60 : Nat) : Int))) none h = _
      simp only [evSliceX, evSlice, und_bytes, sz_u8, evSliceS, capOf_ge, hbnd, Nat.ble_eq_true_of_le (Nat.le_refl 60), ifB_true, Nat.ble_eq_true_of_le (show XB ≤ XB + 60 by omega), hls, offS]
      rfl
def sealR (bs : List Nat) : List Nat := pad 60 bs ++ leN (spinU (spinN (pad 60 bs))) 4
abbrev RPutC (call : Abs.Callee) : Prop := ∀ (n size n0 : Nat) (bs : List Nat) (v : Value) (h : AH), n < 4294967296 → size ≤ 4 → bs.length < 400 → n0 ≤ h.next → Own n0 h v (bytesV bs) 5 → ∃ v' h', call 61 [v, iv n, iv size] h = some (v', h') ∧ Own n0 h' v' (bytesV (bs ++ leN n size)) 5 ∧ Grow n0 h h' ∧ (∀ k, k < h.next → Off v k → h'.get k = h.get k) ∧ (0 < size → Own h.next h' v' (bytesV (bs ++ leN n size)) 5)
theorem plan_RS : planB (regOps Tryz.f25 [1, 1, 1, 0]) 20 = some ([.one 0, .one 1, .one 2, .one 3, .eff [] 4 [0, 1], .one 5, .eff [] 6 [], .one 7], []) := by kernel_rfl
theorem rSeal_S (hP : RPutC call) (hSum : SumC call 65) (n0 : Nat) (bs : List Nat) (v : Value) (h : AH) (hl : bs.length ≤ 60) (h0 : bs.length ≠ 0) (hb : ∀ x ∈ bs, x < 256) (ho : Own n0 h v (bytesV bs) 5) :
    ∃ v' h', frameB T0 X0 call 3000 25 [v] h = some (v', h') ∧ Own h.next h' v' (bytesV (sealR bs)) 5 ∧ Grow h.next h h' := by
  obtain ⟨p, p1, p2, p3⟩ := ho.toB h0
  obtain ⟨v1, q, h1, a1, a2, a3, a4, a5⟩ := app_first p3 p2 h0 (by omega) 38
  have o1 : Own h.next h1 v1 (bytesV bs) 5 := a4.own a3 a2
  rw [frameB_eq ft25 rfl rfl]
  simp only [Tryz.f25, symM, opFn, Nat.reduceLT, Nat.reduceBEq, symM, symL, bs_b0, a1]
  generalize hX : codeB T0 X0 call _ ESl (.loop _) _ _ _ = X
  obtain ⟨t2, h2, b1, ⟨w, b2, b3⟩, b4⟩ := use_exit hX (padSl h.next (60 - bs.length) bs v1 h1 _ _ (by omega) (by omega) a5.next o1 get_same)
  clear hX
  subst b1
  have b3 : Own h.next h2 w (bytesV (pad 60 bs)) 5 := b3
  have lp : (pad 60 bs).length = 60 := by unfold pad; simp; omega
  have hs := hSum (pad 60 bs) w h2 (pad_lt hb) (by omega) b3.row
  have hw : IntKind.i64.wrap ((spinU (spinN (pad 60 bs)) : Nat) : Int) = ((spinU (spinN (pad 60 bs)) : Nat) : Int) := by
    have := spinU_lt (pad 60 bs)
    rw [IntWalk.i64_in _ (by omega)]
  have n2 : h.next ≤ h2.next := Nat.le_trans a5.next b4.next
  obtain ⟨v3, h3, c1, c2, c3, _⟩ := hP (spinU (spinN (pad 60 bs))) 4 h.next (pad 60 bs) w h2 (spinU_lt _) (by omega) (by omega) n2 b3
  have c1 : call 61 [w, iv (spinU (spinN (pad 60 bs)) : Nat), iv 4] h2 = some (v3, h3) := c1
  have hq := cut_all lp b3
  refine ⟨v3, h3, ?_, c2, (a5.trans b4 (Nat.le_refl _)).trans c3 (Nat.le_refl _)⟩
  have hp := plan_RS
  simp only [regOps, part, Tryz.f25, sub] at hp
  have hev : eqV w w = true := b3.eqv
  simp only [symM, symM, symL]
  rw [codeB_draw, draw_plan hp rfl]
  simp only [drawAll, opFn, Nat.reduceBEq, b2, hq, hev, ev3, evOpt, evCall_fn ft65' rfl, hs, effE_cons, conv_i2i und_u32' und_int, hw, evCall_fn ft61 rfl, c1]
  exact retB_one ft25 rfl get_same
abbrev RSealC (call : Abs.Callee) : Prop := ∀ (n0 : Nat) (bs : List Nat) (v : Value) (h : AH), bs.length ≤ 60 → bs.length ≠ 0 → (∀ x ∈ bs, x < 256) → Own n0 h v (bytesV bs) 5 → ∃ v' h', call 25 [v] h = some (v', h') ∧ Own h.next h' v' (bytesV (sealR bs)) 5 ∧ Grow h.next h h'
/-- Four letters behind an empty row. -/
theorem app_str4 (a b c d : Nat) (ha : a < 256) (hb : b < 256) (hc : c < 256) (hd : d < 256) (h : AH) (ty : TypeId) :
    ∃ v' h', evBuiltin T0 .append #[38, 9] ty [.slice (some ⟨h.next, 0, none⟩) 0 0, strB [a, b, c, d]] (h.new (.cells (PM.ofList []) 0 5 0 0 .ex)) = some (.value v', h') ∧ Own h.next h' v' (bytesV [a, b, c, d]) 5 ∧ Grow h.next h h' := by
  have g1 := Grow.new h (.cells (PM.ofList []) 0 5 0 0 .ex)
  have ho : OwnC 1 h.next (h.new (.cells (PM.ofList []) 0 5 0 0 .ex)) (.slice (some ⟨h.next, 0, none⟩) 0 0) 0 [] 5 := .inr ⟨h.next, PM.ofList [], .ex, 0, Nat.le_refl _, Nat.lt_succ_self _, rfl, get_new_same _ _, rfl, fun i x hx => by simp at hx, .inl ⟨rfl, rfl⟩⟩
  have hbv : byteVals ([a, b, c, d].map fun (x : Nat) => UInt8.ofNat x) = bytesV [a, b, c, d] := byteVals_of (by intro x hx; simp at hx; omega)
  have happ : appendedA T0 9 (infoOf 5) (.int .u8 0) (strB [a, b, c, d]) (h.new (.cells (PM.ofList []) 0 5 0 0 .ex)) = some (4, bytesV [a, b, c, d]) := by
    unfold appendedA
    rw [und_string, ti_u8.2.1]
    show ifB (Nat.beq (byteVals ([a, b, c, d].map fun (x : Nat) => UInt8.ofNat x)).length (4 * 1)) (some (4, byteVals ([a, b, c, d].map fun (x : Nat) => UInt8.ofNat x))) none = _
    rw [hbv]
    rfl
  obtain ⟨v', h', e1, e2, e3, _, _⟩ := append_gen und_bytes tt_u8 ti_u8.1 ti_u8.2.1 ti_u8.2.2 ho happ (by simp [bytesV]) (bytesV_one _) (by omega) g1.next ty
  exact ⟨v', h', e1, e2.own, g1.trans e3 (Nat.le_refl _)⟩
def rheadBy : List Nat := sealR ([72, 69, 65, 68] ++ leN 0 4 ++ leN 1 4)
theorem rPutHead_S (hI : InC call 60) (hP : RPutC call) (hS : RSealC call) (h : AH) :
    ∃ v' h', frameB T0 X0 call 3000 22 [headV0] h = some (.tuple #[v', iv 0], h') ∧ Own h.next h' v' (bytesV rheadBy) 5 ∧ Grow h.next h h' := by
  generalize hh1 : h.new (.cells (PM.ofList [iv 0, iv 1]) [iv 0, iv 1].length 54 0 0 .ex) = h1
  have g1 : Grow h.next h h1 := by rw [← hh1]; exact Grow.new _ _
  have n1 : h1.next = h.next + 1 := by rw [← hh1]; rfl
  have hb : BoxL h1 h.next 54 [iv 0, iv 1] := by rw [← hh1]; exact BoxL.new _ _ _
  have l0 : evLoad T0 3 (pv h.next 0) h1 = some (iv 0) := hb.load agg_int rfl
  have l1 : evLoad T0 3 (pv h.next 1) h1 = some (iv 1) := hb.load agg_int rfl
  obtain ⟨v2, h2, a1, a2, a3⟩ := app_str4 72 69 65 68 (by decide) (by decide) (by decide) (by decide) h1 38
  have a1 : evBuiltin T0 .append #[38, 9] 38 [.slice (some ⟨h1.next, 0, none⟩) 0 0, .string ⟨#[72, 69, 65, 68]⟩] (h1.new (.cells (PM.ofList []) 0 5 0 0 .ex)) = some (.value v2, h2) := a1
  have l2 : evLoad T0 3 (pv h.next 0) h2 = some (iv 0) := (hb.grow a3 (by omega)).load agg_int rfl
  obtain ⟨v3, h3, b1, b2, b3, _⟩ := hP 0 4 h1.next _ v2 h2 (by omega) (by omega) (by simp) a3.next a2
  have b1 : call 61 [v2, iv 0, iv 4] h2 = some (v3, h3) := b1
  have g3 := a3.trans b3 (Nat.le_refl _)
  have l3 : evLoad T0 3 (pv h.next 1) h3 = some (iv 1) := (hb.grow g3 (by omega)).load agg_int rfl
  obtain ⟨v4, h4, c1, c2, c3, _⟩ := hP 1 4 h1.next _ v3 h3 (by omega) (by omega) (by simp [leN_len]) g3.next b2
  have c1 : call 61 [v3, iv 1, iv 4] h3 = some (v4, h4) := c1
  have g4 := g3.trans c3 (Nat.le_refl _)
  obtain ⟨v5, h5, d1, d2, d3⟩ := hS h1.next _ v4 h4 (by simp [leN_len]) (by simp [leN_len]) (by
    intro x hx
    simp only [List.mem_append] at hx
    rcases hx with (hx | hx) | hx
    · simp at hx; omega
    · exact leN_lt hx
    · exact leN_lt hx) c2
  have G := (g1.trans g4 (by omega)).trans d3 (Nat.le_trans (Nat.le_trans g1.next g4.next) (Nat.le_refl _))
  refine ⟨v5, h5, ?_, d2.less (Nat.le_trans g1.next g4.next), G⟩
  rw [frameB_eq ft22 rfl rfl]
  simp only [Tryz.f22, symM, opFn, Nat.reduceLT, Nat.reduceBEq, symM, box_H, hh1, field_H, l0, l1, l2, l3, evCall_fn ft60 rfl, hI 0 0 39 _ (by omega) (by omega), hI 1 1 1073741824 _ (by omega) (by omega), bs_b0, a1, evCall_fn ft61 rfl, b1, c1, evCall_fn ft25 rfl, d1]
  exact retB_two ft22 rfl (by simp only [symM, Nat.reduceBEq]) get_same
def rsupBy (b f : Nat) : List Nat := sealR ([68, 82, 89, 68] ++ leN b 2 ++ leN f 1 ++ leN 0 1 ++ leN 0 2 ++ leN 0 2)
theorem rSEnc_S (hI : InC call 60) (hP : RPutC call) (hS : RSealC call) (B f : Nat) (h : AH) (k1 : 64 ≤ B) (k2 : B ≤ 480) (k3 : 1 ≤ f) (k4 : f ≤ 2) :
    ∃ v' h', frameB T0 X0 call 3000 21 [supV B f] h = some (.tuple #[v', iv 0], h') ∧ Own h.next h' v' (bytesV (rsupBy B f)) 5 ∧ Grow h.next h h' := by
  generalize hh1 : h.new (.cells (PM.ofList (supL B f)) (supL B f).length 32 0 0 .ex) = h1
  have g1 : Grow h.next h h1 := by rw [← hh1]; exact Grow.new _ _
  have n1 : h1.next = h.next + 1 := by rw [← hh1]; rfl
  have hb : SupB h1 h.next B f := by rw [← hh1]; exact BoxL.new _ _ _
  obtain ⟨v2, h2, a1, a2, a3⟩ := app_str4 68 82 89 68 (by decide) (by decide) (by decide) (by decide) h1 38
  have a1 : evBuiltin T0 .append #[38, 9] 38 [.slice (some ⟨h1.next, 0, none⟩) 0 0, .string ⟨#[68, 82, 89, 68]⟩] (h1.new (.cells (PM.ofList []) 0 5 0 0 .ex)) = some (.value v2, h2) := a1
  have hb2 : SupB h2 h.next B f := BoxL.grow hb a3 (by omega)
  obtain ⟨v3, h3, b1, b2, b3, _⟩ := hP B 2 h1.next _ v2 h2 (by omega) (by omega) (by simp) a3.next a2
  have b1 : call 61 [v2, iv B, iv 2] h2 = some (v3, h3) := b1
  have g3 := a3.trans b3 (Nat.le_refl _)
  have hb3 : SupB h3 h.next B f := BoxL.grow hb g3 (by omega)
  obtain ⟨v4, h4, c1, c2, c3, _⟩ := hP f 1 h1.next _ v3 h3 (by omega) (by omega) (by simp [leN_len]) g3.next b2
  have c1 : call 61 [v3, iv f, iv 1] h3 = some (v4, h4) := c1
  have g4 := g3.trans c3 (Nat.le_refl _)
  have hb4 : SupB h4 h.next B f := BoxL.grow hb g4 (by omega)
  obtain ⟨v5, h5, d1, d2, d3, _⟩ := hP 0 1 h1.next _ v4 h4 (by omega) (by omega) (by simp [leN_len]) g4.next c2
  have d1 : call 61 [v4, iv 0, iv 1] h4 = some (v5, h5) := d1
  have g5 := g4.trans d3 (Nat.le_refl _)
  have hb5 : SupB h5 h.next B f := BoxL.grow hb g5 (by omega)
  obtain ⟨v6, h6, e1, e2, e3, _⟩ := hP 0 2 h1.next _ v5 h5 (by omega) (by omega) (by simp [leN_len]) g5.next d2
  have e1 : call 61 [v5, iv 0, iv 2] h5 = some (v6, h6) := e1
  have g6 := g5.trans e3 (Nat.le_refl _)
  have hb6 : SupB h6 h.next B f := BoxL.grow hb g6 (by omega)
  obtain ⟨v7, h7, y1, y2, y3, _⟩ := hP 0 2 h1.next _ v6 h6 (by omega) (by omega) (by simp [leN_len]) g6.next e2
  have y1 : call 61 [v6, iv 0, iv 2] h6 = some (v7, h7) := y1
  have g7 := g6.trans y3 (Nat.le_refl _)
  obtain ⟨v8, h8, z1, z2, z3⟩ := hS h1.next _ v7 h7 (by simp [leN_len]) (by simp [leN_len]) (by
    intro x hx
    simp only [List.mem_append] at hx
    rcases hx with ((((hx | hx) | hx) | hx) | hx) | hx
    · simp at hx; omega
    all_goals exact leN_lt hx) y2
  have G := (g1.trans g7 (by omega)).trans z3 (Nat.le_trans g1.next g7.next)
  refine ⟨v8, h8, ?_, z2.less (Nat.le_trans g1.next g7.next), G⟩
  rw [frameB_eq ft21 rfl rfl]
  simp only [Tryz.f21, symM, opFn, Nat.reduceLT, Nat.reduceBEq, symM, box_S, hh1, field_S, hb.loads, hb2.loads, hb3.loads, hb4.loads, hb5.loads, hb6.loads, evCall_fn ft60 rfl, hI B 64 480 _ (by omega) (by omega), hI f 1 3 _ (by omega) (by omega), hI 0 0 3 _ (by omega) (by omega), hI 0 0 32 _ (by omega) (by omega), hI 0 0 480 _ (by omega) (by omega), bs_b0, a1, evCall_fn ft61 rfl, b1, c1, d1, e1, y1, evCall_fn ft25 rfl, z1]
  exact retB_two ft21 rfl (by simp only [symM, Nat.reduceBEq]) get_same
/- Both write the same. -/
theorem head_same : rheadBy = headBy := rfl
theorem sup_same (b f : Nat) (hf : f < 256) : rsupBy b f = supBy b f := by
  have e : leN f 1 = [f] := by show [f / 256 ^ 0 % 256] = [f]; rw [show f / 256 ^ 0 % 256 = f by simp; omega]
  unfold rsupBy supBy sealR sealB
  rw [e]
  have h2 : (setsAt 2 (setsAt 1 (setsAt 2 (setAt (List.replicate 64 0) 0 [68, 82, 89, 68]) 4 [b]) 6 [f, 0, 0]) 10 [0]).take 60 = pad 60 ([68, 82, 89, 68] ++ leN b 2 ++ [f] ++ leN 0 1 ++ leN 0 2 ++ leN 0 2) := by
    simp only [setsAt, e]
    rfl
  rw [h2]
end
end Go.Proofs.YtjiilfinllfmgaaGreat.Abs
