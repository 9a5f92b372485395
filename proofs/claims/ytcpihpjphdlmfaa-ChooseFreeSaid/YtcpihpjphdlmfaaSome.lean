/- Choices: as many blocks as may be out of the longest runs: plain laws, and package choose. -/
import Derived.Test.YtcpihpjphdlmfaaStabB
namespace Go.Proofs.Ytcpihpjphdlmfaa.Abs
open Go Go.Proofs Go.Sort
noncomputable section
variable {call : Abs.Callee}
set_option maxRecDepth 10000
/-- One run is behind another one. -/
def Asc (L : List NN) : Prop := L.Pairwise fun x y => x.1 + x.2 ≤ y.1
theorem gapsG_asc (d : Nat → Bool) : ∀ (k n first : Nat), first ≤ n → Asc (gapsG d k n first) ∧ (∀ p ∈ gapsG d k n first, first ≤ p.1 ∧ p.1 + p.2 ≤ n + k) ∧ (gapsG d k n first).length ≤ k + (if first < n then 1 else 0) := by
  intro k
  induction k with
  | zero =>
    intro n first hf
    rw [gapsG]
    cases hb : Nat.blt first n with
    | false => exact ⟨List.Pairwise.nil, by simp, by simp⟩
    | true =>
      have := blt_lt hb
      refine ⟨List.pairwise_singleton _ _, ?_, by simp [this]⟩
      intro p hp
      simp at hp
      subst hp
      exact ⟨Nat.le_refl _, by simp; omega⟩
  | succ k ih =>
    intro n first hf
    rw [gapsG]
    cases d n with
    | true =>
      obtain ⟨i1, i2, i3⟩ := ih (n + 1) first (by omega)
      rw [if_pos (by omega)] at i3
      refine ⟨i1, fun p hp => ?_, by simp only [cond_true]; split <;> omega⟩
      have := i2 p hp
      omega
    | false =>
      obtain ⟨i1, i2, i3⟩ := ih (n + 1) (n + 1) (Nat.le_refl _)
      rw [if_neg (by omega)] at i3
      simp only [cond_false]
      cases hb : Nat.blt first n with
      | false =>
        simp only [cond_false, List.nil_append]
        refine ⟨i1, fun p hp => ?_, by omega⟩
        have := i2 p hp
        omega
      | true =>
        have hlt := blt_lt hb
        simp only [cond_true]
        refine ⟨List.pairwise_cons.2 ⟨fun p hp => ?_, i1⟩, fun p hp => ?_, by rw [if_pos hlt]; simp; omega⟩
        · have := (i2 p hp).1
          simp only
          omega
        · rcases List.mem_cons.1 hp with rfl | hp
          · simp only; omega
          · have := i2 p hp
            omega
theorem downG_asc (bs : List Nat) (a b : Int) : Asc (downG bs a b) ∧ (downG bs a b).length ≤ 480 := by
  unfold downG
  split
  · rename_i h
    have h3 : b.toNat ≤ 480 := by
      unfold downE at h
      split at h
      · cases h
      · split at h
        · cases h
        · omega
    have := gapsG_asc (fun i => !bitB bs i) (b.toNat - a.toNat) a.toNat a.toNat (Nat.le_refl _)
    rw [if_neg (by omega)] at this
    exact ⟨this.1, by omega⟩
  · exact ⟨List.Pairwise.nil, by simp⟩
theorem gapG_asc (bs : List Nat) (n a b : Int) : Asc (gapG bs n a b) ∧ (gapG bs n a b).length ≤ 480 := by
  unfold gapG
  split
  · exact downG_asc bs a b
  · exact ⟨List.Pairwise.nil, by simp⟩
theorem asc_crs {L : List NN} (h : Asc L) : L.Pairwise crs := h.imp (fun {x y} hxy => fun _ => by omega)
theorem runs_KL {L : List NN} (h : AllRuns L) : KL L := fun p hp => by have := runQ (h p hp); exact ⟨by omega, by omega⟩
/-- So many blocks of these runs, one behind the other. -/
def pick : Nat → List NN → List NN
  | _, [] => []
  | n, q :: l => if min n q.2 = 0 then [] else (q.1, min n q.2) :: pick (n - min n q.2) l
/-- How many are lacking. -/
def rem : Nat → List NN → Nat
  | n, [] => n
  | n, q :: l => if min n q.2 = 0 then n else rem (n - min n q.2) l
/-- What Some answers. -/
def SomeR (L : List NN) (n : Nat) (T : List NN) (e : Int) : Prop := ∃ S : List NN, S.Perm L ∧ S.Pairwise wpre ∧ ((rem n S = 0 ∧ e = 0 ∧ T.Perm (pick n S) ∧ T.Pairwise (fun x y => x.1 ≤ y.1)) ∨ (rem n S ≠ 0 ∧ e = 6 ∧ T = []))
def someP (bs : List Nat) (n a b : Int) (T : List NN) (e : Int) : Prop := if gapE bs.length n a b = 0 then SomeR (gapG bs n a b) n.toNat T e else T = [] ∧ e = gapE bs.length n a b
theorem pick_runs : ∀ (l : List NN) (n : Nat), AllRuns l → AllRuns (pick n l) := by
  intro l
  induction l with
  | nil => intro n h p hp; simp [pick] at hp
  | cons q l ih =>
    intro n h p hp
    rw [pick] at hp
    split at hp
    · simp at hp
    · rename_i h0
      rcases List.mem_cons.1 hp with rfl | hp
      · have := runQ (h q (List.mem_cons_self ..))
        unfold runOK
        simp
        omega
      · exact ih _ (fun p hp => h p (List.mem_cons_of_mem _ hp)) p hp
theorem pick_len : ∀ (l : List NN) (n : Nat), (pick n l).length ≤ l.length := by
  intro l
  induction l with
  | nil => intro n; simp [pick]
  | cons q l ih =>
    intro n
    rw [pick]
    split
    · simp
    · simpa using ih _
theorem rem_le : ∀ (l : List NN) (n : Nat), rem n l ≤ n := by
  intro l
  induction l with
  | nil => intro n; exact Nat.le_refl _
  | cons q l ih =>
    intro n
    rw [rem]
    split
    · exact Nat.le_refl _
    · have := ih (n - min n q.2); omega
theorem ft14 : T0.ft.get 14 = some Try.f14 := by kernel_rfl
theorem ft34 : T0.ft.get 34 = some Try.f34 := by kernel_rfl
theorem ft36 : T0.ft.get 36 = some Try.f36 := by kernel_rfl
theorem Some1_S (hC : ∀ (x y : Int) h, Abs.zok x = true → Abs.zok y = true → call 32 [fl x, fl y] h = some (iv (cmpZ x y), h)) (x y u v : Int) (hy : Abs.zok y = true) (hv : Abs.zok v = true) (h : AH) :
    frameB T0 X0 call 3000 34 [cx x y, cx u v] h = some (iv (cmpZ v y), h) := by
  rw [frameB_eq ft34 rfl rfl]
  simp only [Try.f34, symM, opFn, Nat.reduceLT, Nat.reduceBEq, evCall_fn ft32 rfl, hC v y _ hv hy]
  exact retB_one ft34 rfl get_same
theorem Some2_S (hC : ∀ (x y : Int) h, Abs.zok x = true → Abs.zok y = true → call 32 [fl x, fl y] h = some (iv (cmpZ x y), h)) (x y u v : Int) (hx : Abs.zok x = true) (hu : Abs.zok u = true) (h : AH) :
    frameB T0 X0 call 3000 36 [cx x y, cx u v] h = some (iv (cmpZ x u), h) := by
  rw [frameB_eq ft36 rfl rfl]
  simp only [Try.f36, symM, opFn, Nat.reduceLT, Nat.reduceBEq, evCall_fn ft32 rfl, hC x u _ hx hu]
  exact retB_one ft36 rfl get_same
theorem bi_min {T : Tab} {ts : Array TypeId} {ty : TypeId} {k : IntKind} {x y : Int} {h : AH} : evBuiltin T .min ts ty [.int k x, .int k y] h = some (.value (.int k (if y < x then y else x)), h) := by
  simp only [evBuiltin, flatOp]
  rfl
noncomputable def bodySo : Code := part Try.f14 [1, 1, 1, 1, 1, 0, 1, 0, 0]
abbrev ESo : Env := ⟨14, 57, none⟩
set_option maxHeartbeats 2000000 in
theorem soL (S : List NN) (hS : S.length ≤ 480) (hruns : AllRuns S) (s : Value) (n0 : Nat) (h0 : AH) (hs0 : Row n0 h0 s (runsV S) 23) (hn0 : n0 ≤ h0.next)
    (hb : ∀ (x y n : Nat) (h : AH), runOK x y = true → n ≤ y → 1 ≤ n → call 24 [cx x y, iv n] h = some (cx x n, h)) :
    ∀ (l : List NN) (i : Nat) (acc : List NN) (n : Nat) (tm : PM Value) (h : AH) (w : Value) (N : Nat), S.drop i = l → i + l.length = S.length → l.length + 60 ≤ N → n ≤ 480 → acc.length ≤ i → tm.get 1 = some (iv n) → tm.get 12 = some w → tm.get 29 = some s → tm.get 30 = some (iv S.length) → tm.get 31 = some (iv i) → Own n0 h w (runsV acc) 23 → Grow n0 h0 h →
      ∃ tm' h', codeB T0 X0 call N ESo (.loop bodySo) tm h [] = .jump (.exit 0) tm' h' [] ∧ ∃ w', tm'.get 12 = some w' ∧ tm'.get 1 = some (iv (rem n l)) ∧ Own n0 h' w' (runsV (acc ++ pick n l)) 23 ∧ Grow n0 h0 h' := by
  intro l
  induction l with
  | nil =>
    intro i acc n tm h w N hd hi hN hn hacc g1 g12 g29 g30 g31 hw hg
    obtain ⟨N, rfl⟩ : ∃ a, N = a + 30 := ⟨N - 30, by simp at hN; omega⟩
    apply Exists.intro; apply Exists.intro; apply And.intro
    · rw [codeB_loop]
      simp only [bodySo, part, Try.f14, sub, symM, opFn, Nat.reduceLT, g30, g31, bin_lss, decide_eq_false (show ¬ (i : Int) < (S.length : Nat) by simp at hi; omega)]
      rfl
    · exact ⟨w, by simp only [symM, Nat.reduceBEq, g12], by simp only [symM, Nat.reduceBEq, g1]; rfl, by rw [pick, List.append_nil]; exact hw, hg⟩
  | cons q l ih =>
    intro i acc n tm h w N hd hi hN hn hacc g1 g12 g29 g30 g31 hw hg
    obtain ⟨N, rfl⟩ : ∃ a, N = a + 30 := ⟨N - 30, by simp at hN; omega⟩
    have hil : i < S.length := by simp at hi; omega
    have hx : S[i]? = some q := by have := congrArg (fun l => l[0]?) hd; simpa using this
    have hqr := hruns q (List.mem_of_getElem? hx)
    have hq := runQ hqr
    have hxv : (runsV S)[i]? = some (cx q.1 q.2) := by simp [runsV, hx]
    obtain ⟨p, a1, a2⟩ := (hs0.grow hg (Nat.le_refl _)).at und_c128s sz_c128 agg_c128 hxv
    have hmin : (if ((q.2 : Nat) : Int) < (n : Int) then ((q.2 : Nat) : Int) else (n : Int)) = ((min n q.2 : Nat) : Int) := by split <;> omega
    have hcv := conv_f2i (T := T0) (h := h) und_f64 und_int (zok_k (x := (q.2 : Int)) (by omega)) (i64_range (show q.2 ≤ 1048576 by omega))
    rw [show N + 30 = (N + 29) + 1 from rfl, codeB_loop, rem, pick]
    by_cases h0 : min n q.2 = 0
    · rw [if_pos h0, if_pos h0, List.append_nil]
      have hz : (((min n q.2 : Nat) : Int) == 0) = true := by rw [h0]; rfl
      apply Exists.intro; apply Exists.intro; apply And.intro
      · simp only [bodySo, part, Try.f14, sub, symM, opFn, Nat.reduceLT, Nat.reduceBEq, symL, g1, g29, g30, g31, bin_lss, decide_eq_true (show (i : Int) < (S.length : Nat) by omega), a1, a2, hcv, bi_min, hmin, bin_eql, hz]
        rfl
      · exact ⟨w, by simp only [symM, Nat.reduceBEq, g12], by simp only [symM, Nat.reduceBEq, g1], hw, hg⟩
    · rw [if_neg h0, if_neg h0]
      have hz : (((min n q.2 : Nat) : Int) == 0) = false := by rw [beq_eq_false_iff_ne]; omega
      have hbg := hb q.1 q.2 (min n q.2) h hqr (by omega) (by omega)
      obtain ⟨w2, h2, ea, eo, eg⟩ := append_one und_c128s tt_c128 ti_c128.1 ti_c128.2.1 ti_c128.2.2 hw (x := cx q.1 (min n q.2 : Nat)) rfl (by simp [runsV]; omega) (Nat.le_trans hn0 hg.next) 29
      have hws : IntKind.i64.wrap ((n : Int) - ((min n q.2 : Nat) : Int)) = ((n - min n q.2 : Nat) : Int) := wsub (by omega) (by omega)
      simp only [bodySo, part, Try.f14, sub, symM, opFn, Nat.reduceLT, Nat.reduceBEq, g1, g12, g29, g30, g31, bin_lss, decide_eq_true (show (i : Int) < (S.length : Nat) by omega), a1, a2, hcv, bi_min, hmin, bin_eql, hz, evCall_fn ft24 rfl, hbg, bs_cx, ea, bin_sub, hws, bin_add, wadd1 (show i ≤ 400000 by omega)]
      rw [show acc ++ (q.1, min n q.2) :: pick (n - min n q.2) l = (acc ++ [(q.1, min n q.2)]) ++ pick (n - min n q.2) l by simp]
      refine ih (i + 1) (acc ++ [(q.1, min n q.2)]) (n - min n q.2) _ h2 w2 (N + 29) (by rw [← List.drop_drop, hd]; rfl) (by simp at hi ⊢; omega) (by simp at hN ⊢; omega) (by omega) (by simp; omega) ?_ ?_ ?_ ?_ get_same (by simpa [runsV] using eo) (hg.trans eg (Nat.le_refl _)) <;> simp only [symM, Nat.reduceBEq, g29, g30]
theorem Some_S (bs : List Nat) (m : Value) (h : AH) (n a b : Int)
    (hG : ∃ v h', call 21 [m, iv n, iv a, iv b] h = some (.tuple #[v, iv (gapE bs.length n a b)], h') ∧ Own h.next h' v (runsV (gapG bs n a b)) 23 ∧ Grow h.next h h')
    (hS : ∀ (v : Value) (n0 : Nat) (L : List NN) (h : AH), L.length ≤ 480 → KL L → n0 ≤ h.next → L.Pairwise crs → Own n0 h v (runsV L) 23 → ∃ h', ∃ S : List NN, call 33 [v, fnV 34] h = some (.tuple #[], h') ∧ Own n0 h' v (runsV S) 23 ∧ S.Perm L ∧ S.Pairwise wpre ∧ Grow n0 h h')
    (hF : ∀ (v : Value) (n0 : Nat) (L : List NN) (h : AH), L.length ≤ 480 → KL L → n0 ≤ h.next → Own n0 h v (runsV L) 23 → ∃ h', ∃ S : List NN, call 35 [v, fnV 36] h = some (.tuple #[], h') ∧ Own n0 h' v (runsV S) 23 ∧ S.Perm L ∧ S.Pairwise (fun x y => x.1 ≤ y.1) ∧ Grow n0 h h')
    (hb : ∀ (x y n : Nat) (h : AH), runOK x y = true → n ≤ y → 1 ≤ n → call 24 [cx x y, iv n] h = some (cx x n, h)) :
    ∃ v h' T e, frameB T0 X0 call 3000 14 [m, iv n, iv a, iv b] h = some (.tuple #[v, iv e], h') ∧ someP bs n a b T e ∧ AllRuns T ∧ T.length ≤ 480 ∧ Own h.next h' v (runsV T) 23 ∧ Grow h.next h h' := by
  obtain ⟨v1, h1, e1, v1o, g1⟩ := hG
  rw [frameB_eq ft14 rfl rfl]
  unfold someP
  by_cases hE : gapE bs.length n a b = 0
  · have hn : 1 ≤ n ∧ n ≤ 480 := by
      unfold gapE at hE
      split at hE
      · split at hE
        · cases hE
        · omega
      · rename_i q; exact absurd hE q
    obtain ⟨n, rfl⟩ : ∃ k : Nat, n = k := ⟨n.toNat, by omega⟩
    have hruns := gapG_runs bs (n : Int) a b
    obtain ⟨hasc, hlen⟩ := gapG_asc bs (n : Int) a b
    simp only [if_pos hE, show ((n : Int)).toNat = n from rfl]
    rw [hE] at e1
    generalize gapG bs (n : Int) a b = L at *
    obtain ⟨h2, S, e2, v2o, hp, hpw, g2⟩ := hS v1 h.next L h1 hlen (runs_KL hruns) g1.next (asc_crs hasc) v1o
    have hSr : AllRuns S := fun p hp2 => hruns p (hp.mem_iff.1 hp2)
    have hSl : S.length ≤ 480 := by rw [hp.length_eq]; exact hlen
    have hcl : (((runsV S).length : Nat) : Int) = (S.length : Nat) := by simp [runsV]
    have ev2 : evCall T0 X0 (.func (.func 33) #[] #[]) [v1, fnV 34] h1 = some (.enter 33 [v1, fnV 34], h1) := evCall_fn ft33 rfl
    simp only [Try.f14, symM, opFn, Nat.reduceLT, Nat.reduceBEq, symL, evCall_fn ft21 rfl, e1, bin_neq, show ((0 : Int) == 0) = true from rfl, evCall_fn ft33 rfl, e2, v2o.row.len und_c128s, hcl]
    generalize hX : codeB T0 X0 call _ ESo (.loop _) _ _ _ = X
    obtain ⟨tm3, h3, e3, w3, p12, p1, w3o, g3⟩ := use_exit hX (soL S hSl hSr v1 h2.next h2 v2o.row (Nat.le_refl _) hb S 0 [] n _ h2 (.slice none 0 0) _ rfl (by simp) (by omega) (by omega) (by simp) (by simp only [symM, Nat.reduceBEq]) (by simp only [symM, Nat.reduceBEq]) (by simp only [symM, Nat.reduceBEq]) (by simp only [symM, Nat.reduceBEq]) (by simp only [symM]; rfl) (Own.nil _ _ _) (Grow.refl _ _))
    clear hX
    subst e3
    rw [List.nil_append] at w3o
    have g13 : Grow h.next h h3 := (g1.trans g2 (Nat.le_refl _)).trans g3 (Nat.le_trans g1.next g2.next)
    by_cases hr : rem n S = 0
    · have hr2 : decide ((0 : Int) < (rem n S : Nat)) = false := decide_eq_false (by omega)
      obtain ⟨h4, T, e4, w4o, tp, tpw, g4⟩ := hF w3 h2.next (pick n S) h3 (Nat.le_trans (pick_len S n) hSl) (runs_KL (pick_runs S n hSr)) g3.next w3o
      refine ⟨w3, h4, T, 0, ?_, ⟨S, hp, hpw, .inl ⟨hr, rfl, tp, tpw⟩⟩, fun p hp2 => pick_runs S n hSr p (tp.mem_iff.1 hp2), ?_, w4o.less (Nat.le_trans g1.next g2.next), g13.trans g4 (Nat.le_trans g1.next g2.next)⟩
      · simp only [symM, opFn, Nat.reduceLT, Nat.reduceBEq, symL, p1, p12, bin_gtr, hr2, evCall_fn ft35 rfl, e4]
        exact retB_two ft14 rfl (by simp only [symM, Nat.reduceBEq]) get_same
      · rw [tp.length_eq]; exact Nat.le_trans (pick_len S n) hSl
    · have hr2 : decide ((0 : Int) < (rem n S : Nat)) = true := decide_eq_true (by omega)
      refine ⟨.slice none 0 0, h3, [], 6, ?_, ⟨S, hp, hpw, .inr ⟨hr, rfl, rfl⟩⟩, fun p hp2 => by simp at hp2, by simp, Own.nil _ _ _, g13⟩
      simp only [symM, opFn, Nat.reduceLT, symL, p1, bin_gtr, hr2]
      exact retB_two ft14 rfl (by simp only [symM, Nat.reduceBEq]) get_same
  · simp only [if_neg hE]
    have hb0 : (gapE bs.length n a b == 0) = false := by simpa using hE
    refine ⟨.slice none 0 0, h1, [], gapE bs.length n a b, ?_, ⟨rfl, rfl⟩, fun p hp2 => by simp at hp2, by simp, Own.nil _ _ _, g1⟩
    simp only [Try.f14, symM, opFn, Nat.reduceLT, Nat.reduceBEq, evCall_fn ft21 rfl, e1, bin_neq, hb0]
    exact retB_two ft14 rfl (by simp only [symM, Nat.reduceBEq]) get_same
end
end Go.Proofs.Ytcpihpjphdlmfaa.Abs
namespace Go.Proofs.Ytcpihpjphdlmfaa.Abs
open Go Go.Proofs Go.Sort
noncomputable section
variable {call : Abs.Callee}
set_option maxRecDepth 10000
/-- One element put behind a slice of our own: in a new block; all other blocks are as they were. -/
theorem append_one2 {T : Tab} {sT e : TypeId} {i : TypeInfo} {z : Value} (hs : und T sT = some (.slice e)) (hi : T.tt.get e = some i) (hz : i.zero = some z) (h1 : i.size = 1) (hb : i.bytes ≤ 64)
    {n : Nat} {h : AH} {v x : Value} {l : List Value} (hv : Own n h v l e) (hx : oneCell x = true) (hl : l.length < 1000000) (hn : n ≤ h.next) (ty : TypeId) :
    ∃ v' h', evBuiltin T .append #[sT, sT] ty [v, .slice (some ⟨h.next, 0, none⟩) 1 1] (h.new (.cells (PM.ofList [x]) 1 e 0 0 .ex)) = some (.value v', h') ∧ Own h.next h' v' (l ++ [x]) e ∧ Grow n h h' ∧ ∀ k, k < h.next → Off v k → h'.get k = h.get k := by
  have happ : appendedA T sT i z (.slice (some ⟨h.next, 0, none⟩) 1 1) (h.new (.cells (PM.ofList [x]) 1 e 0 0 .ex)) = some (1, [x]) := by
    unfold appendedA
    simp only [hs, lenOfA, firstA, h1]
    rw [show loadRow (h.new (.cells (PM.ofList [x]) 1 e 0 0 .ex)) h.next 0 (1 * 1) = some [x] from loadRow_of (l := [x]) (get_new_same _ _) (by simp) (fun i y hy => by rw [Nat.zero_add, PM.get_ofList]; exact hy)]
    rfl
  have hbnd : (Nat.ble ((l.length + 1) * i.bytes) 17592186044416 && Nat.ble (l.length + 1) 17592186044416) = true := by
    have h2 : (l.length + 1) * i.bytes ≤ 1000000 * 64 := Nat.mul_le_mul (by omega) hb
    rw [Nat.ble_eq_true_of_le (by omega), Nat.ble_eq_true_of_le (by omega)]
    rfl
  have key : ∀ (hh : AH), Grow n h hh → n ≤ hh.next → h.next ≤ hh.next → (∀ k, k < h.next → Off v k → hh.get k = h.get k) → ∃ v' h', (some (Out.value (grown hh e (l.length + 1) ((l.length + 1) * i.size) (l ++ [x])).1, (grown hh e (l.length + 1) ((l.length + 1) * i.size) (l ++ [x])).2) : Res) = some (.value v', h') ∧ Own h.next h' v' (l ++ [x]) e ∧ Grow n h h' ∧ ∀ k, k < h.next → Off v k → h'.get k = h.get k := by
    intro hh g hnn hnx hkp
    refine ⟨_, _, rfl, ?_, ?_, ?_⟩
    · refine .inr ⟨hh.next, PM.ofList (l ++ [x]), .loose, XB + (l.length + 1), hnx, Nat.lt_succ_self _, ?_, ?_, fun i y hy => by rw [PM.get_ofList]; exact hy, .inr ⟨rfl, by simp⟩⟩
      · simp [grown]
      · simp only [grown, h1]; rw [get_new_same]; simp
    · exact g.trans ((Grow.new hh _).less hnn) (Nat.le_refl _)
    · intro k hk hoff
      rw [← hkp k hk hoff]
      simp only [grown, AH.get_new]
      rw [if_neg (by omega)]
  have knew : ∀ k, k < h.next → Off v k → (h.new (.cells (PM.ofList [x]) 1 e 0 0 .ex)).get k = h.get k := fun k hk _ => by rw [AH.get_new, if_neg (by omega)]
  have gnew : Grow n h (h.new (.cells (PM.ofList [x]) 1 e 0 0 .ex)) := (Grow.new h _).less hn
  have hev : ∀ {p : Value × AH}, evAppend T sT sT v (.slice (some ⟨h.next, 0, none⟩) 1 1) (h.new (.cells (PM.ofList [x]) 1 e 0 0 .ex)) = some p →
      evBuiltin T .append #[sT, sT] ty [v, .slice (some ⟨h.next, 0, none⟩) 1 1] (h.new (.cells (PM.ofList [x]) 1 e 0 0 .ex)) = some (.value p.1, p.2) := by
    intro p hp
    show (match evAppend T sT sT v (.slice (some ⟨h.next, 0, none⟩) 1 1) (h.new (.cells (PM.ofList [x]) 1 e 0 0 .ex)) with
      | some p => (some (Out.value p.1, p.2) : Res)
      | none => none) = _
    rw [hp]
  rcases hv with ⟨rfl, rfl⟩ | ⟨b, c, kd, cap, q1, q2, rfl, q4, q5, q6⟩
  · obtain ⟨v', h', k1, k2⟩ := key _ gnew (Nat.le_succ_of_le hn) (Nat.le_succ _) knew
    refine ⟨v', h', ?_, k2⟩
    rw [← k1]
    apply hev
    unfold evAppend
    simp only [hs, hi, hz, happ, appendTo]
    rw [show Nat.ble (0 + 1) (capOf 0) = false from rfl, ifB_false]
    rw [show (Nat.ble ((0 + 1) * i.bytes) 17592186044416 && Nat.ble (0 + 1) 17592186044416) = true from hbnd]
    rfl
  · have hold : firstA i.size l.length (h.new (.cells (PM.ofList [x]) 1 e 0 0 .ex)) (.slice (some ⟨b, 0, none⟩) l.length cap) = some l := by
      unfold firstA
      cases hl0 : l with
      | nil => rfl
      | cons y r =>
        rw [← hl0]
        show ifB (Nat.beq l.length 0) (some []) (ifB (Nat.ble l.length l.length) (loadRow (h.new (.cells (PM.ofList [x]) 1 e 0 0 .ex)) b 0 (l.length * i.size)) none) = some l
        rw [show Nat.beq l.length 0 = false from by rw [hl0]; rfl, ifB_false, Nat.ble_eq_true_of_le (Nat.le_refl _), ifB_true, h1, Nat.mul_one]
        refine loadRow_of (m := l.length) (c := c) (by rw [AH.get_new, if_neg (by omega)]; exact q4) (by simp) (fun i y hy => by rw [Nat.zero_add]; exact q5 i y hy)
    rcases q6 with ⟨rfl, rfl⟩ | ⟨rfl, rfl⟩
    · obtain ⟨v', h', k1, k2⟩ := key _ gnew (Nat.le_succ_of_le hn) (Nat.le_succ _) knew
      refine ⟨v', h', ?_, k2⟩
      rw [← k1]
      apply hev
      have hc : capOf l.length = l.length := by unfold capOf; rw [ble_no (by rw [XB_val]; omega)]; rfl
      unfold evAppend
      simp only [hs, hi, hz, happ, appendTo, hc]
      rw [ble_no (Nat.lt_succ_self l.length), ifB_false, hbnd, ifB_true, hold]
      simp only
      rw [ble_no (by rw [XB_val]; omega : l.length < XB)]
      rfl
    · have gdel : Grow n h ((h.new (.cells (PM.ofList [x]) 1 e 0 0 .ex)).del b) := by
        refine ⟨Nat.le_succ _, fun k hk => ?_⟩
        rw [AH.get_del, if_neg (by omega), AH.get_new, if_neg (by omega)]
      have kdel : ∀ k, k < h.next → Off (.slice (some ⟨b, 0, none⟩) l.length (XB + l.length)) k → ((h.new (.cells (PM.ofList [x]) 1 e 0 0 .ex)).del b).get k = h.get k := by
        intro k hk hoff
        rw [AH.get_del, if_neg (fun e => by subst e; exact hoff _ _ _ rfl), AH.get_new, if_neg (by omega)]
      obtain ⟨v', h', k1, k2⟩ := key _ gdel (Nat.le_succ_of_le hn) (Nat.le_succ _) kdel
      refine ⟨v', h', ?_, k2⟩
      rw [← k1]
      apply hev
      have hc : capOf (XB + l.length) = l.length := by unfold capOf; rw [Nat.ble_eq_true_of_le (by omega), ifB_true]; omega
      unfold evAppend
      simp only [hs, hi, hz, happ, appendTo, hc]
      rw [ble_no (Nat.lt_succ_self l.length), ifB_false, hbnd, ifB_true, hold]
      simp only
      rw [Nat.ble_eq_true_of_le (by omega : XB ≤ XB + l.length), ifB_true]
      have hl : looseEl (h.new (.cells (PM.ofList [x]) 1 e 0 0 .ex)) b e = true := by
        unfold looseEl
        rw [AH.get_new, if_neg (by omega), q4]
        show (Nat.beq e e && Nat.ble 0 0) = true
        rw [Nat.beq_refl]; rfl
      rw [hl]
      simp [hx, ifB]
theorem Own.off {n : Nat} {h : AH} {v : Value} {l : List Value} {e : TypeId} (ho : Own n h v l e) {k : Nat} (hk : k < n) : Off v k := by
  intro o l' c' hv
  rcases ho with ⟨rfl, _⟩ | ⟨b, c, kd, cap, q1, q2, rfl, _⟩
  · cases hv
  · cases hv; omega
theorem make_bools {h : AH} {k : Nat} (hk : k ≤ 1000) : ∃ h', evMakeSlice T0 33 (iv k) (iv k) h = some (.slice (some ⟨h.next, 0, none⟩) k k, h') ∧ Own h.next h' (.slice (some ⟨h.next, 0, none⟩) k k) (boolsV (fun _ => false) 0 k) 4 ∧ Grow h.next h h' := by
  refine ⟨newCells h 4 (fillPM (.bool false) (k * (infoOf 4).size)) (k * (infoOf 4).size), ?_, ?_, Grow.new _ _⟩
  · have hb : (Nat.ble k k && (Nat.ble ((infoOf 4).bytes * k) 17592186044416 && Nat.ble k 17592186044416)) = true := by
      have h2 : (infoOf 4).bytes * k ≤ 64 * 1000 := Nat.mul_le_mul ti_bool.2.2 hk
      rw [Nat.ble_eq_true_of_le (Nat.le_refl _), Nat.ble_eq_true_of_le (by omega), Nat.ble_eq_true_of_le (by omega)]
      rfl
    unfold evMakeSlice
    simp only [und_bools, tt_bool, ti_bool.1]
    rw [show natOf (iv k) = some k from rfl]
    simp only
    rw [hb, ifB_true]
  · rw [ti_bool.2.1, Nat.mul_one]
    refine .inr ⟨h.next, fillPM (.bool false) k, .ex, k, Nat.le_refl _, Nat.lt_succ_self _, by rw [boolsV_len], ?_, ?_, .inl ⟨rfl, by rw [boolsV_len]⟩⟩
    · unfold newCells
      rw [get_new_same, boolsV_len]
    · intro i x hx
      have hi : i < k := by
        have := (List.getElem?_eq_some_iff.1 hx).1
        rwa [boolsV_len] at this
      rw [boolsV_at _ hi] at hx
      cases hx
      rw [fillPM_get _ _ _ hi]
      show some ((#[Value.bool false] : Array Value)[i % 1]!) = _
      rw [Nat.mod_one]
      rfl
/-- Those that are not used yet. -/
def uns (U : Nat → Bool) : Nat → List NN → List NN
  | _, [] => []
  | i, q :: l => bif U i then uns U (i + 1) l else q :: uns U (i + 1) l
def useU (U : Nat → Bool) (b j : Nat) : Bool := if j = b then true else U j
theorem uns_congr {U V : Nat → Bool} : ∀ (l : List NN) (i : Nat), (∀ j, i ≤ j → j < i + l.length → U j = V j) → uns U i l = uns V i l := by
  intro l
  induction l with
  | nil => intro i _; rfl
  | cons q l ih =>
    intro i h
    rw [uns, uns, h i (Nat.le_refl _) (by simp), ih (i + 1) (fun j h1 h2 => h j (by omega) (by simp; omega))]
theorem uns_use {U : Nat → Bool} {m : NN} : ∀ (l : List NN) (i b : Nat), l[b]? = some m → U (i + b) = false → (uns U i l).Perm (m :: uns (useU U (i + b)) i l) := by
  intro l
  induction l with
  | nil => intro i b h; simp at h
  | cons q l ih =>
    intro i b hb hu
    cases b with
    | zero =>
      cases hb
      have e1 : useU U (i + 0) i = true := if_pos rfl
      have e2 : uns U (i + 1) l = uns (useU U (i + 0)) (i + 1) l := uns_congr l (i + 1) (fun j h1 h2 => (if_neg (by omega)).symm)
      rw [uns, uns, e1, show U i = false from hu, cond_false, cond_true, e2]
    | succ b =>
      have hb' : l[b]? = some m := by simpa using hb
      have ih2 := ih (i + 1) b hb' (by rw [show i + 1 + b = i + (b + 1) by omega]; exact hu)
      rw [show i + 1 + b = i + (b + 1) by omega] at ih2
      have e1 : useU U (i + (b + 1)) i = U i := if_neg (by omega)
      rw [uns, uns, e1]
      cases U i with
      | true => simpa using ih2
      | false =>
        simp only [cond_false]
        exact (ih2.cons q).trans (List.Perm.swap _ _ _)
theorem uns_mem {U : Nat → Bool} {q : NN} : ∀ (l : List NN) (i : Nat), q ∈ uns U i l → ∃ j, l[j]? = some q ∧ U (i + j) = false := by
  intro l
  induction l with
  | nil => intro i h; simp [uns] at h
  | cons p l ih =>
    intro i h
    rw [uns] at h
    cases hu : U i with
    | true =>
      rw [hu] at h
      obtain ⟨j, h1, h2⟩ := ih (i + 1) h
      exact ⟨j + 1, by simpa using h1, by rw [show i + (j + 1) = i + 1 + j by omega]; exact h2⟩
    | false =>
      rw [hu] at h
      rcases List.mem_cons.1 h with rfl | h
      · exact ⟨0, rfl, hu⟩
      · obtain ⟨j, h1, h2⟩ := ih (i + 1) h
        exact ⟨j + 1, by simpa using h1, by rw [show i + (j + 1) = i + 1 + j by omega]; exact h2⟩
theorem uns_nil {U : Nat → Bool} : ∀ (l : List NN) (i : Nat), (∀ j, j < l.length → U (i + j) = true) → uns U i l = [] := by
  intro l
  induction l with
  | nil => intro i _; rfl
  | cons p l ih =>
    intro i h
    rw [uns, show U i = true from h 0 (by simp), cond_true]
    exact ih (i + 1) (fun j hj => by rw [show i + 1 + j = i + (j + 1) by omega]; exact h (j + 1) (by simp; omega))
/-- The best one of those that were looked at. -/
def BestP (L : List NN) (U : Nat → Bool) (i : Nat) : Option (Nat × NN) → Prop
  | none => ∀ j, j < i → U j = true
  | some (b, m) => b < i ∧ L[b]? = some m ∧ U b = false ∧ ∀ j q, j < i → L[j]? = some q → U j = false → wpre m q
def bestZ : Option (Nat × NN) → Int
  | none => -1
  | some (b, _) => b
theorem ft15 : T0.ft.get 15 = some Try.f15 := by kernel_rfl
abbrev ERS : Env := ⟨15, 133, none⟩
noncomputable def bodyRS2 : Code := part Try.f15 [1, 1, 1, 1, 1, 0, 0, 0, 1, 0, 1, 0, 1, 0, 0]
noncomputable def bodyRS0 : Code := part Try.f15 [1, 1, 1, 1, 1, 0, 0, 0]
theorem plan_RS11 : planB (regOps Try.f15 [1, 1, 1, 1, 1, 0, 0, 0, 1, 0, 1, 0, 1, 0, 0, 1, 0, 0, 0]) 133 = some ([.one 0, .one 1, .one 2, .one 3, .one 4, .one 5, .one 6, .one 7, .one 8, .one 9, .one 10, .one 11, .one 12, .one 14, .one 15, .one 16, .one 17, .eff [] 13 [14, 15, 16, 17], .eff [] 18 [], .one 19, .one 20, .one 21], []) := by kernel_rfl
set_option maxHeartbeats 4000000 in
theorem rs2L (L : List NN) (hL : L.length ≤ 480) (hasc : Asc L) (hruns : AllRuns L) (U : Nat → Bool) (s u : Value) (hs : AH) (n0 : Nat) (hsr : Row hs.next hs s (runsV L) 23) (hu : Own n0 hs u (boolsV U 0 L.length) 4) (hse : eqV s s = true) (x1 x12 : Value)
    (hsz : ∀ (x y : Nat) (h : AH), x ≤ 1048576 → y ≤ 1048576 → ∃ h', call 26 [cx x y] h = some (iv y, h') ∧ Grow h.next h h') :
    ∀ (l : List NN) (i : Nat) (cur : Option (Nat × NN)) (tm : PM Value) (h : AH) (N : Nat), L.drop i = l → i + l.length = L.length → l.length + 60 ≤ N → BestP L U i cur → tm.get 1 = some x1 → tm.get 10 = some s → tm.get 12 = some x12 → tm.get 13 = some u → tm.get 14 = some (iv (bestZ cur)) → tm.get 15 = some (iv i) → Grow hs.next hs h →
      ∃ tm' h', codeB T0 X0 call N ERS (.loop bodyRS2) tm h [] = .jump (.exit 2) tm' h' [] ∧ (tm'.get 1 = some x1 ∧ tm'.get 10 = some s ∧ tm'.get 12 = some x12 ∧ tm'.get 13 = some u ∧ Grow hs.next hs h' ∧ ∃ cur', BestP L U L.length cur' ∧ tm'.get 14 = some (iv (bestZ cur'))) := by
  have hp := plan_RS11
  simp only [regOps, part, Try.f15, sub] at hp
  intro l
  induction l with
  | nil =>
    intro i cur tm h N hd hi hN hb g1 g10 g12 g13 g14 g15 hg
    obtain ⟨N, rfl⟩ : ∃ a, N = a + 30 := ⟨N - 30, by simp at hN; omega⟩
    have hlen : decide ((i : Int) < ((runsV L).length : Nat)) = false := decide_eq_false (by simp [runsV] at hi ⊢; omega)
    apply Exists.intro; apply Exists.intro; apply And.intro
    · rw [codeB_loop]
      simp only [bodyRS2, part, Try.f15, sub, symM, opFn, Nat.reduceLT, Nat.reduceBEq, g10, g15, hsr.len und_c128s, bin_lss, hlen]
      rfl
    · exact ⟨by simp only [symM, Nat.reduceBEq, g1], by simp only [symM, Nat.reduceBEq, g10], by simp only [symM, Nat.reduceBEq, g12], by simp only [symM, Nat.reduceBEq, g13], hg, cur, by rw [show L.length = i by simp at hi; omega]; exact hb, by simp only [symM, Nat.reduceBEq, g14]⟩
  | cons q l ih =>
    intro i cur tm h N hd hi hN hb g1 g10 g12 g13 g14 g15 hg
    obtain ⟨N, rfl⟩ : ∃ a, N = a + 30 := ⟨N - 30, by simp at hN; omega⟩
    have hil : i < L.length := by simp at hi; omega
    have hlen : decide ((i : Int) < ((runsV L).length : Nat)) = true := decide_eq_true (by simp [runsV]; omega)
    have hx : L[i]? = some q := by have := congrArg (fun l => l[0]?) hd; simpa using this
    have hq := runQ (hruns q (List.mem_of_getElem? hx))
    have hxv : (runsV L)[i]? = some (cx q.1 q.2) := by simp [runsV, hx]
    have hs1 := hsr.grow hg (Nat.le_refl _)
    have hu1 := hu.grow hg
    obtain ⟨pu, u1, u2⟩ := hu1.row.at und_bools sz_bool agg_bool (boolsV_at U hil)
    obtain ⟨p, a1, a2⟩ := hs1.at und_c128s sz_c128 agg_c128 hxv
    have hw := wadd1 (show i ≤ 400000 by omega)
    have hdl : L.drop (i + 1) = l := by rw [← List.drop_drop, hd]; rfl
    have hbn : ∀ cur', BestP L U (i + 1) cur' → ∀ (tm : PM Value) (h : AH), tm.get 1 = some x1 → tm.get 10 = some s → tm.get 12 = some x12 → tm.get 13 = some u → tm.get 14 = some (iv (bestZ cur')) → tm.get 15 = some (iv ((i + 1 : Nat) : Int)) → Grow hs.next hs h → ∃ tm' h', codeB T0 X0 call (N + 29) ERS (.loop bodyRS2) tm h [] = .jump (.exit 2) tm' h' [] ∧ (tm'.get 1 = some x1 ∧ tm'.get 10 = some s ∧ tm'.get 12 = some x12 ∧ tm'.get 13 = some u ∧ Grow hs.next hs h' ∧ ∃ cur', BestP L U L.length cur' ∧ tm'.get 14 = some (iv (bestZ cur'))) :=
      fun cur' hb' tm h g1 g10 g12 g13 g14 g15 hg => ih (i + 1) cur' tm h (N + 29) hdl (by simp at hi ⊢; omega) (by simp at hN ⊢; omega) hb' g1 g10 g12 g13 g14 g15 hg
    rw [show N + 30 = (N + 29) + 1 from rfl, codeB_loop]
    simp only [bodyRS2, part, Try.f15, sub, symM, opFn, Nat.reduceLT, Nat.reduceBEq, g10, g15, hsr.len und_c128s, bin_lss, hlen, codeB_draw]
    rw [draw_plan hp rfl]
    cases hUi : U i with
    | true =>
      rw [hUi] at u2
      have hb' : BestP L U (i + 1) cur := by
        cases cur with
        | none =>
          intro j hj
          by_cases hji : j = i
          · rw [hji]; exact hUi
          · exact hb j (by omega)
        | some bm =>
          obtain ⟨b, m⟩ := bm
          obtain ⟨q1, q2, q3, q4⟩ := hb
          refine ⟨by omega, q2, q3, fun j r hj hr hUj => ?_⟩
          by_cases hji : j = i
          · rw [hji, hUi] at hUj; cases hUj
          · exact q4 j r (by omega) hr hUj
      simp only [drawAll, opFn, Nat.reduceLT, Nat.reduceBEq, g13, g15, u1, u2, effE_cons, againW_false, againU_undef, bin_add, hw]
      refine hbn cur hb' _ h ?_ ?_ ?_ ?_ ?_ get_same hg <;> simp only [symM, Nat.reduceBEq, g1, g10, g12, g13, g14]
    | false =>
      rw [hUi] at u2
      cases cur with
      | none =>
        have hb' : BestP L U (i + 1) (some (i, q)) := by
          refine ⟨by omega, hx, hUi, fun j r hj hr hUj => ?_⟩
          by_cases hji : j = i
          · subst hji; rw [hx] at hr; cases hr; exact .inr ⟨rfl, Nat.le_refl _⟩
          · rw [hb j (by omega)] at hUj; cases hUj
        have g14' : tm.get 14 = some (iv (-1)) := g14
        simp only [drawAll, opFn, Nat.reduceLT, Nat.reduceBEq, g13, g14', g15, u1, u2, effE_cons, againW_false, againU_undef, bin_lss, show decide ((-1 : Int) < 0) = true from rfl, bin_add, hw]
        refine hbn (some (i, q)) hb' _ h ?_ ?_ ?_ ?_ ?_ get_same hg <;> simp only [symM, Nat.reduceBEq, g1, g10, g12, g13, bestZ]
      | some bm =>
        obtain ⟨b, m⟩ := bm
        obtain ⟨q1, q2, q3, q4⟩ := id hb
        have g14' : tm.get 14 = some (iv b) := g14
        have hm := runQ (hruns m (List.mem_of_getElem? q2))
        have hmv : (runsV L)[b]? = some (cx m.1 m.2) := by simp [runsV, q2]
        obtain ⟨z1, y1, y2⟩ := hsz q.1 q.2 h (by omega) (by omega)
        have hg1 : Grow hs.next hs z1 := hg.trans y2 hg.next
        obtain ⟨pk, k1, k2, k3⟩ := hs1.at3 und_c128s sz_c128 agg_c128 hmv
        obtain ⟨pk', k1', k2'⟩ := (hsr.grow hg1 (Nat.le_refl _)).at und_c128s sz_c128 agg_c128 hmv
        rw [k1] at k1'; cases k1'
        obtain ⟨z2, x1', x2⟩ := hsz m.1 m.2 z1 (by omega) (by omega)
        have hg2 : Grow hs.next hs z2 := hg1.trans x2 hg1.next
        have hb0 : decide ((b : Int) < 0) = false := decide_eq_false (by omega)
        by_cases hgt : m.2 < q.2
        · have hb' : BestP L U (i + 1) (some (i, q)) := by
            refine ⟨by omega, hx, hUi, fun j r hj hr hUj => ?_⟩
            by_cases hji : j = i
            · subst hji; rw [hx] at hr; cases hr; exact .inr ⟨rfl, Nat.le_refl _⟩
            · exact wpre_trans (.inl hgt) (q4 j r (by omega) hr hUj)
          simp only [drawAll, opFn, Nat.reduceLT, Nat.reduceBEq, g10, g13, g14', g15, u1, u2, a1, a2, k1, k2, k2', k3, hse, evCall_fn ft26 rfl, y1, x1', effE_cons, bin_lss, hb0, bin_gtr, decide_eq_true (show ((m.2 : Nat) : Int) < (q.2 : Nat) by omega), bin_add, hw]
          refine hbn (some (i, q)) hb' _ z2 ?_ ?_ ?_ ?_ ?_ get_same hg2 <;> simp only [symM, Nat.reduceBEq, g1, g10, g12, g13, bestZ]
        · have hb' : BestP L U (i + 1) (some (b, m)) := by
            refine ⟨by omega, q2, q3, fun j r hj hr hUj => ?_⟩
            by_cases hji : j = i
            · subst hji; rw [hx] at hr; cases hr
              obtain ⟨hbl, hbe⟩ := List.getElem?_eq_some_iff.1 q2
              obtain ⟨hil2, hie⟩ := List.getElem?_eq_some_iff.1 hx
              have := List.pairwise_iff_getElem.1 hasc b j hbl hil2 q1
              rw [hbe, hie] at this
              unfold wpre
              omega
            · exact q4 j r (by omega) hr hUj
          simp only [drawAll, opFn, Nat.reduceLT, Nat.reduceBEq, g10, g13, g14', g15, u1, u2, a1, a2, k1, k2, k2', k3, hse, evCall_fn ft26 rfl, y1, x1', effE_cons, bin_lss, hb0, bin_gtr, decide_eq_false (show ¬ ((m.2 : Nat) : Int) < (q.2 : Nat) by omega), bin_add, hw]
          refine hbn (some (b, m)) hb' _ z2 ?_ ?_ ?_ ?_ ?_ get_same hg2 <;> simp only [symM, Nat.reduceBEq, g1, g10, g12, g13, g14', bestZ]
end
end Go.Proofs.Ytcpihpjphdlmfaa.Abs
namespace Go.Proofs.Ytcpihpjphdlmfaa.Abs
open Go Go.Proofs Go.Sort
noncomputable section
variable {call : Abs.Callee}
set_option maxRecDepth 10000
theorem pick_zero (R : List NN) : pick 0 R = [] ∧ rem 0 R = 0 := by
  cases R with
  | nil => exact ⟨rfl, rfl⟩
  | cons q l => rw [pick, rem, if_pos (by omega), if_pos (by omega)]; exact ⟨rfl, rfl⟩
theorem wpre_antisymm {x y : NN} (h1 : wpre x y) (h2 : wpre y x) : x = y := by
  unfold wpre at *
  apply Prod.ext <;> omega
theorem boolsV_use (U : Nat → Bool) (k b : Nat) : (boolsV U 0 k).set b (.bool true) = boolsV (useU U b) 0 k := boolsV_set U k b true
set_option maxHeartbeats 4000000 in
theorem rs0L (L : List NN) (hL : L.length ≤ 480) (hasc : Asc L) (hruns : AllRuns L) (s : Value) (hse : eqV s s = true) (h0 : AH) (bu : Nat) (hbu : h0.next ≤ bu) (hs0 : Row h0.next h0 s (runsV L) 23)
    (hsz : ∀ (x y : Nat) (h : AH), x ≤ 1048576 → y ≤ 1048576 → ∃ h', call 26 [cx x y] h = some (iv y, h') ∧ Grow h.next h h')
    (hb : ∀ (x y n : Nat) (h : AH), x ≤ 1048576 → y ≤ 1048576 → n ≤ 1048576 → 1 ≤ n → ∃ h', call 27 [cx x y, iv n] h = some (cx x n, h') ∧ Grow h.next h h') :
    ∀ (k : Nat) (U : Nat → Bool) (acc : List NN) (n : Nat) (R : List NN) (tm : PM Value) (h : AH) (w : Value) (N : Nat), (uns U 0 L).length < k → acc.length + (uns U 0 L).length ≤ 480 → R.Pairwise wpre → R.Perm (uns U 0 L) → n ≤ 480 → k + 700 ≤ N → tm.get 1 = some (iv n) → tm.get 10 = some s → tm.get 12 = some w → tm.get 13 = some (.slice (some ⟨bu, 0, none⟩) L.length L.length) → bu < h.next → Own h0.next h w (runsV acc) 23 → Off w bu → Own h0.next h (.slice (some ⟨bu, 0, none⟩) L.length L.length) (boolsV U 0 L.length) 4 → Grow h0.next h0 h →
      ∃ tm' h', ((codeB T0 X0 call N ERS (.loop bodyRS0) tm h [] = .jump .ret tm' h' [] ∧ rem n R ≠ 0 ∧ tm'.get 8 = some (.slice none 0 0) ∧ tm'.get 9 = some (iv 6)) ∨ (codeB T0 X0 call N ERS (.loop bodyRS0) tm h [] = .jump (.exit 0) tm' h' [] ∧ rem n R = 0 ∧ ∃ w', tm'.get 12 = some w' ∧ Own h0.next h' w' (runsV (acc ++ pick n R)) 23)) ∧ Grow h0.next h0 h' := by
  intro k
  induction k with
  | zero => intro U acc n R tm h w N hk; omega
  | succ k ih =>
    intro U acc n R tm h w N hk hacc hRw hRp hn hN g1 g10 g12 g13 hbh hw hoff hu hg
    obtain ⟨N, rfl⟩ : ∃ a, N = a + 30 := ⟨N - 30, by omega⟩
    rw [show N + 30 = (N + 29) + 1 from rfl, codeB_loop]
    by_cases hn0 : n = 0
    · subst hn0
      obtain ⟨pz, rz⟩ := pick_zero R
      apply Exists.intro; apply Exists.intro; apply And.intro
      · refine .inr ⟨?_, rz, w, ?_, by rw [pz, List.append_nil]; exact hw⟩
        · simp only [bodyRS0, part, Try.f15, sub, symM, opFn, Nat.reduceLT, g1, bin_gtr, show decide ((0 : Int) < ((0 : Nat) : Int)) = false from rfl]
          rfl
        · simp only [symM, Nat.reduceBEq, g12]
      · exact hg
    · have hsr : Row h.next h s (runsV L) 23 := (hs0.grow hg (Nat.le_refl _)).more hg.next
      simp only [bodyRS0, part, Try.f15, sub, symM, opFn, Nat.reduceLT, symL, g1, bin_gtr, decide_eq_true (show (0 : Int) < (n : Nat) by omega)]
      generalize hX : codeB T0 X0 call _ ERS (.loop _) _ _ _ = X
      obtain ⟨tm1, k1, e1, p1, p10, p12, p13, gk1, cur, hcur, p14⟩ := use_exit hX (rs2L L hL hasc hruns U s (.slice (some ⟨bu, 0, none⟩) L.length L.length) h h0.next hsr hu hse (iv n) w hsz L 0 none _ h _ rfl (by simp) (by omega) (fun j hj => by omega) (by simp only [symM, Nat.reduceBEq, g1]) (by simp only [symM, Nat.reduceBEq, g10]) (by simp only [symM, Nat.reduceBEq, g12]) (by simp only [symM, Nat.reduceBEq, g13]) (by simp only [symM, Nat.reduceBEq]; rfl) (by simp only [symM]; rfl) (Grow.refl _ _))
      clear hX
      subst e1
      have hg1 : Grow h0.next h0 k1 := hg.trans gk1 hg.next
      cases cur with
      | none =>
        have hnil : uns U 0 L = [] := uns_nil L 0 (fun j hj => by rw [Nat.zero_add]; exact hcur j hj)
        have hR : R = [] := by rw [hnil] at hRp; exact hRp.eq_nil
        subst hR
        have p14' : tm1.get 14 = some (iv (-1)) := p14
        apply Exists.intro; apply Exists.intro; apply And.intro
        · refine .inl ⟨?_, hn0, ?_, ?_⟩
          · simp only [symM, opFn, Nat.reduceLT, symL, p14', bin_lss, show decide ((-1 : Int) < 0) = true from rfl]
            rfl
          · simp only [symM, Nat.reduceBEq]
          · exact get_same
        · exact hg1
      | some bm =>
        obtain ⟨b, m⟩ := bm
        obtain ⟨q1, q2, q3, q4⟩ := hcur
        have p14' : tm1.get 14 = some (iv b) := p14
        have hm := runQ (hruns m (List.mem_of_getElem? q2))
        have hperm := uns_use (U := U) L 0 b q2 (by rw [Nat.zero_add]; exact q3)
        rw [Nat.zero_add] at hperm
        have hRm := hRp.trans hperm
        obtain ⟨R', hRe⟩ : ∃ R', R = m :: R' := by
          cases R with
          | nil => exact absurd (hRm.length_eq) (by simp)
          | cons q R' =>
            have hqm : q = m := by
              have hmR : m ∈ q :: R' := hRm.mem_iff.2 (List.mem_cons_self ..)
              obtain ⟨j, j1, j2⟩ := uns_mem L 0 (hRp.mem_iff.1 (List.mem_cons_self (a := q) (l := R')))
              rw [Nat.zero_add] at j2
              have hmq : wpre m q := q4 j q (List.getElem?_eq_some_iff.1 j1).1 j1 j2
              rcases List.mem_cons.1 hmR with e | e
              · exact e.symm
              · exact wpre_antisymm ((List.pairwise_cons.1 hRw).1 m e) hmq
            exact ⟨R', by rw [hqm]⟩
        subst hRe
        have hRp' : R'.Perm (uns (useU U b) 0 L) := List.Perm.cons_inv hRm
        have hlen' := hperm.length_eq
        simp only [List.length_cons] at hlen'
        have hmin : min n m.2 ≠ 0 := by omega
        rw [rem, pick, if_neg hmin, if_neg hmin]
        have hbv : ((b : Nat) : Int) = (b : Int) := rfl
        have hu1 := hu.grow gk1
        have hw1 := hw.grow gk1
        have hbk : bu < k1.next := Nat.lt_of_lt_of_le hbh gk1.next
        obtain ⟨pu, h2, u1, u2, u3, u4, u5, u6⟩ := hu1.store2 und_bools sz_bool (x := .bool true) rfl (boolsV_at U q1)
        rw [boolsV_use] at u3
        have hkeep2 : ∀ k, k ≠ bu → h2.get k = k1.get k := fun k hk => u6 k (fun o l c e => by cases e; exact hk rfl)
        have hw2 : Own h0.next h2 w (runsV acc) 23 := hw1.but hoff (Nat.le_of_eq u5.symm) hkeep2
        have hg2 : Grow h0.next h0 h2 := hg1.trans u4 (Nat.le_refl _)
        have hmv : (runsV L)[b]? = some (cx m.1 m.2) := by simp [runsV, q2]
        obtain ⟨p, a1, a2⟩ := (hs0.grow hg2 (Nat.le_refl _)).at und_c128s sz_c128 agg_c128 hmv
        obtain ⟨h3, z1, z2⟩ := hsz m.1 m.2 h2 (by omega) (by omega)
        have hg3 : Grow h0.next h0 h3 := hg2.trans z2 hg2.next
        obtain ⟨p', a1', a3⟩ := (hs0.grow hg3 (Nat.le_refl _)).at und_c128s sz_c128 agg_c128 hmv
        rw [a1] at a1'; cases a1'
        obtain ⟨h4, y1, y2⟩ := hb m.1 m.2 (min n m.2) h3 (by omega) (by omega) (by omega) (by omega)
        have hg4 : Grow h0.next h0 h4 := hg3.trans y2 hg3.next
        have hw4 := (hw2.grow z2).grow y2
        have hu4 := (u3.grow z2).grow y2
        have hb4 : bu < h4.next := Nat.lt_of_lt_of_le (Nat.lt_of_lt_of_le (u5 ▸ hbk) z2.next) y2.next
        obtain ⟨w5, h5, ea, eo, eg, ek⟩ := append_one2 und_c128s tt_c128 ti_c128.1 ti_c128.2.1 ti_c128.2.2 hw4 (x := cx m.1 (min n m.2 : Nat)) rfl (by simp [runsV]; omega) hg4.next 29
        have hu5 : Own h0.next h5 (.slice (some ⟨bu, 0, none⟩) L.length L.length) (boolsV (useU U b) 0 L.length) 4 := by
          rcases hu4 with ⟨c1, _⟩ | ⟨b', c, kd, cap, c1, c2, c3, c4, c5⟩
          · cases c1
          · have hbb : b' = bu := by injection c3 with e1 _ _; injection e1 with e1; injection e1 with e1 _ _; exact e1.symm
            subst hbb
            exact .inr ⟨b', c, kd, cap, c1, Nat.lt_of_lt_of_le c2 eg.next, c3, (ek b' c2 hoff).trans c4, c5⟩
        have hws : IntKind.i64.wrap ((n : Int) - ((min n m.2 : Nat) : Int)) = ((n - min n m.2 : Nat) : Int) := wsub (by omega) (by omega)
        have fin : ∀ (tm : PM Value), tm.get 1 = some (iv ((n - min n m.2 : Nat) : Int)) → tm.get 10 = some s → tm.get 12 = some w5 → tm.get 13 = some (.slice (some ⟨bu, 0, none⟩) L.length L.length) →
            ∃ tm' h', ((codeB T0 X0 call (N + 29) ERS (.loop bodyRS0) tm h5 [] = .jump .ret tm' h' [] ∧ rem (n - min n m.2) R' ≠ 0 ∧ tm'.get 8 = some (.slice none 0 0) ∧ tm'.get 9 = some (iv 6)) ∨ (codeB T0 X0 call (N + 29) ERS (.loop bodyRS0) tm h5 [] = .jump (.exit 0) tm' h' [] ∧ rem (n - min n m.2) R' = 0 ∧ ∃ w', tm'.get 12 = some w' ∧ Own h0.next h' w' (runsV (acc ++ (m.1, min n m.2) :: pick (n - min n m.2) R')) 23)) ∧ Grow h0.next h0 h' := by
          intro tm t1 t10 t12 t13
          rw [show acc ++ (m.1, min n m.2) :: pick (n - min n m.2) R' = (acc ++ [(m.1, min n m.2)]) ++ pick (n - min n m.2) R' by simp]
          exact ih (useU U b) (acc ++ [(m.1, min n m.2)]) (n - min n m.2) R' tm h5 w5 (N + 29) (by omega) (by simp; omega) (List.pairwise_cons.1 hRw).2 hRp' (by omega) (by omega) t1 t10 t12 t13 (Nat.lt_of_lt_of_le hb4 eg.next) (by simpa [runsV] using eo.less hg4.next) (eo.off hb4) hu5 (hg4.trans eg (Nat.le_refl _))
        by_cases hgt : n < m.2
        · have hmn : ((n : Nat) : Int) = ((min n m.2 : Nat) : Int) := by omega
          have y1' : call 27 [cx m.1 m.2, iv n] h3 = some (cx m.1 (min n m.2 : Nat), h4) := by rw [hmn]; exact y1
          have hws' : IntKind.i64.wrap ((n : Int) - (n : Int)) = ((n - min n m.2 : Nat) : Int) := by rw [wz (by omega)]; omega
          simp only [symM, opFn, Nat.reduceLT, Nat.reduceBEq, symL, p1, p10, p12, p13, p14', bin_lss, decide_eq_false (show ¬ (b : Int) < 0 by omega), u1, u2, a1, a2, a3, evCall_fn ft26 rfl, z1, bin_gtr, decide_eq_true (show (n : Int) < (m.2 : Nat) by omega), evCall_fn ft27 rfl, y1', bs_cx, ea, bin_sub, hws']
          refine fin _ get_same ?_ ?_ ?_ <;> simp only [symM, Nat.reduceBEq, p10, p13]
        · have hmn : ((m.2 : Nat) : Int) = ((min n m.2 : Nat) : Int) := by omega
          have y1' : call 27 [cx m.1 m.2, iv m.2] h3 = some (cx m.1 (min n m.2 : Nat), h4) := by rw [show iv (m.2 : Int) = iv ((min n m.2 : Nat) : Int) from by rw [← hmn]]; exact y1
          have hws' : IntKind.i64.wrap ((n : Int) - (m.2 : Int)) = ((n - min n m.2 : Nat) : Int) := by rw [wz (by omega)]; omega
          simp only [symM, opFn, Nat.reduceLT, Nat.reduceBEq, symL, p1, p10, p12, p13, p14', bin_lss, decide_eq_false (show ¬ (b : Int) < 0 by omega), u1, u2, a1, a2, a3, evCall_fn ft26 rfl, z1, bin_gtr, decide_eq_false (show ¬ (n : Int) < (m.2 : Nat) by omega), evCall_fn ft27 rfl, y1', bs_cx, ea, bin_sub, hws']
          refine fin _ get_same ?_ ?_ ?_ <;> simp only [symM, Nat.reduceBEq, p10, p13]
/- The sorting at its end. -/
def ltr (x y : NN) : Bool := decide (x.1 < y.1)
theorem ltr_swo : SWO ltr := by
  constructor
  · intro x; unfold ltr; rw [decide_eq_false_iff_not]; omega
  · intro x y z h1 h2
    unfold ltr at *
    rw [decide_eq_true_eq] at *
    omega
  · intro x y z h1 h2
    unfold ltr at *
    rw [decide_eq_false_iff_not] at *
    omega
noncomputable def bodyRS6 : Code := part Try.f15 [1, 1, 1, 1, 1, 1, 0, 1, 0, 0, 1, 0, 0, 1, 0, 0]
noncomputable def bodyRS4 : Code := part Try.f15 [1, 1, 1, 1, 1, 1, 0, 1, 0, 0]
theorem plan_RS25 : planB (regOps Try.f15 [1, 1, 1, 1, 1, 1, 0, 1, 0, 0, 1, 0, 0, 1, 0, 0, 0, 0]) 133 = some ([.one 0, .one 1, .one 2, .one 3, .one 4, .one 5, .one 6, .one 7, .one 8, .one 9, .one 10, .one 11, .one 12, .one 13, .one 14, .one 15], []) := by kernel_rfl
theorem plan_RS27 : planB (regOps Try.f15 [1, 1, 1, 1, 1, 1, 0, 1, 0, 0, 1, 0, 0, 1, 0, 0, 1, 0, 0]) 133 = some ([.one 0, .one 1, .one 2, .one 3, .one 4, .one 5, .one 6, .one 7, .one 8, .one 9, .one 10, .one 11, .one 12, .one 13, .one 14, .eff [] 15 [2, 3, 4], .one 16, .eff [] 17 []], []) := by kernel_rfl
set_option maxHeartbeats 2000000 in
theorem rs6L (v x17 : Value) (n0 : Nat) (h0 : AH) :
    ∀ (j : Nat) (d : Array NN) (tm : PM Value) (h : AH) (N : Nat), j < d.size → d.size ≤ 480 → AllK d → j + 40 ≤ N → tm.get 12 = some v → tm.get 17 = some x17 → tm.get 18 = some (iv j) → Own n0 h v (rA d) 23 → Grow n0 h0 h →
      ∃ tm' h', codeB T0 X0 call N ERS (.loop bodyRS6) tm h [] = .jump (.exit 6) tm' h' [] ∧ (tm'.get 12 = some v ∧ tm'.get 17 = some x17 ∧ Own n0 h' v (rA (insInner ltr 0 j d)) 23 ∧ AllK (insInner ltr 0 j d) ∧ (insInner ltr 0 j d).size = d.size ∧ Grow n0 h0 h') := by
  intro j
  have hp25 := plan_RS25
  simp only [regOps, part, Try.f15, sub] at hp25
  have hp27 := plan_RS27
  simp only [regOps, part, Try.f15, sub] at hp27
  induction j with
  | zero =>
    intro d tm h N hj hd hK hN g12 g17 g18 hv hg
    obtain ⟨N, rfl⟩ : ∃ a, N = a + 30 := ⟨N - 30, by omega⟩
    apply Exists.intro; apply Exists.intro; apply And.intro
    · rw [codeB_loop]
      simp only [bodyRS6, part, Try.f15, sub, symM, codeB_draw]
      rw [draw_plan hp25 rfl]
      simp only [drawAll, opFn, Nat.reduceBEq, g18, bin_gtr, show decide ((0 : Int) < ((0 : Nat) : Int)) = false from rfl]
      rfl
    · exact ⟨by simp only [symM, Nat.reduceBEq, g12], by simp only [symM, Nat.reduceBEq, g17], hv, hK, rfl, hg⟩
  | succ j ih =>
    intro d tm h N hj hd hK hN g12 g17 g18 hv hg
    obtain ⟨N, rfl⟩ : ∃ a, N = a + 30 := ⟨N - 30, by omega⟩
    obtain ⟨p, q, h2, h3, a1, a2, a3, a4, a5, a6, a7, a8⟩ := hv.swap (i := j + 1) (j := j) hj (by omega)
    have k1 := hK (j + 1)
    have k2 := hK j
    have hf := fun p q h => f_lss (T := T0) (t := 38) (p := p) (q := q) (h := h) (x := ((d[j + 1]!).1 : Int)) (y := ((d[j]!).1 : Int)) (zok_k (by have := k1.1; omega)) (zok_k (by have := k2.1; omega))
    have hgt := decide_eq_true (show (0 : Int) < ((j + 1 : Nat) : Int) by omega)
    have hde : decide (((d[j + 1]!).1 : Int) < ((d[j]!).1 : Int)) = ltr d[j + 1]! d[j]! := by unfold ltr; exact decide_eq_decide.2 (by omega)
    rw [hde] at hf
    cases hlt : ltr d[j + 1]! d[j]! with
    | true =>
      have hi : insInner ltr 0 (j + 1) d = insInner ltr 0 j (swp d (j + 1) j) := by rw [insInner, hlt, decide_eq_true (show j + 1 > 0 by omega)]; rfl
      have hsz := swp_size d (j + 1) j
      rw [hlt] at hf
      rw [hi, show N + 30 = (N + 29) + 1 from rfl, codeB_loop]
      simp only [bodyRS6, part, Try.f15, sub, symM, codeB_draw]
      rw [draw_plan hp25 rfl]
      simp only [drawAll, opFn, Nat.reduceBEq, g12, g18, bin_gtr, hgt, bin_sub, wsub1 (show j ≤ 400000 by omega), a1, a2, a3, a4, hf]
      rw [draw_plan hp27 rfl]
      simp only [drawAll, opFn, Nat.reduceLT, Nat.reduceBEq, g12, g18, effE_cons, bin_sub, wsub1 (show j ≤ 400000 by omega), a1, a2, a3, a4, a5, a6, hv.eqv]
      rw [← hsz]
      refine ih (swp d (j + 1) j) _ h3 (N + 29) (by rw [hsz]; omega) (by rw [hsz]; omega) (swp_K hK _ _) (by omega) ?_ ?_ get_same a7 (hg.trans a8 (Nat.le_refl _)) <;> simp only [symM, Nat.reduceBEq, g12, g17]
    | false =>
      have hi : insInner ltr 0 (j + 1) d = d := by rw [insInner, hlt]; simp
      rw [hlt] at hf
      rw [hi]
      apply Exists.intro; apply Exists.intro; apply And.intro
      · rw [codeB_loop]
        simp only [bodyRS6, part, Try.f15, sub, symM, codeB_draw]
        rw [draw_plan hp25 rfl]
        simp only [drawAll, opFn, Nat.reduceBEq, g12, g18, bin_gtr, hgt, bin_sub, wsub1 (show j ≤ 400000 by omega), a1, a2, a3, a4, hf]
        rfl
      · exact ⟨by simp only [symM, Nat.reduceBEq, g12], by simp only [symM, Nat.reduceBEq, g17], hv, hK, rfl, hg⟩
theorem rs4L (v : Value) (n0 : Nat) (h0 : AH) :
    ∀ (k i : Nat) (d : Array NN) (tm : PM Value) (h : AH) (N : Nat), d.size - i = k → d.size ≤ 480 → AllK d → k + 600 ≤ N → tm.get 12 = some v → tm.get 17 = some (iv i) → Own n0 h v (rA d) 23 → Grow n0 h0 h →
      ∃ tm' h', codeB T0 X0 call N ERS (.loop bodyRS4) tm h [] = .jump (.exit 4) tm' h' [] ∧ (tm'.get 12 = some v ∧ Own n0 h' v (rA (insOuter ltr 0 d.size i d)) 23 ∧ Grow n0 h0 h') := by
  intro k
  induction k with
  | zero =>
    intro i d tm h N hk hd hK hN g12 g17 hv hg
    obtain ⟨N, rfl⟩ : ∃ a, N = a + 30 := ⟨N - 30, by omega⟩
    rw [insOuter, if_neg (show ¬ i < d.size by omega)]
    have hlen : ((rA d).length : Int) = (d.size : Nat) := by rw [rA_len]
    apply Exists.intro; apply Exists.intro; apply And.intro
    · rw [codeB_loop]
      simp only [bodyRS4, part, Try.f15, sub, symM, opFn, Nat.reduceLT, Nat.reduceBEq, g12, g17, hv.row.len und_c128s, hlen, bin_lss, decide_eq_false (show ¬ (i : Int) < (d.size : Nat) by omega)]
      rfl
    · exact ⟨by simp only [symM, Nat.reduceBEq, g12], hv, hg⟩
  | succ k ih =>
    intro i d tm h N hk hd hK hN g12 g17 hv hg
    obtain ⟨N, rfl⟩ : ∃ a, N = a + 30 := ⟨N - 30, by omega⟩
    have hlen : ((rA d).length : Int) = (d.size : Nat) := by rw [rA_len]
    rw [insOuter, if_pos (show i < d.size by omega), show N + 30 = (N + 29) + 1 from rfl, codeB_loop]
    simp only [bodyRS4, part, Try.f15, sub, symM, opFn, Nat.reduceLT, Nat.reduceBEq, symL, g12, g17, hv.row.len und_c128s, hlen, bin_lss, decide_eq_true (show (i : Int) < (d.size : Nat) by omega)]
    generalize hX : codeB T0 X0 call _ ERS (.loop _) _ _ _ = X
    obtain ⟨tm1, k1, e1, p12, p17, pv, pK, ps, pg⟩ := use_exit hX (rs6L v (iv i) n0 h0 i d _ h _ (by omega) hd hK (by omega) (by simp only [symM, Nat.reduceBEq, g12]) (by simp only [symM, Nat.reduceBEq, g17]) get_same hv hg)
    clear hX
    subst e1
    simp only [symM, opFn, Nat.reduceLT, symL, p17, bin_add, wadd1 (show i ≤ 400000 by omega)]
    rw [← ps]
    refine ih (i + 1) _ _ k1 (N + 29) (by rw [ps]; omega) (by rw [ps]; exact hd) pK (by omega) ?_ get_same pv pg
    simp only [symM, Nat.reduceBEq, p12]
theorem ins_ltr (T : List NN) : (insOuter ltr 0 T.toArray.size 0 T.toArray).toList.Perm T ∧ (insOuter ltr 0 T.toArray.size 0 T.toArray).toList.Pairwise (fun x y => x.1 ≤ y.1) := by
  have e : insOuter ltr 0 T.toArray.size 0 T.toArray = insertionSort ltr T.toArray 0 T.toArray.size := by
    by_cases h : 0 < T.toArray.size
    · rw [insOuter, if_pos h]; rfl
    · unfold insertionSort
      rw [insOuter, if_neg h, insOuter, if_neg (by omega)]
  rw [e]
  obtain ⟨p1, p2⟩ := insertionSort_holds (lt := ltr) ltr_swo T.toArray 0 T.toArray.size (Nat.zero_le _) (Nat.le_refl _)
  refine ⟨by simpa using perm_list p1, srt_list p1.1 (fun i j h1 h2 h3 => ?_)⟩
  have h4 : decide (((insertionSort ltr T.toArray 0 T.toArray.size)[j]!).1 < ((insertionSort ltr T.toArray 0 T.toArray.size)[i]!).1) = false := p2 i j h1 h2 h3
  have h5 := of_decide_eq_false h4
  show ((insertionSort ltr T.toArray 0 T.toArray.size)[i]!).1 ≤ ((insertionSort ltr T.toArray 0 T.toArray.size)[j]!).1
  omega
end
end Go.Proofs.Ytcpihpjphdlmfaa.Abs
namespace Go.Proofs.Ytcpihpjphdlmfaa.Abs
open Go Go.Proofs Go.Sort
noncomputable section
variable {call : Abs.Callee}
set_option maxRecDepth 10000
theorem ltB_sorted (L : List NN) : ∃ S : List NN, S.Perm L ∧ S.Pairwise wpre := by
  obtain ⟨p1, p2⟩ := insertionSort_holds (lt := ltB) ltB_swo L.toArray 0 L.toArray.size (Nat.zero_le _) (Nat.le_refl _)
  exact ⟨_, by simpa using perm_list p1, srt_list p1.1 (fun i j h1 h2 h3 => ltB_not.1 (p2 i j h1 h2 h3))⟩
theorem uns_all (L : List NN) (i : Nat) : uns (fun _ => false) i L = L := by
  induction L generalizing i with
  | nil => rfl
  | cons q l ih => rw [uns, ih]; rfl
theorem rSome_S (bs : List Nat) (m : Value) (h : AH) (n a b : Int)
    (hG : ∃ v h', call 25 [m, iv n, iv a, iv b] h = some (.tuple #[v, iv (gapE bs.length n a b)], h') ∧ Own h.next h' v (runsV (downG bs a b)) 23 ∧ Grow h.next h h')
    (hsz : ∀ (x y : Nat) (h : AH), x ≤ 1048576 → y ≤ 1048576 → ∃ h', call 26 [cx x y] h = some (iv y, h') ∧ Grow h.next h h')
    (hb : ∀ (x y n : Nat) (h : AH), x ≤ 1048576 → y ≤ 1048576 → n ≤ 1048576 → 1 ≤ n → ∃ h', call 27 [cx x y, iv n] h = some (cx x n, h') ∧ Grow h.next h h') :
    ∃ v h' T e, frameB T0 X0 call 3000 15 [m, iv n, iv a, iv b] h = some (.tuple #[v, iv e], h') ∧ someP bs n a b T e ∧ AllRuns T ∧ T.length ≤ 480 ∧ Own h.next h' v (runsV T) 23 ∧ Grow h.next h h' := by
  obtain ⟨v, h1, e1, e2, e3⟩ := hG
  rw [frameB_eq ft15 rfl rfl]
  unfold someP
  by_cases hE : gapE bs.length n a b = 0
  · have hn : 1 ≤ n ∧ n ≤ 480 := by
      unfold gapE at hE
      split at hE
      · split at hE
        · cases hE
        · omega
      · rename_i q; exact absurd hE q
    obtain ⟨n, rfl⟩ : ∃ k : Nat, n = k := ⟨n.toNat, by omega⟩
    simp only [if_pos hE, show ((n : Int)).toNat = n from rfl]
    rw [hE] at e1
    have hGD : gapG bs (n : Int) a b = downG bs a b := by unfold gapG; rw [hE]; rfl
    rw [hGD]
    obtain ⟨hasc, hlen⟩ := downG_asc bs a b
    have hruns := downG_runs bs a b
    generalize downG bs a b = L at *
    have hcl : (((runsV L).length : Nat) : Int) = (L.length : Nat) := by simp [runsV]
    generalize hh2 : h1.new (.cells (PM.ofList []) 0 23 0 0 .ex) = h2
    have wo : Own h1.next h2 (.slice (some ⟨h1.next, 0, none⟩) 0 0) (runsV []) 23 := by rw [← hh2]; exact Own.empty _ _ (Nat.le_refl _) _ _
    have g2 : Grow h1.next h1 h2 := by rw [← hh2]; exact Grow.new _ _
    have hn2 : h2.next = h1.next + 1 := by rw [← hh2]; rfl
    obtain ⟨h3, m1, m2, m3⟩ := make_bools (h := h2) (k := L.length) (by omega)
    have wo3 := wo.grow m3
    have hoff : Off (.slice (some ⟨h1.next, 0, none⟩) 0 0) h2.next := wo.apart (Nat.le_refl _)
    obtain ⟨S0, s0p, s0w⟩ := ltB_sorted L
    have hb3 : h2.next < h3.next := by
      rcases m2 with ⟨c1, _⟩ | ⟨b', c, kd, cap, c1, c2, c3, c4, c5⟩
      · cases c1
      · exact Nat.lt_of_le_of_lt c1 c2
    simp only [Try.f15, symM, opFn, Nat.reduceLT, Nat.reduceBEq, symL, evCall_fn ft25 rfl, e1, bin_neq, show ((0 : Int) == 0) = true from rfl, bs_cx0, hh2, e2.row.len und_c128s, hcl, m1]
    generalize hX : codeB T0 X0 call _ ERS (.loop _) _ _ _ = X
    obtain ⟨tm4, h4, ec, g4⟩ := use_loop (P := fun X => ∃ tm' h', ((X = .jump .ret tm' h' [] ∧ rem n S0 ≠ 0 ∧ tm'.get 8 = some (.slice none 0 0) ∧ tm'.get 9 = some (iv 6)) ∨ (X = .jump (.exit 0) tm' h' [] ∧ rem n S0 = 0 ∧ ∃ w', tm'.get 12 = some w' ∧ Own h1.next h' w' (runsV ([] ++ pick n S0)) 23)) ∧ Grow h1.next h1 h') hX
      (rs0L L hlen hasc hruns v e2.eqv h1 h2.next (by omega) e2.row hsz hb (L.length + 1) (fun _ => false) [] n S0 _ h3 (.slice (some ⟨h1.next, 0, none⟩) 0 0) _ (by rw [uns_all]; omega) (by rw [uns_all]; simpa using hlen) s0w (by rw [uns_all]; exact s0p) (by omega) (by omega) (by simp only [symM, Nat.reduceBEq]) (by simp only [symM, Nat.reduceBEq]) (by simp only [symM, Nat.reduceBEq]) (by simp only [symM]) hb3 wo3 hoff (m2.less (by omega)) (g2.trans m3 (by omega)))
    clear hX
    have g14 : Grow h.next h h4 := e3.trans g4 e3.next
    rcases ec with ⟨ec, r1, t8, t9⟩ | ⟨ec, r1, w, t12, wo4⟩
    · subst ec
      refine ⟨.slice none 0 0, h4, [], 6, ?_, ⟨S0, s0p, s0w, .inr ⟨r1, rfl, rfl⟩⟩, fun p hp => by simp at hp, by simp, Own.nil _ _ _, g14⟩
      simp only [symM]
      exact retB_two ft15 rfl t8 t9
    · subst ec
      rw [List.nil_append] at wo4
      have hSr : AllRuns S0 := fun p hp2 => hruns p (s0p.mem_iff.1 hp2)
      have hTr := pick_runs S0 n hSr
      have hTl : (pick n S0).length ≤ 480 := by have := pick_len S0 n; have := s0p.length_eq; omega
      obtain ⟨tp, tpw⟩ := ins_ltr (pick n S0)
      simp only [symM, opFn, Nat.reduceLT, symL]
      generalize hX : codeB T0 X0 call _ ERS (.loop _) _ _ _ = X
      obtain ⟨tm5, h5, e5, q12, qv, qg⟩ := use_exit hX (rs4L w h1.next h4 ((pick n S0).toArray.size - 0) 0 (pick n S0).toArray _ h4 _ rfl (by simpa using hTl) (allK_of (runs_KL hTr)) (by simp; omega) (by simp only [symM, Nat.reduceBEq, t12]) (by simp only [symM]; rfl) wo4 (Grow.refl _ _))
      clear hX
      subst e5
      refine ⟨w, h5, _, 0, ?_, ⟨S0, s0p, s0w, .inl ⟨r1, rfl, tp, tpw⟩⟩, fun p hp2 => hTr p (tp.mem_iff.1 hp2), by rw [tp.length_eq]; exact hTl, qv.less e3.next, g14.trans (qg.less e3.next) (Nat.le_refl _)⟩
      simp only [symM, opFn, Nat.reduceLT, symL, q12]
      exact retB_two ft15 rfl (by simp only [symM, Nat.reduceBEq]) get_same
  · simp only [if_neg hE]
    have hb0 : (gapE bs.length n a b == 0) = false := by simpa using hE
    refine ⟨.slice none 0 0, h1, [], gapE bs.length n a b, ?_, ⟨rfl, rfl⟩, fun p hp2 => by simp at hp2, by simp, Own.nil _ _ _, e3⟩
    simp only [Try.f15, symM, opFn, Nat.reduceLT, Nat.reduceBEq, evCall_fn ft25 rfl, e1, bin_neq, hb0]
    exact retB_two ft15 rfl (by simp only [symM, Nat.reduceBEq]) get_same
/- Both answers are one. -/
theorem pick_mem : ∀ (l : List NN) (n : Nat) (p : NN), p ∈ pick n l → ∃ r ∈ l, r.1 = p.1 := by
  intro l
  induction l with
  | nil => intro n p h; simp [pick] at h
  | cons q l ih =>
    intro n p h
    rw [pick] at h
    split at h
    · simp at h
    · rcases List.mem_cons.1 h with rfl | h
      · exact ⟨q, List.mem_cons_self .., rfl⟩
      · obtain ⟨r, r1, r2⟩ := ih _ p h
        exact ⟨r, List.mem_cons_of_mem _ r1, r2⟩
theorem pick_ne : ∀ (l : List NN) (n : Nat), l.Pairwise (fun x y => x.1 ≠ y.1) → (pick n l).Pairwise (fun x y => x.1 ≠ y.1) := by
  intro l
  induction l with
  | nil => intro n _; exact List.Pairwise.nil
  | cons q l ih =>
    intro n h
    obtain ⟨h1, h2⟩ := List.pairwise_cons.1 h
    rw [pick]
    split
    · exact List.Pairwise.nil
    · refine List.pairwise_cons.2 ⟨fun p hp => ?_, ih _ h2⟩
      obtain ⟨r, r1, r2⟩ := pick_mem _ _ p hp
      rw [← r2]
      exact h1 r r1
theorem ne_inj : ∀ (l : List NN), l.Pairwise (fun x y => x.1 ≠ y.1) → ∀ x ∈ l, ∀ y ∈ l, x.1 = y.1 → x = y := by
  intro l
  induction l with
  | nil => intro _ x hx; simp at hx
  | cons q l ih =>
    intro h x hx y hy hxy
    obtain ⟨h1, h2⟩ := List.pairwise_cons.1 h
    rcases List.mem_cons.1 hx with e1 | m1 <;> rcases List.mem_cons.1 hy with e2 | m2
    · rw [e1, e2]
    · rw [e1] at hxy; exact absurd hxy (h1 y m2)
    · rw [e2] at hxy; exact absurd hxy.symm (h1 x m1)
    · exact ih h2 x m1 y m2 hxy
theorem asc_ne {L : List NN} (h : Asc L) (hr : AllRuns L) : L.Pairwise (fun x y => x.1 ≠ y.1) := by
  rw [List.pairwise_iff_getElem]
  intro i j hi hj hij
  have := List.pairwise_iff_getElem.1 h i j hi hj hij
  have := runQ (hr _ (List.getElem_mem hi))
  omega
theorem someR_same {L T T' : List NN} {n : Nat} {e e' : Int} (hasc : Asc L) (hr : AllRuns L) (h : SomeR L n T e) (h' : SomeR L n T' e') : T = T' ∧ e = e' := by
  obtain ⟨S, p, w, c⟩ := h
  obtain ⟨S', p', w', c'⟩ := h'
  have hS : S = S' := List.Perm.eq_of_pairwise (fun a b _ _ h1 h2 => wpre_antisymm h1 h2) w w' (p.trans p'.symm)
  subst hS
  rcases c with ⟨c1, c2, c3, c4⟩ | ⟨c1, c2, c3⟩ <;> rcases c' with ⟨d1, d2, d3, d4⟩ | ⟨d1, d2, d3⟩
  · refine ⟨?_, by rw [c2, d2]⟩
    have hne : S.Pairwise (fun x y => x.1 ≠ y.1) := (p.pairwise_iff (fun h => Ne.symm h)).2 (asc_ne hasc hr)
    have hne2 := pick_ne S n hne
    exact List.Perm.eq_of_pairwise (fun a b ha hb h1 h2 => ne_inj _ hne2 a (c3.mem_iff.1 ha) b (d3.mem_iff.1 hb) (by omega)) c4 d4 (c3.trans d3.symm)
  · exact absurd c1 d1
  · exact absurd d1 c1
  · exact ⟨by rw [c3, d3], by rw [c2, d2]⟩
theorem someP_same {bs : List Nat} {n a b : Int} {T T' : List NN} {e e' : Int} (h : someP bs n a b T e) (h' : someP bs n a b T' e') : T = T' ∧ e = e' := by
  unfold someP at h h'
  split at h
  · rename_i hE
    rw [if_pos hE] at h'
    exact someR_same (gapG_asc bs n a b).1 (gapG_runs bs n a b) h h'
  · rename_i hE
    rw [if_neg hE] at h'
    exact ⟨by rw [h.1, h'.1], by rw [h.2, h'.2]⟩
theorem c_neq {T : Tab} {t : TypeId} {p q : Operand} {h : AH} {x y u v : Int} (hx : Abs.zok x = true) (hy : Abs.zok y = true) (hu : Abs.zok u = true) (hv : Abs.zok v = true) :
    evBin T .neq t p q (.complex .f64 (zd x) (zd y)) (.complex .f64 (zd u) (zd v)) h = some (.bool (!(decide (x = u) && decide (y = v)))) := by
  show orV (fastC .neq (zd x) (zd y) (zd u) (zd v)) (slowBin T .neq t p q (.complex .f64 (zd x) (zd y)) (.complex .f64 (zd u) (zd v))) = _
  have hn : fastC .neq (zd x) (zd y) (zd u) (zd v) = none := by unfold fastC; rw [dz_zd hx, dz_zd hy, dz_zd hu, dz_zd hv]
  rw [hn, slow_of (v := .bool (!(decide (x = u) && decide (y = v)))) ?_ rfl]; · rfl
  show Op.complexOp .neq .f64 (zd x) (zd y) (zd u) (zd v) = _
  simp only [Op.complexOp, Op.Complex.cmp, cmp_eql hx hu, cmp_eql hy hv]
  rfl
theorem ft16 : T0.ft.get 16 = some Try.f16 := by kernel_rfl
abbrev ESa : Env := ⟨16, 26, none⟩
noncomputable def bodySa : Code := part Try.f16 [1, 1, 0, 1, 0, 0]
theorem plan_Sa : planB (regOps Try.f16 [1, 1, 0, 1, 0, 0, 1, 0, 0, 0]) 26 = some ([.one 0, .one 1, .one 2, .one 3, .one 4, .one 5, .one 6, .one 7, .one 8], []) := by kernel_rfl
theorem saL (A : List NN) (hA : AllRuns A) (hl : A.length ≤ 480) (x y : Value) (n0 : Nat) (h : AH) (hx : Row n0 h x (runsV A) 23) (hy : Row n0 h y (runsV A) 23) :
    ∀ (k i : Nat) (tm : PM Value) (N : Nat), i + k = A.length → k + 60 ≤ N → tm.get 0 = some x → tm.get 1 = some y → tm.get 5 = some (iv i) →
      ∃ tm' h', codeB T0 X0 call N ESa (.loop bodySa) tm h [] = .jump (.exit 0) tm' h' [] ∧ h' = h := by
  have hp := plan_Sa
  simp only [regOps, part, Try.f16, sub] at hp
  intro k
  induction k with
  | zero =>
    intro i tm N hi hN g0 g1 g5
    obtain ⟨N, rfl⟩ : ∃ a, N = a + 30 := ⟨N - 30, by omega⟩
    have hlt : decide ((i : Int) < ((runsV A).length : Nat)) = false := decide_eq_false (by simp [runsV]; omega)
    apply Exists.intro; apply Exists.intro; apply And.intro
    · rw [codeB_loop]
      simp only [bodySa, part, Try.f16, sub, symM, opFn, Nat.reduceLT, Nat.reduceBEq, g0, g5, hx.len und_c128s, bin_lss, hlt]
      rfl
    · rfl
  | succ k ih =>
    intro i tm N hi hN g0 g1 g5
    obtain ⟨N, rfl⟩ : ∃ a, N = a + 30 := ⟨N - 30, by omega⟩
    have hil : i < A.length := by omega
    have hlt : decide ((i : Int) < ((runsV A).length : Nat)) = true := decide_eq_true (by simp [runsV]; omega)
    have hq := runQ (hA _ (List.getElem_mem hil))
    have hav : (runsV A)[i]? = some (cx A[i].1 A[i].2) := by simp [runsV, hil]
    obtain ⟨p, a1, a2⟩ := hx.at und_c128s sz_c128 agg_c128 hav
    obtain ⟨q, b1, b2⟩ := hy.at und_c128s sz_c128 agg_c128 hav
    have z1 : Abs.zok (A[i].1 : Int) = true := zok_k (by omega)
    have z2 : Abs.zok (A[i].2 : Int) = true := zok_k (by omega)
    rw [show N + 30 = (N + 29) + 1 from rfl, codeB_loop]
    simp only [bodySa, part, Try.f16, sub, symM, opFn, Nat.reduceLT, Nat.reduceBEq, g0, g5, hx.len und_c128s, bin_lss, hlt, codeB_draw]
    rw [draw_plan hp rfl]
    simp only [drawAll, opFn, Nat.reduceLT, Nat.reduceBEq, g0, g1, g5, a1, a2, b1, b2, c_neq z1 z2 z1 z2, decide_true, Bool.and_self, bin_add, wadd1 (show i ≤ 400000 by omega)]
    refine ih (i + 1) _ (N + 29) (by omega) (by omega) ?_ ?_ get_same <;> simp only [symM, Nat.reduceBEq, g0, g1]
theorem Same_S (A : List NN) (hA : AllRuns A) (hl : A.length ≤ 480) (x y : Value) (n0 : Nat) (h : AH) (hx : Row n0 h x (runsV A) 23) (hy : Row n0 h y (runsV A) 23) :
    frameB T0 X0 call 3000 16 [x, y] h = some (.bool true, h) := by
  rw [frameB_eq ft16 rfl rfl]
  simp only [Try.f16, symM, opFn, Nat.reduceLT, Nat.reduceBEq, symL, hx.len und_c128s, hy.len und_c128s, bin_neq, show ((((runsV A).length : Nat) : Int) == (((runsV A).length : Nat) : Int)) = true from by simp]
  generalize hX : codeB T0 X0 call _ ESa (.loop _) _ _ _ = X
  obtain ⟨t1, h1, e1, e2⟩ := use_exit hX (saL A hA hl x y n0 h hx hy A.length 0 _ _ (by omega) (by omega) (by simp only [symM, Nat.reduceBEq]) (by simp only [symM, Nat.reduceBEq]) (by simp only [symM]; rfl))
  clear hX
  rw [e2] at e1
  subst e1
  simp only [symM, opFn, Nat.reduceLT, symL]
  exact retB_one ft16 rfl get_same
end
end Go.Proofs.Ytcpihpjphdlmfaa.Abs
