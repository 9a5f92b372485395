/- The reference's maps of flags, for every memory. -/
import Derived.Test.YtcpihpjphdlmfaaFirst
import Derived.Test.YtcpihpjphdlmfaaRefNum
namespace Go.Proofs.Ytcpihpjphdlmfaa.Abs
open Go Go.Proofs
noncomputable section
theorem ft17 : T0.ft.get 17 = some Try.f17 := by kernel_rfl
theorem ft39 : T0.ft.get 39 = some Try.f39 := by kernel_rfl
theorem ft20 : T0.ft.get 20 = some Try.f20 := by kernel_rfl
theorem ft25 : T0.ft.get 25 = some Try.f25 := by kernel_rfl
theorem ft10 : T0.ft.get 10 = some Try.f10 := by kernel_rfl
theorem und_bools : und T0 33 = some (.slice 4) := by kernel_rfl
theorem sz_bool : szOf T0 4 = some 1 := by kernel_rfl
theorem agg_bool : aggT T0 4 = some false := by kernel_rfl
theorem zero_bool : zeroOf T0 4 = some (.bool false) := by kernel_rfl
theorem tt_bool : T0.tt.get 4 = some (infoOf 4) := by kernel_rfl
theorem ti_bool : (infoOf 4).zero = some (.bool false) ∧ (infoOf 4).size = 1 ∧ (infoOf 4).bytes ≤ 64 := ⟨by kernel_rfl, by kernel_rfl, Nat.le_of_ble_eq_true (by kernel_rfl)⟩
theorem bs_bool {b : Bool} {h : AH} : evBuildSlice T0 33 1 [(0, .bool b)] h = some (.slice (some ⟨h.next, 0, none⟩) 1 1, h.new (.cells (PM.ofList [.bool b]) 1 4 0 0 .ex)) := bs_one und_bools sz_bool zero_bool rfl rfl
theorem bs_bool0 {h : AH} : evBuildSlice T0 33 0 [] h = some (.slice (some ⟨h.next, 0, none⟩) 0 0, h.new (.cells (PM.ofList []) 0 4 0 0 .ex)) := bs_zero und_bools sz_bool zero_bool
theorem bs_cx0 {h : AH} : evBuildSlice T0 29 0 [] h = some (.slice (some ⟨h.next, 0, none⟩) 0 0, h.new (.cells (PM.ofList []) 0 23 0 0 .ex)) := bs_zero und_c128s sz_c128 zero_c128
theorem Row.eqv {n : Nat} {h : AH} {v : Value} {l : List Value} {e : TypeId} (ho : Row n h v l e) : eqV v v = true := by
  rcases ho with ⟨rfl, _⟩ | ⟨b, o, cap, c, m, lo, hi, kd, el, rfl, _⟩
  · rfl
  · exact eqV_slice
def boolsV (f : Nat → Bool) (a k : Nat) : List Value := (List.range' a k).map fun i => .bool (f i)
theorem boolsV_at (f : Nat → Bool) {k i : Nat} (h : i < k) : (boolsV f 0 k)[i]? = some (.bool (f i)) := by
  simp [boolsV, List.getElem?_range', h]
theorem boolsV_snoc (f : Nat → Bool) (k : Nat) : boolsV f 0 k ++ [.bool (f k)] = boolsV f 0 (k + 1) := by
  simp [boolsV, List.range'_concat]
theorem boolsV_len (f : Nat → Bool) (a k : Nat) : (boolsV f a k).length = k := by simp [boolsV]
variable {call : Abs.Callee}
set_option maxRecDepth 10000
noncomputable def bodyUp : Code := part Try.f17 [1, 1, 0, 1, 0, 0]
abbrev EUp : Env := ⟨17, 25, none⟩
theorem plan_Up : planB (part Try.f17 [1, 1, 0, 1, 0, 0, 1, 0, 0] |> fun | .region _ ops _ => ops | _ => #[]) 25 = some ([.one 0, .one 1, .one 2, .one 3, .one 4, .one 5, .one 6, .one 7, .eff [] 8 [0, 1, 2, 3, 4, 5], .one 9, .one 10, .one 11, .eff [12] 13 [], .one 14], []) := by kernel_rfl
theorem wrap8 (d : Nat) (h : d < 256) : IntKind.u8.wrap (d : Int) = d := IntWalk.u8_in _ (by omega)
set_option maxHeartbeats 2000000 in
theorem upL (bs : List Nat) (hbs : ∀ x ∈ bs, x < 256) (h60 : bs.length = 60) (m : Value) (n0 : Nat) (h0 : AH) (hn0 : n0 ≤ h0.next) (hm0 : Row n0 h0 m (bytesV bs) 5)
    (hpow : ∀ (n : Nat) h, n < 8 → call 37 [iv n] h = some (.int .u8 ((2 ^ n : Nat) : Int), h)) :
    ∀ (k i : Nat) (tm : PM Value) (h : AH) (v : Value) (N : Nat), i + k = 480 → k + 20 ≤ N → tm.get 0 = some m → tm.get 3 = some v → tm.get 4 = some (iv i) → Own n0 h v (boolsV (bitB bs) 0 i) 4 → Grow n0 h0 h →
      ∃ tm' h', codeB T0 X0 call N EUp (.loop bodyUp) tm h [] = .jump (.exit 0) tm' h' [] ∧ (∃ v', tm'.get 3 = some v' ∧ Own n0 h' v' (boolsV (bitB bs) 0 480) 4 ∧ Grow n0 h0 h') := by
  intro k
  induction k with
  | zero =>
    intro i tm h v N hi hN g0 g3 g4 hv hg
    obtain ⟨N, rfl⟩ : ∃ a, N = a + 20 := ⟨N - 20, by omega⟩
    have hlt : decide ((i : Int) < 480) = false := decide_eq_false (by omega)
    have hi2 : i = 480 := by omega
    apply Exists.intro; apply Exists.intro; apply And.intro
    · rw [codeB_loop]
      simp only [bodyUp, part, Try.f17, sub, symM, opFn, Nat.reduceLT, Nat.reduceBEq, g4, bin_lss, hlt]
      rfl
    · exact ⟨v, by simp only [symM, Nat.reduceBEq, g3], by rw [← hi2]; exact hv, hg⟩
  | succ k ih =>
    intro i tm h v N hi hN g0 g3 g4 hv hg
    obtain ⟨N, rfl⟩ : ∃ a, N = a + 20 := ⟨N - 20, by omega⟩
    have hlt : decide ((i : Int) < 480) = true := decide_eq_true (by omega)
    have hm := hm0.grow hg (Nat.le_refl _)
    have hlen : i / 8 < bs.length := by omega
    obtain ⟨x, hx⟩ : ∃ x, bs[i / 8]? = some x := ⟨_, List.getElem?_eq_getElem hlen⟩
    have hx2 : x < 256 := hbs x (List.mem_of_getElem? hx)
    obtain ⟨p, e1, e2, e3⟩ := hm.at3 und_bytes sz_u8 agg_u8 (i := i / 8) (x := .int .u8 (x : Int)) (by simp [bytesV, hx])
    have hq : ∀ a b, evBin T0 .quo 3 a b (iv i) (iv 8) h = some (iv (i / 8 : Nat)) := fun a b => by
      show evBin T0 .quo 3 a b (iv i) (iv ((8 : Nat) : Int)) h = _
      rw [bin_quo (by decide), IntWalk.i64_in _ (by omega)]
    have hr : ∀ a b, evBin T0 .rem 3 a b (iv i) (iv 8) h = some (iv (i % 8 : Nat)) := fun a b => by
      show evBin T0 .rem 3 a b (iv i) (iv ((8 : Nat) : Int)) h = _
      rw [bin_rem (by decide)]
    have hpos : 2 ^ (i % 8) ≠ 0 := by have := Nat.two_pow_pos (i % 8); omega
    have hdiv : x / 2 ^ (i % 8) < 256 := Nat.lt_of_le_of_lt (Nat.div_le_self _ _) hx2
    have hd : ∀ a b, evBin T0 .quo 5 a b (.int .u8 (x : Int)) (.int .u8 ((2 ^ (i % 8) : Nat) : Int)) h = some (.int .u8 ((x / 2 ^ (i % 8) : Nat) : Int)) := fun a b => by
      rw [bin_quo hpos, wrap8 _ hdiv]
    have hm2 : ∀ a b, evBin T0 .rem 5 a b (.int .u8 ((x / 2 ^ (i % 8) : Nat) : Int)) (.int .u8 2) h = some (.int .u8 ((x / 2 ^ (i % 8) % 2 : Nat) : Int)) := fun a b => by
      show evBin T0 .rem 5 a b (.int .u8 ((x / 2 ^ (i % 8) : Nat) : Int)) (.int .u8 ((2 : Nat) : Int)) h = _
      rw [bin_rem (by decide)]
    have he : ∀ a b, evBin T0 .eql 5 a b (.int .u8 ((x / 2 ^ (i % 8) % 2 : Nat) : Int)) (.int .u8 1) h = some (.bool (bitB bs i)) := fun a b => by
      rw [bin_eql]
      have h3 : bs.getD (i / 8) 0 = x := by rw [List.getD_eq_getElem?_getD, hx]; rfl
      unfold bitB
      rw [h3, Nat.and_one_is_mod, Nat.shiftRight_eq_div_pow]
      congr 2
      rw [Bool.eq_iff_iff]
      simp only [beq_iff_eq]
      omega
    have hw : IntKind.i64.wrap ((i : Int) + 1) = ((i + 1 : Nat) : Int) := by rw [IntWalk.i64_in _ (by omega)]; simp
    obtain ⟨v2, h2', ea, eo, eg⟩ := append_one und_bools tt_bool ti_bool.1 ti_bool.2.1 ti_bool.2.2 hv (x := .bool (bitB bs i)) rfl (by rw [boolsV_len]; omega) (Nat.le_trans hn0 hg.next) 33
    have hp := plan_Up
    simp only [part, Try.f17, sub] at hp
    rw [show N + 20 = (N + 19) + 1 from rfl, codeB_loop]
    simp only [bodyUp, part, Try.f17, sub, symM, opFn, Nat.reduceLT, Nat.reduceBEq, g4, bin_lss, hlt, codeB_draw]
    rw [draw_plan hp rfl]
    simp only [drawAll, opFn, Nat.reduceLT, Nat.reduceBEq, effE_cons, g0, g3, g4, hq, hr, e1, e2, evCall_fn ft37 rfl, hpow (i % 8) _ (Nat.mod_lt _ (by decide)), hm.eqv, hv.eqv, e3, hd, hm2, he, goAB_some bs_bool, ea, bin_add, hw]
    have hv2 : Own n0 h2' v2 (boolsV (bitB bs) 0 (i + 1)) 4 := by rw [← boolsV_snoc]; exact eo
    refine ih (i + 1) _ h2' v2 (N + 19) (by omega) (by omega) ?_ ?_ get_same hv2 (hg.trans eg (Nat.le_refl _))
    · simp only [symM, Nat.reduceBEq, g0]
    · simp only [symM, Nat.reduceBEq]
theorem Up_S (bs : List Nat) (hbs : ∀ x ∈ bs, x < 256) (h60 : bs.length = 60) (m : Value) (h : AH) (hm : Row h.next h m (bytesV bs) 5)
    (hpow : ∀ (n : Nat) h, n < 8 → call 37 [iv n] h = some (.int .u8 ((2 ^ n : Nat) : Int), h)) :
    ∃ v h', frameB T0 X0 call 3000 17 [m] h = some (v, h') ∧ Own h.next h' v (boolsV (bitB bs) 0 480) 4 ∧ Grow h.next h h' := by
  rw [frameB_eq ft17 rfl rfl]
  have g1 : Grow h.next h (h.new (.cells (PM.ofList []) 0 4 0 0 .ex)) := Grow.new _ _
  have hL := fun tm N => upL bs hbs h60 m h.next h (Nat.le_refl _) hm hpow 480 0 tm (h.new (.cells (PM.ofList []) 0 4 0 0 .ex)) (.slice (some ⟨h.next, 0, none⟩) 0 0) N (by omega)
  simp only [Try.f17, symM, opFn, Nat.reduceLT, Nat.reduceBEq, bs_bool0]
  refine bind_loop (b := bodyUp) (P := fun x => ∃ v h', endF T0 17 x = some (v, h') ∧ Own h.next h' v (boolsV (bitB bs) 0 480) 4 ∧ Grow h.next h h') (hL _ _ (by omega) (by simp only [symM, Nat.reduceBEq]) (by simp only [symM, Nat.reduceBEq]) (by simp only [symM, Nat.reduceBEq]; rfl) (Own.empty _ _ (Nat.le_refl _) _ _) g1) ?_
  intro tm' h' ⟨v', p3, p4, p5⟩
  refine ⟨v', h', ?_, p4, p5⟩
  simp only [symM, opFn, Nat.reduceLT, Nat.reduceBEq, p3]
  exact retB_one ft17 rfl get_same

noncomputable def bodyRs : Code := part Try.f39 [1, 1, 1, 0, 1, 0, 0]
abbrev ERs : Env := ⟨39, 41, none⟩
def restG (d : Nat → Bool) : Nat → Nat → Nat → List (Nat × Nat)
  | 0, _, _ => []
  | c + 1, n, first => gapsG d c n first
theorem restG_in (d : Nat → Bool) (c n first : Nat) (h : d n = true) : restG d (c + 2) n first = restG d (c + 1) (n + 1) first := by
  show gapsG d (c + 1) n first = gapsG d c (n + 1) first
  rw [gapsG, h]; rfl
theorem restG_out (d : Nat → Bool) (c n first : Nat) (h : c ≠ 0 → d n = false) : restG d (c + 1) n first = (bif Nat.blt first n then [(first, n - first)] else []) ++ restG d c (n + 1) (n + 1) := by
  cases c with
  | zero => show gapsG d 0 n first = _ ++ []; rw [List.append_nil]; rfl
  | succ c => show gapsG d (c + 1) n first = _; rw [gapsG, h (by simp)]; rfl
set_option maxHeartbeats 2000000 in
theorem runsL (f : Nat → Bool) (s : Value) (n0 tw : Nat) (hto : tw ≤ 480) (h0 : AH) (hn0 : n0 ≤ h0.next) (hs0 : Row n0 h0 s (boolsV f 0 480) 4)
    (hR : ∀ (x y : Int) h, zok x = true → zok y = true → call 42 [iv x, iv y] h = some (make1V x y, h)) :
    ∀ (c n first : Nat) (tm : PM Value) (h : AH) (v : Value) (acc : List (Nat × Nat)) (N : Nat), n + c = tw + 1 → c + 30 ≤ N → first ≤ n → acc.length ≤ n → tm.get 0 = some s → tm.get 2 = some (iv tw) → tm.get 7 = some v → tm.get 8 = some (iv first) → tm.get 9 = some (iv n) →
      Own n0 h v (runsV acc) 23 → Grow n0 h0 h →
      ∃ tm' h', codeB T0 X0 call N ERs (.loop bodyRs) tm h [] = .jump (.exit 0) tm' h' [] ∧ (∃ v', tm'.get 7 = some v' ∧ Own n0 h' v' (runsV (acc ++ restG f c n first)) 23 ∧ Grow n0 h0 h') := by
  intro c
  induction c with
  | zero =>
    intro n first tm h v acc N hi hN hf hacc g0 g2 g7 g8 g9 hv hg
    obtain ⟨N, rfl⟩ : ∃ a, N = a + 30 := ⟨N - 30, by omega⟩
    have hlt : decide ((n : Int) ≤ (tw : Int)) = false := decide_eq_false (by omega)
    apply Exists.intro; apply Exists.intro; apply And.intro
    · rw [codeB_loop]
      simp only [bodyRs, part, Try.f39, sub, symM, opFn, Nat.reduceLT, Nat.reduceBEq, g2, g9, bin_leq, hlt]
      rfl
    · exact ⟨v, by simp only [symM, Nat.reduceBEq, g7], by rw [restG, List.append_nil]; exact hv, hg⟩
  | succ c ih =>
    intro n first tm h v acc N hi hN hf hacc g0 g2 g7 g8 g9 hv hg
    obtain ⟨N, rfl⟩ : ∃ a, N = a + 30 := ⟨N - 30, by omega⟩
    have hle : decide ((n : Int) ≤ (tw : Int)) = true := decide_eq_true (by omega)
    have hw : IntKind.i64.wrap ((n : Int) + 1) = ((n + 1 : Nat) : Int) := by rw [IntWalk.i64_in _ (by omega)]; simp
    have hs := hs0.grow hg (Nat.le_refl _)
    rw [show N + 30 = (N + 29) + 1 from rfl, codeB_loop]
    have hsub : first < n → IntKind.i64.wrap ((n : Int) - first) = ((n - first : Nat) : Int) := fun hlt => by rw [IntWalk.i64_in _ (by omega)]; omega
    have hrun : first < n → call 42 [iv first, .int .i64 ((n - first : Nat) : Int)] h = some (cx first (n - first : Nat), h) := fun hlt => by
      rw [hR first ((n - first : Nat) : Int) h (zok_k (by omega)) (zok_k (by omega))]
      congr 2
      exact if_neg (by omega)
    have hbl : Nat.blt first n = decide (first < n) := by
      rcases Nat.lt_or_ge first n with q | q
      · rw [decide_eq_true q]; simpa [Nat.blt] using Nat.ble_eq_true_of_le q
      · rw [decide_eq_false (by omega)]; rw [Nat.blt]; exact ble_no (by omega)
    by_cases hn : n < tw
    · obtain ⟨p, e1, e2⟩ := hs.at und_bools sz_bool agg_bool (i := n) (boolsV_at f (by omega))
      obtain ⟨c, rfl⟩ : ∃ c', c = c' + 1 := ⟨c - 1, by omega⟩
      have k1 : decide ((n : Int) < (tw : Int)) = true := decide_eq_true (by omega)
      cases hfn : f n with
      | true =>
        rw [hfn] at e2
        simp only [bodyRs, part, Try.f39, sub, symM, opFn, Nat.reduceLT, Nat.reduceBEq, g0, g2, g9, bin_leq, hle, bin_lss, k1, e1, e2, bin_add, hw, Nat.beq_refl]
        rw [restG_in f c n first hfn]
        refine ih (n + 1) first _ h v acc (N + 29) (by omega) (by omega) (by omega) (by omega) ?_ ?_ ?_ ?_ get_same hv hg <;> simp only [symM, Nat.reduceBEq, g0, g2, g7, g8]
      | false =>
        rw [hfn] at e2
        rw [restG_out f (c + 1) n first (fun _ => hfn), hbl]
        by_cases hlt : first < n
        · obtain ⟨v2, h2', ea, eo, eg⟩ := append_one und_c128s tt_c128 ti_c128.1 ti_c128.2.1 ti_c128.2.2 hv (x := cx first (n - first : Nat)) rfl (by simp [runsV]; omega) (Nat.le_trans hn0 hg.next) 29
          simp only [bodyRs, part, Try.f39, sub, symM, opFn, Nat.reduceLT, Nat.reduceBEq, g0, g2, g7, g8, g9, bin_leq, hle, bin_lss, k1, e1, e2, bin_add, hw, bin_gtr, decide_eq_true (show (first : Int) < n by omega), bin_sub, hsub hlt, evCall_fn ft42 rfl, hrun hlt, bs_cx, ea]
          rw [decide_eq_true hlt, cond_true, ← List.append_assoc]
          refine ih (n + 1) (n + 1) _ h2' v2 (acc ++ [(first, n - first)]) (N + 29) (by omega) (by omega) (by omega) (by simp; omega) ?_ ?_ ?_ ?_ get_same (by simpa [runsV] using eo) (hg.trans eg (Nat.le_refl _)) <;> simp only [symM, Nat.reduceBEq, g0, g2]
        · simp only [bodyRs, part, Try.f39, sub, symM, opFn, Nat.reduceLT, Nat.reduceBEq, g0, g2, g7, g8, g9, bin_leq, hle, bin_lss, k1, e1, e2, bin_add, hw, bin_gtr, decide_eq_false (show ¬ (first : Int) < n by omega)]
          rw [decide_eq_false hlt, cond_false, List.nil_append]
          refine ih (n + 1) (n + 1) _ h v acc (N + 29) (by omega) (by omega) (by omega) (by omega) ?_ ?_ ?_ ?_ get_same hv hg <;> simp only [symM, Nat.reduceBEq, g0, g2, g7]
    · have hc0 : c = 0 := by omega
      subst hc0
      have k1 : decide ((n : Int) < (tw : Int)) = false := decide_eq_false (by omega)
      rw [restG_out f 0 n first (fun q => absurd rfl q), hbl]
      by_cases hlt : first < n
      · obtain ⟨v2, h2', ea, eo, eg⟩ := append_one und_c128s tt_c128 ti_c128.1 ti_c128.2.1 ti_c128.2.2 hv (x := cx first (n - first : Nat)) rfl (by simp [runsV]; omega) (Nat.le_trans hn0 hg.next) 29
        simp only [bodyRs, part, Try.f39, sub, symM, opFn, Nat.reduceLT, Nat.reduceBEq, g2, g7, g8, g9, bin_leq, hle, bin_lss, k1, bin_add, hw, bin_gtr, decide_eq_true (show (first : Int) < n by omega), bin_sub, hsub hlt, evCall_fn ft42 rfl, hrun hlt, bs_cx, ea]
        rw [decide_eq_true hlt, cond_true, ← List.append_assoc]
        refine ih (n + 1) (n + 1) _ h2' v2 (acc ++ [(first, n - first)]) (N + 29) (by omega) (by omega) (by omega) (by simp; omega) ?_ ?_ ?_ ?_ get_same (by simpa [runsV] using eo) (hg.trans eg (Nat.le_refl _)) <;> simp only [symM, Nat.reduceBEq, g0, g2]
      · simp only [bodyRs, part, Try.f39, sub, symM, opFn, Nat.reduceLT, Nat.reduceBEq, g2, g7, g8, g9, bin_leq, hle, bin_lss, k1, bin_add, hw, bin_gtr, decide_eq_false (show ¬ (first : Int) < n by omega)]
        rw [decide_eq_false hlt, cond_false, List.nil_append]
        refine ih (n + 1) (n + 1) _ h v acc (N + 29) (by omega) (by omega) (by omega) (by omega) ?_ ?_ ?_ ?_ get_same hv hg <;> simp only [symM, Nat.reduceBEq, g0, g2, g7]
theorem Runs_S (f : Nat → Bool) (s : Value) (h : AH) (a b : Nat) (hab : a ≤ b) (hb : b ≤ 480) (hs : Row h.next h s (boolsV f 0 480) 4)
    (hR : ∀ (x y : Int) h, zok x = true → zok y = true → call 42 [iv x, iv y] h = some (make1V x y, h)) :
    ∃ v h', frameB T0 X0 call 3000 39 [s, iv a, iv b] h = some (v, h') ∧ Own h.next h' v (runsV (gapsG f (b - a) a a)) 23 ∧ Grow h.next h h' := by
  rw [frameB_eq ft39 rfl rfl]
  have g1 : Grow h.next h (h.new (.cells (PM.ofList []) 0 23 0 0 .ex)) := Grow.new _ _
  have hL := fun tm N => runsL f s h.next b hb h (Nat.le_refl _) hs hR (b - a + 1) a a tm (h.new (.cells (PM.ofList []) 0 23 0 0 .ex)) (.slice (some ⟨h.next, 0, none⟩) 0 0) [] N (by omega)
  simp only [Try.f39, symM, opFn, Nat.reduceLT, Nat.reduceBEq, bs_cx0]
  refine bind_loop (b := bodyRs) (P := fun x => ∃ v h', endF T0 39 x = some (v, h') ∧ Own h.next h' v (runsV (gapsG f (b - a) a a)) 23 ∧ Grow h.next h h') (hL _ _ (by omega) (by omega) (by simp) (by simp only [symM, Nat.reduceBEq]) (by simp only [symM, Nat.reduceBEq]) (by simp only [symM, Nat.reduceBEq]) (by simp only [symM, Nat.reduceBEq]) (by simp only [symM, Nat.reduceBEq]) (Own.empty _ _ (Nat.le_refl _) _ _) g1) ?_
  intro tm' h' ⟨v', p3, p4, p5⟩
  refine ⟨v', h', ?_, p4, p5⟩
  simp only [symM, opFn, Nat.reduceLT, Nat.reduceBEq, p3]
  exact retB_one ft39 rfl get_same
end
end Go.Proofs.Ytcpihpjphdlmfaa.Abs
