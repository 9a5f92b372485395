/- Choices: the tightest run. -/
import Derived.Test.YtcpihpjphdlmfaaRef
namespace Go.Proofs.Ytcpihpjphdlmfaa.Abs
open Go Go.Proofs
noncomputable section
theorem storeRow_of {h : AH} {b o m : Nat} {c : PM Value} {e : TypeId} {kd : BKind} {l : List Value} (hb : h.get b = some (.cells c m e 0 0 kd)) (hkd : kd ≠ .ro) (hm : o + l.length ≤ m) (hl : l.all oneCell = true) :
    storeRow b o l h = some (h.set b (.cells (storeN c o l) m e 0 0 kd)) := by
  have hw : writable o l.length m 0 0 = true := by
    unfold writable
    rw [Nat.ble_eq_true_of_le hm]; rfl
  simp only [storeRow, hb]
  cases kd with
  | ro => exact absurd rfl hkd
  | _ => simp only [hw, hl, Bool.and_self, ifB_true]
theorem boundA_k {k d m : Nat} (h : k ≤ m) : boundA (some (iv k)) d m = some k := by
  show (match natOf (iv (k : Int)) with | some j => ifB (Nat.ble j m) (some j) none | none => none) = _
  rw [show natOf (iv (k : Int)) = some k from rfl]
  simp only [Nat.ble_eq_true_of_le h, ifB_true]
/-- What lies behind k is cleared; what lies ahead of k is the slice. -/
theorem Own.cut {T : Tab} {t e : TypeId} {inf : TypeInfo} {z : Value} (ht : und T t = some (.slice e)) (hs : szOf T e = some 1) (hi : T.tt.get e = some inf) (hz : inf.zero = some z) (h1 : inf.size = 1) (hzc : z.cells = #[z]) (hz1 : oneCell z = true)
    {n : Nat} {h : AH} {v : Value} {l : List Value} (hv : Own n h v l e) (hl : l.length < 1000000) {k : Nat} (hk : k < l.length) :
    ∃ v2 h' v3, evSliceX T t v (some (iv k)) none none h = some (v2, h) ∧ (∀ ty, evBuiltin T .clear #[t] ty [v2] h = some (.value (.tuple #[]), h')) ∧ evSliceX T t v none (some (iv k)) none h' = some (v3, h') ∧ Row h'.next h' v3 (l.take k) e ∧ Grow n h h' := by
  rcases hv with ⟨rfl, rfl⟩ | ⟨b, c, kd, cap, q1, q2, rfl, q4, q5, q6⟩
  · simp at hk
  · have hkd : kd ≠ .ro := by rcases q6 with ⟨rfl, _⟩ | ⟨rfl, _⟩ <;> simp
    have hcap : capOf cap = l.length := by
      rcases q6 with ⟨_, rfl⟩ | ⟨_, rfl⟩
      · exact capOf_lt (by rw [XB_val]; omega)
      · exact capOf_ge _
    have hzs : (zeros z ((l.length - k) * inf.size)).length = l.length - k := by simp [zeros, h1]
    have hzo : (zeros z ((l.length - k) * inf.size)).all oneCell = true := by
      unfold zeros
      rw [List.all_eq_true]
      intro x hx
      rw [List.mem_map] at hx
      obtain ⟨j, _, rfl⟩ := hx
      rw [hzc]
      simp only [List.size_toArray, List.length_cons, List.length_nil, Nat.zero_add, Nat.mod_one]
      exact hz1
    have hbeq : Nat.beq l.length k = false := by
      cases hb : Nat.beq l.length k with
      | false => rfl
      | true => have := Nat.eq_of_beq_eq_true hb; omega
    have hst := storeRow_of (o := k) (l := zeros z ((l.length - k) * inf.size)) q4 hkd (by rw [hzs]; omega) hzo
    have hnx : (h.set b (.cells (storeN c k (zeros z ((l.length - k) * inf.size))) l.length e 0 0 kd)).next = h.next := rfl
    have hget : (h.set b (.cells (storeN c k (zeros z ((l.length - k) * inf.size))) l.length e 0 0 kd)).get b = some (.cells (storeN c k (zeros z ((l.length - k) * inf.size))) l.length e 0 0 kd) := by rw [AH.get_set, if_pos rfl]
    have hb1 : boundsA l.length l.length (some (iv k)) none none = some (k, l.length, l.length) := by
      unfold boundsA
      rw [show boundA none l.length l.length = some l.length from rfl]
      simp only [show boundA none l.length l.length = some l.length from rfl, boundA_k (d := 0) (Nat.le_of_lt hk)]
    have hb2 : boundsA l.length l.length none (some (iv k)) none = some (0, k, l.length) := by
      unfold boundsA
      rw [show boundA none l.length l.length = some l.length from rfl]
      simp only [boundA_k (d := l.length) (Nat.le_of_lt hk)]
      rfl
    have hclr : ∀ (cp : Nat) ty, evBuiltin T .clear #[t] ty [.slice (some ⟨b, 0 + k * 1, none⟩) (l.length - k) cp] h = some (.value (.tuple #[]), h.set b (.cells (storeN c k (zeros z ((l.length - k) * inf.size))) l.length e 0 0 kd)) := by
      intro cp ty
      show (match evClear T #[t] (.slice (some ⟨b, 0 + k * 1, none⟩) (l.length - k) cp) h with
        | some p => (some (Out.value p.1, p.2) : Res)
        | none => none) = _
      obtain ⟨r, hr⟩ : ∃ r, l.length - k = r + 1 := ⟨l.length - k - 1, by omega⟩
      unfold evClear
      simp only [show (#[t] : Array TypeId)[0]? = some t from rfl, ht, hi, hz]
      rw [hr] at hst ⊢
      simp only [show 0 + k * 1 = k by omega, hst]
    have hrow : ∀ cp, Row (h.set b (.cells (storeN c k (zeros z ((l.length - k) * inf.size))) l.length e 0 0 kd)).next (h.set b (.cells (storeN c k (zeros z ((l.length - k) * inf.size))) l.length e 0 0 kd)) (.slice (some ⟨b, 0, none⟩) k cp) (l.take k) e := by
      intro cp
      refine .inr ⟨b, 0, cp, _, l.length, 0, 0, kd, e, ?_, q2, hget, ?_, ?_⟩
      · rw [List.length_take, Nat.min_eq_left (Nat.le_of_lt hk)]
      · rw [List.length_take]; omega
      · intro i x hx
        rw [Nat.zero_add, storeN_get]
        have hi2 := (List.getElem?_eq_some_iff.1 hx).1
        rw [List.length_take] at hi2
        rw [if_neg (by omega)]
        rw [List.getElem?_take_of_lt (by omega)] at hx
        exact q5 i x hx
    rcases q6 with ⟨rfl, rfl⟩ | ⟨rfl, rfl⟩
    · have hx1 : Nat.ble XB l.length = false := ble_no (by rw [XB_val]; omega)
      refine ⟨.slice (some ⟨b, 0 + k * 1, none⟩) (l.length - k) (l.length - k), _, .slice (some ⟨b, 0, none⟩) k l.length, ?_, hclr _, ?_, hrow _, Grow.set h _ q1⟩
      · simp only [evSliceX, evSlice, ht, hs, evSliceS, hcap, hb1, Nat.ble_eq_true_of_le (Nat.le_refl l.length), ifB_true, hx1, ifB_false, offS, hbeq]
      · simp only [evSliceX, evSlice, ht, hs, evSliceS, hcap, hb2, Nat.ble_eq_true_of_le (Nat.le_of_lt hk), ifB_true, hx1, ifB_false, offS, Nat.sub_zero, Nat.zero_mul, Nat.add_zero]
        cases Nat.beq l.length 0 <;> rfl
    · have hx1 : Nat.ble XB (XB + l.length) = true := Nat.ble_eq_true_of_le (by omega)
      have hls : ∀ (c' : PM Value) (h' : AH), h'.get b = some (.cells c' l.length e 0 0 .loose) → looseSz T h' b 1 = true := by
        intro c' h' hg
        unfold looseSz
        simp only [hg, hs]
        rfl
      refine ⟨.slice (some ⟨b, 0 + k * 1, none⟩) (l.length - k) (XB + (l.length - k)), _, .slice (some ⟨b, 0, none⟩) k (XB + l.length), ?_, hclr _, ?_, hrow _, Grow.set h _ q1⟩
      · simp only [evSliceX, evSlice, ht, hs, evSliceS, hcap, hb1, Nat.ble_eq_true_of_le (Nat.le_refl l.length), ifB_true, hx1, hls _ _ q4, offS, hbeq, ifB_false]
      · simp only [evSliceX, evSlice, ht, hs, evSliceS, hcap, hb2, Nat.ble_eq_true_of_le (Nat.le_of_lt hk), ifB_true, hx1, hls _ _ hget, offS, Nat.sub_zero, Nat.zero_mul, Nat.add_zero]
        cases Nat.beq l.length 0 <;> rfl
theorem ft32 : T0.ft.get 32 = some Try.f32 := by kernel_rfl
theorem ft43 : T0.ft.get 43 = some Try.f43 := by kernel_rfl
theorem ft29 : T0.ft.get 29 = some Try.f29 := by kernel_rfl
theorem ft31 : T0.ft.get 31 = some Try.f31 := by kernel_rfl
variable {call : Abs.Callee}
set_option maxRecDepth 10000
theorem isNaN_S (x : Int) (hx : Abs.zok x = true) (h : AH) : frameB T0 X0 call 3000 43 [fl x] h = some (.bool false, h) := by
  have hne : ∀ p q, evBin T0 .neq 38 p q (fl x) (fl x) h = some (.bool false) := fun p q => by rw [f_neq hx hx, decide_eq_true rfl]; rfl
  rw [frameB_eq ft43 rfl rfl]
  simp only [Try.f43, symM, opFn, Nat.reduceLT, Nat.reduceBEq, hne]
  exact retB_one ft43 rfl get_same
def cmpZ (x y : Int) : Int := if x < y then -1 else if y < x then 1 else 0
theorem Compare_S (hN : ∀ (x : Int) h, Abs.zok x = true → call 43 [fl x] h = some (.bool false, h)) (x y : Int) (hx : Abs.zok x = true) (hy : Abs.zok y = true) (h : AH) : frameB T0 X0 call 3000 32 [fl x, fl y] h = some (iv (cmpZ x y), h) := by
  rw [frameB_eq ft32 rfl rfl]
  unfold cmpZ
  by_cases h1 : x < y
  · simp only [Try.f32, symM, opFn, Nat.reduceLT, Nat.reduceBEq, evCall_fn ft43 rfl, hN x _ hx, hN y _ hy, f_lss hx hy, decide_eq_true h1, if_pos h1]
    exact retB_one ft32 rfl get_same
  · by_cases h2 : y < x
    · simp only [Try.f32, symM, opFn, Nat.reduceLT, Nat.reduceBEq, evCall_fn ft43 rfl, hN x _ hx, hN y _ hy, f_lss hx hy, f_gtr hx hy, decide_eq_false h1, decide_eq_true h2, if_neg h1, if_pos h2]
      exact retB_one ft32 rfl get_same
    · simp only [Try.f32, symM, opFn, Nat.reduceLT, Nat.reduceBEq, evCall_fn ft43 rfl, hN x _ hx, hN y _ hy, f_lss hx hy, f_gtr hx hy, decide_eq_false h1, decide_eq_false h2, if_neg h1, if_neg h2]
      exact retB_one ft32 rfl get_same
theorem Tight1_S (x y n : Nat) (hx : x ≤ 1048576) (hy : y ≤ 1048576) (p : Value) (h : AH) (hb : Box h p (iv n)) : frameB T0 X0 call 3000 29 [cx x y, p] h = some (.bool (decide (y < n)), h) := by
  rw [frameB_eq ft29 rfl rfl]
  simp only [Try.f29, symM, opFn, Nat.reduceLT, Nat.reduceBEq, conv_f2i und_f64 und_int (zok_k (x := (y : Int)) (by omega)) (i64_range hy), hb.load, bin_lss]
  rw [show decide (y < n) = decide ((y : Int) < n) from decide_eq_decide.2 (by omega)]
  exact retB_one ft29 rfl get_same
theorem Tight2_S (hC : ∀ (x y : Int) h, Abs.zok x = true → Abs.zok y = true → call 32 [fl x, fl y] h = some (iv (cmpZ x y), h)) (x y u v : Int) (hy : Abs.zok y = true) (hv : Abs.zok v = true) (h : AH) :
    frameB T0 X0 call 3000 31 [cx x y, cx u v] h = some (iv (cmpZ y v), h) := by
  rw [frameB_eq ft31 rfl rfl]
  simp only [Try.f31, symM, opFn, Nat.reduceLT, Nat.reduceBEq, evCall_fn ft32 rfl, hC y v _ hy hv]
  exact retB_one ft31 rfl get_same
end
end Go.Proofs.Ytcpihpjphdlmfaa.Abs
namespace Go.Proofs.Ytcpihpjphdlmfaa.Abs
open Go Go.Proofs
noncomputable section
theorem ft28 : T0.ft.get 28 = some Try.f28 := by kernel_rfl
theorem ft30 : T0.ft.get 30 = some Try.f30 := by kernel_rfl
variable {call : Abs.Callee}
set_option maxRecDepth 10000
noncomputable def bodyDel : Code := part Try.f28 [1, 1, 1, 0, 1, 0, 0]
abbrev EDel : Env := ⟨28, 42, none⟩
theorem delL (Q : Value → Prop) (del : Value → Bool) (v : Value) (n0 : Nat) (h0 : AH) (g : Nat) (cap : List Value) (fd : Func) (c : Code) (hg : T0.ft.get g = some fd) (hgb : fd.body = some c) (len : Nat) (hlen : len < 900)
    (hcb : ∀ x h', Q x → Grow n0 h0 h' → call g (x :: cap) h' = some (.bool (del x), h')) :
    ∀ (rest : List Value) (i j : Nat) (Lc : List Value) (tm : PM Value) (h : AH) (N : Nat), Lc.length = len → Lc.drop j = rest → j + rest.length = len → i < j → rest.length + 30 ≤ N → (∀ x ∈ rest, oneCell x = true ∧ Q x) →
      tm.get 0 = some v → tm.get 1 = some (.func (.func g) #[] cap.toArray) → tm.get 5 = some (iv i) → tm.get 6 = some (iv j) → Own n0 h v Lc 23 → Grow n0 h0 h →
      ∃ tm' h', codeB T0 X0 call N EDel (.loop bodyDel) tm h [] = .jump (.exit 0) tm' h' [] ∧ ∃ i' Lc', tm'.get 0 = some v ∧ tm'.get 5 = some (iv (i' : Nat)) ∧ Own n0 h' v Lc' 23 ∧ Lc'.length = len ∧ i' < len ∧ Lc'.take i' = Lc.take i ++ rest.filter (fun x => !del x) ∧ Grow n0 h0 h' := by
  intro rest
  induction rest with
  | nil =>
    intro i j Lc tm h N hl hd hj hij hN hone g0 g1 g5 g6 hv hgr
    obtain ⟨N, rfl⟩ : ∃ a, N = a + 30 := ⟨N - 30, by simp at hN; omega⟩
    have hlt : decide ((j : Int) < (Lc.length : Nat)) = false := decide_eq_false (by simp at hj; omega)
    apply Exists.intro; apply Exists.intro; apply And.intro
    · rw [codeB_loop]
      simp only [bodyDel, part, Try.f28, sub, symM, opFn, Nat.reduceLT, Nat.reduceBEq, g0, g6, hv.row.len und_c128s, bin_lss, hlt]
      rfl
    · exact ⟨i, Lc, by simp only [symM, Nat.reduceBEq, g0], by simp only [symM, Nat.reduceBEq, g5], hv, hl, by simp at hj; omega, by simp, hgr⟩
  | cons x rest ih =>
    intro i j Lc tm h N hl hd hj hij hN hone g0 g1 g5 g6 hv hgr
    obtain ⟨N, rfl⟩ : ∃ a, N = a + 30 := ⟨N - 30, by simp at hN; omega⟩
    have hj2 : j < len := by simp at hj; omega
    have hlt : decide ((j : Int) < (Lc.length : Nat)) = true := decide_eq_true (by omega)
    have hx : Lc[j]? = some x := by have := congrArg (fun l => l[0]?) hd; simpa using this
    have hx1 := (hone x (List.mem_cons_self ..)).1
    have hxq := (hone x (List.mem_cons_self ..)).2
    have hwj : IntKind.i64.wrap ((j : Int) + 1) = ((j + 1 : Nat) : Int) := by rw [IntWalk.i64_in _ (by omega)]; simp
    have hwi : IntKind.i64.wrap ((i : Int) + 1) = ((i + 1 : Nat) : Int) := by rw [IntWalk.i64_in _ (by omega)]; simp
    obtain ⟨p, e1, e2⟩ := hv.row.at und_c128s sz_c128 agg_c128 hx
    have hcall := hcb x h hxq hgr
    have hdr : Lc.drop (j + 1) = rest := by rw [← List.drop_drop, hd]; rfl
    rw [show N + 30 = (N + 29) + 1 from rfl, codeB_loop]
    cases hb : del x with
    | true =>
      rw [hb] at hcall
      simp only [bodyDel, part, Try.f28, sub, symM, opFn, Nat.reduceLT, Nat.reduceBEq, g0, g1, g6, hv.row.len und_c128s, bin_lss, hlt, e1, e2, evCall_clo hg hgb, List.cons_append, List.nil_append, hcall, bin_add, hwj]
      have hf : (x :: rest).filter (fun x => !del x) = rest.filter (fun x => !del x) := by simp [hb]
      rw [hf]
      refine ih i (j + 1) Lc _ h (N + 29) hl hdr (by simp at hj ⊢; omega) (by omega) (by simp at hN ⊢; omega) (fun y hy => hone y (List.mem_cons_of_mem _ hy)) ?_ ?_ ?_ get_same hv hgr <;> simp only [symM, Nat.reduceBEq, g0, g1, g5]
    | false =>
      rw [hb] at hcall
      obtain ⟨y, hy⟩ : ∃ y, Lc[i]? = some y := ⟨_, List.getElem?_eq_getElem (by omega)⟩
      obtain ⟨p2, h2, s1, s2, s3, s4, s5⟩ := hv.store und_c128s sz_c128 (x := x) hx1 hy
      simp only [bodyDel, part, Try.f28, sub, symM, opFn, Nat.reduceLT, Nat.reduceBEq, g0, g1, g5, g6, hv.row.len und_c128s, bin_lss, hlt, e1, e2, evCall_clo hg hgb, List.cons_append, List.nil_append, hcall, s1, s2, bin_add, hwj, hwi]
      have hf : Lc.take i ++ (x :: rest).filter (fun x => !del x) = (Lc.set i x).take (i + 1) ++ rest.filter (fun x => !del x) := by
        have hi := (List.getElem?_eq_some_iff.1 hy).1
        rw [List.filter_cons_of_pos (by simp [hb]), List.take_add_one, List.getElem?_set_self hi, List.take_set_of_le (Nat.le_refl i)]
        simp
      rw [hf]
      refine ih (i + 1) (j + 1) (Lc.set i x) _ h2 (N + 29) (by simp [hl]) (by rw [List.drop_set_of_lt (by omega)]; exact hdr) (by simp at hj ⊢; omega) (by omega) (by simp at hN ⊢; omega) (fun y hy => hone y (List.mem_cons_of_mem _ hy)) ?_ ?_ ?_ get_same s3 (hgr.trans s4 (Nat.le_refl _)) <;> simp only [symM, Nat.reduceBEq, g0, g1]
theorem idxF_none (p : Value → Bool) : ∀ (l : List Value) (i : Nat), (idxF p l i = -1 ∧ ∀ x ∈ l, p x = false) ∨ ∃ j x, idxF p l i = ((i + j : Nat) : Int) ∧ l[j]? = some x ∧ p x = true ∧ ∀ y ∈ l.take j, p y = false := by
  intro l
  induction l with
  | nil => intro i; exact .inl ⟨rfl, by simp⟩
  | cons x l ih =>
    intro i
    cases hp : p x with
    | true => exact .inr ⟨0, x, by rw [idxF, hp]; rfl, rfl, hp, by simp⟩
    | false =>
      have he : idxF p (x :: l) i = idxF p l (i + 1) := by rw [idxF, hp]; rfl
      rw [he]
      rcases ih (i + 1) with ⟨e1, e2⟩ | ⟨j, y, e1, e2, e3, e4⟩
      · exact .inl ⟨e1, fun z hz => by rcases List.mem_cons.1 hz with rfl | hz; exact hp; exact e2 z hz⟩
      · refine .inr ⟨j + 1, y, by rw [e1]; congr 1; omega, by simpa using e2, e3, fun z hz => ?_⟩
        rw [List.take_succ_cons] at hz
        rcases List.mem_cons.1 hz with rfl | hz
        · exact hp
        · exact e4 z hz
theorem Delete_S (Q : Value → Prop) (del : Value → Bool) (v : Value) (L : List Value) (n0 : Nat) (h : AH) (g : Nat) (cap : List Value) (fd : Func) (c : Code) (hg : T0.ft.get g = some fd) (hgb : fd.body = some c) (hL : L.length < 900) (hone : ∀ x ∈ L, oneCell x = true ∧ Q x) (hv : Own n0 h v L 23)
    (hcb : ∀ x h', Q x → Grow n0 h h' → call g (x :: cap) h' = some (.bool (del x), h'))
    (hI : call 22 [v, .func (.func g) #[] cap.toArray] h = some (iv (idxF del L 0), h)) (hn0 : n0 ≤ h.next) :
    ∃ v' h', frameB T0 X0 call 3000 28 [v, .func (.func g) #[] cap.toArray] h = some (v', h') ∧ Row h'.next h' v' (L.filter fun x => !del x) 23 ∧ Grow n0 h h' := by
  rw [frameB_eq ft28 rfl rfl]
  rcases idxF_none del L 0 with ⟨e1, e2⟩ | ⟨j, x, e1, e2, e3, e4⟩
  · rw [e1] at hI
    refine ⟨v, h, ?_, ?_, Grow.refl _ _⟩
    · simp only [Try.f28, symM, opFn, Nat.reduceLT, Nat.reduceBEq, evCall_fn ft22 rfl, hI, bin_eql, show ((-1 : Int) == -1) = true from rfl]
      exact retB_one ft28 rfl get_same
    · rw [List.filter_eq_self.2 (fun x hx => by rw [e2 x hx]; rfl)]
      exact hv.row
  · rw [e1, Nat.zero_add] at hI
    have hj := (List.getElem?_eq_some_iff.1 e2).1
    have hjm : ((j : Int) == -1) = false := by simp
    have hw : IntKind.i64.wrap ((j : Int) + 1) = ((j + 1 : Nat) : Int) := by rw [IntWalk.i64_in _ (by omega)]; simp
    have hLp := fun tm N => delL (call := call) Q del v n0 h g cap fd c hg hgb L.length hL hcb (L.drop (j + 1)) j (j + 1) L tm h N rfl rfl (by simp; omega) (by omega)
    have hfil : L.filter (fun x => !del x) = L.take j ++ (L.drop (j + 1)).filter (fun x => !del x) := by
      have hs : L = L.take j ++ x :: L.drop (j + 1) := by
        have hx : L[j] = x := by have := List.getElem?_eq_getElem hj; rw [this] at e2; exact Option.some.inj e2
        rw [← hx, ← List.drop_eq_getElem_cons hj, List.take_append_drop]
      conv => lhs; rw [hs]
      rw [List.filter_append, List.filter_cons_of_neg (by simp [e3]), List.filter_eq_self.2 (fun y hy => by rw [e4 y hy]; rfl)]
    simp only [Try.f28, symM, opFn, Nat.reduceLT, Nat.reduceBEq, evCall_fn ft22 rfl, hI, bin_eql, hjm, bin_add, hw]
    refine bind_loop (b := bodyDel) (P := fun x => ∃ v' h', endF T0 28 x = some (v', h') ∧ Row h'.next h' v' (L.filter fun x => !del x) 23 ∧ Grow n0 h h') (hLp _ _ (by simp; omega) (fun y hy => hone y (List.mem_of_mem_drop hy)) (by simp only [symM, Nat.reduceBEq]) (by simp only [symM, Nat.reduceBEq]) (by simp only [symM, Nat.reduceBEq]) (by simp only [symM]) hv (Grow.refl _ _)) ?_
    intro tm2 h2 ⟨i', Lc', p0, p5, po, pl, pi, pt, pg⟩
    obtain ⟨v2, h3, v3, c1, c2, c3, c4, c5⟩ := po.cut und_c128s sz_c128 tt_c128 ti_c128.1 ti_c128.2.1 rfl rfl (by omega) (k := i') (by omega)
    refine ⟨v3, h3, ?_, by rw [hfil, ← pt]; exact c4, pg.trans c5 (Nat.le_refl _)⟩
    simp only [symM, opFn, Nat.reduceLT, Nat.reduceBEq, ev3, evOpt, p0, p5, c1, c2, c3]
    exact retB_one ft28 rfl get_same
/-- The first one of the shortest. -/
def minR : Nat × Nat → List (Nat × Nat) → Nat × Nat
  | m, [] => m
  | m, q :: l => minR (if q.2 < m.2 then q else m) l
noncomputable def bodyMin : Code := part Try.f30 [1, 1, 1, 0, 1, 0, 0]
abbrev EMin : Env := ⟨30, 33, none⟩
theorem minL (s : Value) (L : List (Nat × Nat)) (n0 : Nat) (h : AH) (hs : Row n0 h s (runsV L) 23) (hL : L.length < 900) (hruns : AllRuns L)
    (hc : ∀ (x y u v : Int) h, Abs.zok y = true → Abs.zok v = true → call 31 [cx x y, cx u v] h = some (iv (cmpZ y v), h)) :
    ∀ (l : List (Nat × Nat)) (i : Nat) (m : Nat × Nat) (tm : PM Value) (N : Nat), L.drop i = l → i + l.length = L.length → l.length + 30 ≤ N → m.2 ≤ 480 → tm.get 0 = some s → tm.get 1 = some (.func (.func 31) #[] #[]) → tm.get 5 = some (cx m.1 m.2) → tm.get 6 = some (iv i) →
      ∃ tm', codeB T0 X0 call N EMin (.loop bodyMin) tm h [] = .jump (.exit 0) tm' h [] ∧ tm'.get 5 = some (cx (minR m l).1 (minR m l).2) := by
  intro l
  induction l with
  | nil =>
    intro i m tm N hd hi hN hm g0 g1 g5 g6
    obtain ⟨N, rfl⟩ : ∃ a, N = a + 30 := ⟨N - 30, by simp at hN; omega⟩
    have hlt : decide ((i : Int) < ((runsV L).length : Nat)) = false := decide_eq_false (by simp [runsV] at hi ⊢; omega)
    apply Exists.intro; apply And.intro
    · rw [codeB_loop]
      simp only [bodyMin, part, Try.f30, sub, symM, opFn, Nat.reduceLT, Nat.reduceBEq, g0, g6, hs.len und_c128s, bin_lss, hlt]
      rfl
    · simp only [symM, Nat.reduceBEq, g5, minR]
  | cons q l ih =>
    intro i m tm N hd hi hN hm g0 g1 g5 g6
    obtain ⟨N, rfl⟩ : ∃ a, N = a + 30 := ⟨N - 30, by simp at hN; omega⟩
    have hlt : decide ((i : Int) < ((runsV L).length : Nat)) = true := decide_eq_true (by simp [runsV] at hi ⊢; omega)
    have hx : L[i]? = some q := by have := congrArg (fun l => l[0]?) hd; simpa using this
    have hq : 1 ≤ q.2 ∧ q.1 + q.2 ≤ 480 := by simpa [runOK] using hruns q (List.mem_of_getElem? hx)
    have hw : IntKind.i64.wrap ((i : Int) + 1) = ((i + 1 : Nat) : Int) := by rw [IntWalk.i64_in _ (by simp at hi; omega)]; simp
    have hxv : (runsV L)[i]? = some (cx q.1 q.2) := by simp [runsV, hx]
    obtain ⟨p, e1, e2⟩ := hs.at und_c128s sz_c128 agg_c128 hxv
    have hcc := hc q.1 q.2 m.1 m.2 h (zok_k (by omega)) (zok_k (by omega))
    rw [show N + 30 = (N + 29) + 1 from rfl, codeB_loop]
    by_cases hlt2 : q.2 < m.2
    · have hz : decide (cmpZ (q.2 : Int) m.2 < 0) = true := decide_eq_true (by unfold cmpZ; rw [if_pos (by omega)]; omega)
      simp only [bodyMin, part, Try.f30, sub, symM, opFn, Nat.reduceLT, Nat.reduceBEq, g0, g1, g5, g6, hs.len und_c128s, bin_lss, hlt, e1, e2, evCall_fn ft31 rfl, hcc, hz, bin_add, hw]
      rw [show minR m (q :: l) = minR q l from by rw [minR, if_pos hlt2]]
      refine ih (i + 1) q _ (N + 29) (by rw [← List.drop_drop, hd]; rfl) (by simp at hi ⊢; omega) (by simp at hN ⊢; omega) (by omega) ?_ ?_ ?_ get_same <;> simp only [symM, Nat.reduceBEq, g0, g1]
    · have hz : decide (cmpZ (q.2 : Int) m.2 < 0) = false := decide_eq_false (by unfold cmpZ; rw [if_neg (by omega)]; split <;> omega)
      simp only [bodyMin, part, Try.f30, sub, symM, opFn, Nat.reduceLT, Nat.reduceBEq, g0, g1, g5, g6, hs.len und_c128s, bin_lss, hlt, e1, e2, evCall_fn ft31 rfl, hcc, hz, bin_add, hw]
      rw [show minR m (q :: l) = minR m l from by rw [minR, if_neg hlt2]]
      refine ih (i + 1) m _ (N + 29) (by rw [← List.drop_drop, hd]; rfl) (by simp at hi ⊢; omega) (by simp at hN ⊢; omega) hm ?_ ?_ ?_ get_same <;> simp only [symM, Nat.reduceBEq, g0, g1, g5]
theorem Min_S (s : Value) (q : Nat × Nat) (l : List (Nat × Nat)) (n0 : Nat) (h : AH) (hs : Row n0 h s (runsV (q :: l)) 23) (hL : l.length < 800) (hruns : AllRuns (q :: l))
    (hc : ∀ (x y u v : Int) h, Abs.zok y = true → Abs.zok v = true → call 31 [cx x y, cx u v] h = some (iv (cmpZ y v), h)) :
    frameB T0 X0 call 3000 30 [s, .func (.func 31) #[] #[]] h = some (cx (minR q l).1 (minR q l).2, h) := by
  rw [frameB_eq ft30 rfl rfl]
  have hq : 1 ≤ q.2 ∧ q.1 + q.2 ≤ 480 := by simpa [runOK] using hruns q (List.mem_cons_self ..)
  have hlt : decide (((runsV (q :: l)).length : Nat) < (1 : Int)) = false := decide_eq_false (by simp [runsV]; omega)
  obtain ⟨p, e1, e2⟩ := hs.at und_c128s sz_c128 agg_c128 (i := 0) (x := cx q.1 q.2) rfl
  have e1' : evIndexAddr T0 29 s (iv 0) = some p := e1
  have hLp := fun tm N => minL (call := call) s (q :: l) n0 h hs (by simp; omega) hruns hc l 1 q tm N rfl (by simp; omega)
  simp only [Try.f30, symM, opFn, Nat.reduceLT, Nat.reduceBEq, hs.len und_c128s, bin_lss, hlt, e1', e2]
  refine bind_loop1 (b := bodyMin) (P := fun x => endF T0 30 x = some (cx (minR q l).1 (minR q l).2, h)) (hLp _ _ (by omega) (by omega) (by simp only [symM, Nat.reduceBEq]) (by simp only [symM, Nat.reduceBEq]) (by simp only [symM, Nat.reduceBEq]) (by simp only [symM]; rfl)) ?_
  intro tm2 p5
  simp only [symM, opFn, Nat.reduceLT, p5]
  exact retB_one ft30 rfl get_same
end
end Go.Proofs.Ytcpihpjphdlmfaa.Abs
namespace Go.Proofs.Ytcpihpjphdlmfaa.Abs
open Go Go.Proofs
noncomputable section
theorem ft12 : T0.ft.get 12 = some Try.f12 := by kernel_rfl
theorem ft13 : T0.ft.get 13 = some Try.f13 := by kernel_rfl
variable {call : Abs.Callee}
set_option maxRecDepth 10000
def longs (l : List (Nat × Nat)) (n : Nat) : List (Nat × Nat) := l.filter fun p => decide (n ≤ p.2)
def tightV (l : List (Nat × Nat)) (n : Nat) : Value := match longs l n with
  | [] => .tuple #[.complex .f64 0 0, iv 6]
  | q :: r => .tuple #[cx (minR q r).1 n, iv 0]
def tightR (bs : List Nat) (n a b : Int) : Value := if gapE bs.length n a b = 0 then tightV (gapG bs n a b) n.toNat else .tuple #[.complex .f64 0 0, iv (gapE bs.length n a b)]
theorem minR_mem : ∀ (l : List (Nat × Nat)) (m : Nat × Nat), minR m l ∈ m :: l := by
  intro l
  induction l with
  | nil => intro m; exact List.mem_singleton.2 rfl
  | cons q l ih =>
    intro m
    rw [minR]
    have := ih (if q.2 < m.2 then q else m)
    split at this <;> rcases List.mem_cons.1 this with h | h
    · rw [if_pos (by assumption)]; rw [h]; simp
    · rw [if_pos (by assumption)]; simp [h]
    · rw [if_neg (by assumption)]; rw [h]; simp
    · rw [if_neg (by assumption)]; simp [h]
theorem longs_runs {l : List (Nat × Nat)} (n : Nat) (h : AllRuns l) : AllRuns (longs l n) := fun p hp => h p ((List.mem_filter.1 hp).1)
theorem longs_ge {l : List (Nat × Nat)} {n : Nat} {p : Nat × Nat} (h : p ∈ longs l n) : n ≤ p.2 := by
  have := (List.mem_filter.1 h).2
  simpa using this
theorem plan_Tight : planB (regOps Try.f12 [1, 1, 1, 1, 1, 0]) 33 = some ([.one 0, .one 2, .eff [] 1 [2], .eff [] 3 [], .one 4, .one 5], []) := by kernel_rfl
theorem Tight_S (bs : List Nat) (m : Value) (h : AH) (n a b : Int) (hm : Row h.next h m (bytesV bs) 5)
    (hG : ∀ h2, Row h2.next h2 m (bytesV bs) 5 → ∃ v h', call 21 [m, iv n, iv a, iv b] h2 = some (.tuple #[v, iv (gapE bs.length n a b)], h') ∧ Own h2.next h' v (runsV (gapG bs n a b)) 23 ∧ Grow h2.next h2 h')
    (hD : ∀ (v : Value) (l : List (Nat × Nat)) (n0 : Nat) (h : AH) (n : Nat) (q : Value), Own n0 h v (runsV l) 23 → l.length < 900 → AllRuns l → n0 ≤ h.next → (∀ h', Grow n0 h h' → Box h' q (iv n)) →
      ∃ v' h', call 28 [v, .func (.func 29) #[] #[q]] h = some (v', h') ∧ Row h'.next h' v' (runsV (longs l n)) 23 ∧ Grow n0 h h')
    (hM : ∀ (s : Value) (q : Nat × Nat) (l : List (Nat × Nat)) (n0 : Nat) (h : AH), Row n0 h s (runsV (q :: l)) 23 → l.length < 800 → AllRuns (q :: l) → call 30 [s, .func (.func 31) #[] #[]] h = some (cx (minR q l).1 (minR q l).2, h))
    (hb : ∀ (x y n : Nat) (h : AH), runOK x y = true → n ≤ y → 1 ≤ n → call 24 [cx x y, iv n] h = some (cx x n, h)) :
    ∃ h', frameB T0 X0 call 3000 12 [m, iv n, iv a, iv b] h = some (tightR bs n a b, h') ∧ Grow h.next h h' := by
  generalize hh1 : h.new (.cells (PM.ofList [iv n]) 1 3 0 0 .ex) = h1
  have g1 : Grow h.next h h1 := by rw [← hh1]; exact Grow.new _ _
  have hnx : h.next < h1.next := by rw [← hh1]; exact Nat.lt_succ_self _
  have hm1 : Row h1.next h1 m (bytesV bs) 5 := (hm.grow g1 (Nat.le_refl _)).more (Nat.le_of_lt hnx)
  obtain ⟨v, h2, e1, e2, e3⟩ := hG h1 hm1
  have hbox : ∀ h', Grow h1.next h1 h' → Box h' (.pointer (some ⟨h.next, 0, none⟩)) (iv n) := fun h' g => ⟨h.next, PM.ofList [iv n], 3, rfl, by rw [g.keep _ hnx, ← hh1]; exact get_new_same _ _, by rw [PM.get_ofList]; rfl⟩
  have g2 : Grow h.next h h2 := g1.trans e3 (Nat.le_of_lt hnx)
  have hbx := hbox h1 (Grow.refl _ _)
  rw [frameB_eq ft12 rfl rfl]
  unfold tightR
  by_cases hE : gapE bs.length n a b = 0
  · have hn : 1 ≤ n ∧ n ≤ 480 := by
      unfold gapE at hE
      split at hE
      · split at hE
        · cases hE
        · omega
      · rename_i q; exact absurd hE q
    obtain ⟨n, rfl⟩ : ∃ k : Nat, n = k := ⟨n.toNat, by omega⟩
    rw [hE, if_pos rfl]
    have hruns := gapG_runs bs (n : Int) a b
    have hln := gapG_len bs (n : Int) a b
    obtain ⟨v3, h3, d1, d2, d3⟩ := hD v (gapG bs (n : Int) a b) h1.next h2 n (.pointer (some ⟨h.next, 0, none⟩)) e2 (by omega) hruns e3.next (fun h' g => hbox h' (e3.trans g (Nat.le_refl _)))
    have hdel : evCall T0 X0 (.func (.func 28) #[] #[]) [v, .func (.func 29) #[] [.pointer (some ⟨h.next, 0, none⟩)].toArray] h2 = some (.enter 28 [v, .func (.func 29) #[] #[.pointer (some ⟨h.next, 0, none⟩)]], h2) := evCall_fn ft28 rfl
    refine ⟨h3, ?_, g2.trans (d3.less (Nat.le_of_lt hnx)) (Nat.le_refl _)⟩
    have ht : ((n : Int)).toNat = n := rfl
    have hbox3 := hbox h3 (e3.trans d3 (Nat.le_refl _))
    unfold tightV
    rw [ht]
    cases hl : longs (gapG bs (n : Int) a b) n with
    | nil =>
      rw [hl] at d2
      have hz : (((runsV []).length : Nat) : Int) == 0 := rfl
      simp only [Try.f12, symM, opFn, Nat.reduceLT, Nat.reduceBEq, box_one (v := iv (n : Int)) rfl, hh1, hbx.load, evCall_fn ft21 rfl, e1, hE, bin_neq, show ((0 : Int) == 0) = true from rfl, hdel, d1, d2.len und_c128s, bin_eql, show ((((runsV []).length : Nat) : Int) == 0) = true from rfl]
      exact retB_two ft12 rfl (by simp only [symM, Nat.reduceBEq]) get_same
    | cons q r =>
      rw [hl] at d2
      have hr2 : AllRuns (q :: r) := by rw [← hl]; exact longs_runs n hruns
      have hlen : r.length < 800 := by
        have h9 : (longs (gapG bs (n : Int) a b) n).length ≤ (gapG bs (n : Int) a b).length := List.length_filter_le _ _
        rw [hl] at h9
        simp at h9
        omega
      have hmem := minR_mem r q
      have hge : n ≤ (minR q r).2 := longs_ge (l := gapG bs (n : Int) a b) (by rw [hl]; exact hmem)
      have hmin := hM v3 q r _ h3 d2 hlen hr2
      have hbg := hb (minR q r).1 (minR q r).2 n h3 (hr2 _ hmem) hge (by omega)
      have hz : ((((runsV (q :: r)).length : Nat) : Int) == 0) = false := by simp [runsV]; omega
      have hp := plan_Tight
      simp only [regOps, part, Try.f12, sub] at hp
      simp only [Try.f12, symM, opFn, Nat.reduceLT, Nat.reduceBEq, box_one (v := iv (n : Int)) rfl, hh1, hbx.load, evCall_fn ft21 rfl, e1, hE, bin_neq, show ((0 : Int) == 0) = true from rfl, hdel, d1, d2.len und_c128s, bin_eql, hz, codeB_draw]
      rw [draw_plan hp rfl]
      simp only [drawAll, opFn, Nat.reduceBEq, effE_cons, hbox3.load, evCall_fn ft30 rfl, hmin, evCall_fn ft24 rfl, hbg]
      exact retB_two ft12 rfl (by simp only [symM, Nat.reduceBEq]) get_same
  · rw [if_neg hE]
    refine ⟨h2, ?_, g2⟩
    have hb0 : (gapE bs.length n a b == 0) = false := by simpa using hE
    simp only [Try.f12, symM, opFn, Nat.reduceLT, Nat.reduceBEq, box_one (v := iv n) rfl, hh1, hbx.load, evCall_fn ft21 rfl, e1, bin_neq, hb0]
    exact retB_two ft12 rfl (by simp only [symM, Nat.reduceBEq]) get_same
end
end Go.Proofs.Ytcpihpjphdlmfaa.Abs
namespace Go.Proofs.Ytcpihpjphdlmfaa.Abs
open Go Go.Proofs
noncomputable section
variable {call : Abs.Callee}
set_option maxRecDepth 10000
def bestO (n : Nat) : Option (Nat × Nat) → List (Nat × Nat) → Option (Nat × Nat)
  | o, [] => o
  | none, q :: l => bestO n (if n ≤ q.2 then some q else none) l
  | some m, q :: l => bestO n (if n ≤ q.2 ∧ q.2 < m.2 then some q else some m) l
theorem bestO_some (n : Nat) : ∀ (l : List (Nat × Nat)) (m : Nat × Nat), bestO n (some m) l = some (minR m (longs l n)) := by
  intro l
  induction l with
  | nil => intro m; rfl
  | cons q l ih =>
    intro m
    rw [bestO]
    unfold longs
    by_cases h1 : n ≤ q.2
    · rw [List.filter_cons_of_pos (by simpa using h1), minR]
      by_cases h2 : q.2 < m.2
      · rw [if_pos ⟨h1, h2⟩, if_pos h2, ih]; rfl
      · rw [if_neg (fun h => h2 h.2), if_neg h2, ih]; rfl
    · rw [List.filter_cons_of_neg (by simpa using h1), if_neg (fun h => h1 h.1), ih]; rfl
theorem bestO_none (n : Nat) : ∀ (l : List (Nat × Nat)), bestO n none l = match longs l n with
    | [] => none
    | q :: r => some (minR q r) := by
  intro l
  induction l with
  | nil => rfl
  | cons q l ih =>
    rw [bestO]
    unfold longs
    by_cases h1 : n ≤ q.2
    · rw [List.filter_cons_of_pos (by simpa using h1), if_pos h1, bestO_some]; rfl
    · rw [List.filter_cons_of_neg (by simpa using h1), if_neg h1, ih]; rfl
theorem plan_rTight : planB (regOps Try.f13 [1, 1, 1, 1, 0, 1, 0, 0, 1, 0, 0, 0]) 64 = some ([.one 0, .one 1, .one 2, .one 3, .one 5, .eff [] 4 [5], .one 6, .one 7, .one 8, .one 9, .one 10, .one 11, .one 12, .one 13, .one 14, .one 16, .one 17, .one 18, .one 19, .eff [] 15 [16, 17, 18, 19], .eff [] 20 [], .one 21, .one 22, .one 23], []) := by kernel_rfl
def againU : Option Value → Bool
  | some u => eqV u undef
  | none => false
theorem againU_undef : againU (some undef) = true := rfl
theorem againW_false {T : Tab} {X : Exts} {d : Nat} {op : Op} {ty : TypeId} {tm : PM Value} {h : AH} : againW T X d op ty tm h (some false) = againU (tm.get d) := by
  unfold againW againU
  cases tm.get d <;> rfl
noncomputable def bodyRT : Code := part Try.f13 [1, 1, 1, 1, 0, 1, 0, 0]
abbrev ERT : Env := ⟨13, 64, none⟩
/-- Where the best one lies. -/
def bestAt (L : List (Nat × Nat)) (o : Option (Nat × Nat)) (b : Int) : Prop := match o with
  | none => b = -1
  | some m => ∃ k : Nat, b = k ∧ L[k]? = some m
set_option maxHeartbeats 4000000 in
theorem rtightL (L : List (Nat × Nat)) (n : Nat) (s : Value) (n0 : Nat) (h0 : AH) (hs0 : Own n0 h0 s (runsV L) 23) (hL : L.length ≤ 481) (hruns : AllRuns L)
    (hsz : ∀ (x y : Nat) (h : AH), x ≤ 1048576 → y ≤ 1048576 → ∃ h', call 26 [cx x y] h = some (iv y, h') ∧ Grow h.next h h') :
    ∀ (l : List (Nat × Nat)) (i : Nat) (o : Option (Nat × Nat)) (b : Int) (tm : PM Value) (h : AH) (N : Nat), L.drop i = l → i + l.length = L.length → l.length + 30 ≤ N → bestAt L o b → tm.get 1 = some (iv n) → tm.get 10 = some s → tm.get 12 = some (iv b) → tm.get 13 = some (iv i) → Grow h0.next h0 h →
      ∃ tm' h', codeB T0 X0 call N ERT (.loop bodyRT) tm h [] = .jump (.exit 0) tm' h' [] ∧ (Grow h0.next h0 h' ∧ tm'.get 1 = some (iv n) ∧ tm'.get 10 = some s ∧ ∃ b', bestAt L (bestO n o l) b' ∧ tm'.get 12 = some (iv b')) := by
  intro l
  induction l with
  | nil =>
    intro i o b tm h N hd hi hN hb g1 g10 g12 g13 hg
    obtain ⟨N, rfl⟩ : ∃ a, N = a + 30 := ⟨N - 30, by simp at hN; omega⟩
    have hs := (hs0.grow hg).row
    have hlt : decide ((i : Int) < ((runsV L).length : Nat)) = false := decide_eq_false (by simp [runsV] at hi ⊢; omega)
    apply Exists.intro; apply Exists.intro; apply And.intro
    · rw [codeB_loop]
      simp only [bodyRT, part, Try.f13, sub, symM, opFn, Nat.reduceLT, Nat.reduceBEq, g10, g13, hs.len und_c128s, bin_lss, hlt]
      rfl
    · refine ⟨hg, by simp only [symM, Nat.reduceBEq, g1], by simp only [symM, Nat.reduceBEq, g10], b, ?_, by simp only [symM, Nat.reduceBEq, g12]⟩
      cases o <;> exact hb
  | cons q l ih =>
    intro i o b tm h N hd hi hN hb g1 g10 g12 g13 hg
    obtain ⟨N, rfl⟩ : ∃ a, N = a + 30 := ⟨N - 30, by simp at hN; omega⟩
    have hs := (hs0.grow hg).row
    have hlt : decide ((i : Int) < ((runsV L).length : Nat)) = true := decide_eq_true (by simp [runsV] at hi ⊢; omega)
    have hx : L[i]? = some q := by have := congrArg (fun l => l[0]?) hd; simpa using this
    have hq : 1 ≤ q.2 ∧ q.1 + q.2 ≤ 480 := by simpa [runOK] using hruns q (List.mem_of_getElem? hx)
    have hw : IntKind.i64.wrap ((i : Int) + 1) = ((i + 1 : Nat) : Int) := by rw [IntWalk.i64_in _ (by simp at hi; omega)]; simp
    have hxv : (runsV L)[i]? = some (cx q.1 q.2) := by simp [runsV, hx]
    obtain ⟨p, e1, e2⟩ := hs.at und_c128s sz_c128 agg_c128 hxv
    obtain ⟨h1, z1, z2⟩ := hsz q.1 q.2 h (by omega) (by omega)
    have hg1 : Grow h0.next h0 h1 := hg.trans z2 hg.next
    have hs1 := (hs0.grow hg1).row
    have hp := plan_rTight
    simp only [regOps, part, Try.f13, sub] at hp
    rw [show N + 30 = (N + 29) + 1 from rfl, codeB_loop]
    by_cases hc : n ≤ q.2
    · cases o with
      | none =>
        cases hb
        rw [show bestO n none (q :: l) = bestO n (some q) l from by rw [bestO, if_pos hc]]
        simp only [bodyRT, part, Try.f13, sub, symM, opFn, Nat.reduceLT, Nat.reduceBEq, g10, g13, hs.len und_c128s, bin_lss, hlt, codeB_draw]
        rw [draw_plan hp rfl]
        simp only [drawAll, opFn, Nat.reduceLT, Nat.reduceBEq, g1, g10, g12, g13, e1, e2, evCall_fn ft26 rfl, z1, effE_cons, bin_geq, bin_lss, bin_add, hw, againW_false, againU_undef, decide_eq_true (show (n : Int) ≤ (q.2 : Nat) by omega), show decide ((-1 : Int) < 0) = true from rfl]
        refine ih (i + 1) (some q) i _ h1 (N + 29) (by rw [← List.drop_drop, hd]; rfl) (by simp at hi ⊢; omega) (by simp at hN ⊢; omega) ⟨i, rfl, hx⟩ ?_ ?_ ?_ get_same hg1 <;> simp only [symM, Nat.reduceBEq, g1, g10]
      | some m =>
        obtain ⟨k, rfl, hk⟩ := hb
        have hm : 1 ≤ m.2 ∧ m.1 + m.2 ≤ 480 := by simpa [runOK] using hruns m (List.mem_of_getElem? hk)
        have hkv : (runsV L)[k]? = some (cx m.1 m.2) := by simp [runsV, hk]
        obtain ⟨p', e1', e2'⟩ := hs1.at und_c128s sz_c128 agg_c128 hxv
        rw [e1] at e1'; cases e1'
        obtain ⟨pk, k1, k2, k5⟩ := hs1.at3 und_c128s sz_c128 agg_c128 hkv
        obtain ⟨h2, y1, y2⟩ := hsz q.1 q.2 h1 (by omega) (by omega)
        have hg2 : Grow h0.next h0 h2 := hg1.trans y2 hg1.next
        have hs2 := (hs0.grow hg2).row
        obtain ⟨pk2, k3, k4⟩ := hs2.at und_c128s sz_c128 agg_c128 hkv
        rw [k1] at k3; cases k3
        obtain ⟨h3, x1, x2⟩ := hsz m.1 m.2 h2 (by omega) (by omega)
        have hg3 : Grow h0.next h0 h3 := hg2.trans x2 hg2.next
        have hk0 : decide ((k : Int) < 0) = false := decide_eq_false (by omega)
        by_cases hlm : q.2 < m.2
        · rw [show bestO n (some m) (q :: l) = bestO n (some q) l from by rw [bestO, if_pos ⟨hc, hlm⟩]]
          simp only [bodyRT, part, Try.f13, sub, symM, opFn, Nat.reduceLT, Nat.reduceBEq, g10, g13, hs.len und_c128s, bin_lss, hlt, codeB_draw]
          rw [draw_plan hp rfl]
          simp only [drawAll, opFn, Nat.reduceLT, Nat.reduceBEq, g1, g10, g12, g13, e1, e2, evCall_fn ft26 rfl, z1, effE_cons, bin_geq, bin_lss, bin_add, hw, k1, k2, k4, k5, e2', y1, x1, hs0.eqv, decide_eq_true (show (n : Int) ≤ (q.2 : Nat) by omega), hk0, decide_eq_true (show (q.2 : Int) < (m.2 : Nat) by omega)]
          refine ih (i + 1) (some q) i _ h3 (N + 29) (by rw [← List.drop_drop, hd]; rfl) (by simp at hi ⊢; omega) (by simp at hN ⊢; omega) ⟨i, rfl, hx⟩ ?_ ?_ ?_ get_same hg3 <;> simp only [symM, Nat.reduceBEq, g1, g10]
        · rw [show bestO n (some m) (q :: l) = bestO n (some m) l from by rw [bestO, if_neg (fun h => hlm h.2)]]
          simp only [bodyRT, part, Try.f13, sub, symM, opFn, Nat.reduceLT, Nat.reduceBEq, g10, g13, hs.len und_c128s, bin_lss, hlt, codeB_draw]
          rw [draw_plan hp rfl]
          simp only [drawAll, opFn, Nat.reduceLT, Nat.reduceBEq, g1, g10, g12, g13, e1, e2, evCall_fn ft26 rfl, z1, effE_cons, bin_geq, bin_lss, bin_add, hw, k1, k2, k4, k5, e2', y1, x1, hs0.eqv, decide_eq_true (show (n : Int) ≤ (q.2 : Nat) by omega), hk0, decide_eq_false (show ¬ (q.2 : Int) < (m.2 : Nat) by omega)]
          refine ih (i + 1) (some m) k _ h3 (N + 29) (by rw [← List.drop_drop, hd]; rfl) (by simp at hi ⊢; omega) (by simp at hN ⊢; omega) ⟨k, rfl, hk⟩ ?_ ?_ ?_ get_same hg3 <;> simp only [symM, Nat.reduceBEq, g1, g10, g12]
    · have ho : bestO n o (q :: l) = bestO n o l := by
        cases o with
        | none => rw [bestO, if_neg hc]
        | some m => rw [bestO, if_neg (fun h => hc h.1)]
      rw [ho]
      simp only [bodyRT, part, Try.f13, sub, symM, opFn, Nat.reduceLT, Nat.reduceBEq, g10, g13, hs.len und_c128s, bin_lss, hlt, codeB_draw]
      rw [draw_plan hp rfl]
      simp only [drawAll, opFn, Nat.reduceLT, Nat.reduceBEq, g1, g10, g13, e1, e2, evCall_fn ft26 rfl, z1, effE_cons, bin_geq, bin_add, hw, againW_false, againU_undef, decide_eq_false (show ¬ (n : Int) ≤ (q.2 : Nat) by omega)]
      refine ih (i + 1) o b _ h1 (N + 29) (by rw [← List.drop_drop, hd]; rfl) (by simp at hi ⊢; omega) (by simp at hN ⊢; omega) hb ?_ ?_ ?_ get_same hg1 <;> simp only [symM, Nat.reduceBEq, g1, g10, g12]
theorem rTight_S (bs : List Nat) (m : Value) (h : AH) (n a b : Int)
    (hG : ∃ v h', call 25 [m, iv n, iv a, iv b] h = some (.tuple #[v, iv (gapE bs.length n a b)], h') ∧ Own h.next h' v (runsV (downG bs a b)) 23 ∧ Grow h.next h h')
    (hsz : ∀ (x y : Nat) (h : AH), x ≤ 1048576 → y ≤ 1048576 → ∃ h', call 26 [cx x y] h = some (iv y, h') ∧ Grow h.next h h')
    (hb : ∀ (x y n : Nat) (h : AH), x ≤ 1048576 → y ≤ 1048576 → n ≤ 1048576 → 1 ≤ n → ∃ h', call 27 [cx x y, iv n] h = some (cx x n, h') ∧ Grow h.next h h') :
    ∃ h', frameB T0 X0 call 3000 13 [m, iv n, iv a, iv b] h = some (tightR bs n a b, h') ∧ Grow h.next h h' := by
  obtain ⟨v, h1, e1, e2, e3⟩ := hG
  rw [frameB_eq ft13 rfl rfl]
  unfold tightR
  by_cases hE : gapE bs.length n a b = 0
  · have hn : 1 ≤ n ∧ n ≤ 480 := by
      unfold gapE at hE
      split at hE
      · split at hE
        · cases hE
        · omega
      · rename_i q; exact absurd hE q
    obtain ⟨n, rfl⟩ : ∃ k : Nat, n = k := ⟨n.toNat, by omega⟩
    rw [hE, if_pos rfl]
    have hGD : gapG bs (n : Int) a b = downG bs a b := by unfold gapG; rw [hE]; rfl
    have hln := downG_len bs a b
    have hL := fun tm N => rtightL (call := call) (downG bs a b) n v h.next h1 e2 hln (downG_runs bs a b) hsz (downG bs a b) 0 none (-1) tm h1 N rfl (by simp)
    simp only [Try.f13, symM, opFn, Nat.reduceLT, Nat.reduceBEq, evCall_fn ft25 rfl, e1, hE, bin_neq, show ((0 : Int) == 0) = true from rfl]
    refine bind_loop (b := bodyRT) (P := fun x => ∃ h', endF T0 13 x = some (tightV (gapG bs (n : Int) a b) n, h') ∧ Grow h.next h h') (hL _ _ (by omega) rfl (by simp only [symM, Nat.reduceBEq]) (by simp only [symM, Nat.reduceBEq]) (by simp only [symM, Nat.reduceBEq]) (by simp only [symM]; rfl) (Grow.refl _ _)) ?_
    intro tm2 h2 ⟨g, p1, p10, b', hb', p12⟩
    rw [bestO_none] at hb'
    unfold tightV
    rw [hGD]
    have hg2 : Grow h.next h h2 := e3.trans g e3.next
    cases hl : longs (downG bs a b) n with
    | nil =>
      rw [hl] at hb'
      cases hb'
      refine ⟨h2, ?_, hg2⟩
      simp only [symM, opFn, Nat.reduceLT, p12, bin_lss, show decide ((-1 : Int) < 0) = true from rfl]
      exact retB_two ft13 rfl (by simp only [symM, Nat.reduceBEq]) get_same
    | cons q r =>
      rw [hl] at hb'
      obtain ⟨k, rfl, hk⟩ := hb'
      have hmem := minR_mem r q
      have hge : n ≤ (minR q r).2 := longs_ge (l := downG bs a b) (by rw [hl]; exact hmem)
      have hm : 1 ≤ (minR q r).2 ∧ (minR q r).1 + (minR q r).2 ≤ 480 := by simpa [runOK] using downG_runs bs a b _ (List.mem_of_getElem? hk)
      have hkv : (runsV (downG bs a b))[k]? = some (cx (minR q r).1 (minR q r).2) := by simp [runsV, hk]
      obtain ⟨p, k1, k2⟩ := ((e2.grow g).row).at und_c128s sz_c128 agg_c128 hkv
      obtain ⟨h3, b1, b2⟩ := hb (minR q r).1 (minR q r).2 n h2 (by omega) (by omega) (by omega) (by omega)
      refine ⟨h3, ?_, hg2.trans b2 hg2.next⟩
      simp only [symM, opFn, Nat.reduceLT, Nat.reduceBEq, p1, p10, p12, bin_lss, decide_eq_false (show ¬ (k : Int) < 0 by omega), k1, k2, evCall_fn ft27 rfl, b1]
      exact retB_two ft13 rfl (by simp only [symM, Nat.reduceBEq]) get_same
  · rw [if_neg hE]
    refine ⟨h1, ?_, e3⟩
    have hb0 : (gapE bs.length n a b == 0) = false := by simpa using hE
    simp only [Try.f13, symM, opFn, Nat.reduceLT, Nat.reduceBEq, evCall_fn ft25 rfl, e1, bin_neq, hb0]
    exact retB_two ft13 rfl (by simp only [symM, Nat.reduceBEq]) get_same
end
end Go.Proofs.Ytcpihpjphdlmfaa.Abs
namespace Go.Proofs.Ytcpihpjphdlmfaa.Abs
open Go Go.Proofs
noncomputable section
theorem ft4 : T0.ft.get 4 = some Try.f4 := by kernel_rfl
set_option maxRecDepth 10000
theorem runQ {p : Nat × Nat} (h : runOK p.1 p.2 = true) : 1 ≤ p.2 ∧ p.1 + p.2 ≤ 480 := by simpa [runOK] using h
theorem s_Tight1 (d : Nat) (hd : 1 ≤ d) (x y n : Nat) (p : Value) (h : AH) (hx : x ≤ 1048576) (hy : y ≤ 1048576) (hb : Box h p (iv n)) : C d 29 [cx x y, p] h = some (.bool (decide (y < n)), h) := by
  obtain ⟨e, rfl, he⟩ := at1 hd
  rw [C_f rfl]; exact Tight1_S x y n hx hy p h hb
theorem s_isNaN (d : Nat) (hd : 1 ≤ d) (x : Int) (h : AH) (hx : Abs.zok x = true) : C d 43 [fl x] h = some (.bool false, h) := by
  obtain ⟨e, rfl, he⟩ := at1 hd
  rw [C_f rfl]; exact isNaN_S x hx h
theorem s_Compare (d : Nat) (hd : 2 ≤ d) (x y : Int) (h : AH) (hx : Abs.zok x = true) (hy : Abs.zok y = true) : C d 32 [fl x, fl y] h = some (iv (cmpZ x y), h) := by
  obtain ⟨e, rfl, he⟩ := at1 hd
  rw [C_f rfl]; exact Compare_S (fun x h hx => s_isNaN e he x h hx) x y hx hy h
theorem s_Tight2 (d : Nat) (hd : 3 ≤ d) (x y u v : Int) (h : AH) (hy : Abs.zok y = true) (hv : Abs.zok v = true) : C d 31 [cx x y, cx u v] h = some (iv (cmpZ y v), h) := by
  obtain ⟨e, rfl, he⟩ := at1 hd
  rw [C_f rfl]; exact Tight2_S (fun x y h hx hy => s_Compare e he x y h hx hy) x y u v hy hv h
theorem longs_filter (n : Nat) : ∀ (l : List (Nat × Nat)), AllRuns l → (runsV l).filter (fun x => !(!geP n x)) = runsV (longs l n) := by
  intro l
  induction l with
  | nil => intro _; rfl
  | cons q l ih =>
    intro h
    have hq := runQ (h q (List.mem_cons_self ..))
    have hg := geP_cx n q.1 q.2 (by omega)
    have ih2 := ih (fun p hp => h p (List.mem_cons_of_mem _ hp))
    show (cx q.1 q.2 :: runsV l).filter _ = _
    unfold longs
    by_cases h1 : n ≤ q.2
    · rw [List.filter_cons_of_pos (by rw [hg]; simpa using h1), List.filter_cons_of_pos (by simpa using h1), ih2]; rfl
    · rw [List.filter_cons_of_neg (by rw [hg]; simpa using h1), List.filter_cons_of_neg (by simpa using h1), ih2]; rfl
theorem s_Delete (d : Nat) (hd : 3 ≤ d) (v : Value) (l : List (Nat × Nat)) (n0 : Nat) (h : AH) (n : Nat) (q : Value) (hv : Own n0 h v (runsV l) 23) (hl : l.length < 900) (hr : AllRuns l) (hn0 : n0 ≤ h.next) (hb : ∀ h', Grow n0 h h' → Box h' q (iv n)) :
    ∃ v' h', C d 28 [v, .func (.func 29) #[] #[q]] h = some (v', h') ∧ Row h'.next h' v' (runsV (longs l n)) 23 ∧ Grow n0 h h' := by
  obtain ⟨e, rfl, he⟩ := at1 hd
  obtain ⟨e2, rfl, he2⟩ := at1 he
  have hone : ∀ x ∈ runsV l, oneCell x = true ∧ ∃ p : Nat × Nat, x = cx p.1 p.2 ∧ runOK p.1 p.2 = true := by
    intro x hx
    simp only [runsV, List.mem_map] at hx
    obtain ⟨p, hp, rfl⟩ := hx
    exact ⟨rfl, p, rfl, hr p hp⟩
  have hcb : ∀ d, 1 ≤ d → ∀ x h', (∃ p : Nat × Nat, x = cx p.1 p.2 ∧ runOK p.1 p.2 = true) → Grow n0 h h' → C d 29 (x :: [q]) h' = some (.bool (!geP n x), h') := by
    intro d hd x h' ⟨p, e1, e2⟩ g
    subst e1
    have hp := runQ e2
    rw [s_Tight1 d hd p.1 p.2 n q h' (by omega) (by omega) (hb h' g), geP_cx n p.1 p.2 (by omega)]
    rw [show decide (p.2 < n) = !decide (n ≤ p.2) from by by_cases h1 : n ≤ p.2 <;> simp [h1] <;> omega]
  rw [C_f rfl, ← longs_filter n l hr]
  refine Delete_S (fun x => ∃ p : Nat × Nat, x = cx p.1 p.2 ∧ runOK p.1 p.2 = true) (fun x => !geP n x) v (runsV l) n0 h 29 [q] _ _ ft29 rfl (by simpa [runsV] using hl) hone hv (hcb _ (by omega)) ?_ hn0
  rw [C_f rfl]
  exact Index_S v (runsV l) h.next h 29 [q] _ _ ft29 rfl (fun x => !geP n x) hv.row (by simpa [runsV] using hl) (fun x hx => hcb _ he2 x h (hone x hx).2 (Grow.refl _ _))
theorem s_Min (d : Nat) (hd : 4 ≤ d) (s : Value) (q : Nat × Nat) (l : List (Nat × Nat)) (n0 : Nat) (h : AH) (hs : Row n0 h s (runsV (q :: l)) 23) (hl : l.length < 800) (hr : AllRuns (q :: l)) :
    C d 30 [s, .func (.func 31) #[] #[]] h = some (cx (minR q l).1 (minR q l).2, h) := by
  obtain ⟨e, rfl, he⟩ := at1 hd
  rw [C_f rfl]; exact Min_S s q l n0 h hs hl hr (fun x y u v h hy hv => s_Tight2 e he x y u v h hy hv)
theorem s_Tight (d : Nat) (hd : 8 ≤ d) (bs : List Nat) (hbs : ∀ x ∈ bs, x < 256) (m : Value) (h : AH) (n a b : Int) (hm : Row h.next h m (bytesV bs) 5) :
    ∃ h', C d 12 [m, iv n, iv a, iv b] h = some (tightR bs n a b, h') ∧ Grow h.next h h' := by
  obtain ⟨e, rfl, he⟩ := at1 hd
  rw [C_f rfl]
  exact Tight_S bs m h n a b hm (fun h2 hm2 => s_gaps e (by omega) bs hbs m h2 n a b hm2) (s_Delete e (by omega)) (s_Min e (by omega)) (s_begin e he)
theorem s_rTight (d : Nat) (hd : 5 ≤ d) (bs : List Nat) (hbs : ∀ x ∈ bs, x < 256) (m : Value) (h : AH) (n a b : Int) (hm : Row h.next h m (bytesV bs) 5) :
    ∃ h', C d 13 [m, iv n, iv a, iv b] h = some (tightR bs n a b, h') ∧ Grow h.next h h' := by
  obtain ⟨e, rfl, he⟩ := at1 hd
  rw [C_f rfl]; exact rTight_S bs m h n a b (s_rGaps e he bs hbs m h n a b hm) (s_rsize e he) (s_rbegin e he)
/-- What Tight answers is a number of whole parts, and an error. -/
theorem tightR_form (bs : List Nat) (n a b : Int) : ∃ (x y : Nat) (e : Int), x ≤ 1048576 ∧ y ≤ 1048576 ∧ tightR bs n a b = .tuple #[cx x y, iv e] := by
  have h0 : ∀ e : Int, (.tuple #[.complex .f64 0 0, iv e] : Value) = .tuple #[cx ((0 : Nat) : Int) ((0 : Nat) : Int), iv e] := fun e => by rw [show ((0 : Nat) : Int) = 0 from rfl, show cx 0 0 = .complex .f64 0 0 from by unfold cx; rw [zd_zero]]
  unfold tightR
  by_cases hE : gapE bs.length n a b = 0
  · rw [if_pos hE]
    unfold tightV
    cases hl : longs (gapG bs n a b) n.toNat with
    | nil => exact ⟨0, 0, 6, by omega, by omega, h0 6⟩
    | cons q r =>
      have hmem : minR q r ∈ longs (gapG bs n a b) n.toNat := by rw [hl]; exact minR_mem r q
      have hr := runQ (longs_runs n.toNat (gapG_runs bs n a b) _ hmem)
      have hn := longs_ge hmem
      exact ⟨(minR q r).1, n.toNat, 0, by omega, by omega, rfl⟩
  · rw [if_neg hE]; exact ⟨0, 0, _, by omega, by omega, h0 _⟩
theorem lawTight_S (bs : List Nat) (hbs : ∀ x ∈ bs, x < 256) (m : Value) (h : AH) (n a b : Int) (hm : Row h.next h m (bytesV bs) 5) : ∃ h', C 20 4 [m, iv n, iv a, iv b] h = some (.bool true, h') := by
  rw [C_f rfl, frameB_eq ft4 rfl rfl]
  obtain ⟨h1, e1, g1⟩ := s_Tight 19 (by omega) bs hbs m h n a b hm
  obtain ⟨h2, e2, g2⟩ := s_rTight 19 (by omega) bs hbs m h1 n a b ((hm.grow g1 (Nat.le_refl _)).more g1.next)
  obtain ⟨x, y, e, hx, hy, hF⟩ := tightR_form bs n a b
  rw [hF] at e1 e2
  refine ⟨h2, ?_⟩
  simp only [Try.f4, symM, opFn, Nat.reduceLT, Nat.reduceBEq, evCall_fn ft12 rfl, e1, evCall_fn ft13 rfl, e2, evCall_fn ft11 rfl, C_aw 19 (by omega), c_eql (zok_k (x := (x : Int)) (by omega)) (zok_k (x := (y : Int)) (by omega)) (zok_k (x := (x : Int)) (by omega)) (zok_k (x := (y : Int)) (by omega)), decide_true, Bool.and_self, bin_eql, beq_self_eq_true]
  exact retB_one ft4 rfl get_same
end
end Go.Proofs.Ytcpihpjphdlmfaa.Abs
