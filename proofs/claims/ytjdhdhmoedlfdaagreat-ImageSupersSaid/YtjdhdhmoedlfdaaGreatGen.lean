
/- Windows of bytes of our own; numbers read out of bytes. -/
import Derived.Test.YtjdhdhmoedlfdaaGreatImg
namespace Go.Proofs.YtjdhdhmoedlfdaaGreat.Abs
open Go Go.Proofs
noncomputable section
variable {call : Abs.Callee}
set_option maxRecDepth 10000
def WinB (h : AH) (v : Value) (bs : List Nat) : Prop :=
  ∃ b o cap c m l0 h0 kd el k, v = .slice (some ⟨b, o, none⟩) bs.length cap ∧ ((cap < XB ∧ k = cap) ∨ (cap = XB + k ∧ looseSz T0 h b 1 = true)) ∧ bs.length ≤ k ∧ b < h.next ∧ h.get b = some (.cells c m el l0 h0 kd) ∧ o + bs.length ≤ m ∧ ∀ (i x : Nat), bs[i]? = some x → c.get (o + i) = some (bv x)
theorem WinB.row {h : AH} {v : Value} {bs : List Nat} (hw : WinB h v bs) : Row h.next h v (bytesV bs) 5 := by
  obtain ⟨b, o, cap, c, m, l0, h0, kd, el, k, rfl, _, h3, h4, h5, h6, h7⟩ := hw
  refine .inr ⟨b, o, cap, c, m, l0, h0, kd, el, by rw [bytesV_len], h4, h5, by rw [bytesV_len]; exact h6, fun i y hi => ?_⟩
  obtain ⟨x, hx, rfl⟩ := bytesV_at hi
  exact h7 i x hx
theorem WinB.grow {h h' : AH} {v : Value} {bs : List Nat} (hw : WinB h v bs) (g : Grow h.next h h') : WinB h' v bs := by
  obtain ⟨b, o, cap, c, m, l0, h0, kd, el, k, rfl, h2, h3, h4, h5, h6, h7⟩ := hw
  have e := g.keep b h4
  refine ⟨b, o, cap, c, m, l0, h0, kd, el, k, rfl, ?_, h3, Nat.lt_of_lt_of_le h4 g.next, e.trans h5, h6, h7⟩
  rcases h2 with q | ⟨q1, q2⟩
  · exact .inl q
  · refine .inr ⟨q1, ?_⟩
    unfold looseSz at q2 ⊢
    rw [e]; exact q2
theorem OwnB.winB {p : Nat} {h : AH} {v : Value} {bs : List Nat} (ho : OwnB p h v bs) (hp : p < h.next) (hl : bs.length < 1000) : WinB h v bs := by
  obtain ⟨c, kd, cap, rfl, h2, h3, h4⟩ := ho
  refine ⟨p, 0, cap, c, bs.length, 0, 0, kd, 5, bs.length, rfl, ?_, Nat.le_refl _, hp, h2, by omega, fun i x hi => ?_⟩
  · rcases h4 with ⟨_, rfl⟩ | ⟨rfl, rfl⟩
    · exact .inl ⟨by rw [XB_val]; omega, rfl⟩
    · refine .inr ⟨rfl, ?_⟩
      unfold looseSz
      rw [h2]
      simp only [sz_u8]
      rfl
  · rw [Nat.zero_add]
    exact h3 i (bv x) (by simp [bytesV, hi])
theorem Bks.winB {h : AH} {v : Value} {bs : List Nat} (hb : Bks h v bs) : WinB h v bs := by
  obtain ⟨_, h1, _, p, h2, h3⟩ := hb
  exact h3.winB h2 h1
theorem WinB.win {h : AH} {v : Value} {bs : List Nat} (hw : WinB h v bs) {lov hiv : Option Value} {lo hh : Nat} (hlov : lov = some (iv lo) ∨ (lov = none ∧ lo = 0)) (hhiv : hiv = some (iv hh) ∨ (hiv = none ∧ hh = bs.length)) (hlo : lo < hh) (hle : hh ≤ bs.length) :
    ∃ w, evSliceX T0 57 v lov hiv none h = some (w, h) ∧ WinB h w ((bs.drop lo).take (hh - lo)) := by
  obtain ⟨b, o, cap, c, m, l0, h0, kd, el, k, rfl, h2, h3, h4, h5, h6, h7⟩ := hw
  have hk : capOf cap = k := by
    rcases h2 with ⟨q, rfl⟩ | ⟨rfl, _⟩
    · exact capOf_lt q
    · exact capOf_ge _
  have hbnd : boundsA bs.length k lov hiv none = some (lo, hh, k) := by
    have hlo' : Nat.ble lo hh = true := Nat.ble_eq_true_of_le (by omega)
    have hhh : Nat.ble hh k = true := Nat.ble_eq_true_of_le (by omega)
    rcases hlov with rfl | ⟨rfl, rfl⟩ <;> rcases hhiv with rfl | ⟨rfl, rfl⟩ <;>
      simp only [boundsA, boundA, show natOf (iv (lo : Int)) = some lo from rfl, show natOf (iv (hh : Int)) = some hh from rfl, hlo', hhh, ifB_true]
  have hc : ∀ (i x : Nat), ((bs.drop lo).take (hh - lo))[i]? = some x → c.get (o + lo + i) = some (bv x) := by
    intro i x hi
    rw [List.getElem?_take] at hi
    split at hi
    · rw [List.getElem?_drop] at hi
      rw [Nat.add_assoc]
      exact h7 _ _ hi
    · cases hi
  have hlen : ((bs.drop lo).take (hh - lo)).length = hh - lo := by simp; omega
  have hbq : Nat.beq k lo = false := nbF (by simp; omega)
  rcases h2 with ⟨q, rfl⟩ | ⟨rfl, q⟩
  · refine ⟨.slice (some ⟨b, o + lo, none⟩) (hh - lo) (k - lo), ?_, b, o + lo, k - lo, c, m, l0, h0, kd, el, k - lo, by rw [hlen], .inl ⟨by omega, rfl⟩, by omega, h4, h5, by omega, hc⟩
    simp only [evSliceX, evSlice, und_bytes, sz_u8, evSliceS, hk, hbnd, Nat.ble_eq_true_of_le (show hh ≤ k by omega), ifB_true, ble_lt' q, ifB_false, offS, hbq, Nat.mul_one]
  · refine ⟨.slice (some ⟨b, o + lo, none⟩) (hh - lo) (XB + (k - lo)), ?_, b, o + lo, XB + (k - lo), c, m, l0, h0, kd, el, k - lo, by rw [hlen], .inr ⟨rfl, q⟩, by omega, h4, h5, by omega, hc⟩
    simp only [evSliceX, evSlice, und_bytes, sz_u8, evSliceS, hk, hbnd, Nat.ble_eq_true_of_le (show hh ≤ k by omega), ifB_true, Nat.ble_eq_true_of_le (show XB ≤ XB + k by omega), q, offS, hbq, ifB_false, Nat.mul_one]
def leV : List Nat → Nat
  | [] => 0
  | x :: l => x + 256 * leV l
theorem leV_snoc (l : List Nat) (x : Nat) : leV (l ++ [x]) = leV l + x * 256 ^ l.length := by
  induction l with
  | nil => simp [leV]
  | cons y l ih =>
    rw [List.cons_append, leV, ih, leV, List.length_cons, Nat.pow_succ, Nat.mul_add]
    rw [show 256 * (x * 256 ^ l.length) = x * (256 ^ l.length * 256) by rw [Nat.mul_left_comm, Nat.mul_comm 256]]
    omega
theorem leV_lt (l : List Nat) (h : ∀ x ∈ l, x < 256) : leV l < 256 ^ l.length := by
  induction l with
  | nil => decide
  | cons y l ih =>
    have h1 := h y (by simp)
    have h2 := ih (fun x hx => h x (by simp [hx]))
    rw [leV, List.length_cons, Nat.pow_succ]
    omega
theorem or_leV (l : List Nat) (x : Nat) (h : ∀ x ∈ l, x < 256) : leV l ||| x <<< (8 * l.length) = leV l + x * 256 ^ l.length := by
  have h1 := leV_lt l h
  have hp : (2 : Nat) ^ (8 * l.length) = 256 ^ l.length := by rw [Nat.pow_mul]
  have h2 := Nat.two_pow_add_eq_or_of_lt (i := 8 * l.length) (b := leV l) (by rw [hp]; exact h1) x
  rw [Nat.or_comm, Nat.shiftLeft_eq, Nat.mul_comm x, ← h2, hp, Nat.mul_comm x, Nat.add_comm]
end
end Go.Proofs.YtjdhdhmoedlfdaaGreat.Abs
namespace Go.Proofs.YtjdhdhmoedlfdaaGreat.Abs
open Go Go.Proofs
noncomputable section
variable {call : Abs.Callee}
set_option maxRecDepth 10000
theorem ft28 : T0.ft.get 28 = some Tryz.f28 := by kernel_rfl
noncomputable def bodyGt : Code := part Tryz.f75 [1, 1, 0, 1, 0, 0]
abbrev EGt : Env := ⟨75, 22, none⟩
theorem pow4 {n : Nat} (h : n ≤ 4) : 256 ^ n ≤ 4294967296 := Nat.le_trans (Nat.pow_le_pow_right (by decide) h) (by decide)
theorem gtLp (bs : List Nat) (hbs : ∀ x ∈ bs, x < 256) (hl : bs.length ≤ 4) (v : Value) (h : AH) (hv : Row h.next h v (bytesV bs) 5) : ∀ (k i : Nat) (tm : PM Value) (N : Nat), i + k = bs.length → k + 60 ≤ N →
    tm.get 3 = some (iv (leV (bs.take i))) → tm.get 6 = some v → tm.get 7 = some (iv bs.length) → tm.get 8 = some (iv i) →
    ∃ tm' h', codeB T0 X0 call N EGt (.loop bodyGt) tm h [] = .jump (.exit 0) tm' h' [] ∧ (h' = h ∧ tm'.get 3 = some (iv (leV bs))) := by
  intro k
  induction k with
  | zero =>
    intro i tm N hi hN g3 g6 g7 g8
    obtain ⟨N, rfl⟩ : ∃ a, N = a + 60 := ⟨N - 60, by omega⟩
    have hiB : i = bs.length := by omega
    subst hiB
    rw [List.take_length] at g3
    apply Exists.intro; apply Exists.intro
    refine ⟨?_, rfl, ?_⟩
    · rw [codeB_loop]
      simp only [bodyGt, part, Tryz.f75, sub, symM, opFn, Nat.reduceLT, symM, g7, g8, bin_lss, decide_eq_false (show ¬ (bs.length : Int) < (bs.length : Nat) by omega)]
      rfl
    · simp only [symM, Nat.reduceBEq, g3]
  | succ k ih =>
    intro i tm N hi hN g3 g6 g7 g8
    obtain ⟨N, rfl⟩ : ∃ a, N = a + 60 := ⟨N - 60, by omega⟩
    have hil : i < bs.length := by omega
    have hx : bs[i]? = some bs[i] := List.getElem?_eq_getElem hil
    have hx2 : bs[i] < 256 := hbs _ (List.getElem_mem hil)
    obtain ⟨p, a1, a2⟩ := hv.at und_bytes sz_u8 agg_u8 (i := i) (x := bv bs[i]) (by simp [bytesV, hx])
    have htk : (bs.take i).length = i := by rw [List.length_take]; omega
    have hol := or_leV (bs.take i) bs[i] (fun x hx => hbs x (List.mem_of_mem_take hx))
    rw [htk] at hol
    have hsn := leV_snoc (bs.take i) bs[i]
    rw [htk, show bs.take i ++ [bs[i]] = bs.take (i + 1) from (List.take_succ_eq_append_getElem hil).symm] at hsn
    have l1 := leV_lt (bs.take i) (fun x hx => hbs x (List.mem_of_mem_take hx))
    have l2 := leV_lt (bs.take (i + 1)) (fun x hx => hbs x (List.mem_of_mem_take hx))
    rw [htk] at l1
    rw [show (bs.take (i + 1)).length = i + 1 by rw [List.length_take]; omega] at l2
    have p1 := pow4 (show i ≤ 4 by omega)
    have p2 := pow4 (show i + 1 ≤ 4 by omega)
    have hsh : bs[i] <<< (8 * i) = bs[i] * 256 ^ i := by rw [Nat.shiftLeft_eq, Nat.pow_mul]
    have hw8 : IntKind.i64.wrap (8 * (i : Int)) = ((8 * i : Nat) : Int) := by rw [wz (by omega)]; omega
    have hw1 : IntKind.i64.wrap ((bs[i] : Nat) : Int) = ((bs[i] : Nat) : Int) := wz (by omega)
    have s8 : ∀ p q h, evBin T0 .shl 3 p q (iv (bs[i] : Nat)) (iv (8 * i : Nat)) h = some (iv (bs[i] * 256 ^ i : Nat)) := fun p q h => by
      rw [bin_shl (show 8 * i < IntKind.i64.bits by show 8 * i < 64; omega), hsh, IntWalk.i64_in _ (by omega)]
    have o8 : ∀ p q h, evBin T0 .or 3 p q (iv (leV (bs.take i))) (iv (bs[i] * 256 ^ i : Nat)) h = some (iv (leV (bs.take (i + 1)))) := fun p q h => by
      have q1 : leV (bs.take i) < bitsOf IntKind.i64 := Nat.lt_of_lt_of_le l1 (Nat.le_trans p1 (by decide))
      have q2 : bs[i] * 256 ^ i < bitsOf IntKind.i64 := Nat.lt_of_lt_of_le (show bs[i] * 256 ^ i < 4294967296 by omega) (by decide)
      rw [bin_or q1 q2, ← hsh, hol, ← hsn, IntWalk.i64_in _ (by omega)]
    rw [show N + 60 = (N + 59) + 1 from rfl, codeB_loop]
    simp only [bodyGt, part, Tryz.f75, sub, symM, opFn, Nat.reduceLT, Nat.reduceBEq, symM, g3, g6, g7, g8, bin_lss, decide_eq_true (show (i : Int) < (bs.length : Nat) by omega), a1, a2, conv_i2i und_u8 und_int, hw1, bin_mul, hw8, s8, o8, bin_add, wadd1 (show i ≤ 400000 by omega)]
    exact ih (i + 1) _ (N + 59) (by omega) (by omega) (by simp only [symM, Nat.reduceBEq]) (by simp only [symM, Nat.reduceBEq, g6]) (by simp only [symM, Nat.reduceBEq, g7]) get_same
theorem getG_S (bs : List Nat) (hbs : ∀ x ∈ bs, x < 256) (hl : bs.length ≤ 4) (v : Value) (h : AH) (hv : Row h.next h v (bytesV bs) 5) : frameB T0 X0 call 3000 75 [v] h = some (iv (leV bs), h) := by
  have hlen : ∀ ty h', evBuiltin T0 .len #[57] ty [v] h' = some (.value (iv bs.length), h') := fun ty h' => by rw [hv.len und_bytes, bytesV_len]
  rw [frameB_eq ft75 rfl rfl]
  simp only [Tryz.f75, symM, opFn, Nat.reduceLT, Nat.reduceBEq, symM, symL, hlen]
  generalize hX : codeB T0 X0 call _ EGt (.loop _) _ _ _ = X
  obtain ⟨t2, h2, e1, e2, e3⟩ := use_exit hX (gtLp bs hbs hl v h hv bs.length 0 _ _ (by omega) (by omega) (by simp only [symM, Nat.reduceBEq]; rfl) (by simp only [symM, Nat.reduceBEq]) (by simp only [symM, Nat.reduceBEq]) (by simp only [symM]; rfl))
  clear hX
  subst e1 e2
  simp only [symM, opFn, Nat.reduceLT, symM, symL, e3]
  exact retB_one ft75 rfl get_same
abbrev GetGC (call : Abs.Callee) : Prop := ∀ (bs : List Nat) (v : Value) (h : AH), (∀ x ∈ bs, x < 256) → bs.length ≤ 4 → Row h.next h v (bytesV bs) 5 → call 75 [v] h = some (iv (leV bs), h)
theorem NumG_S (hg : GetGC call) (bs : List Nat) (hbs : ∀ x ∈ bs, x < 256) (i s : Nat) (hs : 0 < s) (hs4 : s ≤ 4) (hi : i + s ≤ bs.length) (hl : bs.length < 1000) (v : Value) (h : AH) (hv : WinB h v bs) :
    frameB T0 X0 call 3000 73 [v, iv i, iv s] h = some (iv (leV ((bs.drop i).take s)), h) := by
  obtain ⟨w, e1, e2⟩ := hv.win (lov := some (iv i)) (hiv := some (iv ((i + s : Nat) : Int))) (.inl rfl) (.inl rfl) (by omega) hi
  rw [show i + s - i = s by omega] at e2
  have hw : IntKind.i64.wrap ((i : Int) + s) = ((i + s : Nat) : Int) := wadd (by omega)
  rw [frameB_eq ft73 rfl rfl]
  simp only [Tryz.f73, symM, opFn, Nat.reduceLT, Nat.reduceBEq, symM, ev3, evOpt, bin_add, hw, e1, evCall_fn ft75 rfl, hg _ w h (fun x hx => hbs x (List.mem_of_mem_drop (List.mem_of_mem_take hx))) (by rw [List.length_take]; omega) e2.row]
  exact retB_one ft73 rfl get_same
theorem leV_leN (n k : Nat) : leV (leN n k) = n % 256 ^ k := by
  have : ∀ k i, leV (leF n i k) = n / 256 ^ i % 256 ^ k := by
    intro k
    induction k with
    | zero => intro i; rw [Nat.pow_zero, Nat.mod_one]; rfl
    | succ k ih =>
      intro i
      rw [leF_succ, leV, ih, show 256 ^ (k + 1) = 256 * 256 ^ k by rw [Nat.pow_succ, Nat.mul_comm], Nat.mod_mul, Nat.div_div_eq_div_mul, ← Nat.pow_succ]
  have h := this k 0
  rw [Nat.pow_zero, Nat.div_one] at h
  exact h
theorem plan_sealed : planB (regOps Tryz.f28 [1, 0]) 16 = some ([.one 0, .one 1, .one 2, .one 3, .one 4, .one 5, .one 7, .one 8, .eff [] 6 [7, 8], .eff [] 9 [], .one 10, .one 11, .one 12, .one 13], []) := by kernel_rfl
end
end Go.Proofs.YtjdhdhmoedlfdaaGreat.Abs
namespace Go.Proofs.YtjdhdhmoedlfdaaGreat.Abs
open Go Go.Proofs
noncomputable section
variable {call : Abs.Callee}
set_option maxRecDepth 10000
structure SI where
  mk ::
  (s f j c g : Int)
def siL (x : SI) : List Value := [iv x.s, iv x.f, iv x.j, iv x.c, iv x.g]
def siV (x : SI) : Value := .agg (siL x).toArray
def okI (x : SI) : Bool := decide (64 ≤ x.s ∧ x.s ≤ 480) && (decide (1 ≤ x.f ∧ x.f ≤ 3) && (decide (0 ≤ x.j ∧ x.j ≤ 3) && (decide (0 ≤ x.c ∧ x.c ≤ 32) && decide (0 ≤ x.g ∧ x.g ≤ 480))))
theorem okI_true {x : SI} (h : okI x = true) : (64 ≤ x.s ∧ x.s ≤ 480) ∧ (1 ≤ x.f ∧ x.f ≤ 3) ∧ (0 ≤ x.j ∧ x.j ≤ 3) ∧ (0 ≤ x.c ∧ x.c ≤ 32) ∧ (0 ≤ x.g ∧ x.g ≤ 480) := by
  unfold okI at h
  simpa only [Bool.and_eq_true, decide_eq_true_eq] using h
abbrev GInC (call : Abs.Callee) (f : Nat) : Prop := ∀ (a lo hi : Int) (h : AH), call f [iv a, iv lo, iv hi] h = some (.bool (decide (lo ≤ a ∧ a ≤ hi)), h)
theorem gin_S (a lo hi : Int) (h : AH) : frameB T0 X0 call 3000 136 [iv a, iv lo, iv hi] h = some (.bool (decide (lo ≤ a ∧ a ≤ hi)), h) := by
  rw [frameB_eq ft136 rfl rfl]
  by_cases h1 : lo ≤ a
  · rw [show decide (lo ≤ a ∧ a ≤ hi) = decide (a ≤ hi) by simp [h1]]
    simp only [Tryz.f136, symM, opFn, Nat.reduceLT, Nat.reduceBEq, symM, bin_geq, bin_leq, decide_eq_true h1]
    exact retB_one ft136 rfl get_same
  · rw [decide_eq_false (show ¬ (lo ≤ a ∧ a ≤ hi) from fun q => h1 q.1)]
    simp only [Tryz.f136, symM, opFn, Nat.reduceLT, Nat.reduceBEq, symM, bin_geq, decide_eq_false h1]
    exact retB_one ft136 rfl get_same
theorem grin_S (a lo hi : Int) (h : AH) : frameB T0 X0 call 3000 65 [iv a, iv lo, iv hi] h = some (.bool (decide (lo ≤ a ∧ a ≤ hi)), h) := by
  rw [frameB_eq ft65 rfl rfl]
  by_cases h1 : lo ≤ a
  · rw [show decide (lo ≤ a ∧ a ≤ hi) = decide (a ≤ hi) by simp [h1]]
    simp only [Tryz.f65, symM, opFn, Nat.reduceLT, Nat.reduceBEq, symM, bin_geq, bin_leq, decide_eq_true h1]
    exact retB_one ft65 rfl get_same
  · rw [decide_eq_false (show ¬ (lo ≤ a ∧ a ≤ hi) from fun q => h1 q.1)]
    simp only [Tryz.f65, symM, opFn, Nat.reduceLT, Nat.reduceBEq, symM, bin_geq, decide_eq_false h1]
    exact retB_one ft65 rfl get_same
def SiB (h : AH) (p : Nat) (x : SI) : Prop := BoxL h p 36 (siL x)
theorem SiB.loads {h : AH} {p : Nat} {x : SI} (hb : SiB h p x) : evLoad T0 3 (pv p 0) h = some (iv x.s) ∧ evLoad T0 3 (pv p (0 + 1)) h = some (iv x.f) ∧ evLoad T0 3 (pv p (0 + 2)) h = some (iv x.j) ∧ evLoad T0 3 (pv p (0 + 3)) h = some (iv x.c) ∧ evLoad T0 3 (pv p (0 + 4)) h = some (iv x.g) ∧ evLoad T0 36 (pv p 0) h = some (siV x) :=
  ⟨BoxL.load hb agg_int rfl, BoxL.load hb agg_int rfl, BoxL.load hb agg_int rfl, BoxL.load hb agg_int rfl, BoxL.load hb agg_int rfl, BoxL.loadA (o := 0) (ws := siL x) hb agg_Sup sz_Sup (Nat.le_refl _) (fun i x hi => by rw [Nat.zero_add]; exact hi)⟩
theorem box_Si {x : SI} {h : AH} : rp (some (evNewVar h 36 (siV x))) = some (.value (pv h.next 0), h.new (.cells (PM.ofList (siL x)) (siL x).length 36 0 0 .ex)) := box_agg
abbrev GSoundC (call : Abs.Callee) : Prop := ∀ (x : SI) (h : AH), ∃ h', call 133 [siV x] h = some (.bool (okI x), h') ∧ Grow h.next h h'
theorem GSound_S (hI : GInC call 136) (x : SI) (h : AH) : ∃ h', frameB T0 X0 call 3000 133 [siV x] h = some (.bool (okI x), h') ∧ Grow h.next h h' := by
  generalize hh1 : h.new (.cells (PM.ofList (siL x)) (siL x).length 36 0 0 .ex) = h1
  have g1 : Grow h.next h h1 := by rw [← hh1]; exact Grow.new _ _
  have hb : SiB h1 h.next x := by rw [← hh1]; exact BoxL.new _ _ _
  refine ⟨h1, ?_, g1⟩
  have i1 := hI x.s 64 480 h1
  have i2 := hI x.f 1 3 h1
  have i3 := hI x.j 0 3 h1
  have i4 := hI x.c 0 32 h1
  have i5 := hI x.g 0 480 h1
  unfold okI
  rw [frameB_eq ft133 rfl rfl]
  cases h1 : decide (64 ≤ x.s ∧ x.s ≤ 480) with
  | false =>
    rw [h1] at i1
    simp only [Tryz.f133, symM, opFn, Nat.reduceLT, Nat.reduceBEq, symM, box_Si, hh1, field_S, hb.loads, evCall_fn ft136 rfl, i1, Bool.false_and]
    exact retB_one ft133 rfl get_same
  | true =>
    rw [h1] at i1
    cases h2 : decide (1 ≤ x.f ∧ x.f ≤ 3) with
    | false =>
      rw [h2] at i2
      simp only [Tryz.f133, symM, opFn, Nat.reduceLT, Nat.reduceBEq, symM, box_Si, hh1, field_S, hb.loads, evCall_fn ft136 rfl, i1, i2, Bool.false_and, Bool.true_and]
      exact retB_one ft133 rfl get_same
    | true =>
      rw [h2] at i2
      cases h3 : decide (0 ≤ x.j ∧ x.j ≤ 3) with
      | false =>
        rw [h3] at i3
        simp only [Tryz.f133, symM, opFn, Nat.reduceLT, Nat.reduceBEq, symM, box_Si, hh1, field_S, hb.loads, evCall_fn ft136 rfl, i1, i2, i3, Bool.false_and, Bool.true_and]
        exact retB_one ft133 rfl get_same
      | true =>
        rw [h3] at i3
        cases h4 : decide (0 ≤ x.c ∧ x.c ≤ 32) with
        | false =>
          rw [h4] at i4
          simp only [Tryz.f133, symM, opFn, Nat.reduceLT, Nat.reduceBEq, symM, box_Si, hh1, field_S, hb.loads, evCall_fn ft136 rfl, i1, i2, i3, i4, Bool.false_and, Bool.true_and]
          exact retB_one ft133 rfl get_same
        | true =>
          rw [h4] at i4
          simp only [Tryz.f133, symM, opFn, Nat.reduceLT, Nat.reduceBEq, symM, box_Si, hh1, field_S, hb.loads, evCall_fn ft136 rfl, i1, i2, i3, i4, i5, Bool.true_and]
          exact retB_one ft133 rfl get_same
structure SV where
  mk ::
  (s f j c g : Nat)
def SV.si (x : SV) : SI := ⟨x.s, x.f, x.j, x.c, x.g⟩
def SI.sv (x : SI) : SV := ⟨x.s.toNat, x.f.toNat, x.j.toNat, x.c.toNat, x.g.toNat⟩
theorem SI.sv_si {x : SI} (h : okI x = true) : x.sv.si = x := by
  obtain ⟨h1, h2, h3, h4, h5⟩ := okI_true h
  obtain ⟨s, f, j, c, g⟩ := x
  simp only [SI.sv, SV.si] at *
  simp only [SI.mk.injEq]
  omega
theorem SI.sv_lt {x : SI} (h : okI x = true) : x.sv.s ≤ 480 ∧ x.sv.f ≤ 3 ∧ x.sv.j ≤ 3 ∧ x.sv.c ≤ 32 ∧ x.sv.g ≤ 480 := by
  obtain ⟨h1, h2, h3, h4, h5⟩ := okI_true h
  simp only [SI.sv]
  omega
def svB (x : SV) : List Nat := sealB (setsAt 2 (setsAt 1 (setsAt 2 (setAt (List.replicate 64 0) 0 [68, 82, 89, 68]) 4 [x.s]) 6 [x.f, x.j, x.c]) 10 [x.g])
theorem svB_ok (x : SV) : (svB x).length = 64 ∧ ∀ y ∈ svB x, y < 256 := by
  have e0 : (setAt (List.replicate 64 0) 0 [68, 82, 89, 68]).length = 64 := setAt0_len _ (by decide)
  have e1 := setsAt_len 2 [x.s] (setAt (List.replicate 64 0) 0 [68, 82, 89, 68]) 4 (by rw [e0]; simp)
  have e2 := setsAt_len 1 [x.f, x.j, x.c] (setsAt 2 (setAt (List.replicate 64 0) 0 [68, 82, 89, 68]) 4 [x.s]) 6 (by rw [e1, e0]; simp)
  have e3 := setsAt_len 2 [x.g] (setsAt 1 (setsAt 2 (setAt (List.replicate 64 0) 0 [68, 82, 89, 68]) 4 [x.s]) 6 [x.f, x.j, x.c]) 10 (by rw [e2, e1, e0]; simp)
  exact ⟨sealB_len (by rw [e3, e2, e1, e0]; decide), sealB_lt (setsAt_lt _ _ _ _ (setsAt_lt _ _ _ _ (setsAt_lt _ _ _ _ (setAt_lt (by simp) (by decide)))))⟩
def EncSR (h h' : AH) (x : SI) (r : Value) : Prop := (okI x = false ∧ r = .tuple #[nilV, iv 2]) ∨ (okI x = true ∧ ∃ v' p', r = .tuple #[v', iv 0] ∧ h.next ≤ p' ∧ p' < h'.next ∧ OwnB p' h' v' (svB x.sv))
abbrev GEncC (call : Abs.Callee) (f : Nat) : Prop := ∀ (x : SI) (h : AH), ∃ r h', call f [siV x] h = some (r, h') ∧ Grow h.next h h' ∧ EncSR h h' x r
theorem GEnc_S (hSd : GSoundC call) (hN : NewPageC call) (hS : SetVC call) (hL : PSealC call) (x : SI) (h : AH) : ∃ r h', frameB T0 X0 call 3000 64 [siV x] h = some (r, h') ∧ Grow h.next h h' ∧ EncSR h h' x r := by
  generalize hh0 : h.new (.cells (PM.ofList (siL x)) (siL x).length 36 0 0 .ex) = h0
  have g0 : Grow h.next h h0 := by rw [← hh0]; exact Grow.new _ _
  have n0 : h0.next = h.next + 1 := by rw [← hh0]; rfl
  have hb0 : SiB h0 h.next x := by rw [← hh0]; exact BoxL.new _ _ _
  obtain ⟨h1, s1, s2⟩ := hSd x h0
  have n1 := s2.next
  have hb : SiB h1 h.next x := BoxL.grow hb0 s2 (by omega)
  cases hok : okI x with
  | false =>
    rw [hok] at s1
    refine ⟨.tuple #[nilV, iv 2], h1, ?_, g0.trans s2 (by omega), .inl ⟨hok, rfl⟩⟩
    rw [frameB_eq ft64 rfl rfl]
    simp only [Tryz.f64, symM, opFn, Nat.reduceLT, Nat.reduceBEq, symM, box_Si, hh0, hb0.loads, evCall_fn ft133 rfl, s1]
    exact retB_two ft64 rfl (by simp only [symM, Nat.reduceBEq]) get_same
  | true =>
    rw [hok] at s1
    obtain ⟨z, rfl⟩ : ∃ z : SV, x = z.si := ⟨x.sv, (SI.sv_si hok).symm⟩
    have hz : z.si.sv = z := by obtain ⟨s, f, j, c, g⟩ := z; rfl
    obtain ⟨b1, b2, b3, b4, b5⟩ := SI.sv_lt hok
    rw [hz] at b1 b2 b3 b4 b5
    obtain ⟨s, f, j, c, g⟩ := z
    simp only at b1 b2 b3 b4 b5
    obtain ⟨b, p, h2, a1, a2, a3, a4, a5, a6, a7, a8⟩ := hN [68, 82, 89, 68] h1 (by decide) (by decide) (by decide)
    obtain ⟨h3, b1, b2, b3, b4⟩ := set_one hS b p 4 2 h1.next [s] _ h2 a4 a3 (by decide) (by simp) (by intro n hn; simp at hn; omega) (by simp) a5 a6 a7
    obtain ⟨h4, c1, c2, c3, c4⟩ := set_one hS b p 6 1 h1.next [f, j, c] _ h3 a4 a3 (by decide) (by simp) (by intro n hn; simp at hn; omega) (by simp) (by omega) (by omega) b2
    obtain ⟨h5, d1, d2, d3, d4⟩ := set_one hS b p 10 2 h1.next [g] _ h4 a4 a3 (by decide) (by simp) (by intro n hn; simp at hn; omega) (by simp) (by omega) (by omega) c2
    obtain ⟨v', p', h6, e1, e2, e3, e4, e5⟩ := hL b p _ h5 d2 (by omega)
    have hb2 : SiB h2 h.next (SV.si ⟨s, f, j, c, g⟩) := BoxL.grow hb a8 (by omega)
    have g3 : Grow h1.next h1 h3 := a8.trans b4 (Nat.le_refl _)
    have hb3 : SiB h3 h.next (SV.si ⟨s, f, j, c, g⟩) := BoxL.grow hb g3 (by omega)
    have g4 : Grow h1.next h1 h4 := g3.trans c4 (Nat.le_refl _)
    have hb4 : SiB h4 h.next (SV.si ⟨s, f, j, c, g⟩) := BoxL.grow hb g4 (by omega)
    have g5 : Grow h1.next h1 h5 := g4.trans d4 (Nat.le_refl _)
    have g6 : Grow h.next h h5 := (g0.trans s2 (by omega)).trans g5 (by omega)
    refine ⟨.tuple #[v', iv 0], h6, ?_, g6.trans e5 g6.next, .inr ⟨hok, v', p', rfl, Nat.le_trans g6.next e2, e3, e4⟩⟩
    have hp := plan_SuE
    simp only [regOps, part, Tryz.f64, sub] at hp
    have a1 : call 46 [.string ⟨#[68, 82, 89, 68]⟩] h1 = some (pv b 0, h2) := a1
    have b1 : call 134 [pv b 0, iv 4, iv 2, .slice (some ⟨h2.next, 0, none⟩) 1 1] (h2.new (.cells (PM.ofList [iv s]) 1 3 0 0 .ex)) = some (pv b 0, h3) := b1
    have c1 : call 134 [pv b 0, iv 6, iv 1, .slice (some ⟨h3.next, 0, none⟩) 3 3] (h3.new (.cells (PM.ofList [iv f, iv j, iv c]) 3 3 0 0 .ex)) = some (pv b 0, h4) := c1
    have d1 : call 134 [pv b 0, iv 10, iv 2, .slice (some ⟨h4.next, 0, none⟩) 1 1] (h4.new (.cells (PM.ofList [iv g]) 1 3 0 0 .ex)) = some (pv b 0, h5) := d1
    have l0 := hb.loads
    have l2 := hb2.loads
    have l3 := hb3.loads
    have l4 := hb4.loads
    simp only [SV.si] at l0 l2 l3 l4
    rw [frameB_eq ft64 rfl rfl]
    simp only [Tryz.f64, symM, opFn, Nat.reduceLT, Nat.reduceBEq, symM, box_Si, hh0, hb0.loads, evCall_fn ft133 rfl, s1]
    rw [codeB_draw, draw_plan hp rfl]
    simp only [drawAll, opFn, Nat.reduceBEq, field_S, l0, l2, l3, evCall_fn ft46 rfl, a1, effE_cons, goAB_some bs_int1, evCall_fn ft134 rfl, b1]
    rw [goA_bsn (vs := [(0, iv f), (1, iv j), (2, iv c)]) (by simp only [drawAll, Nat.reduceBEq]) bs_int3]
    simp only [drawAll, opFn, Nat.reduceBEq, field_S, l4, c1, effE_cons, goAB_some bs_int1, evCall_fn ft134 rfl, d1, evCall_fn ft47 rfl, e1]
    exact retB_two ft64 rfl (by simp only [symM, Nat.reduceBEq]) get_same
end
end Go.Proofs.YtjdhdhmoedlfdaaGreat.Abs
namespace Go.Proofs.YtjdhdhmoedlfdaaGreat.Abs
open Go Go.Proofs
noncomputable section
variable {call : Abs.Callee}
set_option maxRecDepth 10000
theorem ft26 : T0.ft.get 26 = some Tryz.f26 := by kernel_rfl
theorem ft27 : T0.ft.get 27 = some Tryz.f27 := by kernel_rfl
theorem leV_inj : ∀ (l m : List Nat), l.length = m.length → (∀ x ∈ l, x < 256) → (∀ x ∈ m, x < 256) → leV l = leV m → l = m := by
  intro l
  induction l with
  | nil => intro m h _ _ _; cases m with | nil => rfl | cons y m => simp at h
  | cons x l ih =>
    intro m h hl hm e
    cases m with
    | nil => simp at h
    | cons y m =>
      have h1 := hl x (by simp)
      have h2 := hm y (by simp)
      simp only [leV] at e
      have hx : x = y := by omega
      have ht : leV l = leV m := by omega
      rw [hx, ih m (by simpa using h) (fun z hz => hl z (by simp [hz])) (fun z hz => hm z (by simp [hz])) ht]
def okSeal (bs : List Nat) : Bool := decide (leV (bs.drop 60) = spinU (spinN (bs.take 60)))
theorem okSeal_eq {bs : List Nat} (hl : bs.length = 64) (hb : ∀ x ∈ bs, x < 256) : okSeal bs = decide (sealB bs = bs) := by
  unfold okSeal
  have e : sealB bs = bs ↔ leN (spinU (spinN (bs.take 60))) 4 = bs.drop 60 := by
    constructor
    · intro h
      have h1 : sealB bs = bs.take 60 ++ bs.drop 60 := by rw [List.take_append_drop]; exact h
      unfold sealB at h1
      exact List.append_cancel_left h1
    · intro h
      unfold sealB
      rw [h, List.take_append_drop]
  rw [Bool.eq_iff_iff]
  simp only [decide_eq_true_eq]
  rw [e]
  constructor
  · intro h
    refine leV_inj _ _ (by rw [leN_len, List.length_drop, hl]) (fun x hx => leN_lt hx) (fun x hx => hb x (List.mem_of_mem_drop hx)) ?_
    rw [leV_leN, h, Nat.mod_eq_of_lt (spinU_lt _)]
  · intro h
    rw [← h, leV_leN, Nat.mod_eq_of_lt (spinU_lt _)]
theorem sealB_idem (bs : List Nat) (hl : 60 ≤ bs.length) : sealB (sealB bs) = sealB bs := by
  have h60 : (bs.take 60).length = 60 := by rw [List.length_take]; omega
  have e : (sealB bs).take 60 = bs.take 60 := by
    unfold sealB
    rw [List.take_append_of_le_length (by omega), List.take_of_length_le (by omega)]
  show (sealB bs).take 60 ++ leN (spinU (spinN ((sealB bs).take 60))) 4 = sealB bs
  rw [e]
  rfl
abbrev GSealC (call : Abs.Callee) : Prop := ∀ (bs : List Nat) (v : Value) (h : AH), bs.length = 64 → (∀ x ∈ bs, x < 256) → WinB h v bs → call 28 [v] h = some (.bool (okSeal bs), h)
theorem GSeal_S (hg : GetGC call) (hSum : SumC call 76) (bs : List Nat) (hl : bs.length = 64) (hbs : ∀ x ∈ bs, x < 256) (v : Value) (h : AH) (hv : WinB h v bs) : frameB T0 X0 call 3000 28 [v] h = some (.bool (okSeal bs), h) := by
  have hlen : ∀ ty h', evBuiltin T0 .len #[57] ty [v] h' = some (.value (iv 64), h') := fun ty h' => by rw [hv.row.len und_bytes, bytesV_len, hl]; rfl
  obtain ⟨w1, a1, a2⟩ := hv.win (lov := some (iv 60)) (hiv := none) (lo := 60) (hh := 64) (.inl rfl) (.inr ⟨rfl, hl.symm⟩) (by omega) (by omega)
  obtain ⟨w2, b1, b2⟩ := hv.win (lov := none) (hiv := some (iv 60)) (lo := 0) (hh := 60) (.inr ⟨rfl, rfl⟩) (.inl rfl) (by omega) (by omega)
  rw [List.take_of_length_le (by rw [List.length_drop, hl]; decide)] at a2
  rw [List.drop_zero, Nat.sub_zero] at b2
  have c1 := hg _ w1 h (fun x hx => hbs x (List.mem_of_mem_drop hx)) (by rw [List.length_drop, hl]; decide) a2.row
  have c2 := hSum _ w2 h (fun x hx => hbs x (List.mem_of_mem_take hx)) (by rw [List.length_take]; omega) b2.row
  have hw : IntKind.i64.wrap ((spinU (spinN (bs.take 60)) : Nat) : Int) = ((spinU (spinN (bs.take 60)) : Nat) : Int) := by
    have := spinU_lt (bs.take 60)
    rw [IntWalk.i64_in _ (by omega)]
  have hev := hv.row.eqv
  have hev1 := a2.row.eqv
  have hev2 := b2.row.eqv
  have hfin : (((leV (bs.drop 60) : Nat) : Int) == ((spinU (spinN (bs.take 60)) : Nat) : Int)) = okSeal bs := by
    unfold okSeal
    rw [Bool.eq_iff_iff]
    simp only [beq_iff_eq, decide_eq_true_eq]
    omega
  have hp := plan_sealed
  simp only [regOps, part, Tryz.f28, sub] at hp
  rw [frameB_eq ft28 rfl rfl]
  simp only [Tryz.f28, symM, opFn, Nat.reduceLT, symM]
  rw [codeB_draw, draw_plan hp rfl]
  simp only [drawAll, opFn, Nat.reduceBEq, hlen, bin_eql, show ((64 : Int) == 64) = true from rfl, ev3, evOpt, a1, b1, hev, hev2, evCall_fn ft75 rfl, c1, effE_cons, evCall_fn ft76' rfl, c2, conv_i2i und_u32' und_int, hw, hfin]
  exact retB_one ft28 rfl get_same
abbrev NumGC (call : Abs.Callee) : Prop := ∀ (bs : List Nat) (i s : Nat) (v : Value) (h : AH), (∀ x ∈ bs, x < 256) → 0 < s → s ≤ 4 → i + s ≤ bs.length → bs.length < 1000 → WinB h v bs → call 73 [v, iv i, iv s] h = some (iv (leV ((bs.drop i).take s)), h)
def svOf (bs : List Nat) : SV := ⟨leV ((bs.drop 4).take 2), leV ((bs.drop 6).take 1), leV ((bs.drop 7).take 1), leV ((bs.drop 8).take 1), leV ((bs.drop 10).take 2)⟩
def okDS (bs : List Nat) : Bool := okI (svOf bs).si && decide (svB (svOf bs) = bs)
def SI.zero : SI := ⟨0, 0, 0, 0, 0⟩
theorem okDS_seal {bs : List Nat} (hl : bs.length = 64) (hb : ∀ x ∈ bs, x < 256) (h : okDS bs = true) : okSeal bs = true := by
  unfold okDS at h
  rw [Bool.and_eq_true, decide_eq_true_eq] at h
  rw [okSeal_eq hl hb, decide_eq_true_eq, ← h.2]
  unfold svB
  refine sealB_idem _ ?_
  have e0 : (setAt (List.replicate 64 0) 0 [68, 82, 89, 68]).length = 64 := setAt0_len _ (by decide)
  generalize svOf bs = x
  have e1 := setsAt_len 2 [x.s] (setAt (List.replicate 64 0) 0 [68, 82, 89, 68]) 4 (by rw [e0]; simp)
  have e2 := setsAt_len 1 [x.f, x.j, x.c] (setsAt 2 (setAt (List.replicate 64 0) 0 [68, 82, 89, 68]) 4 [x.s]) 6 (by rw [e1, e0]; simp)
  have e3 := setsAt_len 2 [x.g] (setsAt 1 (setsAt 2 (setAt (List.replicate 64 0) 0 [68, 82, 89, 68]) 4 [x.s]) 6 [x.f, x.j, x.c]) 10 (by rw [e2, e1, e0]; simp)
  rw [e3, e2, e1, e0]; decide
def DecSR (bs : List Nat) (r : Value) : Prop := (okDS bs = false ∧ r = .tuple #[siV SI.zero, iv 2]) ∨ (okDS bs = true ∧ r = .tuple #[siV (svOf bs).si, iv 0])
theorem alloc_SiZ {h : AH} : evAlloc T0 36 h = some (pv h.next 0, h.new (.cells (PM.ofList (siL SI.zero)) 5 36 0 0 .ex)) := by
  unfold evAlloc
  rw [show zeroOf T0 36 = some (siV SI.zero) from by kernel_rfl]
  rfl
theorem build_Si0 {h : AH} : evBuild T0 36 [] h = some (siV SI.zero, h) := by kernel_rfl
theorem build_Si5 {a b c d e : Nat} {h : AH} : evBuild T0 36 [(0, iv a), (1, iv b), (2, iv c), (3, iv d), (4, iv e)] h = some (siV (SV.si ⟨a, b, c, d, e⟩), h) := by kernel_rfl
theorem SiB.storeAll {h : AH} {p : Nat} {x : SI} (y : SI) (hb : SiB h p x) : ∃ h', evStore T0 36 (pv p 0) (siV y) h = some h' ∧ SiB h' p y ∧ One p h h' := by
  obtain ⟨h', s1, s2, s3, s4⟩ := BoxL.store (n := p) (o := 0) (v := siV y) hb (ws := siL y) sz_Sup rfl (by simp [siL]) rfl (Nat.le_refl _) (Nat.le_refl _)
  exact ⟨h', s1, s2, s4, evStore_keep s1⟩
theorem GSDec_S (hSl : GSealC call) (hN : NumGC call) (hE : GEncC call 64) (hEq : BEqC call) (bs : List Nat) (hl : bs.length = 64) (hbs : ∀ x ∈ bs, x < 256) (v : Value) (h : AH) (hv : WinB h v bs) :
    ∃ r h', frameB T0 X0 call 3000 26 [v] h = some (r, h') ∧ Grow h.next h h' ∧ DecSR bs r := by
  generalize hh1 : h.new (.cells (PM.ofList (siL SI.zero)) 5 36 0 0 .ex) = h1
  have g1 : Grow h.next h h1 := by rw [← hh1]; exact Grow.new _ _
  have n1 : h1.next = h.next + 1 := by rw [← hh1]; rfl
  have s1 : SiB h1 h.next SI.zero := by rw [← hh1]; exact BoxL.new _ _ _
  have hv1 := hv.grow g1
  have c0 := hSl bs v h1 hl hbs hv1
  cases hsl : okSeal bs with
  | false =>
    rw [hsl] at c0
    obtain ⟨h2, q1, q2, q3⟩ := s1.storeAll SI.zero
    refine ⟨.tuple #[siV SI.zero, iv 2], h2, ?_, g1.trans (q3.grow (Nat.le_refl _)) (Nat.le_refl _), .inl ⟨?_, rfl⟩⟩
    · rw [frameB_eq ft26 rfl rfl]
      simp only [Tryz.f26, symM, opFn, Nat.reduceLT, Nat.reduceBEq, symM, alloc_SiZ, hh1, evCall_fn ft28 rfl, c0, build_Si0, q1]
      exact retB_cell1 ft26 rfl (by simp only [symM, Nat.reduceBEq]) q2.loads.2.2.2.2.2 get_same
    · cases hq : okDS bs with
      | false => rfl
      | true => rw [okDS_seal hl hbs hq] at hsl; cases hsl
  | true =>
    rw [hsl] at c0
    have m1 : call 73 [v, iv 4, iv 2] h1 = some (iv (leV ((bs.drop 4).take 2) : Nat), h1) := hN bs 4 2 v h1 hbs (by omega) (by omega) (by omega) (by omega) hv1
    have m2 : call 73 [v, iv 6, iv 1] h1 = some (iv (leV ((bs.drop 6).take 1) : Nat), h1) := hN bs 6 1 v h1 hbs (by omega) (by omega) (by omega) (by omega) hv1
    have m3 : call 73 [v, iv 7, iv 1] h1 = some (iv (leV ((bs.drop 7).take 1) : Nat), h1) := hN bs 7 1 v h1 hbs (by omega) (by omega) (by omega) (by omega) hv1
    have m4 : call 73 [v, iv 8, iv 1] h1 = some (iv (leV ((bs.drop 8).take 1) : Nat), h1) := hN bs 8 1 v h1 hbs (by omega) (by omega) (by omega) (by omega) hv1
    have m5 : call 73 [v, iv 10, iv 2] h1 = some (iv (leV ((bs.drop 10).take 2) : Nat), h1) := hN bs 10 2 v h1 hbs (by omega) (by omega) (by omega) (by omega) hv1
    have hbd : ∀ h, evBuild T0 36 [(0, iv (leV ((bs.drop 4).take 2) : Nat)), (1, iv (leV ((bs.drop 6).take 1) : Nat)), (2, iv (leV ((bs.drop 7).take 1) : Nat)), (3, iv (leV ((bs.drop 8).take 1) : Nat)), (4, iv (leV ((bs.drop 10).take 2) : Nat))] h = some (siV (svOf bs).si, h) := fun h => build_Si5
    generalize hh2 : h1.new (.cells (PM.ofList (siL SI.zero)) 5 36 0 0 .ex) = h2
    have g2 : Grow h1.next h1 h2 := by rw [← hh2]; exact Grow.new _ _
    have n2 : h2.next = h1.next + 1 := by rw [← hh2]; rfl
    have s2 : SiB h2 h1.next SI.zero := by rw [← hh2]; exact BoxL.new _ _ _
    obtain ⟨h3, d1, d2, d3⟩ := s2.storeAll (svOf bs).si
    have n3 := d3.next
    obtain ⟨r4, h4, e1, e5, hr⟩ := hE (svOf bs).si h3
    have n4 := e5.next
    have G3 : Grow h1.next h1 h3 := g2.trans (d3.grow (Nat.le_refl _)) (by omega)
    have G4 : Grow h1.next h1 h4 := G3.trans e5 (by omega)
    have hv4 := hv1.grow G4
    have s4 : SiB h4 h.next SI.zero := BoxL.grow s1 G4 (by omega)
    have d4 : SiB h4 h1.next (svOf bs).si := BoxL.grow d2 e5 (by omega)
    have l3 := d2.loads.2.2.2.2.2
    have l4 := d4.loads.2.2.2.2.2
    have hsv : (svOf bs).si.sv = svOf bs := rfl
    obtain ⟨h5, f1, f2, f3⟩ := s4.storeAll SI.zero
    have bad : ∀ r, r = .tuple #[siV SI.zero, iv 2] → okDS bs = false → DecSR bs r := fun r hr hq => .inl ⟨hq, hr⟩
    rcases hr with ⟨k1, rfl⟩ | ⟨k1, v4, p4, rfl, e2, e3, e4⟩
    · refine ⟨.tuple #[siV SI.zero, iv 2], h5, ?_, (g1.trans G4 (by omega)).trans (f3.grow (Nat.le_refl _)) (Nat.le_refl _), .inl ⟨by unfold okDS; rw [k1]; rfl, rfl⟩⟩
      rw [frameB_eq ft26 rfl rfl]
      simp only [Tryz.f26, symM, opFn, Nat.reduceLT, Nat.reduceBEq, symM, alloc_SiZ, hh1, evCall_fn ft28 rfl, c0, evCall_fn ft73 rfl, m1, m2, m3, m4, m5, hbd, hh2, d1, l3, evCall_fn ft64 rfl, e1, bin_neq, show ((2 : Int) == 0) = false from rfl, build_Si0, f1]
      exact retB_cell1 ft26 rfl (by simp only [symM, Nat.reduceBEq]) f2.loads.2.2.2.2.2 get_same
    · rw [hsv] at e4
      obtain ⟨sl, slt⟩ := svB_ok (svOf bs)
      have K4 : Bks h4 v4 (svB (svOf bs)) := ⟨by omega, by omega, slt, p4, e3, e4⟩
      have ce := hEq (svB (svOf bs)) bs v4 v _ _ h4 slt hbs K4.row hv4.row
      by_cases hq : svB (svOf bs) = bs
      · rw [decide_eq_true hq] at ce
        obtain ⟨h5, f1, f2, f3⟩ := s4.storeAll (svOf bs).si
        refine ⟨.tuple #[siV (svOf bs).si, iv 0], h5, ?_, (g1.trans G4 (by omega)).trans (f3.grow (Nat.le_refl _)) (Nat.le_refl _), .inr ⟨by unfold okDS; rw [k1, decide_eq_true hq]; rfl, rfl⟩⟩
        rw [frameB_eq ft26 rfl rfl]
        simp only [Tryz.f26, symM, opFn, Nat.reduceLT, Nat.reduceBEq, symM, alloc_SiZ, hh1, evCall_fn ft28 rfl, c0, evCall_fn ft73 rfl, m1, m2, m3, m4, m5, hbd, hh2, d1, l3, evCall_fn ft64 rfl, e1, bin_neq, show ((0 : Int) == 0) = true from rfl, evCall_fn ft71 rfl, ce, l4, f1]
        exact retB_cell1 ft26 rfl (by simp only [symM, Nat.reduceBEq]) f2.loads.2.2.2.2.2 get_same
      · rw [decide_eq_false hq] at ce
        refine ⟨.tuple #[siV SI.zero, iv 2], h5, ?_, (g1.trans G4 (by omega)).trans (f3.grow (Nat.le_refl _)) (Nat.le_refl _), .inl ⟨by unfold okDS; rw [decide_eq_false hq, Bool.and_false], rfl⟩⟩
        rw [frameB_eq ft26 rfl rfl]
        simp only [Tryz.f26, symM, opFn, Nat.reduceLT, Nat.reduceBEq, symM, alloc_SiZ, hh1, evCall_fn ft28 rfl, c0, evCall_fn ft73 rfl, m1, m2, m3, m4, m5, hbd, hh2, d1, l3, evCall_fn ft64 rfl, e1, bin_neq, show ((0 : Int) == 0) = true from rfl, evCall_fn ft71 rfl, ce, build_Si0, f1]
        exact retB_cell1 ft26 rfl (by simp only [symM, Nat.reduceBEq]) f2.loads.2.2.2.2.2 get_same
end
end Go.Proofs.YtjdhdhmoedlfdaaGreat.Abs
namespace Go.Proofs.YtjdhdhmoedlfdaaGreat.Abs
open Go Go.Proofs
noncomputable section
variable {call : Abs.Callee}
set_option maxRecDepth 10000
def hdL (a s : Nat) : List Value := [iv a, iv s]
def hdV (a s : Nat) : Value := .agg (hdL a s).toArray
def okHd (a s : Nat) : Bool := decide (0 ≤ (a : Int) ∧ (a : Int) ≤ 39) && decide (1 ≤ (s : Int) ∧ (s : Int) ≤ 1073741824)
def hdB (a s : Nat) : List Nat := sealB (setsAt 4 (setsAt 1 (setAt (List.replicate 64 0) 0 [72, 69, 65, 68]) 4 [a]) 8 [s])
theorem hdB_len (a s : Nat) : (setsAt 4 (setsAt 1 (setAt (List.replicate 64 0) 0 [72, 69, 65, 68]) 4 [a]) 8 [s]).length = 64 := by
  have e0 : (setAt (List.replicate 64 0) 0 [72, 69, 65, 68]).length = 64 := setAt0_len _ (by decide)
  have e1 := setsAt_len 1 [a] (setAt (List.replicate 64 0) 0 [72, 69, 65, 68]) 4 (by rw [e0]; simp)
  have e2 := setsAt_len 4 [s] (setsAt 1 (setAt (List.replicate 64 0) 0 [72, 69, 65, 68]) 4 [a]) 8 (by rw [e1, e0]; simp)
  rw [e2, e1, e0]
theorem hdB_ok (a s : Nat) : (hdB a s).length = 64 ∧ ∀ y ∈ hdB a s, y < 256 :=
  ⟨sealB_len (by rw [hdB_len]; decide), sealB_lt (setsAt_lt _ _ _ _ (setsAt_lt _ _ _ _ (setAt_lt (by simp) (by decide))))⟩
theorem box_Hd {a s : Nat} {h : AH} : rp (some (evNewVar h 73 (hdV a s))) = some (.value (pv h.next 0), h.new (.cells (PM.ofList (hdL a s)) (hdL a s).length 73 0 0 .ex)) := box_agg
def EncHR (h h' : AH) (a s : Nat) (r : Value) : Prop := (okHd a s = false ∧ r = .tuple #[nilV, iv 2]) ∨ (okHd a s = true ∧ ∃ v' p', r = .tuple #[v', iv 0] ∧ h.next ≤ p' ∧ p' < h'.next ∧ OwnB p' h' v' (hdB a s))
abbrev GPHC (call : Abs.Callee) (f : Nat) : Prop := ∀ (a s : Nat) (h : AH), ∃ r h', call f [hdV a s] h = some (r, h') ∧ Grow h.next h h' ∧ EncHR h h' a s r
theorem GPutHead_S (hI : GInC call 136) (hN : NewPageC call) (hS : SetVC call) (hL : PSealC call) (a s : Nat) (h : AH) : ∃ r h', frameB T0 X0 call 3000 74 [hdV a s] h = some (r, h') ∧ Grow h.next h h' ∧ EncHR h h' a s r := by
  generalize hh1 : h.new (.cells (PM.ofList (hdL a s)) (hdL a s).length 73 0 0 .ex) = h1
  have g1 : Grow h.next h h1 := by rw [← hh1]; exact Grow.new _ _
  have n1 : h1.next = h.next + 1 := by rw [← hh1]; rfl
  have hb : BoxL h1 h.next 73 (hdL a s) := by rw [← hh1]; exact BoxL.new _ _ _
  have l0 : evLoad T0 3 (pv h.next 0) h1 = some (iv a) := hb.load agg_int rfl
  have l1 : evLoad T0 3 (pv h.next 1) h1 = some (iv s) := hb.load agg_int rfl
  have i1 := hI a 0 39 h1
  have i2 := hI s 1 1073741824 h1
  cases q1 : decide (0 ≤ (a : Int) ∧ (a : Int) ≤ 39) with
  | false =>
    rw [q1] at i1
    refine ⟨.tuple #[nilV, iv 2], h1, ?_, g1, .inl ⟨by unfold okHd; rw [q1]; rfl, rfl⟩⟩
    rw [frameB_eq ft74 rfl rfl]
    simp only [Tryz.f74, symM, opFn, Nat.reduceLT, Nat.reduceBEq, symM, box_Hd, hh1, field_H, l0, evCall_fn ft136 rfl, i1]
    exact retB_two ft74 rfl (by simp only [symM, Nat.reduceBEq]) get_same
  | true =>
    rw [q1] at i1
    cases q2 : decide (1 ≤ (s : Int) ∧ (s : Int) ≤ 1073741824) with
    | false =>
      rw [q2] at i2
      refine ⟨.tuple #[nilV, iv 2], h1, ?_, g1, .inl ⟨by unfold okHd; rw [q1, q2]; rfl, rfl⟩⟩
      rw [frameB_eq ft74 rfl rfl]
      simp only [Tryz.f74, symM, opFn, Nat.reduceLT, Nat.reduceBEq, symM, box_Hd, hh1, field_H, l0, l1, evCall_fn ft136 rfl, i1, i2]
      exact retB_two ft74 rfl (by simp only [symM, Nat.reduceBEq]) get_same
    | true =>
      rw [q2] at i2
      have ha : (a : Int) ≤ 39 := (of_decide_eq_true q1).2
      have hs : (s : Int) ≤ 1073741824 := (of_decide_eq_true q2).2
      obtain ⟨b, p, h2, a1, a2, a3, a4, a5, a6, a7, a8⟩ := hN [72, 69, 65, 68] h1 (by decide) (by decide) (by decide)
      obtain ⟨h3, b1, b2, b3, b4⟩ := set_one hS b p 4 1 h1.next [a] _ h2 a4 a3 (by decide) (by simp) (by intro n hn; simp at hn; omega) (by simp) a5 a6 a7
      obtain ⟨h4, c1, c2, c3, c4⟩ := set_one hS b p 8 4 h1.next [s] _ h3 a4 a3 (by decide) (by simp) (by intro n hn; simp at hn; omega) (by simp) (by omega) (by omega) b2
      obtain ⟨v', p', h5, d1, d2, d3, d4, d5⟩ := hL b p _ h4 c2 (by omega)
      have l0b : evLoad T0 3 (pv h.next 0) h2 = some (iv a) := (hb.grow a8 (by omega)).load agg_int rfl
      have l1b : evLoad T0 3 (pv h.next 1) h2 = some (iv s) := (hb.grow a8 (by omega)).load agg_int rfl
      have g3 : Grow h1.next h1 h3 := a8.trans b4 (Nat.le_refl _)
      have l1c : evLoad T0 3 (pv h.next 1) h3 = some (iv s) := (hb.grow g3 (by omega)).load agg_int rfl
      have g4 : Grow h.next h h4 := g1.trans (g3.trans c4 (Nat.le_refl _)) (by omega)
      refine ⟨.tuple #[v', iv 0], h5, ?_, g4.trans d5 g4.next, .inr ⟨by unfold okHd; rw [q1, q2]; rfl, v', p', rfl, Nat.le_trans g4.next d2, d3, d4⟩⟩
      have hp := plan_PH
      simp only [regOps, part, Tryz.f74, sub] at hp
      have b1 : call 134 [pv b 0, iv 4, iv 1, .slice (some ⟨h2.next, 0, none⟩) 1 1] (h2.new (.cells (PM.ofList [iv a]) 1 3 0 0 .ex)) = some (pv b 0, h3) := b1
      have c1 : call 134 [pv b 0, iv 8, iv 4, .slice (some ⟨h3.next, 0, none⟩) 1 1] (h3.new (.cells (PM.ofList [iv s]) 1 3 0 0 .ex)) = some (pv b 0, h4) := c1
      rw [frameB_eq ft74 rfl rfl]
      simp only [Tryz.f74, symM, opFn, Nat.reduceLT, Nat.reduceBEq, symM, box_Hd, hh1, field_H, l0, l1, evCall_fn ft136 rfl, i1, i2]
      have a1 : call 46 [.string ⟨#[72, 69, 65, 68]⟩] h1 = some (pv b 0, h2) := a1
      rw [codeB_draw, draw_plan hp rfl]
      simp only [drawAll, opFn, Nat.reduceBEq, field_H, l0, l1, l0b, l1b, l1c, evCall_fn ft46 rfl, a1, effE_cons, goAB_some bs_int1, evCall_fn ft134 rfl, b1, c1, evCall_fn ft47 rfl, d1]
      exact retB_two ft74 rfl (by simp only [symM, Nat.reduceBEq]) get_same
def hdOf (bs : List Nat) : Nat × Nat := (leV ((bs.drop 4).take 1), leV ((bs.drop 8).take 4))
def okDH (bs : List Nat) : Bool := okHd (hdOf bs).1 (hdOf bs).2 && decide (hdB (hdOf bs).1 (hdOf bs).2 = bs)
theorem okDH_seal {bs : List Nat} (hl : bs.length = 64) (hb : ∀ x ∈ bs, x < 256) (h : okDH bs = true) : okSeal bs = true := by
  unfold okDH at h
  rw [Bool.and_eq_true, decide_eq_true_eq] at h
  rw [okSeal_eq hl hb, decide_eq_true_eq, ← h.2]
  exact sealB_idem _ (by rw [hdB_len]; decide)
def DecHR (bs : List Nat) (r : Value) : Prop := (okDH bs = false ∧ r = .tuple #[hdV 0 0, iv 2]) ∨ (okDH bs = true ∧ r = .tuple #[hdV (hdOf bs).1 (hdOf bs).2, iv 0])
theorem alloc_HdZ {h : AH} : evAlloc T0 73 h = some (pv h.next 0, h.new (.cells (PM.ofList (hdL 0 0)) 2 73 0 0 .ex)) := by
  unfold evAlloc
  rw [show zeroOf T0 73 = some (hdV 0 0) from by kernel_rfl]
  rfl
theorem build_Hd0 {h : AH} : evBuild T0 73 [] h = some (hdV 0 0, h) := by kernel_rfl
theorem build_Hd2 {a s : Nat} {h : AH} : evBuild T0 73 [(0, iv a), (1, iv s)] h = some (hdV a s, h) := by kernel_rfl
theorem agg_Head : aggT T0 73 = some true := by kernel_rfl
theorem hd_load {h : AH} {p a s : Nat} (hb : BoxL h p 73 (hdL a s)) : evLoad T0 73 (pv p 0) h = some (hdV a s) := hb.loadA (o := 0) (ws := hdL a s) agg_Head sz_Head (Nat.le_refl _) (fun i x hi => by rw [Nat.zero_add]; exact hi)
theorem hd_store {h : AH} {p a s : Nat} (a' s' : Nat) (hb : BoxL h p 73 (hdL a s)) : ∃ h', evStore T0 73 (pv p 0) (hdV a' s') h = some h' ∧ BoxL h' p 73 (hdL a' s') ∧ One p h h' := by
  obtain ⟨h', s1, s2, s3, s4⟩ := BoxL.store (n := p) (o := 0) (v := hdV a' s') hb (ws := hdL a' s') sz_Head rfl (by simp [hdL]) rfl (Nat.le_refl _) (Nat.le_refl _)
  exact ⟨h', s1, s2, s4, evStore_keep s1⟩
theorem GGetHead_S (hSl : GSealC call) (hN : NumGC call) (hE : GPHC call 74) (hEq : BEqC call) (bs : List Nat) (hl : bs.length = 64) (hbs : ∀ x ∈ bs, x < 256) (v : Value) (h : AH) (hv : WinB h v bs) :
    ∃ r h', frameB T0 X0 call 3000 27 [v] h = some (r, h') ∧ Grow h.next h h' ∧ DecHR bs r := by
  generalize hh1 : h.new (.cells (PM.ofList (hdL 0 0)) 2 73 0 0 .ex) = h1
  have g1 : Grow h.next h h1 := by rw [← hh1]; exact Grow.new _ _
  have n1 : h1.next = h.next + 1 := by rw [← hh1]; rfl
  have s1 : BoxL h1 h.next 73 (hdL 0 0) := by rw [← hh1]; exact BoxL.new _ _ _
  have hv1 := hv.grow g1
  have c0 := hSl bs v h1 hl hbs hv1
  cases hsl : okSeal bs with
  | false =>
    rw [hsl] at c0
    obtain ⟨h2, q1, q2, q3⟩ := hd_store 0 0 s1
    refine ⟨.tuple #[hdV 0 0, iv 2], h2, ?_, g1.trans (q3.grow (Nat.le_refl _)) (Nat.le_refl _), .inl ⟨?_, rfl⟩⟩
    · rw [frameB_eq ft27 rfl rfl]
      simp only [Tryz.f27, symM, opFn, Nat.reduceLT, Nat.reduceBEq, symM, alloc_HdZ, hh1, evCall_fn ft28 rfl, c0, build_Hd0, q1]
      exact retB_cell1 ft27 rfl (by simp only [symM, Nat.reduceBEq]) (hd_load q2) get_same
    · cases hq : okDH bs with
      | false => rfl
      | true => rw [okDH_seal hl hbs hq] at hsl; cases hsl
  | true =>
    rw [hsl] at c0
    have m1 : call 73 [v, iv 4, iv 1] h1 = some (iv (leV ((bs.drop 4).take 1) : Nat), h1) := hN bs 4 1 v h1 hbs (by omega) (by omega) (by omega) (by omega) hv1
    have m2 : call 73 [v, iv 8, iv 4] h1 = some (iv (leV ((bs.drop 8).take 4) : Nat), h1) := hN bs 8 4 v h1 hbs (by omega) (by omega) (by omega) (by omega) hv1
    have hbd : ∀ h, evBuild T0 73 [(0, iv (leV ((bs.drop 4).take 1) : Nat)), (1, iv (leV ((bs.drop 8).take 4) : Nat))] h = some (hdV (hdOf bs).1 (hdOf bs).2, h) := fun h => build_Hd2
    generalize hh2 : h1.new (.cells (PM.ofList (hdL 0 0)) 2 73 0 0 .ex) = h2
    have g2 : Grow h1.next h1 h2 := by rw [← hh2]; exact Grow.new _ _
    have n2 : h2.next = h1.next + 1 := by rw [← hh2]; rfl
    have s2 : BoxL h2 h1.next 73 (hdL 0 0) := by rw [← hh2]; exact BoxL.new _ _ _
    obtain ⟨h3, d1, d2, d3⟩ := hd_store (hdOf bs).1 (hdOf bs).2 s2
    have n3 := d3.next
    obtain ⟨r4, h4, e1, e5, hr⟩ := hE (hdOf bs).1 (hdOf bs).2 h3
    have n4 := e5.next
    have G3 : Grow h1.next h1 h3 := g2.trans (d3.grow (Nat.le_refl _)) (by omega)
    have G4 : Grow h1.next h1 h4 := G3.trans e5 (by omega)
    have hv4 := hv1.grow G4
    have s4 : BoxL h4 h.next 73 (hdL 0 0) := s1.grow G4 (by omega)
    have d4 := d2.grow e5 (by omega)
    have l3 := hd_load d2
    have l4 := hd_load d4
    obtain ⟨h5, f1, f2, f3⟩ := hd_store 0 0 s4
    rcases hr with ⟨k1, rfl⟩ | ⟨k1, v4, p4, rfl, e2, e3, e4⟩
    · refine ⟨.tuple #[hdV 0 0, iv 2], h5, ?_, (g1.trans G4 (by omega)).trans (f3.grow (Nat.le_refl _)) (Nat.le_refl _), .inl ⟨by unfold okDH; rw [k1]; rfl, rfl⟩⟩
      rw [frameB_eq ft27 rfl rfl]
      simp only [Tryz.f27, symM, opFn, Nat.reduceLT, Nat.reduceBEq, symM, alloc_HdZ, hh1, evCall_fn ft28 rfl, c0, evCall_fn ft73 rfl, m1, m2, hbd, hh2, d1, l3, evCall_fn ft74 rfl, e1, bin_neq, show ((2 : Int) == 0) = false from rfl, build_Hd0, f1]
      exact retB_cell1 ft27 rfl (by simp only [symM, Nat.reduceBEq]) (hd_load f2) get_same
    · obtain ⟨sl, slt⟩ := hdB_ok (hdOf bs).1 (hdOf bs).2
      have K4 : Bks h4 v4 (hdB (hdOf bs).1 (hdOf bs).2) := ⟨by omega, by omega, slt, p4, e3, e4⟩
      have ce := hEq (hdB (hdOf bs).1 (hdOf bs).2) bs v4 v _ _ h4 slt hbs K4.row hv4.row
      by_cases hq : hdB (hdOf bs).1 (hdOf bs).2 = bs
      · rw [decide_eq_true hq] at ce
        obtain ⟨h5, f1, f2, f3⟩ := hd_store (hdOf bs).1 (hdOf bs).2 s4
        refine ⟨.tuple #[hdV (hdOf bs).1 (hdOf bs).2, iv 0], h5, ?_, (g1.trans G4 (by omega)).trans (f3.grow (Nat.le_refl _)) (Nat.le_refl _), .inr ⟨by unfold okDH; rw [k1, decide_eq_true hq]; rfl, rfl⟩⟩
        rw [frameB_eq ft27 rfl rfl]
        simp only [Tryz.f27, symM, opFn, Nat.reduceLT, Nat.reduceBEq, symM, alloc_HdZ, hh1, evCall_fn ft28 rfl, c0, evCall_fn ft73 rfl, m1, m2, hbd, hh2, d1, l3, evCall_fn ft74 rfl, e1, bin_neq, show ((0 : Int) == 0) = true from rfl, evCall_fn ft71 rfl, ce, l4, f1]
        exact retB_cell1 ft27 rfl (by simp only [symM, Nat.reduceBEq]) (hd_load f2) get_same
      · rw [decide_eq_false hq] at ce
        refine ⟨.tuple #[hdV 0 0, iv 2], h5, ?_, (g1.trans G4 (by omega)).trans (f3.grow (Nat.le_refl _)) (Nat.le_refl _), .inl ⟨by unfold okDH; rw [decide_eq_false hq, Bool.and_false], rfl⟩⟩
        rw [frameB_eq ft27 rfl rfl]
        simp only [Tryz.f27, symM, opFn, Nat.reduceLT, Nat.reduceBEq, symM, alloc_HdZ, hh1, evCall_fn ft28 rfl, c0, evCall_fn ft73 rfl, m1, m2, hbd, hh2, d1, l3, evCall_fn ft74 rfl, e1, bin_neq, show ((0 : Int) == 0) = true from rfl, evCall_fn ft71 rfl, ce, build_Hd0, f1]
        exact retB_cell1 ft27 rfl (by simp only [symM, Nat.reduceBEq]) (hd_load f2) get_same
end
end Go.Proofs.YtjdhdhmoedlfdaaGreat.Abs
namespace Go.Proofs.YtjdhdhmoedlfdaaGreat.Abs
open Go Go.Proofs
noncomputable section
variable {call : Abs.Callee}
set_option maxRecDepth 10000
theorem ft25 : T0.ft.get 25 = some Tryz.f25 := by kernel_rfl
theorem ft24 : T0.ft.get 24 = some Tryz.f24 := by kernel_rfl
theorem ft72 : T0.ft.get 72 = some Tryz.f72 := by kernel_rfl
def WB (h : AH) (v : Value) (bss : List (List Nat)) : Prop :=
  ∃ vs, Row h.next h v vs 57 ∧ vs.length = bss.length ∧ ∀ (i : Nat) (w : Value) (bs : List Nat), vs[i]? = some w → bss[i]? = some bs → WinB h w bs
theorem Row.growN {h h' : AH} {v : Value} {vs : List Value} {e : TypeId} (h1 : Row h.next h v vs e) (g : Grow h.next h h') : Row h'.next h' v vs e := by
  rcases h1 with q | ⟨b, o, cap, c, k, lo, hi, kd, el, q1, q2, q3, q4⟩
  · exact .inl q
  · exact .inr ⟨b, o, cap, c, k, lo, hi, kd, el, q1, Nat.lt_of_lt_of_le q2 g.next, (g.keep b q2).trans q3, q4⟩
theorem BL.wb {n : Nat} {h : AH} {v : Value} {bss : List (List Nat)} (hb : BL n h v bss) : WB h v bss := by
  obtain ⟨vs, h1, h2, h3⟩ := hb
  exact ⟨vs, h1.row, h2, fun i w bs hw hb => (h3 i w bs hw hb).winB⟩
theorem WB.grow {h h' : AH} {v : Value} {bss : List (List Nat)} (hb : WB h v bss) (g : Grow h.next h h') : WB h' v bss := by
  obtain ⟨vs, h1, h2, h3⟩ := hb
  exact ⟨vs, h1.growN g, h2, fun i w bs hw hb => (h3 i w bs hw hb).grow g⟩
theorem WB.len {h h' : AH} {v : Value} {bss : List (List Nat)} (hb : WB h v bss) (ty : TypeId) : evBuiltin T0 .len #[22] ty [v] h' = some (.value (iv bss.length), h') := by
  obtain ⟨vs, h1, h2, _⟩ := hb
  rw [h1.len und_blocks, h2]
theorem WB.eqv {h : AH} {v : Value} {bss : List (List Nat)} (hb : WB h v bss) : eqV v v = true := by
  obtain ⟨vs, h1, _⟩ := hb
  exact h1.eqv
theorem WB.ats {h : AH} {v : Value} {bs : List Nat} {bss : List (List Nat)} {i : Nat} (hb : WB h v bss) (hi : bss[i]? = some bs) : ∃ p w, evIndexAddr T0 22 v (iv i) = some p ∧ eqV p p = true ∧ ∀ h', Grow h.next h h' → evLoad T0 57 p h' = some w ∧ WinB h' w bs := by
  obtain ⟨vs, h1, h2, h3⟩ := hb
  have hl : i < vs.length := by rw [h2]; exact (List.getElem?_eq_some_iff.1 hi).1
  have hx : vs[i]? = some vs[i] := List.getElem?_eq_getElem hl
  obtain ⟨p, a1, a2, a3⟩ := h1.at3 und_blocks sz_bytes agg_bytes hx
  refine ⟨p, vs[i], a1, a3, fun h' g => ⟨?_, (h3 i _ bs hx hi).grow g⟩⟩
  obtain ⟨p2, d3, d4⟩ := (h1.growN g).at und_blocks sz_bytes agg_bytes hx
  rw [a1] at d3
  cases d3
  exact d4
theorem WinB.len {h h' : AH} {v : Value} {bs : List Nat} (hw : WinB h v bs) (ty : TypeId) : evBuiltin T0 .len #[57] ty [v] h' = some (.value (iv bs.length), h') := by
  rw [hw.row.len und_bytes, bytesV_len]
def EB (h : AH) (w : Value) (bs : List Nat) : Prop := (∀ ty h', evBuiltin T0 .len #[57] ty [w] h' = some (.value (iv bs.length), h')) ∧ (bs.length = 64 → WinB h w bs)
theorem EB.grow {h h' : AH} {w : Value} {bs : List Nat} (hb : EB h w bs) (g : Grow h.next h h') : EB h' w bs := ⟨hb.1, fun q => (hb.2 q).grow g⟩
def AB (h : AH) (v : Value) (bss : List (List Nat)) : Prop :=
  ∃ vs, Row h.next h v vs 57 ∧ vs.length = bss.length ∧ ∀ (i : Nat) (w : Value) (bs : List Nat), vs[i]? = some w → bss[i]? = some bs → EB h w bs
theorem AB.grow {h h' : AH} {v : Value} {bss : List (List Nat)} (hb : AB h v bss) (g : Grow h.next h h') : AB h' v bss := by
  obtain ⟨vs, h1, h2, h3⟩ := hb
  exact ⟨vs, h1.growN g, h2, fun i w bs hw hb => (h3 i w bs hw hb).grow g⟩
theorem AB.len {h h' : AH} {v : Value} {bss : List (List Nat)} (hb : AB h v bss) (ty : TypeId) : evBuiltin T0 .len #[22] ty [v] h' = some (.value (iv bss.length), h') := by
  obtain ⟨vs, h1, h2, _⟩ := hb
  rw [h1.len und_blocks, h2]
theorem AB.at {h : AH} {v : Value} {bs : List Nat} {bss : List (List Nat)} {i : Nat} (hb : AB h v bss) (hi : bss[i]? = some bs) : ∃ p w, evIndexAddr T0 22 v (iv i) = some p ∧ evLoad T0 57 p h = some w ∧ EB h w bs := by
  obtain ⟨vs, h1, h2, h3⟩ := hb
  have hl : i < vs.length := by rw [h2]; exact (List.getElem?_eq_some_iff.1 hi).1
  have hx : vs[i]? = some vs[i] := List.getElem?_eq_getElem hl
  obtain ⟨p, a1, a2⟩ := h1.at und_blocks sz_bytes agg_bytes hx
  exact ⟨p, vs[i], a1, a2, h3 i _ bs hx hi⟩
theorem AB.wb {h : AH} {v : Value} {bss : List (List Nat)} (hb : AB h v bss) (h64 : ∀ bs ∈ bss, bs.length = 64) : WB h v bss := by
  obtain ⟨vs, h1, h2, h3⟩ := hb
  exact ⟨vs, h1, h2, fun i w bs hw hb => (h3 i w bs hw hb).2 (h64 bs (List.mem_of_getElem? hb))⟩
theorem WB.ab {h : AH} {v : Value} {bss : List (List Nat)} (hb : WB h v bss) : AB h v bss := by
  obtain ⟨vs, h1, h2, h3⟩ := hb
  exact ⟨vs, h1, h2, fun i w bs hw hb => ⟨fun ty h' => (h3 i w bs hw hb).len ty, fun _ => h3 i w bs hw hb⟩⟩
def len64 (bs : List Nat) : Bool := decide (bs.length = 64)
theorem len64_int (bs : List Nat) : (((bs.length : Nat) : Int) == 64) = len64 bs := by
  unfold len64
  rw [Bool.eq_iff_iff]
  simp only [beq_iff_eq, decide_eq_true_eq]
  omega
abbrev GOpen1C (call : Abs.Callee) : Prop := ∀ (v : Value) (bs : List Nat) (h : AH), EB h v bs → call 25 [v] h = some (.bool (!len64 bs), h)
theorem GOpen1_S (v : Value) (bs : List Nat) (h : AH) (hw : EB h v bs) : frameB T0 X0 call 3000 25 [v] h = some (.bool (!len64 bs), h) := by
  rw [frameB_eq ft25 rfl rfl]
  simp only [Tryz.f25, symM, opFn, Nat.reduceLT, Nat.reduceBEq, symM, hw.1, bin_neq, len64_int]
  exact retB_one ft25 rfl get_same
def idxN : List (List Nat) → Nat → Int
  | [], _ => -1
  | bs :: l, i => bif len64 bs then idxN l (i + 1) else i
theorem idxN_any : ∀ (l : List (List Nat)) (i : Nat), decide ((0 : Int) ≤ idxN l i) = l.any fun bs => !len64 bs
  | [], i => rfl
  | bs :: l, i => by
    rw [idxN, List.any_cons]
    cases len64 bs with
    | true => rw [cond_true, Bool.not_true, Bool.false_or]; exact idxN_any l (i + 1)
    | false => rw [cond_false, Bool.not_false, Bool.true_or]; exact decide_eq_true (by omega)
theorem wadd1x {i : Nat} (h : i + 1 < 9223372036854775808) : IntKind.i64.wrap ((i : Int) + 1) = ((i + 1 : Nat) : Int) := by
  rw [IntWalk.i64_in _ (by omega)]; omega
noncomputable def bodyIB : Code := part Tryz.f72 [1, 0, 1, 0, 0]
abbrev EIdxB : Env := ⟨72, 19, none⟩
theorem gibLp (hO : GOpen1C call) (v : Value) (bss : List (List Nat)) (h : AH) (hv : AB h v bss) (hl : bss.length < XB) :
    ∀ (l : List (List Nat)) (i : Nat) (tm : PM Value) (N : Nat), bss.drop i = l → i + l.length = bss.length → l.length + 60 ≤ N → tm.get 0 = some v → tm.get 1 = some (.func (.func 25) #[] #[]) → tm.get 7 = some (iv bss.length) → tm.get 8 = some (iv i) →
      ∃ tm', (codeB T0 X0 call N EIdxB (.loop bodyIB) tm h [] = .jump .ret tm' h [] ∧ tm'.get 4 = some (iv (idxN l i))) ∨ (codeB T0 X0 call N EIdxB (.loop bodyIB) tm h [] = .jump (.exit 0) tm' h [] ∧ idxN l i = -1) := by
  have hclo : ∀ (args : List Value) (h : AH), evCall T0 X0 (.func (.func 25) #[] #[]) args h = some (.enter 25 (args ++ []), h) := fun args h => evCall_clo (l := []) ft25 rfl
  rw [XB_val] at hl
  intro l
  induction l with
  | nil =>
    intro i tm N hd hi hN g0 g1 g7 g8
    obtain ⟨N, rfl⟩ : ∃ a, N = a + 60 := ⟨N - 60, by simp at hN; omega⟩
    apply Exists.intro
    right
    refine ⟨?_, rfl⟩
    rw [codeB_loop]
    simp only [bodyIB, part, Tryz.f72, sub, symM, opFn, Nat.reduceLT, symM, g7, g8, bin_lss, decide_eq_false (show ¬ (i : Int) < (bss.length : Nat) by simp at hi; omega)]
    rfl
  | cons bs l ih =>
    intro i tm N hd hi hN g0 g1 g7 g8
    obtain ⟨N, rfl⟩ : ∃ a, N = a + 60 := ⟨N - 60, by simp at hN; omega⟩
    have hx1 : bss[i]? = some bs := by have := congrArg (fun l => l[0]?) hd; simpa using this
    have hil : i < bss.length := (List.getElem?_eq_some_iff.1 hx1).1
    obtain ⟨p, w, a1, a2, a3⟩ := hv.at hx1
    have hc := hO w bs h a3
    cases hq : len64 bs with
    | false =>
      rw [hq] at hc
      apply Exists.intro
      left
      apply And.intro
      · rw [codeB_loop]
        simp only [bodyIB, part, Tryz.f72, sub, symM, opFn, Nat.reduceLT, Nat.reduceBEq, symM, g0, g1, g7, g8, bin_lss, decide_eq_true (show (i : Int) < (bss.length : Nat) by omega), a1, a2, hclo, List.append_nil, hc]
        rfl
      · simp only [symM, idxN, hq, cond_false]
    | true =>
      rw [hq] at hc
      rw [show N + 60 = (N + 59) + 1 from rfl, codeB_loop]
      simp only [bodyIB, part, Tryz.f72, sub, symM, opFn, Nat.reduceLT, Nat.reduceBEq, symM, g0, g1, g7, g8, bin_lss, decide_eq_true (show (i : Int) < (bss.length : Nat) by omega), a1, a2, hclo, List.append_nil, hc, bin_add, wadd1x (show i + 1 < 9223372036854775808 by omega)]
      rw [show idxN (bs :: l) i = idxN l (i + 1) from by rw [idxN, hq]; rfl]
      exact ih (i + 1) _ (N + 59) (by rw [← List.drop_drop, hd]; rfl) (by simp at hi ⊢; omega) (by simp at hN ⊢; omega) (by simp only [symM, Nat.reduceBEq, g0]) (by simp only [symM, Nat.reduceBEq, g1]) (by simp only [symM, Nat.reduceBEq, g7]) get_same
theorem bind_loopL {T : Tab} {X : Exts} {call : Abs.Callee} {n : Nat} {E : Env} {b : Code} {tm : PM Value} {h : AH} {df : List Nat} {i : Nat} {Q : CO → Prop} {k : PM Value → AH → List Nat → CO} {P : CO → Prop}
    (H : Q (codeB T X call n E (.loop b) tm h df)) (K : ∀ x, Q x → P (CO.bind (CO.unblock i x) k)) :
    P (CO.bind (CO.unblock i (codeB T X call n E (.loop b) tm h df)) k) := K _ H
abbrev GIdxBC (call : Abs.Callee) (B : Nat) : Prop := ∀ (v : Value) (bss : List (List Nat)) (h : AH), AB h v bss → bss.length ≤ B → call 72 [v, .func (.func 25) #[] #[]] h = some (iv (idxN bss 0), h)
theorem GIdxB_S (hO : GOpen1C call) (v : Value) (bss : List (List Nat)) (h : AH) (hv : AB h v bss) (hl : bss.length < XB) (M : Nat) (hM : bss.length ≤ M) :
    frameB T0 X0 call (M + 3000) 72 [v, .func (.func 25) #[] #[]] h = some (iv (idxN bss 0), h) := by
  rw [frameB_eq ft72 rfl rfl]
  simp only [Tryz.f72, symM, opFn, Nat.reduceLT, Nat.reduceBEq, symM, symL, hv.len]
  refine bind_loopL (b := bodyIB) (Q := fun x => ∃ tm', (x = .jump .ret tm' h [] ∧ tm'.get 4 = some (iv (idxN bss 0))) ∨ (x = .jump (.exit 0) tm' h [] ∧ idxN bss 0 = -1)) (P := fun x => endF T0 72 x = some (iv (idxN bss 0), h)) ?_ ?_
  · exact gibLp hO v bss h hv hl bss 0 _ _ rfl (by simp) (by omega) (by simp only [symM, Nat.reduceBEq]) (by simp only [symM, Nat.reduceBEq]) (by simp only [symM, Nat.reduceBEq]) (by simp only [symM]; rfl)
  · intro x ⟨tm', hx⟩
    rcases hx with ⟨rfl, h4⟩ | ⟨rfl, h4⟩
    · simp only [symM]
      exact retB_one ft72 rfl h4
    · rw [h4]
      simp only [symM]
      exact retB_one ft72 rfl get_same
abbrev GContBC (call : Abs.Callee) (B : Nat) : Prop := ∀ (v : Value) (bss : List (List Nat)) (h : AH), AB h v bss → bss.length ≤ B → call 24 [v, .func (.func 25) #[] #[]] h = some (.bool (bss.any fun bs => !len64 bs), h)
theorem GContB_S (v : Value) (bss : List (List Nat)) (h : AH) (hI : call 72 [v, .func (.func 25) #[] #[]] h = some (iv (idxN bss 0), h)) :
    frameB T0 X0 call 3000 24 [v, .func (.func 25) #[] #[]] h = some (.bool (bss.any fun bs => !len64 bs), h) := by
  rw [frameB_eq ft24 rfl rfl]
  simp only [Tryz.f24, symM, opFn, Nat.reduceLT, Nat.reduceBEq, symM, evCall_fn ft72 rfl, hI, bin_geq, idxN_any]
  exact retB_one ft24 rfl get_same
end
end Go.Proofs.YtjdhdhmoedlfdaaGreat.Abs
namespace Go.Proofs.YtjdhdhmoedlfdaaGreat.Abs
open Go Go.Proofs
noncomputable section
variable {call : Abs.Callee}
set_option maxRecDepth 10000
def imgX (x : SI) (vf vn vb : Value) (ws : List Value) : List Value := siL x ++ [vf, vn, vb] ++ ws
def NcP (vn : Value) (h : AH) : Prop := ∃ n k cs, OwnC 12 n h vn k cs 48 ∧ 0 < k ∧ k < 1000 ∧ cs.all oneCell = true
abbrev CloN2C (call : Abs.Callee) : Prop := ∀ (n k : Nat) (v : Value) (cs : List Value) (h : AH), OwnC 12 n h v k cs 48 → 0 < k → k < 1000 → cs.all oneCell = true → ∃ v' h', call 141 [v] h = some (v', h') ∧ SLv v' ∧ Grow h.next h h'
theorem NcP.use {vn : Value} {h hh : AH} (hp : NcP vn h) (hCN : CloN2C call) (g : Grow h.next h hh) : ∃ v' h', call 141 [vn] hh = some (v', h') ∧ SLv v' ∧ Grow hh.next hh h' := by
  obtain ⟨n, k, cs, h1, h2, h3, h4⟩ := hp
  exact hCN n k vn cs hh (h1.grow g) h2 h3 h4
theorem CloneN2_S (n k : Nat) (v : Value) (cs : List Value) (h : AH) (hv : OwnC 12 n h v k cs 48) (hk : 0 < k) (hk2 : k < 1000) (hall : cs.all oneCell = true) :
    ∃ v' h', frameB T0 X0 call 3000 141 [v] h = some (v', h') ∧ SLv v' ∧ Grow h.next h h' := by
  have g1 := Grow.new h (.cells (PM.ofList []) 0 48 0 0 .ex)
  have ho : OwnC 12 h.next (h.new (.cells (PM.ofList []) 0 48 0 0 .ex)) (.slice (some ⟨h.next, 0, none⟩) 0 0) 0 [] 48 := .inr ⟨h.next, PM.ofList [], .ex, 0, Nat.le_refl _, Nat.lt_succ_self _, rfl, get_new_same _ _, rfl, fun i x hx => by simp at hx, .inl ⟨rfl, rfl⟩⟩
  have hx2 := hv.grow g1
  have hlen : cs.length = k * 12 := by
    rcases hv with ⟨_, rfl, rfl⟩ | ⟨b, c, kd, cap, _, _, _, _, q, _⟩
    · rfl
    · exact q
  rw [← ti_Node.2.1] at hx2
  obtain ⟨v', h', e1, e2, e3, _⟩ := append_big und_nodes tt_Node ti_Node.1 ti_Node.2.1 ti_Node.2.2 ho (appended_own und_nodes hx2) (by rw [hlen]) hall (by omega) g1.next 38
  have hsl : SLv v := by
    rcases hv with ⟨_, q, _⟩ | ⟨b, c, kd, cap, _, _, rfl, _⟩
    · omega
    · exact ⟨_, _, _, rfl⟩
  obtain ⟨a, l, c, rfl⟩ := hsl
  refine ⟨v', h', ?_, ?_, g1.trans e3 (Nat.le_refl _)⟩
  · rw [frameB_eq ft141 rfl rfl]
    simp only [Tryz.f141, symM, opFn, Nat.reduceLT, Nat.reduceBEq, symM, nil_eqN, bs_n0, e1]
    exact retB_one ft141 rfl get_same
  · rcases e2 with ⟨_, q, _⟩ | ⟨b, c, kd, cap, _, _, rfl, _⟩
    · omega
    · exact ⟨_, _, _, rfl⟩
def stX (x : SI) (vf vn vb : Value) : List Value := siL x ++ [vf, vn, vb]
def sxV (x : SI) (vf vn vb : Value) : Value := .agg (stX x vf vn vb).toArray
theorem alloc_sx {h : AH} : evAlloc T0 67 h = some (pv h.next 0, h.new (.cells (PM.ofList (stX SI.zero nilV nilV nilV)) 8 67 0 0 .ex)) := by
  unfold evAlloc
  rw [show zeroOf T0 67 = some (sxV SI.zero nilV nilV nilV) from by kernel_rfl]
  rfl
theorem box_sx {x : SI} {vf vn vb : Value} {h : AH} : rp (some (evNewVar h 67 (sxV x vf vn vb))) = some (.value (pv h.next 0), h.new (.cells (PM.ofList (stX x vf vn vb)) (stX x vf vn vb).length 67 0 0 .ex)) := box_agg
theorem build_sx {x : SI} {vf vn vb : Value} {h : AH} (h1 : SLv vf) (h2 : SLv vn) (h3 : SLv vb) : evBuild T0 67 [(0, siV x), (1, vf), (2, vn), (3, vb)] h = some (sxV x vf vn vb, h) := by
  obtain ⟨_, _, _, rfl⟩ := h1
  obtain ⟨_, _, _, rfl⟩ := h2
  obtain ⟨_, _, _, rfl⟩ := h3
  kernel_rfl
theorem stX_one {x : SI} {vf vn vb : Value} (h1 : SLv vf) (h2 : SLv vn) (h3 : SLv vb) : (stX x vf vn vb).all oneCell = true := by
  obtain ⟨_, _, _, rfl⟩ := h1
  obtain ⟨_, _, _, rfl⟩ := h2
  obtain ⟨_, _, _, rfl⟩ := h3
  rfl
theorem stX_loads {h : AH} {p : Nat} {x : SI} {vf vn vb : Value} (hb : BoxL h p 67 (stX x vf vn vb)) : evLoad T0 36 (pv p 0) h = some (siV x) ∧ evLoad T0 57 (pv p 5) h = some vf ∧ evLoad T0 38 (pv p 6) h = some vn ∧ evLoad T0 22 (pv p 7) h = some vb ∧ evLoad T0 67 (pv p 0) h = some (sxV x vf vn vb) :=
  ⟨hb.loadA (o := 0) (ws := siL x) agg_Sup sz_Sup (by show 5 ≤ 8; decide) (fun i x hi => by
    rw [Nat.zero_add]
    unfold stX
    rw [List.getElem?_append_left (List.getElem?_eq_some_iff.1 hi).1]; exact hi), hb.load agg_bytes rfl, hb.load agg_nodes rfl, hb.load agg_blocks rfl, hb.loadA (o := 0) (ws := stX x vf vn vb) agg_state sz_st (Nat.le_refl _) (fun i x hi => by rw [Nat.zero_add]; exact hi)⟩
theorem eqV_si (x : SI) : eqV (siV x) (siV x) = true := by simp [siV, siL, eqV, eqVs]
theorem Copy3_S (hCl : BCloneC call) (hCN : CloN2C call) (hB : CloBC call) (n : Nat) (x : SI) (vf vn vb : Value) (fb : List Nat) (bss : List (List Nat)) (h : AH) (hvn : SLv vn) (hNc : NcP vn h) (hF : Bks h vf fb) (hb : BL n h vb bss) (h0 : bss.length ≠ 0) (hl : bss.length < 1000) :
    ∃ vf' vn' vb' h', frameB T0 X0 call 3000 80 [sxV x vf vn vb] h = some (sxV x vf' vn' vb', h') ∧ SLv vf' ∧ SLv vn' ∧ BL h.next h' vb' bss ∧ Grow h.next h h' := by
  generalize hh1 : h.new (.cells (PM.ofList (stX x vf vn vb)) (stX x vf vn vb).length 67 0 0 .ex) = h1
  have g1 : Grow h.next h h1 := by rw [← hh1]; exact Grow.new _ _
  have n1 : h1.next = h.next + 1 := by rw [← hh1]; rfl
  have s1 : BoxL h1 h.next 67 (stX x vf vn vb) := by rw [← hh1]; exact BoxL.new _ _ _
  generalize hh2 : h1.new (.cells (PM.ofList (stX SI.zero nilV nilV nilV)) 8 67 0 0 .ex) = h2
  have g2 : Grow h1.next h1 h2 := by rw [← hh2]; exact Grow.new _ _
  have n2 : h2.next = h1.next + 1 := by rw [← hh2]; rfl
  have s2 : BoxL h2 h1.next 67 (stX SI.zero nilV nilV nilV) := by rw [← hh2]; exact BoxL.new _ _ _
  have G2 : Grow h.next h h2 := g1.trans g2 (by omega)
  have s12 := s1.grow g2 (by omega)
  obtain ⟨vf', h3, a1, a2, a3⟩ := (hF.grow G2).clone hCl
  have n3 := a3.next
  have G3 := G2.trans a3 G2.next
  have s13 := s12.grow a3 (by omega)
  obtain ⟨vn', h4, b1, b2, b3⟩ := hNc.use hCN G3
  have n4 := b3.next
  have G4 := G3.trans b3 G3.next
  have s14 := s13.grow b3 (by omega)
  obtain ⟨vb', h5, c1, c2, c3⟩ := hB n vb bss h4 (hb.grow G4) h0 hl
  have n5 := c3.next
  have G5 := G4.trans c3 G4.next
  have s15 := s14.grow c3 (by omega)
  have s25 : BoxL h5 h1.next 67 (stX SI.zero nilV nilV nilV) := ((s2.grow a3 (by omega)).grow b3 (by omega)).grow c3 (by omega)
  have k1 := a2.sl
  have k3 := c2.sl h0
  have kb := hb.sl h0
  obtain ⟨h6, d1, d2, d3, d4⟩ := BoxL.store (n := h.next) (o := 0) (v := sxV x vf' vn' vb') s25 (ws := stX x vf' vn' vb') sz_st rfl (by simp [stX, siL]) (stX_one k1 b2 k3) (Nat.le_refl _) (by omega)
  have d2 : BoxL h6 h1.next 67 (stX x vf' vn' vb') := d2
  have dk := evStore_keep d1
  refine ⟨vf', vn', vb', h6, ?_, k1, b2, ?_, G5.trans d3 (Nat.le_refl _)⟩
  · have hp := plan_cp
    simp only [regOps, part, Tryz.f80, sub] at hp
    have l2 := stX_loads s12
    have l3 := stX_loads s13
    have l4 := stX_loads s14
    have l5 := stX_loads s15
    have ef := hF.sl.one1.2.2
    have eb := kb.one1.2.2
    rw [frameB_eq ft80 rfl rfl]
    simp only [Tryz.f80, symM, opFn, Nat.reduceLT, symM, box_sx, hh1, alloc_sx, hh2]
    rw [codeB_draw, draw_plan hp rfl]
    simp only [drawAll, opFn, Nat.reduceBEq, field_st, l2, l3, l4, l5, eqV_si, eb, hvn.one1.2.2, evCall_fn ft29 rfl, a1, effE_cons, evCall_fn ft141 rfl, b1, evCall_fn ft69 rfl, c1, build_sx k1 b2 k3, d1]
    exact retB_cell ft80 rfl (by simp only [symM, Nat.reduceBEq]) (stX_loads d2).2.2.2.2
  · exact (c2.one ⟨d4, dk⟩ s25.ty (by decide) (by decide)).less (by omega)
theorem imx_sup {h : AH} {pI : Nat} {x y : SI} {vf vn vb : Value} {ws : List Value} (hI : BoxL h pI 69 (imgX y vf vn vb ws)) :
    ∃ h', evStore T0 36 (pv pI 0) (siV x) h = some h' ∧ BoxL h' pI 69 (imgX x vf vn vb ws) ∧ One pI h h' := by
  obtain ⟨h', s1, s2, s3, s4⟩ := BoxL.store (n := pI) (o := 0) (v := siV x) hI (ws := siL x) sz_Sup rfl (by simp [siL]) rfl (by simp [imgX, siL]) (Nat.le_refl _)
  exact ⟨h', s1, s2, s4, evStore_keep s1⟩
theorem imx_flags {h : AH} {pI : Nat} {x : SI} {vf vn vb v : Value} {ws : List Value} (hI : BoxL h pI 69 (imgX x vf vn vb ws)) (hv : SLv v) :
    ∃ h', evStore T0 57 (pv pI 5) v h = some h' ∧ BoxL h' pI 69 (imgX x v vn vb ws) ∧ One pI h h' := by
  obtain ⟨h', s1, s2, s3, s4⟩ := BoxL.store (n := pI) (o := 5) (v := v) hI (ws := [v]) sz_bytes hv.one1.2.1 (by simp) (by simp [hv.one1.1]) (by simp [imgX, siL]) (Nat.le_refl _)
  exact ⟨h', s1, s2, s4, evStore_keep s1⟩
theorem imx_nodes {h : AH} {pI : Nat} {x : SI} {vf vn vb v : Value} {ws : List Value} (hI : BoxL h pI 69 (imgX x vf vn vb ws)) (hv : SLv v) :
    ∃ h', evStore T0 38 (pv pI 6) v h = some h' ∧ BoxL h' pI 69 (imgX x vf v vb ws) ∧ One pI h h' := by
  obtain ⟨h', s1, s2, s3, s4⟩ := BoxL.store (n := pI) (o := 6) (v := v) hI (ws := [v]) sz_nodes hv.one1.2.1 (by simp) (by simp [hv.one1.1]) (by simp [imgX, siL]) (Nat.le_refl _)
  exact ⟨h', s1, s2, s4, evStore_keep s1⟩
theorem imx_blocks {h : AH} {pI : Nat} {x : SI} {vf vn vb v : Value} {ws : List Value} (hI : BoxL h pI 69 (imgX x vf vn vb ws)) (hv : SLv v) :
    ∃ h', evStore T0 22 (pv pI 7) v h = some h' ∧ BoxL h' pI 69 (imgX x vf vn v ws) ∧ One pI h h' := by
  obtain ⟨h', s1, s2, s3, s4⟩ := BoxL.store (n := pI) (o := 7) (v := v) hI (ws := [v]) sz_bb hv.one1.2.1 (by simp) (by simp [hv.one1.1]) (by simp [imgX, siL]) (Nat.le_refl _)
  exact ⟨h', s1, s2, s4, evStore_keep s1⟩
theorem imx_was {h : AH} {pI : Nat} {x : SI} {vf vn vb vf' vn' vb' : Value} {ws : List Value} (hw : ws.length = 8) (hI : BoxL h pI 69 (imgX x vf vn vb ws)) (h1 : SLv vf') (h2 : SLv vn') (h3 : SLv vb') :
    ∃ h', evStore T0 67 (pv pI 8) (sxV x vf' vn' vb') h = some h' ∧ BoxL h' pI 69 (imgX x vf vn vb (stX x vf' vn' vb')) ∧ One pI h h' := by
  obtain ⟨h', s1, s2, s3, s4⟩ := BoxL.store (n := pI) (o := 8) (v := sxV x vf' vn' vb') hI (ws := stX x vf' vn' vb') sz_st rfl (by simp [stX, siL]) (stX_one h1 h2 h3) (by simp [imgX, siL, stX, hw]) (Nat.le_refl _)
  refine ⟨h', s1, ?_, s4, evStore_keep s1⟩
  have e : (imgX x vf vn vb ws).take 8 ++ stX x vf' vn' vb' ++ (imgX x vf vn vb ws).drop (8 + (stX x vf' vn' vb').length) = imgX x vf vn vb (stX x vf' vn' vb') := by
    have e1 : (imgX x vf vn vb ws).take 8 = siL x ++ [vf, vn, vb] := by
      show siL x ++ [vf, vn, vb] ++ ws.take 0 = _
      simp
    have e2 : (imgX x vf vn vb ws).drop (8 + (stX x vf' vn' vb').length) = [] := List.drop_eq_nil_of_le (by simp [imgX, siL, stX, hw])
    rw [e1, e2, List.append_nil]
    rfl
  rw [e] at s2
  exact s2
theorem imx_loads {h : AH} {pI : Nat} {x : SI} {vf vn vb : Value} {ws : List Value} (hI : BoxL h pI 69 (imgX x vf vn vb ws)) :
    evLoad T0 57 (pv pI 5) h = some vf ∧ evLoad T0 38 (pv pI 6) h = some vn ∧ evLoad T0 22 (pv pI 7) h = some vb ∧ evLoad T0 36 (pv pI 0) h = some (siV x) ∧ evLoad T0 67 (pv pI 0) h = some (sxV x vf vn vb) :=
  ⟨hI.load agg_bytes rfl, hI.load agg_nodes rfl, hI.load agg_blocks rfl, hI.loadA (o := 0) (ws := siL x) agg_Sup sz_Sup (by simp [imgX, siL]) (fun i x hi => by
    rw [Nat.zero_add]
    unfold imgX
    rw [List.append_assoc, List.getElem?_append_left (List.getElem?_eq_some_iff.1 hi).1]; exact hi), hI.loadA (o := 0) (ws := stX x vf vn vb) agg_state sz_st (by simp [imgX, siL, stX]) (fun i x hi => by
    rw [Nat.zero_add]
    unfold imgX
    rw [List.getElem?_append_left (by exact (List.getElem?_eq_some_iff.1 hi).1)]; exact hi)⟩
abbrev Copy3C (call : Abs.Callee) : Prop := ∀ (n : Nat) (x : SI) (vf vn vb : Value) (fb : List Nat) (bss : List (List Nat)) (h : AH), SLv vn → NcP vn h → Bks h vf fb → BL n h vb bss → bss.length ≠ 0 → bss.length < 1000 →
  ∃ vf' vn' vb' h', call 80 [sxV x vf vn vb] h = some (sxV x vf' vn' vb', h') ∧ SLv vf' ∧ SLv vn' ∧ BL h.next h' vb' bss ∧ Grow h.next h h'
theorem Settle3_S (hC : Copy3C call) (pI n : Nat) (x : SI) (vf vn vb : Value) (fb : List Nat) (ws : List Value) (hw : ws.length = 8) (bss : List (List Nat)) (h : AH) (hI : BoxL h pI 69 (imgX x vf vn vb ws)) (hpI : pI < h.next) (hnI : n ≤ pI)
    (hvn : SLv vn) (hNc : NcP vn h) (hF : Bks h vf fb) (hb : BL n h vb bss) (h0 : bss.length ≠ 0) (hl : bss.length < 1000) :
    ∃ vf' vn' vb' h', frameB T0 X0 call 3000 32 [pv pI 0] h = some (.tuple #[], h') ∧ BoxL h' pI 69 (imgX x vf vn vb (stX x vf' vn' vb')) ∧ BL n h' vb bss ∧ BL h.next h' vb' bss ∧ Bks h' vf fb ∧ Grow n h h' ∧ (∀ k, k < h.next → k ≠ pI → h'.get k = h.get k) := by
  obtain ⟨vf', vn', vb', h1, a1, a2, a3, a4, a5⟩ := hC n x vf vn vb fb bss h hvn hNc hF hb h0 hl
  have n1 := a5.next
  have hI1 := hI.grow a5 hpI
  obtain ⟨h2, b1, b2, b3⟩ := imx_was (vf' := vf') (vn' := vn') (vb' := vb') hw hI1 a2 a3 (a4.sl h0)
  refine ⟨vf', vn', vb', h2, ?_, b2, (hb.grow a5).one b3 hI1.ty (by decide) (by decide), a4.one b3 hI1.ty (by decide) (by decide), (hF.grow a5).keep (Nat.le_of_eq b3.next.symm) fun k hk hu => b3.keep k (tyAt.ne hu hI1.ty (by decide)), (a5.less (by omega)).trans (b3.grow hnI) (Nat.le_refl _), fun k hk hq => (b3.keep k hq).trans (a5.keep k hk)⟩
  have q := imx_loads hI
  rw [frameB_eq ft32 rfl rfl]
  simp only [Tryz.f32, symM, opFn, Nat.reduceLT, Nat.reduceBEq, symM, ptr_neq, nil_pv, field_I, q, evCall_fn ft80 rfl, a1, b1]
  exact retB_zero ft32 rfl
theorem appended_win {h : AH} {v : Value} {bs : List Nat} {z : Value} (hw : WinB h v bs) : appendedA T0 57 (infoOf 5) z v h = some (bs.length, bytesV bs) := by
  obtain ⟨b, o, cap, c, m, l0, h0, kd, el, k, rfl, h2, h3, h4, h5, h6, h7⟩ := hw
  unfold appendedA
  simp only [und_bytes, lenOfA]
  have hold : firstA (infoOf 5).size bs.length h (.slice (some ⟨b, o, none⟩) bs.length cap) = some (bytesV bs) := by
    unfold firstA
    by_cases hk0 : bs.length = 0
    · rw [hk0, show bs = [] from List.length_eq_zero_iff.1 hk0]
      rfl
    · show ifB (Nat.beq bs.length 0) (some []) (ifB (Nat.ble bs.length bs.length) (loadRow h b o (bs.length * (infoOf 5).size)) none) = some (bytesV bs)
      rw [nbF (by simpa using hk0), ifB_false, Nat.ble_eq_true_of_le (Nat.le_refl _), ifB_true, ti_u8.2.1, Nat.mul_one]
      have := loadRow_of (l := bytesV bs) h5 (by rw [bytesV_len]; exact h6) (fun i y hy => by obtain ⟨x, q1, rfl⟩ := bytesV_at hy; exact h7 i x q1)
      rwa [bytesV_len] at this
  rw [hold]
  simp only
  rw [bytesV_len, ti_u8.2.1, Nat.mul_one, Nat.beq_refl, ifB_true]
abbrev WCloneC (call : Abs.Callee) : Prop := ∀ (v : Value) (bs : List Nat) (h : AH), WinB h v bs → bs.length ≠ 0 → bs.length < 1000 → (∀ x ∈ bs, x < 256) → ∃ v' h', call 29 [v] h = some (v', h') ∧ Bks h' v' bs ∧ Grow h.next h h'
theorem WClone_S (v : Value) (bs : List Nat) (h : AH) (hw : WinB h v bs) (h0 : bs.length ≠ 0) (hl : bs.length < 1000) (hb : ∀ x ∈ bs, x < 256) :
    ∃ v' h', frameB T0 X0 call 3000 29 [v] h = some (v', h') ∧ Bks h' v' bs ∧ Grow h.next h h' := by
  have g1 := Grow.new h (.cells (PM.ofList []) 0 5 0 0 .ex)
  have ho1 : OwnC 1 h.next (h.new (.cells (PM.ofList []) 0 5 0 0 .ex)) (.slice (some ⟨h.next, 0, none⟩) 0 0) 0 [] 5 := .inr ⟨h.next, PM.ofList [], .ex, 0, Nat.le_refl _, Nat.lt_succ_self _, rfl, get_new_same _ _, rfl, fun i x hx => by simp at hx, .inl ⟨rfl, rfl⟩⟩
  obtain ⟨v', h', e1, e2, e3, e4, e5⟩ := append_gen und_bytes tt_u8 ti_u8.1 ti_u8.2.1 ti_u8.2.2 ho1 (appended_win (hw.grow g1)) (by rw [bytesV_len, Nat.mul_one]) (bytesV_one bs) (by omega) g1.next 57
  have e2' : Own h.next h' v' (bytesV bs) 5 := by have := e2.own; simpa using this
  have hnil : ∀ p q h, evBin T0 .eql 57 p q v nilV h = some (.bool false) := by
    obtain ⟨b, o, cap, c, m, l0, h0, kd, el, k, rfl, _⟩ := hw
    intro p q h
    kernel_rfl
  refine ⟨v', h', ?_, Bks.own e2' h0 hl hb, g1.trans e3 (Nat.le_refl _)⟩
  rw [frameB_eq ft29 rfl rfl]
  simp only [Tryz.f29, symM, opFn, Nat.reduceLT, Nat.reduceBEq, symM, hnil, bs_b0, e1]
  exact retB_one ft29 rfl get_same
theorem OwnC.offT {s n k : Nat} {h : AH} {v : Value} {cs : List Value} {e q e' : Nat} (ho : OwnC s n h v k cs e) (t : tyAt h q e') (hne : e ≠ e') : Off v q := by
  intro o l' c hv
  rcases ho with ⟨rfl, _⟩ | ⟨b, cc, kd, cap, _, _, rfl, h4, _⟩
  · cases hv
  · cases hv
    exact (tyAt.ne (⟨_, _, _, _, _, h4⟩ : tyAt h q e) t hne) rfl
theorem OwnC.one {s n k p e q : Nat} {h h' : AH} {v : Value} {cs : List Value} (ho : OwnC s n h v k cs e) (o : One p h h') (t : tyAt h p q) (hne : e ≠ q) : OwnC s n h' v k cs e := by
  rcases ho with h1 | ⟨b, c, kd, cap, h1, h2, h3, h4, h5⟩
  · exact .inl h1
  · exact .inr ⟨b, c, kd, cap, h1, by rw [o.next]; exact h2, h3, (o.keep b (tyAt.ne (⟨_, _, _, _, _, h4⟩ : tyAt h b _) t hne)).trans h4, h5⟩
theorem nodeL_len (a : NV) (e : Value) : (nodeL a e).length = 12 := rfl
end
end Go.Proofs.YtjdhdhmoedlfdaaGreat.Abs
