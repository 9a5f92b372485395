
/- Windows of bytes of our own; numbers read out of bytes. -/
import Derived.Test.YtonfgflgnnkniaaGreatMake
namespace Go.Proofs.YtonfgflgnnkniaaGreat.Abs
open Go Go.Proofs
noncomputable section
variable {call : Abs.Callee}
set_option maxRecDepth 10000
/-- Bytes, or a window of them. -/
def WinB (h : AH) (v : Value) (bs : List Nat) : Prop :=
  ∃ b o cap c m l0 h0 kd el k, v = .slice (some ⟨b, o, none⟩) bs.length cap ∧ ((cap < XB ∧ k = cap) ∨ (cap = XB + k ∧ looseSz T0 h b 1 = true)) ∧ bs.length ≤ k ∧ b < h.next ∧ h.get b = some (.cells c m el l0 h0 kd) ∧ o + bs.length ≤ m ∧ ∀ (i x : Nat), bs[i]? = some x → c.get (o + i) = some (bv x)
theorem WinB.row {h : AH} {v : Value} {bs : List Nat} (hw : WinB h v bs) : Row h.next h v (bytesV bs) 5 := by
  obtain ⟨b, o, cap, c, m, l0, h0, kd, el, k, rfl, _, h3, h4, h5, h6, h7⟩ := hw
  refine .inr ⟨b, o, cap, c, m, l0, h0, kd, el, by rw [bytesV_len], h4, h5, by rw [bytesV_len]; exact h6, fun i y hi => ?_⟩
  obtain ⟨x, hx, rfl⟩ := bytesV_at hi
  exact h7 i x hx
theorem WinB.grow {h h' : AH} {v : Value} {bs : List Nat} (hw : WinB h v bs) (g : Grow h.next h h') : WinB h' v bs := by
  obtain ⟨b, o, cap, c, m, l0, h0, kd, el, k, rfl, h2, h3, h4, h5, h6, h7⟩ := hw
  have e := g.keep b h4
  refine ⟨b, o, cap, c, m, l0, h0, kd, el, k, rfl, ?_, h3, Nat.lt_of_lt_of_le h4 g.next, e.trans h5, h6, h7⟩
  rcases h2 with q | ⟨q1, q2⟩
  · exact .inl q
  · refine .inr ⟨q1, ?_⟩
    unfold looseSz at q2 ⊢
    rw [e]; exact q2
theorem OwnB.winB {p : Nat} {h : AH} {v : Value} {bs : List Nat} (ho : OwnB p h v bs) (hp : p < h.next) (hl : bs.length < 1000) : WinB h v bs := by
  obtain ⟨c, kd, cap, rfl, h2, h3, h4⟩ := ho
  refine ⟨p, 0, cap, c, bs.length, 0, 0, kd, 5, bs.length, rfl, ?_, Nat.le_refl _, hp, h2, by omega, fun i x hi => ?_⟩
  · rcases h4 with ⟨_, rfl⟩ | ⟨rfl, rfl⟩
    · exact .inl ⟨by rw [XB_val]; omega, rfl⟩
    · refine .inr ⟨rfl, ?_⟩
      unfold looseSz
      rw [h2]
      simp only [sz_u8]
      rfl
  · rw [Nat.zero_add]
    exact h3 i (bv x) (by simp [bytesV, hi])
theorem Bks.winB {h : AH} {v : Value} {bs : List Nat} (hb : Bks h v bs) : WinB h v bs := by
  obtain ⟨_, h1, _, p, h2, h3⟩ := hb
  exact h3.winB h2 h1
theorem WinB.win {h : AH} {v : Value} {bs : List Nat} (hw : WinB h v bs) {lov hiv : Option Value} {lo hh : Nat} (hlov : lov = some (iv lo) ∨ (lov = none ∧ lo = 0)) (hhiv : hiv = some (iv hh) ∨ (hiv = none ∧ hh = bs.length)) (hlo : lo < hh) (hle : hh ≤ bs.length) :
    ∃ w, evSliceX T0 38 v lov hiv none h = some (w, h) ∧ WinB h w ((bs.drop lo).take (hh - lo)) := by
  obtain ⟨b, o, cap, c, m, l0, h0, kd, el, k, rfl, h2, h3, h4, h5, h6, h7⟩ := hw
  have hk : capOf cap = k := by
    rcases h2 with ⟨q, rfl⟩ | ⟨rfl, _⟩
    · exact capOf_lt q
    · exact capOf_ge _
  have hbnd : boundsA bs.length k lov hiv none = some (lo, hh, k) := by
    have hlo' : Nat.ble lo hh = true := Nat.ble_eq_true_of_le (by omega)
    have hhh : Nat.ble hh k = true := Nat.ble_eq_true_of_le (by omega)
    rcases hlov with rfl | ⟨rfl, rfl⟩ <;> rcases hhiv with rfl | ⟨rfl, rfl⟩ <;>
      simp only [boundsA, boundA, show natOf (iv (lo : Int)) = some lo from rfl, show natOf (iv (hh : Int)) = some hh from rfl, hlo', hhh, ifB_true]
  have hc : ∀ (i x : Nat), ((bs.drop lo).take (hh - lo))[i]? = some x → c.get (o + lo + i) = some (bv x) := by
    intro i x hi
    rw [List.getElem?_take] at hi
    split at hi
    · rw [List.getElem?_drop] at hi
      rw [Nat.add_assoc]
      exact h7 _ _ hi
    · cases hi
  have hlen : ((bs.drop lo).take (hh - lo)).length = hh - lo := by simp; omega
  have hbq : Nat.beq k lo = false := nbF (by simp; omega)
  rcases h2 with ⟨q, rfl⟩ | ⟨rfl, q⟩
  · refine ⟨.slice (some ⟨b, o + lo, none⟩) (hh - lo) (k - lo), ?_, b, o + lo, k - lo, c, m, l0, h0, kd, el, k - lo, by rw [hlen], .inl ⟨by omega, rfl⟩, by omega, h4, h5, by omega, hc⟩
    simp only [evSliceX, evSlice, und_bytes, sz_u8, evSliceS, hk, hbnd, Nat.ble_eq_true_of_le (show hh ≤ k by omega), ifB_true, ble_lt' q, ifB_false, offS, hbq, Nat.mul_one]
  · refine ⟨.slice (some ⟨b, o + lo, none⟩) (hh - lo) (XB + (k - lo)), ?_, b, o + lo, XB + (k - lo), c, m, l0, h0, kd, el, k - lo, by rw [hlen], .inr ⟨rfl, q⟩, by omega, h4, h5, by omega, hc⟩
    simp only [evSliceX, evSlice, und_bytes, sz_u8, evSliceS, hk, hbnd, Nat.ble_eq_true_of_le (show hh ≤ k by omega), ifB_true, Nat.ble_eq_true_of_le (show XB ≤ XB + k by omega), q, offS, hbq, ifB_false, Nat.mul_one]
/-- The number that bytes are, the lowest first. -/
def leV : List Nat → Nat
  | [] => 0
  | x :: l => x + 256 * leV l
theorem leV_snoc (l : List Nat) (x : Nat) : leV (l ++ [x]) = leV l + x * 256 ^ l.length := by
  induction l with
  | nil => simp [leV]
  | cons y l ih =>
    rw [List.cons_append, leV, ih, leV, List.length_cons, Nat.pow_succ, Nat.mul_add]
    rw [show 256 * (x * 256 ^ l.length) = x * (256 ^ l.length * 256) by rw [Nat.mul_left_comm, Nat.mul_comm 256]]
    omega
theorem leV_lt (l : List Nat) (h : ∀ x ∈ l, x < 256) : leV l < 256 ^ l.length := by
  induction l with
  | nil => decide
  | cons y l ih =>
    have h1 := h y (by simp)
    have h2 := ih (fun x hx => h x (by simp [hx]))
    rw [leV, List.length_cons, Nat.pow_succ]
    omega
theorem or_leV (l : List Nat) (x : Nat) (h : ∀ x ∈ l, x < 256) : leV l ||| x <<< (8 * l.length) = leV l + x * 256 ^ l.length := by
  have h1 := leV_lt l h
  have hp : (2 : Nat) ^ (8 * l.length) = 256 ^ l.length := by rw [Nat.pow_mul]
  have h2 := Nat.two_pow_add_eq_or_of_lt (i := 8 * l.length) (b := leV l) (by rw [hp]; exact h1) x
  rw [Nat.or_comm, Nat.shiftLeft_eq, Nat.mul_comm x, ← h2, hp, Nat.mul_comm x, Nat.add_comm]
end
end Go.Proofs.YtonfgflgnnkniaaGreat.Abs
namespace Go.Proofs.YtonfgflgnnkniaaGreat.Abs
open Go Go.Proofs
noncomputable section
variable {call : Abs.Callee}
set_option maxRecDepth 10000
theorem ft69 : T0.ft.get 69 = some Tryz.f69 := by kernel_rfl
noncomputable def bodyGt : Code := part Tryz.f99 [1, 1, 0, 1, 0, 0]
abbrev EGt : Env := ⟨99, 22, none⟩
theorem pow4 {n : Nat} (h : n ≤ 4) : 256 ^ n ≤ 4294967296 := Nat.le_trans (Nat.pow_le_pow_right (by decide) h) (by decide)
theorem gtLp (bs : List Nat) (hbs : ∀ x ∈ bs, x < 256) (hl : bs.length ≤ 4) (v : Value) (h : AH) (hv : Row h.next h v (bytesV bs) 5) : ∀ (k i : Nat) (tm : PM Value) (N : Nat), i + k = bs.length → k + 60 ≤ N →
    tm.get 3 = some (iv (leV (bs.take i))) → tm.get 6 = some v → tm.get 7 = some (iv bs.length) → tm.get 8 = some (iv i) →
    ∃ tm' h', codeB T0 X0 call N EGt (.loop bodyGt) tm h [] = .jump (.exit 0) tm' h' [] ∧ (h' = h ∧ tm'.get 3 = some (iv (leV bs))) := by
  intro k
  induction k with
  | zero =>
    intro i tm N hi hN g3 g6 g7 g8
    obtain ⟨N, rfl⟩ : ∃ a, N = a + 60 := ⟨N - 60, by omega⟩
    have hiB : i = bs.length := by omega
    subst hiB
    rw [List.take_length] at g3
    apply Exists.intro; apply Exists.intro
    refine ⟨?_, rfl, ?_⟩
    · rw [codeB_loop]
      simp only [bodyGt, part, Tryz.f99, sub, symM, opFn, Nat.reduceLT, symM, g7, g8, bin_lss, decide_eq_false (show ¬ (bs.length : Int) < (bs.length : Nat) by omega)]
      rfl
    · simp only [symM, Nat.reduceBEq, g3]
  | succ k ih =>
    intro i tm N hi hN g3 g6 g7 g8
    obtain ⟨N, rfl⟩ : ∃ a, N = a + 60 := ⟨N - 60, by omega⟩
    have hil : i < bs.length := by omega
    have hx : bs[i]? = some bs[i] := List.getElem?_eq_getElem hil
    have hx2 : bs[i] < 256 := hbs _ (List.getElem_mem hil)
    obtain ⟨p, a1, a2⟩ := hv.at und_bytes sz_u8 agg_u8 (i := i) (x := bv bs[i]) (by simp [bytesV, hx])
    have htk : (bs.take i).length = i := by rw [List.length_take]; omega
    have hol := or_leV (bs.take i) bs[i] (fun x hx => hbs x (List.mem_of_mem_take hx))
    rw [htk] at hol
    have hsn := leV_snoc (bs.take i) bs[i]
    rw [htk, show bs.take i ++ [bs[i]] = bs.take (i + 1) from (List.take_succ_eq_append_getElem hil).symm] at hsn
    have l1 := leV_lt (bs.take i) (fun x hx => hbs x (List.mem_of_mem_take hx))
    have l2 := leV_lt (bs.take (i + 1)) (fun x hx => hbs x (List.mem_of_mem_take hx))
    rw [htk] at l1
    rw [show (bs.take (i + 1)).length = i + 1 by rw [List.length_take]; omega] at l2
    have p1 := pow4 (show i ≤ 4 by omega)
    have p2 := pow4 (show i + 1 ≤ 4 by omega)
    have hsh : bs[i] <<< (8 * i) = bs[i] * 256 ^ i := by rw [Nat.shiftLeft_eq, Nat.pow_mul]
    have hw8 : IntKind.i64.wrap (8 * (i : Int)) = ((8 * i : Nat) : Int) := by rw [wz (by omega)]; omega
    have hw1 : IntKind.i64.wrap ((bs[i] : Nat) : Int) = ((bs[i] : Nat) : Int) := wz (by omega)
    have s8 : ∀ p q h, evBin T0 .shl 3 p q (iv (bs[i] : Nat)) (iv (8 * i : Nat)) h = some (iv (bs[i] * 256 ^ i : Nat)) := fun p q h => by
      rw [bin_shl (show 8 * i < IntKind.i64.bits by show 8 * i < 64; omega), hsh, IntWalk.i64_in _ (by omega)]
    have o8 : ∀ p q h, evBin T0 .or 3 p q (iv (leV (bs.take i))) (iv (bs[i] * 256 ^ i : Nat)) h = some (iv (leV (bs.take (i + 1)))) := fun p q h => by
      have q1 : leV (bs.take i) < bitsOf IntKind.i64 := Nat.lt_of_lt_of_le l1 (Nat.le_trans p1 (by decide))
      have q2 : bs[i] * 256 ^ i < bitsOf IntKind.i64 := Nat.lt_of_lt_of_le (show bs[i] * 256 ^ i < 4294967296 by omega) (by decide)
      rw [bin_or q1 q2, ← hsh, hol, ← hsn, IntWalk.i64_in _ (by omega)]
    rw [show N + 60 = (N + 59) + 1 from rfl, codeB_loop]
    simp only [bodyGt, part, Tryz.f99, sub, symM, opFn, Nat.reduceLT, Nat.reduceBEq, symM, g3, g6, g7, g8, bin_lss, decide_eq_true (show (i : Int) < (bs.length : Nat) by omega), a1, a2, conv_i2i und_u8 und_int, hw1, bin_mul, hw8, s8, o8, bin_add, wadd1 (show i ≤ 400000 by omega)]
    exact ih (i + 1) _ (N + 59) (by omega) (by omega) (by simp only [symM, Nat.reduceBEq]) (by simp only [symM, Nat.reduceBEq, g6]) (by simp only [symM, Nat.reduceBEq, g7]) get_same
theorem getG_S (bs : List Nat) (hbs : ∀ x ∈ bs, x < 256) (hl : bs.length ≤ 4) (v : Value) (h : AH) (hv : Row h.next h v (bytesV bs) 5) : frameB T0 X0 call 3000 99 [v] h = some (iv (leV bs), h) := by
  have hlen : ∀ ty h', evBuiltin T0 .len #[38] ty [v] h' = some (.value (iv bs.length), h') := fun ty h' => by rw [hv.len und_bytes, bytesV_len]
  rw [frameB_eq ft99 rfl rfl]
  simp only [Tryz.f99, symM, opFn, Nat.reduceLT, Nat.reduceBEq, symM, symL, hlen]
  generalize hX : codeB T0 X0 call _ EGt (.loop _) _ _ _ = X
  obtain ⟨t2, h2, e1, e2, e3⟩ := use_exit hX (gtLp bs hbs hl v h hv bs.length 0 _ _ (by omega) (by omega) (by simp only [symM, Nat.reduceBEq]; rfl) (by simp only [symM, Nat.reduceBEq]) (by simp only [symM, Nat.reduceBEq]) (by simp only [symM]; rfl))
  clear hX
  subst e1 e2
  simp only [symM, opFn, Nat.reduceLT, symM, symL, e3]
  exact retB_one ft99 rfl get_same
abbrev GetGC (call : Abs.Callee) : Prop := ∀ (bs : List Nat) (v : Value) (h : AH), (∀ x ∈ bs, x < 256) → bs.length ≤ 4 → Row h.next h v (bytesV bs) 5 → call 99 [v] h = some (iv (leV bs), h)
theorem NumG_S (hg : GetGC call) (bs : List Nat) (hbs : ∀ x ∈ bs, x < 256) (i s : Nat) (hs : 0 < s) (hs4 : s ≤ 4) (hi : i + s ≤ bs.length) (hl : bs.length < 1000) (v : Value) (h : AH) (hv : WinB h v bs) :
    frameB T0 X0 call 3000 98 [v, iv i, iv s] h = some (iv (leV ((bs.drop i).take s)), h) := by
  obtain ⟨w, e1, e2⟩ := hv.win (lov := some (iv i)) (hiv := some (iv ((i + s : Nat) : Int))) (.inl rfl) (.inl rfl) (by omega) hi
  rw [show i + s - i = s by omega] at e2
  have hw : IntKind.i64.wrap ((i : Int) + s) = ((i + s : Nat) : Int) := wadd (by omega)
  rw [frameB_eq ft98 rfl rfl]
  simp only [Tryz.f98, symM, opFn, Nat.reduceLT, Nat.reduceBEq, symM, ev3, evOpt, bin_add, hw, e1, evCall_fn ft99 rfl, hg _ w h (fun x hx => hbs x (List.mem_of_mem_drop (List.mem_of_mem_take hx))) (by rw [List.length_take]; omega) e2.row]
  exact retB_one ft98 rfl get_same
theorem leV_leN (n k : Nat) : leV (leN n k) = n % 256 ^ k := by
  have : ∀ k i, leV (leF n i k) = n / 256 ^ i % 256 ^ k := by
    intro k
    induction k with
    | zero => intro i; rw [Nat.pow_zero, Nat.mod_one]; rfl
    | succ k ih =>
      intro i
      rw [leF_succ, leV, ih, show 256 ^ (k + 1) = 256 * 256 ^ k by rw [Nat.pow_succ, Nat.mul_comm], Nat.mod_mul, Nat.div_div_eq_div_mul, ← Nat.pow_succ]
  have h := this k 0
  rw [Nat.pow_zero, Nat.div_one] at h
  exact h
theorem plan_sealed : planB (regOps Tryz.f69 [1, 0]) 16 = some ([.one 0, .one 1, .one 2, .one 3, .one 4, .one 5, .one 7, .one 8, .eff [] 6 [7, 8], .eff [] 9 [], .one 10, .one 11, .one 12, .one 13], []) := by kernel_rfl
theorem Sealed_S (hg : GetGC call) (hSum : SumC call 53) (bs : List Nat) (hl : 60 ≤ bs.length) (hbs : ∀ x ∈ bs, x < 256) (v : Value) (h : AH) (hv : WinB h v (sealB bs)) : frameB T0 X0 call 3000 69 [v] h = some (.bool true, h) := by
  have hsl := sealB_len hl
  have hlt := sealB_lt hbs
  have h60 : (bs.take 60).length = 60 := by rw [List.length_take]; omega
  have hlen : ∀ ty h', evBuiltin T0 .len #[38] ty [v] h' = some (.value (iv 64), h') := fun ty h' => by rw [hv.row.len und_bytes, bytesV_len, hsl]; rfl
  obtain ⟨w1, a1, a2⟩ := hv.win (lov := some (iv 60)) (hiv := none) (lo := 60) (hh := 64) (.inl rfl) (.inr ⟨rfl, hsl.symm⟩) (by omega) (by omega)
  obtain ⟨w2, b1, b2⟩ := hv.win (lov := none) (hiv := some (iv 60)) (lo := 0) (hh := 60) (.inr ⟨rfl, rfl⟩) (.inl rfl) (by omega) (by omega)
  have e1 : ((sealB bs).drop 60).take (64 - 60) = leN (spinU (spinN (bs.take 60))) 4 := by
    unfold sealB
    rw [List.drop_append_of_le_length (by omega), List.drop_eq_nil_of_le (by omega), List.nil_append, List.take_of_length_le (by rw [leN_len]; decide)]
  have e2 : ((sealB bs).drop 0).take (60 - 0) = bs.take 60 := by
    unfold sealB
    rw [List.drop_zero, List.take_append_of_le_length (by omega), List.take_of_length_le (by omega)]
  rw [e1] at a2
  rw [e2] at b2
  have c1 := hg _ w1 h (fun x hx => leN_lt hx) (by rw [leN_len]; decide) a2.row
  rw [leV_leN, Nat.mod_eq_of_lt (spinU_lt _)] at c1
  have c2 := hSum _ w2 h (fun x hx => hbs x (List.mem_of_mem_take hx)) (by omega) b2.row
  have hw : IntKind.i64.wrap ((spinU (spinN (bs.take 60)) : Nat) : Int) = ((spinU (spinN (bs.take 60)) : Nat) : Int) := by
    have := spinU_lt (bs.take 60)
    rw [IntWalk.i64_in _ (by omega)]
  have hev := hv.row.eqv
  have hev1 := a2.row.eqv
  have hev2 := b2.row.eqv
  have hp := plan_sealed
  simp only [regOps, part, Tryz.f69, sub] at hp
  rw [frameB_eq ft69 rfl rfl]
  simp only [Tryz.f69, symM, opFn, Nat.reduceLT, symM]
  rw [codeB_draw, draw_plan hp rfl]
  simp only [drawAll, opFn, Nat.reduceBEq, hlen, bin_eql, show ((64 : Int) == 64) = true from rfl, ev3, evOpt, a1, b1, hev, hev2, evCall_fn ft99 rfl, c1, effE_cons, evCall_fn ft53' rfl, c2, conv_i2i und_u32' und_int, hw, beq_self_eq_true]
  exact retB_one ft69 rfl get_same
end
end Go.Proofs.YtonfgflgnnkniaaGreat.Abs
namespace Go.Proofs.YtonfgflgnnkniaaGreat.Abs
open Go Go.Proofs
noncomputable section
variable {call : Abs.Callee}
set_option maxRecDepth 10000
theorem sup_at (b f : Nat) (hb : b < 65536) (hf : f < 256) : leV (((supBy b f).drop 4).take 2) = b ∧ leV (((supBy b f).drop 6).take 1) = f ∧ leV (((supBy b f).drop 7).take 1) = 0 ∧ leV (((supBy b f).drop 8).take 1) = 0 ∧ leV (((supBy b f).drop 10).take 2) = 0 := by
  have e1 : ((supBy b f).drop 4).take 2 = leN b 2 := rfl
  have e2 : ((supBy b f).drop 6).take 1 = leN f 1 := rfl
  have e3 : ((supBy b f).drop 7).take 1 = [0] := rfl
  have e4 : ((supBy b f).drop 8).take 1 = [0] := rfl
  have e5 : ((supBy b f).drop 10).take 2 = [0, 0] := rfl
  rw [e1, e2, e3, e4, e5, leV_leN, leV_leN]
  exact ⟨Nat.mod_eq_of_lt (by simpa using hb), Nat.mod_eq_of_lt (by simpa using hf), rfl, rfl, rfl⟩
theorem head_at : leV ((headBy.drop 4).take 1) = 0 ∧ leV ((headBy.drop 8).take 4) = 1 := ⟨rfl, rfl⟩
end
end Go.Proofs.YtonfgflgnnkniaaGreat.Abs
namespace Go.Proofs.YtonfgflgnnkniaaGreat.Abs
open Go Go.Proofs
noncomputable section
variable {call : Abs.Callee}
set_option maxRecDepth 10000
theorem ft67 : T0.ft.get 67 = some Tryz.f67 := by kernel_rfl
theorem ft68 : T0.ft.get 68 = some Tryz.f68 := by kernel_rfl
abbrev SealedC (call : Abs.Callee) : Prop := ∀ (bs : List Nat) (v : Value) (h : AH), 60 ≤ bs.length → (∀ x ∈ bs, x < 256) → WinB h v (sealB bs) → call 69 [v] h = some (.bool true, h)
abbrev NumGC (call : Abs.Callee) : Prop := ∀ (bs : List Nat) (i s : Nat) (v : Value) (h : AH), (∀ x ∈ bs, x < 256) → 0 < s → s ≤ 4 → i + s ≤ bs.length → bs.length < 1000 → WinB h v bs → call 98 [v, iv i, iv s] h = some (iv (leV ((bs.drop i).take s)), h)
theorem build_S5 {a b c d e : Nat} {h : AH} : evBuild T0 37 [(0, iv a), (1, iv b), (2, iv c), (3, iv d), (4, iv e)] h = some (.agg #[iv a, iv b, iv c, iv d, iv e], h) := by kernel_rfl
theorem alloc_SuC {h : AH} : evAlloc T0 37 h = some (pv h.next 0, h.new (.cells (PM.ofList (supL 0 0)) 5 37 0 0 .ex)) := by
  unfold evAlloc
  rw [show zeroOf T0 37 = some (supV 0 0) from by kernel_rfl]
  rfl
theorem SupB.storeAll {h : AH} {p b f b' f' : Nat} (hb : SupB h p b f) : ∃ h', evStore T0 37 (pv p 0) (supV b' f') h = some h' ∧ SupB h' p b' f' ∧ One p h h' := by
  obtain ⟨h', s1, s2, s3, s4⟩ := BoxL.store (n := p) (o := 0) (v := supV b' f') hb (ws := supL b' f') sz_Sup rfl (by simp [supL]) rfl (Nat.le_refl _) (Nat.le_refl _)
  exact ⟨h', s1, s2, s4, evStore_keep s1⟩
theorem SDec_S (hSl : SealedC call) (hN : NumGC call) (hE : SEncC call) (hEq : BEqC call) (B f : Nat) (k1 : 64 ≤ B) (k2 : B ≤ 480) (hf1 : 1 ≤ f) (hf2 : f ≤ 2) (v : Value) (h : AH) (hv : WinB h v (supBy B f)) :
    ∃ h', frameB T0 X0 call 3000 67 [v] h = some (.tuple #[supV B f, iv 0], h') ∧ Grow h.next h h' := by
  obtain ⟨sl, slt⟩ := supBy_ok B f
  obtain ⟨q1, q2, q3, q4, q5⟩ := sup_at B f (by omega) (by omega)
  generalize hh1 : h.new (.cells (PM.ofList (supL 0 0)) 5 37 0 0 .ex) = h1
  have g1 : Grow h.next h h1 := by rw [← hh1]; exact Grow.new _ _
  have n1 : h1.next = h.next + 1 := by rw [← hh1]; rfl
  have s1 : SupB h1 h.next 0 0 := by rw [← hh1]; exact BoxL.new _ _ _
  have hv1 := hv.grow g1
  have c0 := hSl (setsAt 2 (setsAt 1 (setsAt 2 (setAt (List.replicate 64 0) 0 [68, 82, 89, 68]) 4 [B]) 6 [f, 0, 0]) 10 [0]) v h1 (by
    have e0 : (setAt (List.replicate 64 0) 0 [68, 82, 89, 68]).length = 64 := setAt0_len _ (by decide)
    have e1 := setsAt_len 2 [B] (setAt (List.replicate 64 0) 0 [68, 82, 89, 68]) 4 (by rw [e0]; simp)
    have e2 := setsAt_len 1 [f, 0, 0] (setsAt 2 (setAt (List.replicate 64 0) 0 [68, 82, 89, 68]) 4 [B]) 6 (by rw [e1, e0]; simp)
    have e3 := setsAt_len 2 [0] (setsAt 1 (setsAt 2 (setAt (List.replicate 64 0) 0 [68, 82, 89, 68]) 4 [B]) 6 [f, 0, 0]) 10 (by rw [e2, e1, e0]; simp)
    rw [e3, e2, e1, e0]; decide) (setsAt_lt _ _ _ _ (setsAt_lt _ _ _ _ (setsAt_lt _ _ _ _ (setAt_lt (by simp) (by decide))))) hv1
  have m1 := hN (supBy B f) 4 2 v h1 slt (by omega) (by omega) (by omega) (by omega) hv1
  have m2 := hN (supBy B f) 6 1 v h1 slt (by omega) (by omega) (by omega) (by omega) hv1
  have m3 := hN (supBy B f) 7 1 v h1 slt (by omega) (by omega) (by omega) (by omega) hv1
  have m4 := hN (supBy B f) 8 1 v h1 slt (by omega) (by omega) (by omega) (by omega) hv1
  have m5 := hN (supBy B f) 10 2 v h1 slt (by omega) (by omega) (by omega) (by omega) hv1
  rw [q1] at m1
  rw [q2] at m2
  rw [q3] at m3
  rw [q4] at m4
  rw [q5] at m5
  generalize hh2 : h1.new (.cells (PM.ofList (supL 0 0)) 5 37 0 0 .ex) = h2
  have g2 : Grow h1.next h1 h2 := by rw [← hh2]; exact Grow.new _ _
  have n2 : h2.next = h1.next + 1 := by rw [← hh2]; rfl
  have s2 : SupB h2 h1.next 0 0 := by rw [← hh2]; exact BoxL.new _ _ _
  obtain ⟨h3, d1, d2, d3⟩ := s2.storeAll (b' := B) (f' := f)
  have n3 := d3.next
  obtain ⟨v4, p4, h4, e1, e2, e3, e4, e5⟩ := hE B f h3 k1 k2 hf1 hf2
  have n4 := e5.next
  have G3 : Grow h1.next h1 h3 := g2.trans (d3.grow (Nat.le_refl _)) (by omega)
  have G4 : Grow h1.next h1 h4 := G3.trans e5 (by omega)
  have hv4 := hv1.grow G4
  have K4 : Bks h4 v4 (supBy B f) := ⟨by omega, by omega, slt, p4, e3, e4⟩
  have ce := hEq (supBy B f) (supBy B f) v4 v _ _ h4 slt slt K4.row hv4.row
  rw [decide_eq_true rfl] at ce
  have d4 : SupB h4 h1.next B f := BoxL.grow d2 e5 (by omega)
  have s4 : SupB h4 h.next 0 0 := BoxL.grow s1 G4 (by omega)
  obtain ⟨h5, f1, f2, f3⟩ := s4.storeAll (b' := B) (f' := f)
  refine ⟨h5, ?_, (g1.trans G4 (by omega)).trans (f3.grow (Nat.le_refl _)) (Nat.le_refl _)⟩
  have l3 := d2.loads.2.2.2.2.2
  have l4 := d4.loads.2.2.2.2.2
  have m1 : call 98 [v, iv 4, iv 2] h1 = some (iv (B : Nat), h1) := m1
  have m2 : call 98 [v, iv 6, iv 1] h1 = some (iv (f : Nat), h1) := m2
  have m3 : call 98 [v, iv 7, iv 1] h1 = some (iv ((0 : Nat) : Int), h1) := m3
  have m4 : call 98 [v, iv 8, iv 1] h1 = some (iv ((0 : Nat) : Int), h1) := m4
  have m5 : call 98 [v, iv 10, iv 2] h1 = some (iv ((0 : Nat) : Int), h1) := m5
  have hbd : ∀ h, evBuild T0 37 [(0, iv (B : Nat)), (1, iv (f : Nat)), (2, iv ((0 : Nat) : Int)), (3, iv ((0 : Nat) : Int)), (4, iv ((0 : Nat) : Int))] h = some (supV B f, h) := fun h => build_S5
  rw [frameB_eq ft67 rfl rfl]
  simp only [Tryz.f67, symM, opFn, Nat.reduceLT, Nat.reduceBEq, symM, alloc_SuC, hh1, evCall_fn ft69 rfl, c0, evCall_fn ft98 rfl, m1, m2, m3, m4, m5, hbd, hh2, d1, l3, evCall_fn ft26 rfl, e1, bin_neq, show ((0 : Int) == 0) = true from rfl, evCall_fn ft47 rfl, ce, l4, f1]
  exact retB_cell1 ft67 rfl (by simp only [symM, Nat.reduceBEq]) f2.loads.2.2.2.2.2 get_same
theorem alloc_Hd {h : AH} : evAlloc T0 54 h = some (pv h.next 0, h.new (.cells (PM.ofList [iv 0, iv 0]) 2 54 0 0 .ex)) := by
  unfold evAlloc
  rw [show zeroOf T0 54 = some (.agg #[iv 0, iv 0]) from by kernel_rfl]
  rfl
theorem agg_Head : aggT T0 54 = some true := by kernel_rfl
theorem head_store {h : AH} {p : Nat} {l : List Value} (hl : l.length = 2) (hb : BoxL h p 54 l) : ∃ h', evStore T0 54 (pv p 0) headV0 h = some h' ∧ BoxL h' p 54 [iv 0, iv 1] ∧ One p h h' := by
  obtain ⟨h', s1, s2, s3, s4⟩ := BoxL.store (n := p) (o := 0) (v := headV0) hb (ws := [iv 0, iv 1]) sz_Head rfl (by simp) rfl (by rw [hl]; decide) (Nat.le_refl _)
  refine ⟨h', s1, ?_, s4, evStore_keep s1⟩
  have e : l.take 0 ++ [iv 0, iv 1] ++ l.drop (0 + [iv 0, iv 1].length) = [iv 0, iv 1] := by
    rw [List.drop_eq_nil_of_le (by rw [hl]; decide)]; simp
  rw [e] at s2
  exact s2
theorem GetHead_S (hSl : SealedC call) (hN : NumGC call) (hE : PutHC call) (hEq : BEqC call) (v : Value) (h : AH) (hv : WinB h v headBy) :
    ∃ h', frameB T0 X0 call 3000 68 [v] h = some (.tuple #[headV0, iv 0], h') ∧ Grow h.next h h' := by
  obtain ⟨sl, slt⟩ := headBy_ok
  obtain ⟨q1, q2⟩ := head_at
  generalize hh1 : h.new (.cells (PM.ofList [iv 0, iv 0]) 2 54 0 0 .ex) = h1
  have g1 : Grow h.next h h1 := by rw [← hh1]; exact Grow.new _ _
  have n1 : h1.next = h.next + 1 := by rw [← hh1]; rfl
  have s1 : BoxL h1 h.next 54 [iv 0, iv 0] := by rw [← hh1]; exact BoxL.new _ _ _
  have hv1 := hv.grow g1
  have c0 := hSl (setsAt 4 (setsAt 1 (setAt (List.replicate 64 0) 0 [72, 69, 65, 68]) 4 [0]) 8 [1]) v h1 (by
    have e0 : (setAt (List.replicate 64 0) 0 [72, 69, 65, 68]).length = 64 := setAt0_len _ (by decide)
    have e1 := setsAt_len 1 [0] (setAt (List.replicate 64 0) 0 [72, 69, 65, 68]) 4 (by rw [e0]; simp)
    have e2 := setsAt_len 4 [1] (setsAt 1 (setAt (List.replicate 64 0) 0 [72, 69, 65, 68]) 4 [0]) 8 (by rw [e1, e0]; simp)
    rw [e2, e1, e0]; decide) (setsAt_lt _ _ _ _ (setsAt_lt _ _ _ _ (setAt_lt (by simp) (by decide)))) hv1
  have m1 := hN headBy 4 1 v h1 slt (by omega) (by omega) (by omega) (by omega) hv1
  have m2 := hN headBy 8 4 v h1 slt (by omega) (by omega) (by omega) (by omega) hv1
  rw [q1] at m1
  rw [q2] at m2
  generalize hh2 : h1.new (.cells (PM.ofList [iv 0, iv 0]) 2 54 0 0 .ex) = h2
  have g2 : Grow h1.next h1 h2 := by rw [← hh2]; exact Grow.new _ _
  have n2 : h2.next = h1.next + 1 := by rw [← hh2]; rfl
  have s2 : BoxL h2 h1.next 54 [iv 0, iv 0] := by rw [← hh2]; exact BoxL.new _ _ _
  obtain ⟨h3, d1, d2, d3⟩ := head_store rfl s2
  have n3 := d3.next
  obtain ⟨v4, p4, h4, e1, e2, e3, e4, e5⟩ := hE h3
  have n4 := e5.next
  have G3 : Grow h1.next h1 h3 := g2.trans (d3.grow (Nat.le_refl _)) (by omega)
  have G4 : Grow h1.next h1 h4 := G3.trans e5 (by omega)
  have hv4 := hv1.grow G4
  have K4 : Bks h4 v4 headBy := ⟨by omega, by omega, slt, p4, e3, e4⟩
  have ce := hEq headBy headBy v4 v _ _ h4 slt slt K4.row hv4.row
  rw [decide_eq_true rfl] at ce
  have d4 := d2.grow e5 (by omega)
  have s4 : BoxL h4 h.next 54 [iv 0, iv 0] := s1.grow G4 (by omega)
  obtain ⟨h5, f1, f2, f3⟩ := head_store rfl s4
  refine ⟨h5, ?_, (g1.trans G4 (by omega)).trans (f3.grow (Nat.le_refl _)) (Nat.le_refl _)⟩
  have ldH : ∀ {h : AH} {p : Nat}, BoxL h p 54 [iv 0, iv 1] → evLoad T0 54 (pv p 0) h = some headV0 := fun hb => hb.loadA (o := 0) (ws := [iv 0, iv 1]) agg_Head sz_Head (Nat.le_refl _) (fun i x hi => by rw [Nat.zero_add]; exact hi)
  have l3 := ldH d2
  have l4 := ldH d4
  have m1 : call 98 [v, iv 4, iv 1] h1 = some (iv ((0 : Nat) : Int), h1) := m1
  have m2 : call 98 [v, iv 8, iv 4] h1 = some (iv ((1 : Nat) : Int), h1) := m2
  have hbd : ∀ h, evBuild T0 54 [(0, iv ((0 : Nat) : Int)), (1, iv ((1 : Nat) : Int))] h = some (headV0, h) := fun h => by kernel_rfl
  rw [frameB_eq ft68 rfl rfl]
  simp only [Tryz.f68, symM, opFn, Nat.reduceLT, Nat.reduceBEq, symM, alloc_Hd, hh1, evCall_fn ft69 rfl, c0, evCall_fn ft98 rfl, m1, m2, hbd, hh2, d1, l3, evCall_fn ft11 rfl, e1, bin_neq, show ((0 : Int) == 0) = true from rfl, evCall_fn ft47 rfl, ce, l4, f1]
  exact retB_cell1 ft68 rfl (by simp only [symM, Nat.reduceBEq]) (ldH f2) get_same
end
end Go.Proofs.YtonfgflgnnkniaaGreat.Abs
namespace Go.Proofs.YtonfgflgnnkniaaGreat.Abs
open Go Go.Proofs
noncomputable section
variable {call : Abs.Callee}
set_option maxRecDepth 10000
theorem ft35 : T0.ft.get 35 = some Tryz.f35 := by kernel_rfl
theorem ft66 : T0.ft.get 66 = some Tryz.f66 := by kernel_rfl
theorem ft65 : T0.ft.get 65 = some Tryz.f65 := by kernel_rfl
theorem ft97 : T0.ft.get 97 = some Tryz.f97 := by kernel_rfl
theorem ft70 : T0.ft.get 70 = some Tryz.f70 := by kernel_rfl
/-- Blocks that may be read. -/
def WB (h : AH) (v : Value) (bss : List (List Nat)) : Prop :=
  ∃ vs, Row h.next h v vs 38 ∧ vs.length = bss.length ∧ ∀ (i : Nat) (w : Value) (bs : List Nat), vs[i]? = some w → bss[i]? = some bs → WinB h w bs
theorem BL.wb {n : Nat} {h : AH} {v : Value} {bss : List (List Nat)} (hb : BL n h v bss) : WB h v bss := by
  obtain ⟨vs, h1, h2, h3⟩ := hb
  exact ⟨vs, h1.row, h2, fun i w bs hw hb => (h3 i w bs hw hb).winB⟩
theorem WB.grow {h h' : AH} {v : Value} {bss : List (List Nat)} (hb : WB h v bss) (g : Grow h.next h h') : WB h' v bss := by
  obtain ⟨vs, h1, h2, h3⟩ := hb
  refine ⟨vs, ?_, h2, fun i w bs hw hb => (h3 i w bs hw hb).grow g⟩
  rcases h1 with q | ⟨b, o, cap, c, k, lo, hi, kd, el, q1, q2, q3, q4⟩
  · exact .inl q
  · exact .inr ⟨b, o, cap, c, k, lo, hi, kd, el, q1, Nat.lt_of_lt_of_le q2 g.next, (g.keep b q2).trans q3, q4⟩
theorem WB.len {h h' : AH} {v : Value} {bss : List (List Nat)} (hb : WB h v bss) (ty : TypeId) : evBuiltin T0 .len #[30] ty [v] h' = some (.value (iv bss.length), h') := by
  obtain ⟨vs, h1, h2, _⟩ := hb
  rw [h1.len und_blocks, h2]
theorem WB.eqv {h : AH} {v : Value} {bss : List (List Nat)} (hb : WB h v bss) : eqV v v = true := by
  obtain ⟨vs, h1, _⟩ := hb
  exact h1.eqv
theorem agg_bytes' : aggT T0 38 = some false := agg_bytes
theorem WB.at {h : AH} {v : Value} {bs : List Nat} {bss : List (List Nat)} {i : Nat} (hb : WB h v bss) (hi : bss[i]? = some bs) : ∃ p w, evIndexAddr T0 30 v (iv i) = some p ∧ evLoad T0 38 p h = some w ∧ WinB h w bs := by
  obtain ⟨vs, h1, h2, h3⟩ := hb
  have hl : i < vs.length := by rw [h2]; exact (List.getElem?_eq_some_iff.1 hi).1
  have hx : vs[i]? = some vs[i] := List.getElem?_eq_getElem hl
  obtain ⟨p, a1, a2⟩ := h1.at und_blocks sz_bytes agg_bytes hx
  exact ⟨p, vs[i], a1, a2, h3 i _ bs hx hi⟩
theorem WinB.len {h h' : AH} {v : Value} {bs : List Nat} (hw : WinB h v bs) (ty : TypeId) : evBuiltin T0 .len #[38] ty [v] h' = some (.value (iv bs.length), h') := by
  rw [hw.row.len und_bytes, bytesV_len]
theorem Open1_S (v : Value) (bs : List Nat) (h : AH) (hw : WinB h v bs) (hl : bs.length = 64) : frameB T0 X0 call 3000 66 [v] h = some (.bool false, h) := by
  rw [frameB_eq ft66 rfl rfl]
  simp only [Tryz.f66, symM, opFn, Nat.reduceLT, Nat.reduceBEq, symM, hw.len, hl, bin_neq, show ((((64 : Nat) : Int)) == 64) = true from rfl]
  exact retB_one ft66 rfl get_same
noncomputable def bodyIB : Code := part Tryz.f97 [1, 0, 1, 0, 0]
abbrev EIdxB : Env := ⟨97, 19, none⟩
abbrev Open1C (call : Abs.Callee) : Prop := ∀ (v : Value) (bs : List Nat) (h : AH), WinB h v bs → bs.length = 64 → call 66 [v] h = some (.bool false, h)
theorem ibLp (hO : Open1C call) (v : Value) (bss : List (List Nat)) (h : AH) (hv : WB h v bss) (hl : bss.length < 900) (h64 : ∀ bs ∈ bss, bs.length = 64) :
    ∀ (k i : Nat) (tm : PM Value) (N : Nat), i + k = bss.length → k + 60 ≤ N → tm.get 0 = some v → tm.get 1 = some (.func (.func 66) #[] #[]) → tm.get 7 = some (iv bss.length) → tm.get 8 = some (iv i) →
      ∃ tm' h', codeB T0 X0 call N EIdxB (.loop bodyIB) tm h [] = .jump (.exit 0) tm' h' [] ∧ h' = h := by
  intro k
  induction k with
  | zero =>
    intro i tm N hi hN g0 g1 g7 g8
    obtain ⟨N, rfl⟩ : ∃ a, N = a + 60 := ⟨N - 60, by omega⟩
    apply Exists.intro; apply Exists.intro
    refine ⟨?_, rfl⟩
    rw [codeB_loop]
    simp only [bodyIB, part, Tryz.f97, sub, symM, opFn, Nat.reduceLT, symM, g7, g8, bin_lss, decide_eq_false (show ¬ (i : Int) < (bss.length : Nat) by omega)]
    rfl
  | succ k ih =>
    intro i tm N hi hN g0 g1 g7 g8
    obtain ⟨N, rfl⟩ : ∃ a, N = a + 60 := ⟨N - 60, by omega⟩
    have hil : i < bss.length := by omega
    obtain ⟨p, w, a1, a2, a3⟩ := hv.at (List.getElem?_eq_getElem hil)
    have hc := hO w _ h a3 (h64 _ (List.getElem_mem hil))
    have hclo : ∀ (args : List Value) (h : AH), evCall T0 X0 (.func (.func 66) #[] #[]) args h = some (.enter 66 (args ++ []), h) := fun args h => evCall_clo (l := []) ft66 rfl
    rw [show N + 60 = (N + 59) + 1 from rfl, codeB_loop]
    simp only [bodyIB, part, Tryz.f97, sub, symM, opFn, Nat.reduceLT, Nat.reduceBEq, symM, g0, g1, g7, g8, bin_lss, decide_eq_true (show (i : Int) < (bss.length : Nat) by omega), a1, a2, hclo, List.append_nil, hc, bin_add, wadd1 (show i ≤ 400000 by omega)]
    exact ih (i + 1) _ (N + 59) (by omega) (by omega) (by simp only [symM, Nat.reduceBEq, g0]) (by simp only [symM, Nat.reduceBEq, g1]) (by simp only [symM, Nat.reduceBEq, g7]) get_same
theorem IdxB_S (hO : Open1C call) (v : Value) (bss : List (List Nat)) (h : AH) (hv : WB h v bss) (hl : bss.length < 900) (h64 : ∀ bs ∈ bss, bs.length = 64) :
    frameB T0 X0 call 3000 97 [v, .func (.func 66) #[] #[]] h = some (iv (-1), h) := by
  rw [frameB_eq ft97 rfl rfl]
  simp only [Tryz.f97, symM, opFn, Nat.reduceLT, Nat.reduceBEq, symM, symL, hv.len]
  generalize hX : codeB T0 X0 call _ EIdxB (.loop _) _ _ _ = X
  obtain ⟨t2, h2, e1, e2⟩ := use_exit hX (ibLp hO v bss h hv hl h64 bss.length 0 _ _ (by omega) (by omega) (by simp only [symM, Nat.reduceBEq]) (by simp only [symM, Nat.reduceBEq]) (by simp only [symM, Nat.reduceBEq]) (by simp only [symM]; rfl))
  clear hX
  subst e1 e2
  simp only [symM, opFn, Nat.reduceLT, symM, symL]
  exact retB_one ft97 rfl get_same
theorem ContB_S (hI : ∀ (v : Value) (bss : List (List Nat)) (h : AH), WB h v bss → bss.length < 900 → (∀ bs ∈ bss, bs.length = 64) → call 97 [v, .func (.func 66) #[] #[]] h = some (iv (-1), h)) (v : Value) (bss : List (List Nat)) (h : AH) (hv : WB h v bss) (hl : bss.length < 900) (h64 : ∀ bs ∈ bss, bs.length = 64) :
    frameB T0 X0 call 3000 65 [v, .func (.func 66) #[] #[]] h = some (.bool false, h) := by
  rw [frameB_eq ft65 rfl rfl]
  simp only [Tryz.f65, symM, opFn, Nat.reduceLT, Nat.reduceBEq, symM, evCall_fn ft97 rfl, hI v bss h hv hl h64, bin_geq, show decide ((0 : Int) ≤ -1) = false from rfl]
  exact retB_one ft65 rfl get_same
end
end Go.Proofs.YtonfgflgnnkniaaGreat.Abs
namespace Go.Proofs.YtonfgflgnnkniaaGreat.Abs
open Go Go.Proofs
noncomputable section
variable {call : Abs.Callee}
set_option maxRecDepth 10000
theorem plan_D3 : planB (regOps Tryz.f70 [1, 1, 0]) 83 = some ([.one 0, .one 1, .one 2, .one 3, .one 4, .one 5, .one 6, .one 7, .one 8, .one 10, .eff [] 9 [0, 1, 2, 3, 4, 5, 6, 7, 10], .eff [] 11 [0, 1, 2, 3, 4, 5, 6, 7], .one 12, .eff [13] 14 []], []) := by kernel_rfl
theorem plan_D14 : planB (regOps Tryz.f70 [1, 1, 1, 0, 1, 1, 1]) 83 = some ([.one 0, .one 1, .one 2, .one 3, .one 4, .one 5, .one 6, .one 7, .one 8, .one 9, .eff [] 10 [3, 4, 5, 6, 7, 8], .one 11, .eff [] 12 [6, 7, 8], .one 13, .eff [] 14 []], []) := by kernel_rfl
noncomputable def bodyD : Code := part Tryz.f70 [1, 1, 1, 0, 1, 0, 0, 1, 0, 0]
abbrev ED : Env := ⟨70, 83, none⟩
abbrev GetC (call : Abs.Callee) : Prop := ∀ (bs : List Nat) (v : Value) (n0 : Nat) (h : AH), (∀ x ∈ bs, x < 256) → 4 ≤ bs.length → RowX n0 h v bs → n0 ≤ h.next → ∃ h', call 100 [v] h = some (.tuple #[extV (extAt bs 0), .bool (!eqE (extAt bs 0) ⟨0, 0, 0⟩)], h') ∧ Grow h.next h h'
theorem decL (hG : GetC call) (bs : List Nat) (hbs : ∀ x ∈ bs, x < 256) (hl : bs.length = 32) (v : Value) (n0 b c : Nat) (n : NV) (hnb : n0 ≤ b) :
    ∀ (k i : Nat) (xs : List XV) (e : Value) (h : AH) (tm : PM Value) (N : Nat), i + k = 3 → xs.length ≤ i → k + 60 ≤ N → b < h.next → RowX n0 h v bs → NodeB h b n e → OwnE (b + 1) h e xs → (xs = [] → e = nilV) →
      tm.get 0 = some v → tm.get 2 = some (pv c 0) → tm.get 4 = some (pv b 0) → tm.get 31 = some (iv i) →
      ∃ tm' h', codeB T0 X0 call N ED (.loop bodyD) tm h [] = .jump (.exit 0) tm' h' [] ∧ ((∃ e', tm'.get 0 = some v ∧ tm'.get 2 = some (pv c 0) ∧ tm'.get 4 = some (pv b 0) ∧ NodeB h' b n e' ∧ OwnE (b + 1) h' e' (xs ++ extsF bs i k) ∧ (xs ++ extsF bs i k = [] → e' = nilV)) ∧ Grow b h h') := by
  intro k
  induction k with
  | zero =>
    intro i xs e h tm N hk hx hN hb hv hnd ho hz0 g0 g2 g4 g31
    obtain ⟨N, rfl⟩ : ∃ a, N = a + 60 := ⟨N - 60, by omega⟩
    apply Exists.intro; apply Exists.intro
    refine ⟨?_, ⟨e, ?_, ?_, ?_, hnd, by simpa [extsF] using ho, by simpa [extsF] using hz0⟩, Grow.refl _ _⟩
    · rw [codeB_loop]
      simp only [bodyD, part, Tryz.f70, sub, symM, opFn, Nat.reduceLT, g31, bin_lss, decide_eq_false (show ¬ (i : Int) < 3 by omega)]
      rfl
    · simp only [symM, Nat.reduceBEq, g0]
    · simp only [symM, Nat.reduceBEq, g2]
    · simp only [symM, Nat.reduceBEq, g4]
  | succ k ih =>
    intro i xs e h tm N hk hx hN hb hv hnd ho hz0 g0 g2 g4 g31
    obtain ⟨N, rfl⟩ : ∃ a, N = a + 60 := ⟨N - 60, by omega⟩
    have w1 : IntKind.i64.wrap (4 * (i : Int)) = ((4 * i : Nat) : Int) := by rw [wz (by omega)]; omega
    have w2 : IntKind.i64.wrap (6 + ((4 * i : Nat) : Int)) = ((6 + 4 * i : Nat) : Int) := by rw [wz (by omega)]; omega
    obtain ⟨w, e1, e2⟩ := hv.win (hi := none) (lo := 6 + 4 * i) (hh := 32) (.inr ⟨rfl, hl.symm⟩) (by omega) (by omega)
    obtain ⟨h1, c1, q1⟩ := hG _ w n0 h (win_lt hbs) (by simp; omega) e2 (by omega)
    rw [win_ext (by omega)] at c1
    generalize hxx : extAt bs (6 + 4 * i) = x at c1
    generalize hh2 : h1.new (.cells (PM.ofList [iv 0, .complex .f64 0 0]) 2 99 0 0 .ex) = h2
    have q2 : Grow h1.next h1 h2 := by rw [← hh2]; exact Grow.new _ _
    have hb2 : BoxL h2 h1.next 99 [iv 0, .complex .f64 0 0] := by rw [← hh2]; exact BoxL.new _ _ _
    obtain ⟨h3, s1, s2, s3, s4⟩ := BoxE.store hb2 x (Nat.le_refl _)
    obtain ⟨f1, _, _⟩ := BoxE.load s2
    have q3 : Grow h.next h h3 := q1.trans (q2.trans s3 (Nat.le_refl _)) q1.next
    have ho3 := ho.grow q3
    have hnd3 : NodeB h3 b n e := hnd.grow q3 hb
    have ld3 := hnd3.loads
    rw [show N + 60 = (N + 59) + 1 from rfl, codeB_loop, extsF_succ, hxx]
    cases hz : eqE x ⟨0, 0, 0⟩ with
    | true =>
      rw [hz] at c1
      simp only [bodyD, part, Tryz.f70, sub, symM, opFn, Nat.reduceLT, Nat.reduceBEq, symM, g0, g31, bin_lss, decide_eq_true (show (i : Int) < 3 by omega), bin_mul, w1, bin_add, w2, ev3, evOpt, e1, evCall_fn ft100 rfl, c1, alloc_E, hh2, s1, wadd1 (show i ≤ 400000 by omega)]
      rw [show nzX x = false by unfold nzX; rw [hz]; rfl, if_neg (by simp), List.nil_append]
      exact wrapE (ih (i + 1) xs e h3 _ (N + 59) (by omega) (by omega) (by omega) (Nat.lt_of_lt_of_le hb q3.next) (hv.grow q3 (by omega)) hnd3 ho3 hz0 (by simp only [symM, Nat.reduceBEq, g0]) (by simp only [symM, Nat.reduceBEq, g2]) (by simp only [symM, Nat.reduceBEq, g4]) get_same) (q3.less (by omega))
    | false =>
      rw [hz] at c1
      have hb3 := Nat.lt_of_lt_of_le hb q3.next
      obtain ⟨v4, h4, a1, a2, a3⟩ := OwnE.append ho3 x (by omega) (by omega) 49
      have hnd4 := hnd3.grow a3 (Nat.lt_succ_self b)
      obtain ⟨h5, t1, t2, t3, t4⟩ := hnd4.storeE a2.one a2.cell (Nat.le_refl b)
      have ho5 : OwnE (b + 1) h5 v4 (xs ++ [x]) := OwnC.keep a2 (Nat.lt_succ_self b) (by omega) (evStore_keep t1)
      have q5 : Grow b h h5 := (q3.less (by omega)).trans ((a3.less (by omega)).trans t3 (Nat.le_refl _)) (Nat.le_refl _)
      simp only [bodyD, part, Tryz.f70, sub, symM, opFn, Nat.reduceLT, Nat.reduceBEq, symM, g0, g4, g31, bin_lss, decide_eq_true (show (i : Int) < 3 by omega), bin_mul, w1, bin_add, w2, ev3, evOpt, e1, evCall_fn ft100 rfl, c1, alloc_E, hh2, s1, field_N, ld3, f1, bs_ext, a1, t1, wadd1 (show i ≤ 400000 by omega)]
      rw [show nzX x = true by unfold nzX; rw [hz]; rfl, if_pos rfl, ← List.append_assoc]
      exact wrapE (ih (i + 1) (xs ++ [x]) v4 h5 _ (N + 59) (by omega) (by simp; omega) (by omega) (Nat.lt_of_lt_of_le hb q5.next) (hv.grow q5 hnb) t2 ho5 (fun q => by simp at q) (by simp only [symM, Nat.reduceBEq, g0]) (by simp only [symM, Nat.reduceBEq, g2]) (by simp only [symM, Nat.reduceBEq, g4]) get_same) q5
end
end Go.Proofs.YtonfgflgnnkniaaGreat.Abs
namespace Go.Proofs.YtonfgflgnnkniaaGreat.Abs
open Go Go.Proofs
noncomputable section
variable {call : Abs.Callee}
set_option maxRecDepth 10000
theorem box4 {hh : AH} {bp m el lo hi : Nat} {kd : BKind} {c : PM Value} {x0 x1 x2 x3 : Nat} (hC : hh.get bp = some (.cells c m el lo hi kd)) (hm : 4 ≤ m) (h0 : c.get 0 = some (iv x0)) (h1 : c.get 1 = some (iv x1)) (h2 : c.get 2 = some (iv x2)) (h3 : c.get 3 = some (iv x3)) :
    evLoad T0 48 (pv bp 0) hh = some (.agg #[iv x0, iv x1, iv x2, iv x3]) := by
  simp only [evLoad, loadVarA, agg_arr4, sz_arr4]
  rw [show loadRow hh bp 0 4 = some [iv x0, iv x1, iv x2, iv x3] from loadRow_of (l := [iv x0, iv x1, iv x2, iv x3]) hC (by simpa using hm) (fun j w hj => by
    rw [Nat.zero_add]
    match j with
    | 0 => simp at hj; subst hj; exact h0
    | 1 => simp at hj; subst hj; exact h1
    | 2 => simp at hj; subst hj; exact h2
    | 3 => simp at hj; subst hj; exact h3
    | j + 4 => simp at hj)]
theorem s2a_ints {bp cap : Nat} : evS2A T0 48 (.slice (some ⟨bp, 0, none⟩) 6 cap) = some (pv bp 0) := by
  simp only [evS2A, und_arr4]
  rfl
theorem eqV_agg4 {a b c d : Int} : eqV (.agg #[iv a, iv b, iv c, iv d]) (.agg #[iv a, iv b, iv c, iv d]) = true := by simp [eqV, eqVs]
abbrev NumC (call : Abs.Callee) (f : Nat) : Prop := ∀ (bs : List Nat) (i : Nat) (v : Value) (n0 : Nat) (h : AH), (∀ x ∈ bs, x < 256) → i + 2 ≤ bs.length → bs.length < 1000 → RowX n0 h v bs → call f [v, iv i, iv 2] h = some (iv (numAt bs i), h)
abbrev NumsC (call : Abs.Callee) : Prop := ∀ (bs : List Nat) (v : Value) (a cnt n0 : Nat) (h : AH), (∀ x ∈ bs, x < 256) → bs.length < 1000 → a + 2 * cnt ≤ bs.length → n0 ≤ h.next → RowX n0 h v bs → ∃ v' h', call 101 [v, iv a, iv 2, iv cnt] h = some (v', h') ∧ Own h.next h' v' (intsV (numsAt bs a cnt)) 3 ∧ Grow h.next h h'
abbrev DEncC (call : Abs.Callee) (f : Nat) : Prop := ∀ (n : NV) (v : Value) (xs : List XV) (n0 : Nat) (h : AH), okN n → RowE n0 h v xs → (∀ x ∈ xs, okX x) → xs.length ≤ 60 → n0 ≤ h.next →
  ∃ r h', call f [nodeV n v] h = some (r, h') ∧ Grow h.next h h' ∧ ((soundN n xs = false ∧ r = .tuple #[nilV, iv 2]) ∨ (soundN n xs = true ∧ ∃ v', r = .tuple #[v', iv 0] ∧ Own h.next h' v' (bytesV (encN n xs)) 5))
theorem encN_lt2 (n : NV) (xs : List XV) : ∀ x ∈ encN n xs, x < 256 := by
  intro x hx
  unfold encN at hx
  rcases List.mem_append.1 hx with hx | hx
  · exact firstB_lt n xs x hx
  · exact leN_lt hx
/-- What a decoder answers. -/
def DecR (n : Nat) (h' : AH) (bs : List Nat) (r : Value) : Prop := (decOK bs = false ∧ r = .tuple #[nodeV NV.zero nilV, iv 2]) ∨ (decOK bs = true ∧ ∃ w, r = .tuple #[nodeV (decN bs) w, iv 0] ∧ OwnE n h' w (decX bs) ∧ (decX bs = [] → w = nilV))
/-- How a decoder ends. -/
theorem decTail (hE : DEncC call 27) (hB : BEqC call) (bs : List Nat) (hbs : ∀ x ∈ bs, x < 256) (hl : bs.length = 32) (v : Value) (n0 b c : Nat) (hc : c < b) (hn : n0 ≤ c) (h : AH) (e : Value) (hb : b < h.next) (hv : RowX n0 h v bs) (hnd : NodeB h b (decN bs) e) (hz : NodeB h c NV.zero nilV) (ho : OwnE (b + 1) h e (decX bs)) :
    ∃ r h6, call 27 [nodeV (decN bs) e] h = some (r, h6) ∧ evLoad T0 51 (pv b 0) h = some (nodeV (decN bs) e) ∧ evLoad T0 51 (pv b 0) h6 = some (nodeV (decN bs) e) ∧
      ((decOK bs = false ∧ (r = .tuple #[nilV, iv 2] ∨ ∃ v', r = .tuple #[v', iv 0] ∧ call 47 [v', v] h6 = some (.bool false, h6)) ∧ ∃ h7, evStore T0 51 (pv c 0) (nodeV NV.zero nilV) h6 = some h7 ∧ NodeB h7 c NV.zero nilV ∧ Grow c h h7) ∨
       (decOK bs = true ∧ ∃ v' h7, r = .tuple #[v', iv 0] ∧ call 47 [v', v] h6 = some (.bool true, h6) ∧ evStore T0 51 (pv c 0) (nodeV (decN bs) e) h6 = some h7 ∧ NodeB h7 c (decN bs) e ∧ OwnE (b + 1) h7 e (decX bs) ∧ Grow c h h7)) := by
  obtain ⟨r, h6, c1, g1, hr⟩ := hE (decN bs) e (decX bs) h.next h (decN_ok hbs) ho.row (decX_ok hbs) (by have := decX_len bs; omega) (Nat.le_refl _)
  have hz6 := hz.grow g1 (by omega)
  have hnd6 := hnd.grow g1 hb
  have gc : Grow c h h6 := g1.less (by omega)
  refine ⟨r, h6, c1, hnd.loads.2.2.2.2.2.2.2.2.2.2.2.2.1, hnd6.loads.2.2.2.2.2.2.2.2.2.2.2.2.1, ?_⟩
  have zer : ∃ h7, evStore T0 51 (pv c 0) (nodeV NV.zero nilV) h6 = some h7 ∧ NodeB h7 c NV.zero nilV ∧ Grow c h h7 := by
    obtain ⟨h7, s1, s2, s3, _⟩ := hz6.storeAll (k := c) NV.zero (f := nilV) rfl (Nat.le_refl _)
    exact ⟨h7, s1, s2, gc.trans s3 (Nat.le_refl _)⟩
  have hd : decOK bs = (soundN (decN bs) (decX bs) && decide (encN (decN bs) (decX bs) = bs)) := by unfold decOK; rw [hl]; rfl
  rcases hr with ⟨r1, rfl⟩ | ⟨r1, v', rfl, r2⟩
  · exact .inl ⟨by rw [hd, r1]; rfl, .inl rfl, zer⟩
  · have hq := hB _ bs v' v h6.next n0 h6 (encN_lt2 (decN bs) (decX bs)) hbs r2.row (hv.grow g1 (by omega)).row
    by_cases hcmp : encN (decN bs) (decX bs) = bs
    · rw [decide_eq_true hcmp] at hq
      obtain ⟨h7, s1, s2, s3, s4⟩ := hz6.storeAll (k := c) (decN bs) (f := e) ho.one (Nat.le_refl _)
      exact .inr ⟨by rw [hd, r1, decide_eq_true hcmp]; rfl, v', h7, rfl, hq, s1, s2, OwnC.keep (ho.grow g1) (by omega) (by omega) (evStore_keep s1), gc.trans s3 (Nat.le_refl _)⟩
    · rw [decide_eq_false hcmp] at hq
      exact .inl ⟨by rw [hd, r1, decide_eq_false hcmp]; rfl, .inr ⟨v', rfl, hq⟩, zer⟩
end
end Go.Proofs.YtonfgflgnnkniaaGreat.Abs
namespace Go.Proofs.YtonfgflgnnkniaaGreat.Abs
open Go Go.Proofs
noncomputable section
variable {call : Abs.Callee}
set_option maxRecDepth 10000
theorem frame_len (bs : List Nat) (v : Value) (n0 : Nat) (h : AH) (hv : Row n0 h v (bytesV bs) 5) (ty : TypeId) (h' : AH) : evBuiltin T0 .len #[38] ty [v] h' = some (.value (iv bs.length), h') := by rw [hv.len und_bytes, bytesV_len]
theorem Dec_len (bs : List Nat) (hl : bs.length ≠ 32) (v : Value) (n0 : Nat) (h : AH) (hv : Row n0 h v (bytesV bs) 5) :
    ∃ r h', frameB T0 X0 call 3000 70 [v] h = some (r, h') ∧ Grow h.next h h' ∧ DecR h.next h' bs r := by
  generalize hh1 : h.new (.cells (PM.ofList (nodeL NV.zero nilV)) 12 51 0 0 .ex) = h1
  have g1 : Grow h.next h h1 := by rw [← hh1]; exact Grow.new _ _
  have hz : NodeB h1 h.next NV.zero nilV := by rw [← hh1]; exact NodeB.new _ _ _
  obtain ⟨h7, s1, s2, s3, _⟩ := hz.storeAll (k := h.next) NV.zero (f := nilV) rfl (Nat.le_refl _)
  refine ⟨.tuple #[nodeV NV.zero nilV, iv 2], h7, ?_, g1.trans s3 (Nat.le_refl _), .inl ⟨by unfold decOK; rw [decide_eq_false hl]; rfl, rfl⟩⟩
  rw [frameB_eq ft70 rfl rfl]
  simp only [Tryz.f70, symM, opFn, Nat.reduceLT, Nat.reduceBEq, symM, alloc_N, hh1, frame_len bs v n0 h hv, bin_neq, eqF (show ¬ (bs.length : Int) = 32 by omega), build_N0, s1]
  exact retB_cell1 ft70 rfl (by simp only [symM, Nat.reduceBEq]) s2.loads.2.2.2.2.2.2.2.2.2.2.2.2.1 get_same
set_option maxHeartbeats 2000000 in
theorem Dec_S (hN : NumC call 98) (hG : GetC call) (hNs : NumsC call) (hE : DEncC call 27) (hB : BEqC call) (bs : List Nat) (hbs : ∀ x ∈ bs, x < 256) (hl : bs.length = 32) (v : Value) (n0 : Nat) (h : AH) (hn : n0 ≤ h.next) (hv : RowX n0 h v bs) :
    ∃ r h', frameB T0 X0 call 3000 70 [v] h = some (r, h') ∧ Grow h.next h h' ∧ DecR h.next h' bs r := by
  generalize hh1 : h.new (.cells (PM.ofList (nodeL NV.zero nilV)) 12 51 0 0 .ex) = h1
  have g1 : Grow h.next h h1 := by rw [← hh1]; exact Grow.new _ _
  have n1 : h1.next = h.next + 1 := by rw [← hh1]; rfl
  have hz1 : NodeB h1 h.next NV.zero nilV := by rw [← hh1]; exact NodeB.new _ _ _
  have hv1 := hv.grow g1 hn
  obtain ⟨p0, a0, b0, k0⟩ := hv1.row.at3 und_bytes sz_u8 agg_u8 (i := 0) (x := .int .u8 (byteAt bs 0 : Int)) (by simp [bytesV, byteAt_get (show 0 < bs.length by omega)])
  obtain ⟨p1, a1, b1, k1⟩ := hv1.row.at3 und_bytes sz_u8 agg_u8 (i := 1) (x := .int .u8 (byteAt bs 1 : Int)) (by simp [bytesV, byteAt_get (show 1 < bs.length by omega)])
  have a0 : evIndexAddr T0 38 v (iv 0) = some p0 := a0
  have a1 : evIndexAddr T0 38 v (iv 1) = some p1 := a1
  have l0 := byteAt_lt hbs (i := 0); have l1 := byteAt_lt hbs (i := 1)
  have w0 : IntKind.i64.wrap (byteAt bs 0 : Int) = byteAt bs 0 := wz (by omega)
  have w1 : IntKind.i64.wrap (byteAt bs 1 : Int) = byteAt bs 1 := wz (by omega)
  have c2 : call 98 [v, iv 2, iv 2] h1 = some (iv (numAt bs 2), h1) := hN bs 2 v n0 h1 hbs (by omega) (by omega) hv1
  have c4 : call 98 [v, iv 4, iv 2] h1 = some (iv (numAt bs 4), h1) := hN bs 4 v n0 h1 hbs (by omega) (by omega) hv1
  generalize hh2 : h1.new (.cells (PM.ofList (nodeL NV.zero nilV)) 12 51 0 0 .ex) = h2
  have g2 : Grow h1.next h1 h2 := by rw [← hh2]; exact Grow.new _ _
  have hb2 : NodeB h2 h1.next NV.zero nilV := by rw [← hh2]; exact NodeB.new _ _ _
  have n2 : h2.next = h1.next + 1 := by rw [← hh2]; rfl
  obtain ⟨h3, s1, s2, s3, s4⟩ := hb2.storeAll (k := h1.next) ⟨byteAt bs 0, byteAt bs 1, numAt bs 2, numAt bs 4, 0, 0, 0, 0, 0, 0, 0⟩ (f := nilV) rfl (Nat.le_refl _)
  have q3 := s2.loads
  have g13 : Grow h1.next h1 h3 := g2.trans s3 (Nat.le_refl _)
  have g03 : Grow h.next h h3 := g1.trans g13 (by omega)
  have hp3 := plan_D3
  simp only [regOps, part, Tryz.f70, sub] at hp3
  rw [frameB_eq ft70 rfl rfl]
  simp only [Tryz.f70, symM, opFn, Nat.reduceLT, Nat.reduceBEq, symM, alloc_N, hh1, frame_len bs v n0 h hv.row, hl, bin_neq, eqT (show ((32 : Nat) : Int) = 32 by omega)]
  rw [codeB_draw, draw_plan hp3 rfl]
  simp only [drawAll, opFn, Nat.reduceBEq, a0, b0, k0, a1, b1, k1, hv.eqv, conv_i2i und_u8 und_int, w0, w1, evCall_fn ft98 rfl, c2, c4, effE_cons, build_N4, goA_alloc alloc_N, hh2, s1]
  have e13 : (3 : Nat) = 3 := rfl
  by_cases f2 : byteAt bs 1 = 2
  · simp only [symM, opFn, Nat.reduceLT, symM, symL, field_N, q3, bin_eql, eqT (show (byteAt bs 1 : Int) = 2 by omega)]
    generalize hX : codeB T0 X0 call _ ED (.loop _) _ _ _ = X
    obtain ⟨t4, h4, u1, ⟨e, u2, u3, u4, u5, u6, u6z⟩, u7⟩ := use_exit hX (decL hG bs hbs hl v n0 h1.next h.next _ (by omega) 3 0 [] nilV h3 _ _ (by omega) (by simp) (by omega) (by omega) (hv1.grow g13 (by omega)) s2 (OwnE.nil _ _) (fun _ => rfl) (by simp only [symM, Nat.reduceBEq]) (by simp only [symM, Nat.reduceBEq]) (by simp only [symM, Nat.reduceBEq]) (by simp only [symM]; rfl))
    clear hX
    subst u1
    have hv4 := hv1.grow (g13.trans u7 (Nat.le_refl _)) (by omega)
    have hz4 := (hz1.grow g13 (by omega)).grow u7 (by omega)
    have c18 : call 98 [v, iv 18, iv 2] h4 = some (iv (numAt bs 18), h4) := hN bs 18 v n0 h4 hbs (by omega) (by omega) hv4
    obtain ⟨h5, s5, s6, s7, s8⟩ := u5.storeC (k := h1.next) (numAt bs 18) (Nat.le_refl _)
    have hN : ({ k := byteAt bs 0, f := byteAt bs 1, l := numAt bs 2, s := numAt bs 4, d0 := 0, d1 := 0, d2 := 0, d3 := 0, si := 0, du := 0, c := numAt bs 18 } : NV) = decN bs := by unfold decN; rw [if_pos f2]
    have hX2 : [] ++ extsF bs 0 3 = decX bs := by unfold decX; rw [if_pos f2]; rfl
    have s6 : NodeB h5 h1.next (decN bs) e := by rw [← hN]; exact s6
    rw [hX2] at u6 u6z
    have u6 : OwnE (h1.next + 1) h5 e (decX bs) := OwnC.keep u6 (Nat.lt_succ_self _) (by omega) (evStore_keep s5)
    have n4 := u7.next
    obtain ⟨r, h6, d1, d2, d3, d4⟩ := decTail hE hB bs hbs hl v n0 h1.next h.next (by omega) hn h5 e (by omega) (hv4.grow s7 (by omega)) s6 (hz4.grow s7 (by omega)) u6
    have g5 : Grow h.next h h5 := g03.trans ((u7.trans s7 (Nat.le_refl _)).less (by omega)) (Nat.le_refl _)
    rcases d4 with ⟨m1, m2, h7, m3, m4, m5⟩ | ⟨m1, v', h7, rfl, m2, m3, m4, m5, m6⟩
    · refine ⟨.tuple #[nodeV NV.zero nilV, iv 2], h7, ?_, g5.trans m5 (Nat.le_refl _), .inl ⟨m1, rfl⟩⟩
      rcases m2 with rfl | ⟨v', rfl, m2⟩
      · simp only [symM, opFn, Nat.reduceLT, Nat.reduceBEq, symM, symL, u2, u3, u4, evCall_fn ft98 rfl, c18, field_N, s5, d2, evCall_fn ft27 rfl, d1, bin_neq, show ((2 : Int) == 0) = false from rfl, build_N0, m3]
        exact retB_cell1 ft70 rfl (by simp only [symM, Nat.reduceBEq, u3]) m4.loads.2.2.2.2.2.2.2.2.2.2.2.2.1 get_same
      · simp only [symM, opFn, Nat.reduceLT, Nat.reduceBEq, symM, symL, u2, u3, u4, evCall_fn ft98 rfl, c18, field_N, s5, d2, evCall_fn ft27 rfl, d1, bin_neq, show ((0 : Int) == 0) = true from rfl, evCall_fn ft47 rfl, m2, build_N0, m3]
        exact retB_cell1 ft70 rfl (by simp only [symM, Nat.reduceBEq, u3]) m4.loads.2.2.2.2.2.2.2.2.2.2.2.2.1 get_same
    · refine ⟨.tuple #[nodeV (decN bs) e, iv 0], h7, ?_, g5.trans m6 (Nat.le_refl _), .inr ⟨m1, e, rfl, OwnC.less m5 (by omega), u6z⟩⟩
      simp only [symM, opFn, Nat.reduceLT, Nat.reduceBEq, symM, symL, u2, u3, u4, evCall_fn ft98 rfl, c18, field_N, s5, d2, d3, evCall_fn ft27 rfl, d1, bin_neq, show ((0 : Int) == 0) = true from rfl, evCall_fn ft47 rfl, m2, m3]
      exact retB_cell1 ft70 rfl (by simp only [symM, Nat.reduceBEq, u3]) m4.loads.2.2.2.2.2.2.2.2.2.2.2.2.1 get_same
  · obtain ⟨p, h4, c6, o4, g4⟩ := hNs bs v 6 6 n0 h3 hbs (by omega) (by omega) (by have := g03.next; omega) (hv1.grow g13 (by omega))
    have c6 : call 101 [v, iv 6, iv 2, iv 6] h3 = some (p, h4) := c6
    rw [show intsV (numsAt bs 6 6) = [iv (numAt bs 6), iv (numAt bs 8), iv (numAt bs 10), iv (numAt bs 12), iv (numAt bs 14), iv (numAt bs 16)] from rfl] at o4
    rcases o4 with ⟨_, o4⟩ | ⟨bp, cc, kd, cap, o1, o2, hpp, o3, o4, _⟩
    · cases o4
    have hpp : p = .slice (some ⟨bp, 0, none⟩) 6 cap := hpp
    subst hpp
    have F : ∀ hh : AH, hh.get bp = h4.get bp → evLoad T0 48 (pv bp 0) hh = some (.agg #[iv (numAt bs 6), iv (numAt bs 8), iv (numAt bs 10), iv (numAt bs 12)]) ∧ evLoad T0 3 (pv bp 4) hh = some (iv (numAt bs 14)) ∧ evLoad T0 3 (pv bp 5) hh = some (iv (numAt bs 16)) := by
      intro hh e
      rw [o3] at e
      exact ⟨box4 e (by simp) (o4 0 _ rfl) (o4 1 _ rfl) (o4 2 _ rfl) (o4 3 _ rfl), load_one agg_int e (by simp) (o4 4 _ rfl), load_one agg_int e (by simp) (o4 5 _ rfl)⟩
    have i4 : evIndexAddr T0 32 (.slice (some ⟨bp, 0, none⟩) 6 cap) (iv 4) = some (pv bp 4) := idx_slice (i := 4) und_ints sz_int (by omega)
    have i5 : evIndexAddr T0 32 (.slice (some ⟨bp, 0, none⟩) 6 cap) (iv 5) = some (pv bp 5) := idx_slice (i := 5) und_ints sz_int (by omega)
    have n3 := g13.next
    have nd4 : NodeB h4 h1.next ⟨byteAt bs 0, byteAt bs 1, numAt bs 2, numAt bs 4, 0, 0, 0, 0, 0, 0, 0⟩ nilV := s2.grow g4 (by omega)
    obtain ⟨h5, x1, x2, x3, x4⟩ := nd4.storeArr (k := h1.next) (numAt bs 6) (numAt bs 8) (numAt bs 10) (numAt bs 12) (Nat.le_refl _)
    obtain ⟨h6, y1, y2, y3, y4⟩ := x2.storeSi (k := h1.next) (numAt bs 14) (Nat.le_refl _)
    obtain ⟨h7, z1, z2, z3, z4⟩ := y2.storeDu (k := h1.next) (numAt bs 16) (Nat.le_refl _)
    have k5 : h5.get bp = h4.get bp := evStore_keep x1 bp (by omega)
    have k6 : h6.get bp = h4.get bp := (evStore_keep y1 bp (by omega)).trans k5
    obtain ⟨F1, F2, F3⟩ := F h4 rfl
    obtain ⟨_, F5, F6⟩ := F h5 k5
    obtain ⟨_, _, F9⟩ := F h6 k6
    have hN : ({ k := byteAt bs 0, f := byteAt bs 1, l := numAt bs 2, s := numAt bs 4, d0 := numAt bs 6, d1 := numAt bs 8, d2 := numAt bs 10, d3 := numAt bs 12, si := numAt bs 14, du := numAt bs 16, c := 0 } : NV) = decN bs := by unfold decN; rw [if_neg f2]
    have hX2 : ([] : List XV) = decX bs := by unfold decX; rw [if_neg f2]
    have z2 : NodeB h7 h1.next (decN bs) nilV := by rw [← hN]; exact z2
    have u6 : OwnE (h1.next + 1) h7 nilV (decX bs) := by rw [← hX2]; exact OwnE.nil _ _
    have q47 : Grow h1.next h4 h7 := (x3.trans y3 (Nat.le_refl _)).trans z3 (Nat.le_refl _)
    have q37 : Grow h1.next h3 h7 := (g4.less (by omega)).trans q47 (Nat.le_refl _)
    have q17 : Grow h1.next h1 h7 := g13.trans q37 (Nat.le_refl _)
    have n7 := q37.next
    obtain ⟨r, h8, d1, d2, d3, d4⟩ := decTail hE hB bs hbs hl v n0 h1.next h.next (by omega) hn h7 nilV (by omega) (hv1.grow q17 (by omega)) z2 (hz1.grow q17 (by omega)) u6
    have g5 : Grow h.next h h7 := g1.trans q17 (by omega)
    have hp14 := plan_D14
    simp only [regOps, part, Tryz.f70, sub] at hp14
    simp only [symM, opFn, Nat.reduceLT, Nat.reduceBEq, symM, field_N, q3, bin_eql, eqF (show ¬ (byteAt bs 1 : Int) = 2 by omega), evCall_fn ft101 rfl, c6]
    rw [codeB_draw, draw_plan hp14 rfl]
    simp only [drawAll, opFn, Nat.reduceBEq, s2a_ints, F1, F2, F3, i4, i5, field_N, x1, effE_cons, F5, F6, y1, F9, z1]
    rcases d4 with ⟨m1, m2, h9, m3, m4, m5⟩ | ⟨m1, v', h9, rfl, m2, m3, m4, m5, m6⟩
    · refine ⟨.tuple #[nodeV NV.zero nilV, iv 2], h9, ?_, g5.trans m5 (Nat.le_refl _), .inl ⟨m1, rfl⟩⟩
      rcases m2 with rfl | ⟨v', rfl, m2⟩
      · simp only [symM, opFn, Nat.reduceLT, Nat.reduceBEq, symM, d2, evCall_fn ft27 rfl, d1, bin_neq, show ((2 : Int) == 0) = false from rfl, build_N0, m3]
        exact retB_cell1 ft70 rfl (by simp only [symM, Nat.reduceBEq]) m4.loads.2.2.2.2.2.2.2.2.2.2.2.2.1 get_same
      · simp only [symM, opFn, Nat.reduceLT, Nat.reduceBEq, symM, d2, evCall_fn ft27 rfl, d1, bin_neq, show ((0 : Int) == 0) = true from rfl, evCall_fn ft47 rfl, m2, build_N0, m3]
        exact retB_cell1 ft70 rfl (by simp only [symM, Nat.reduceBEq]) m4.loads.2.2.2.2.2.2.2.2.2.2.2.2.1 get_same
    · refine ⟨.tuple #[nodeV (decN bs) nilV, iv 0], h9, ?_, g5.trans m6 (Nat.le_refl _), .inr ⟨m1, nilV, rfl, OwnC.less m5 (by omega), fun _ => rfl⟩⟩
      simp only [symM, opFn, Nat.reduceLT, Nat.reduceBEq, symM, d2, d3, evCall_fn ft27 rfl, d1, bin_neq, show ((0 : Int) == 0) = true from rfl, evCall_fn ft47 rfl, m2, m3]
      exact retB_cell1 ft70 rfl (by simp only [symM, Nat.reduceBEq]) m4.loads.2.2.2.2.2.2.2.2.2.2.2.2.1 get_same
end
end Go.Proofs.YtonfgflgnnkniaaGreat.Abs
