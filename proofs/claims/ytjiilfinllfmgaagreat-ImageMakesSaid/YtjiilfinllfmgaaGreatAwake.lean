
/- The check sums of package spin, and the node that is nothing: what they answer, for every memory; the simplest facts hold. -/
import Derived.Test.YtjiilfinllfmgaaGreatNum
import Derived.Test.YtjiilfinllfmgaaGreatAbsZJ
import Derived.Test.YtjiilfinllfmgaaGreatAbsZH
import Derived.Test.YtjiilfinllfmgaaGreatAbsZI
namespace Go.Proofs.YtjiilfinllfmgaaGreat.Abs.Sp
open Go Go.Proofs
noncomputable section
theorem ft181 : T0.ft.get 196 = some Tryz.f196 := by kernel_rfl
theorem ft179 : T0.ft.get 185 = some Tryz.f185 := by kernel_rfl
theorem ft171 : T0.ft.get 162 = some Tryz.f162 := by kernel_rfl
theorem ft172 : T0.ft.get 163 = some Tryz.f163 := by kernel_rfl
theorem ft170 : T0.ft.get 161 = some Tryz.f161 := by kernel_rfl
theorem ft156 : T0.ft.get 126 = some Tryz.f126 := by kernel_rfl
theorem und100 : und T0 69 = some (.float .f64) := by kernel_rfl
theorem und3 : und T0 3 = some (.int .i64) := by kernel_rfl
theorem und5 : und T0 5 = some (.int .u8) := by kernel_rfl
theorem und173 : und T0 111 = some (.int .u32) := by kernel_rfl
theorem und22 : und T0 38 = some (.slice 5) := by kernel_rfl
theorem sz5 : szOf T0 5 = some 1 := by kernel_rfl
theorem agg5 : aggT T0 5 = some false := by kernel_rfl

def modZ (z : Int) : Int := z % 65521
theorem modZ_lt (z : Int) : 0 ≤ modZ z ∧ modZ z < 65521 := by unfold modZ; omega
theorem modZ_zok (z : Int) : zok (modZ z) = true := zok_of (by have := modZ_lt z; omega)
set_option maxRecDepth 10000
theorem mod_S (X : Exts) (call : Abs.Callee) (m : Int) (hx : zok m = true) (h : AH) :
   frameB T0 X call 40 196 [.float .f64 (zd m)] h = some (.float .f64 (zd (modZ m)), h) := by
  have hm : m.natAbs < 9007199254740992 := zok_small hx
  have hr : IntKind.i64.min ≤ m ∧ m ≤ IntKind.i64.max := ⟨by show (-9223372036854775808 : Int) ≤ _; omega, by show _ ≤ (9223372036854775807 : Int); omega⟩
  have hrem : ∀ a b, evBin T0 .rem 3 a b (.int .i64 m) (.int .i64 65521) h = some (.int .i64 (m.tmod 65521)) := fun a b => bin_tmod (by decide)
  have hz : zok (m % 65521) = true := modZ_zok m
  have ht : (0 ≤ m ∧ m.tmod 65521 = m % 65521) ∨ (m < 0 ∧ m.tmod 65521 = -((-m) % 65521)) := by
    by_cases h1 : 0 ≤ m
    · exact .inl ⟨h1, Int.tmod_eq_emod_of_nonneg h1⟩
    · refine .inr ⟨by omega, ?_⟩
      rw [← Int.tmod_eq_emod_of_nonneg (by omega), Int.neg_tmod, Int.neg_neg]
  rw [frameB_eq ft181 rfl rfl]
  by_cases h0 : m.tmod 65521 < 0
  · have he : m.tmod 65521 + 65521 = m % 65521 := by omega
    have hw : IntKind.i64.wrap (m % 65521) = m % 65521 := IntWalk.i64_in _ (by omega)
    simp only [Tryz.f196, symM, opFn, Nat.reduceLT, Nat.reduceBEq, conv_f2i und100 und3 hx hr, conv_i2f und3 und100 hz, hrem, bin_lss, decide_eq_true h0, bin_add, he, hw]
    exact retB_one ft181 rfl get_same
  · have he : m.tmod 65521 = m % 65521 := by omega
    rw [he] at h0 hrem
    simp only [Tryz.f196, symM, opFn, Nat.reduceLT, Nat.reduceBEq, conv_f2i und100 und3 hx hr, conv_i2f und3 und100 hz, hrem, bin_lss, decide_eq_false h0]
    exact retB_one ft181 rfl get_same

theorem reduce_S (X : Exts) (call : Abs.Callee) (hmod : ∀ z h, zok z = true → call 196 [.float .f64 (zd z)] h = some (.float .f64 (zd (modZ z)), h)) (x y : Int) (hx : zok x = true) (hy : zok y = true) (h : AH) :
   frameB T0 X call 40 185 [.complex .f64 (zd x) (zd y)] h = some (.complex .f64 (zd (modZ x)) (zd (modZ y)), h) := by
  rw [frameB_eq ft179 rfl rfl]
  simp only [Tryz.f185, symM, opFn, Nat.reduceLT, Nat.reduceBEq, evCall_fn ft181 rfl, hmod _ _ hx, hmod _ _ hy]
  exact retB_one ft179 rfl get_same

theorem step_S (X : Exts) (call : Abs.Callee) (hred : ∀ x y h, zok x = true → zok y = true → call 185 [.complex .f64 (zd x) (zd y)] h = some (.complex .f64 (zd (modZ x)) (zd (modZ y)), h))
    (a b c : Nat) (ha : a < 65521) (hb : b < 65521) (hcc : c < 256) (h : AH) :
   frameB T0 X call 40 162 [.complex .f64 (zd a) (zd b), .int .u8 c] h = some (.complex .f64 (zd (modZ (2 * a - b + c))) (zd (modZ (a + 2 * b))), h) := by
  rw [frameB_eq ft171 rfl rfl]
  have hmul : ∀ p q, evBin T0 .mul 211 p q (.complex .f64 (zd a) (zd b)) (.complex .f64 4611686018427387904 4607182418800017408) h = some (.complex .f64 (zd ((a : Int) * 2 - b * 1)) (zd ((a : Int) * 1 + b * 2))) := by
    intro p q
    rw [← zd_two, ← zd_one]
    exact cplx_mul (zok_of (by omega)) (zok_of (by omega)) (by decide) (by decide) (zok_of (by omega)) (zok_of (by omega)) (zok_of (by omega)) (zok_of (by omega)) rfl rfl rfl rfl (zok_of (by omega)) (zok_of (by omega))
  have hadd : ∀ p q, evBin T0 .add 211 p q (.complex .f64 (zd ((a : Int) * 2 - b * 1)) (zd ((a : Int) * 1 + b * 2))) (.complex .f64 (zd c) 0) h = some (.complex .f64 (zd (2 * a - b + c)) (zd (a + 2 * b))) := by
    intro p q
    rw [← zd_zero, cplx_add (zok_of (by omega)) (zok_of (by omega)) (zok_of (by omega)) (by decide) (zok_of (by omega)) (zok_of (by omega))]
    rw [show (a : Int) * 2 - b * 1 + c = 2 * a - b + c from by omega, show (a : Int) * 1 + b * 2 + 0 = a + 2 * b from by omega]
  simp only [Tryz.f162, symM, opFn, Nat.reduceLT, Nat.reduceBEq, evCall_fn ft179 rfl, hmul, hadd, conv_i2f und5 und100 (zok_of (x := (c : Int)) (by omega)), hred _ _ _ (zok_of (x := (2 * a - b + c : Int)) (by omega)) (zok_of (x := (a + 2 * b : Int)) (by omega))]
  exact retB_one ft171 rfl get_same

theorem from_S (X : Exts) (call : Abs.Callee) (hred : ∀ x y h, zok x = true → zok y = true → call 185 [.complex .f64 (zd x) (zd y)] h = some (.complex .f64 (zd (modZ x)) (zd (modZ y)), h))
    (s : Nat) (hs : s < 4294967296) (h : AH) :
   frameB T0 X call 40 161 [.int .u32 s] h = some (.complex .f64 (zd (modZ (s / 65536 : Nat))) (zd (modZ (s % 65536 : Nat))), h) := by
  rw [frameB_eq ft170 rfl rfl]
  have hq : ∀ p q, evBin T0 .quo 111 p q (.int .u32 s) (.int .u32 65536) h = some (.int .u32 (s / 65536 : Nat)) := fun p q => by
    rw [show (65536 : Int) = ((65536 : Nat) : Int) from rfl, bin_quo (by decide), IntWalk.u32_in _ (by omega)]
  have hr : ∀ p q, evBin T0 .rem 111 p q (.int .u32 s) (.int .u32 65536) h = some (.int .u32 (s % 65536 : Nat)) := fun p q => by
    rw [show (65536 : Int) = ((65536 : Nat) : Int) from rfl, bin_rem (by decide)]
  have z1 : zok ((s / 65536 : Nat) : Int) = true := zok_of (by omega)
  have z2 : zok ((s % 65536 : Nat) : Int) = true := zok_of (by omega)
  simp only [Tryz.f161, symM, opFn, Nat.reduceLT, Nat.reduceBEq, evCall_fn ft179 rfl, hq, hr, conv_i2f und173 und100 z1, conv_i2f und173 und100 z2, hred _ _ _ z1 z2]
  exact retB_one ft170 rfl get_same

theorem sum_S (X : Exts) (call : Abs.Callee) (a b : Nat) (ha : a < 65521) (hb : b < 65521) (h : AH) :
   frameB T0 X call 40 163 [.complex .f64 (zd a) (zd b)] h = some (.int .u32 (a * 65536 + b : Nat), h) := by
  rw [frameB_eq ft172 rfl rfl]
  have z1 : zok (a : Int) = true := zok_of (by omega)
  have z2 : zok (b : Int) = true := zok_of (by omega)
  have r1 : IntKind.u32.min ≤ (a : Int) ∧ (a : Int) ≤ IntKind.u32.max := ⟨by show (0 : Int) ≤ _; omega, by show _ ≤ (4294967295 : Int); omega⟩
  have r2 : IntKind.u32.min ≤ (b : Int) ∧ (b : Int) ≤ IntKind.u32.max := ⟨by show (0 : Int) ≤ _; omega, by show _ ≤ (4294967295 : Int); omega⟩
  have w1 : IntKind.u32.wrap ((a : Int) * 65536) = a * 65536 := IntWalk.u32_in _ (by omega)
  have w2 : IntKind.u32.wrap ((a : Int) * 65536 + b) = (a * 65536 + b : Nat) := by rw [IntWalk.u32_in _ (by omega)]; simp
  simp only [Tryz.f163, symM, opFn, Nat.reduceLT, Nat.reduceBEq, conv_f2i und100 und173 z1 r1, conv_f2i und100 und173 z2 r2, bin_mul, bin_add, w1, w2]
  exact retB_one ft172 rfl get_same

/-- The register behind bytes. -/
def regS : List Nat → Nat → Nat → Nat × Nat
  | [], a, b => (a, b)
  | x :: l, a, b => regS l ((2 * a + (65521 - b) + x) % 65521) ((a + 2 * b) % 65521)
theorem regS_lt : ∀ (l : List Nat) (a b : Nat), a < 65521 → b < 65521 → (regS l a b).1 < 65521 ∧ (regS l a b).2 < 65521 := by
  intro l
  induction l with
  | nil => intro a b ha hb; exact ⟨ha, hb⟩
  | cons x l ih => intro a b _ _; exact ih _ _ (Nat.mod_lt _ (by decide)) (Nat.mod_lt _ (by decide))

noncomputable def body156 : Code := part Tryz.f126 [1, 1, 0, 1, 0, 0]
theorem more_loop (X : Exts) (call : Abs.Callee)
    (hstep : ∀ a b c h, a < 65521 → b < 65521 → c < 256 → call 162 [.complex .f64 (zd (a : Nat)) (zd (b : Nat)), .int .u8 (c : Nat)] h = some (.complex .f64 (zd (modZ (2 * a - b + c))) (zd (modZ (a + 2 * b))), h))
    {h : AH} {c : PM Value} {n e lo hi : Nat} {kd : BKind} {bl o cap len : Nat} (hb : h.get bl = some (.cells c n e lo hi kd)) (hn : o + len ≤ n) (hlen : len < 9223372036854775807) :
    ∀ (bs : List Nat) (i : Nat) (tm : PM Value) (a b : Nat), i + bs.length = len → (∀ j x, bs[j]? = some x → x < 256 ∧ c.get (o + (i + j)) = some (.int .u8 (x : Nat))) → a < 65521 → b < 65521 →
      tm.get 10 = some (.slice (some ⟨bl, o, none⟩) len cap) → tm.get 11 = some (.int .i64 (len : Nat)) → tm.get 12 = some (.int .i64 (i : Nat)) → tm.get 5 = some (.complex .f64 (zd (a : Nat)) (zd (b : Nat))) →
      ∃ tm', codeB T0 X call (bs.length + 20) ⟨126, 22, none⟩ (.loop body156) tm h [] = .jump (.exit 0) tm' h [] ∧ tm'.get 5 = some (.complex .f64 (zd ((regS bs a b).1 : Nat)) (zd ((regS bs a b).2 : Nat))) := by
  intro bs
  induction bs with
  | nil =>
    intro i tm a b hi hbs ha hb2 h10 h11 h12 h5
    have hlt : decide ((i : Int) < (len : Int)) = false := by simp at hi ⊢; omega
    apply Exists.intro
    apply And.intro
    · rw [codeB_loop]
      simp only [body156, part, Tryz.f126, sub, symM, opFn, Nat.reduceLT, h11, h12, bin_lss, hlt]
      rfl
    · simp only [symM, Nat.reduceBEq, h5]; rfl
  | cons x bs ih =>
    intro i tm a b hi hbs ha hb2 h10 h11 h12 h5
    have hil : i < len := by simp at hi; omega
    have hlt : decide ((i : Int) < (len : Int)) = true := by simp; omega
    obtain ⟨hx, hcx⟩ := hbs 0 x rfl
    have hix : ∀ c', evIndexAddr T0 38 (.slice (some ⟨bl, o, none⟩) len c') (.int .i64 (i : Nat)) = some (.pointer (some ⟨bl, o + i * 1, none⟩)) := fun c' => idx_slice und22 sz5 hil
    have hld : evLoad T0 5 (.pointer (some ⟨bl, o + i * 1, none⟩)) h = some (.int .u8 (x : Nat)) := load_one agg5 hb (by omega) (by rw [show o + i * 1 = o + (i + 0) by omega]; exact hcx)
    have hw : IntKind.i64.wrap ((i : Int) + 1) = ((i + 1 : Nat) : Int) := by rw [IntWalk.i64_in _ (by omega)]; simp
    have e1 : modZ (2 * a - b + x) = (((2 * a + (65521 - b) + x) % 65521 : Nat) : Int) := by unfold modZ; omega
    have e2 : modZ (a + 2 * b) = (((a + 2 * b) % 65521 : Nat) : Int) := by unfold modZ; omega
    rw [show (x :: bs).length + 20 = (bs.length + 20) + 1 by simp, codeB_loop]
    simp only [body156, part, Tryz.f126, sub, symM, opFn, Nat.reduceLT, Nat.reduceBEq, h10, h11, h12, h5, bin_lss, hlt, hix, hld, evCall_fn ft171 rfl, hstep a b x _ ha hb2 hx, e1, e2, bin_add, hw]
    refine ih (i + 1) _ ((2 * a + (65521 - b) + x) % 65521) ((a + 2 * b) % 65521) (by simp at hi ⊢; omega) ?_ (Nat.mod_lt _ (by decide)) (Nat.mod_lt _ (by decide)) ?_ ?_ ?_ ?_
    · intro j y hj
      have := hbs (j + 1) y (by simpa using hj)
      rw [show i + 1 + j = i + (j + 1) by omega]; exact this
    all_goals simp only [symM, Nat.reduceBEq, h10, h11]

theorem more_S (X : Exts) (call : Abs.Callee)
    (hfrom : ∀ s h, s < 4294967296 → call 161 [.int .u32 (s : Nat)] h = some (.complex .f64 (zd (modZ (s / 65536 : Nat))) (zd (modZ (s % 65536 : Nat))), h))
    (hstep : ∀ a b c h, a < 65521 → b < 65521 → c < 256 → call 162 [.complex .f64 (zd (a : Nat)) (zd (b : Nat)), .int .u8 (c : Nat)] h = some (.complex .f64 (zd (modZ (2 * a - b + c))) (zd (modZ (a + 2 * b))), h))
    (hsum : ∀ a b h, a < 65521 → b < 65521 → call 163 [.complex .f64 (zd (a : Nat)) (zd (b : Nat))] h = some (.int .u32 (a * 65536 + b : Nat), h))
    {h : AH} {c : PM Value} {n e lo hi : Nat} {kd : BKind} {bl o cap : Nat} (hb : h.get bl = some (.cells c n e lo hi kd)) (bs : List Nat) (hn : o + bs.length ≤ n) (hlen : bs.length < 9223372036854775807)
    (hbs : ∀ (j x : Nat), bs[j]? = some x → x < 256 ∧ c.get (o + j) = some (.int .u8 (x : Nat))) (s : Nat) (hs : s < 4294967296) :
    frameB T0 X call (bs.length + 25) 126 [.int .u32 (s : Nat), .slice (some ⟨bl, o, none⟩) bs.length cap] h =
      some (.int .u32 ((regS bs (s / 65536 % 65521) (s % 65536 % 65521)).1 * 65536 + (regS bs (s / 65536 % 65521) (s % 65536 % 65521)).2 : Nat), h) := by
  rw [frameB_eq ft156 rfl rfl]
  have e1 : modZ (s / 65536 : Nat) = ((s / 65536 % 65521 : Nat) : Int) := by unfold modZ; omega
  have e2 : modZ (s % 65536 : Nat) = ((s % 65536 % 65521 : Nat) : Int) := by unfold modZ; omega
  have h1 : s / 65536 % 65521 < 65521 := Nat.mod_lt _ (by decide)
  have h2 : s % 65536 % 65521 < 65521 := Nat.mod_lt _ (by decide)
  have hl := regS_lt bs _ _ h1 h2
  have hL := fun tm => more_loop X call hstep (cap := cap) hb hn hlen bs 0 tm (s / 65536 % 65521) (s % 65536 % 65521) (by simp) (by simpa using hbs) h1 h2
  simp only [Tryz.f126, symM, opFn, Nat.reduceLT, Nat.reduceBEq, evCall_fn ft170 rfl, hfrom s h hs, len_slice und22, e1, e2]
  refine after_loop (hL _ ?_ ?_ ?_ ?_) ?_
  · simp only [symM, Nat.reduceBEq]
  · simp only [symM, Nat.reduceBEq]
  · simp only [symM]; rfl
  · simp only [symM, Nat.reduceBEq]
  · intro tm' g5
    simp only [symM, opFn, Nat.reduceLT, g5, evCall_fn ft172 rfl, hsum _ _ h hl.1 hl.2]
    exact retB_one ft156 rfl get_same

def regF : List Nat → Nat → Nat → Nat × Nat
  | [], a, b => (a, b)
  | x :: l, a, b => regF l (Nat.mod (Nat.add (Nat.add (Nat.mul 2 a) (Nat.sub 65521 b)) x) 65521) (Nat.mod (Nat.add a (Nat.mul 2 b)) 65521)
theorem regF_eq : ∀ (l : List Nat) (a b : Nat), regF l a b = regS l a b := by
  intro l
  induction l with
  | nil => intro a b; rfl
  | cons x l ih => intro a b; exact ih _ _
def modT : List Value → AH → Option (Value × AH)
  | [.float .f64 b], h => (match dz b with | some z => some (.float .f64 (zd (modZ z)), h) | none => none)
  | _, _ => none
def reduceT : List Value → AH → Option (Value × AH)
  | [.complex .f64 a b], h => (match dz a, dz b with | some x, some y => some (.complex .f64 (zd (modZ x)) (zd (modZ y)), h) | _, _ => none)
  | _, _ => none
def natZ (z : Int) (k : Nat) : Option Nat := match z with
  | .ofNat m => ifB (Nat.blt m k) (some m) none
  | _ => none
theorem natZ_some {z : Int} {k m : Nat} (h : natZ z k = some m) : z = (m : Int) ∧ m < k := by
  unfold natZ at h
  split at h
  · obtain ⟨e1, e2⟩ := ifB_some h; cases e2; exact ⟨rfl, blt_lt e1⟩
  · cases h
theorem natZ_mk {m k : Nat} (h : m < k) : natZ (m : Int) k = some m := by
  show ifB (Nat.blt m k) (some m) none = _
  rw [show Nat.blt m k = true by simpa [Nat.blt] using Nat.ble_eq_true_of_le h]; rfl
def stepT : List Value → AH → Option (Value × AH)
  | [.complex .f64 a b, .int .u8 c], h => (match dz a, dz b with
    | some x, some y => (match natZ x 65521, natZ y 65521, natZ c 256 with
      | some x, some y, some c => some (.complex .f64 (zd (modZ (2 * x - y + c))) (zd (modZ (x + 2 * y))), h)
      | _, _, _ => none)
    | _, _ => none)
  | _, _ => none
def fromT : List Value → AH → Option (Value × AH)
  | [.int .u32 s], h => (match natZ s 4294967296 with
    | some s => some (.complex .f64 (zd (modZ (s / 65536 : Nat))) (zd (modZ (s % 65536 : Nat))), h)
    | none => none)
  | _, _ => none
def sumT : List Value → AH → Option (Value × AH)
  | [.complex .f64 a b], h => (match dz a, dz b with
    | some x, some y => (match natZ x 65521, natZ y 65521 with
      | some x, some y => some (.int .u32 (x * 65536 + y : Nat), h)
      | _, _ => none)
    | _, _ => none)
  | _, _ => none
def moreT : List Value → AH → Option (Value × AH)
  | [.int .u32 s, .slice (some ⟨b, o, none⟩) len _], h => (match natZ s 4294967296 with
    | some s => (match h.get b with
      | some (.cells c n _ _ _ _) => ifB (Nat.ble (o + len) n && Nat.blt len 9223372036854775807) (match readB c len o with
        | some bs => (match regF bs (s / 65536 % 65521) (s % 65536 % 65521) with
          | (x, y) => some (.int .u32 (Int.ofNat (Nat.add (Nat.mul x 65536) y)), h))
        | none => none) none
      | _ => none)
    | none => none)
  | _, _ => none

section
variable (ok : TabOK T0) (oz : TabZ T0) {X : Exts} (hX : ExtOK T0 X)
include ok oz hX
theorem modT_ok : ∀ args h v h', modT args h = some (v, h') → CallOK T0 196 args h v h' := by
  intro args h v h' e
  unfold modT at e
  split at e
  · split at e
    · rename_i z hz
      obtain ⟨rfl, hs⟩ := dz_spec hz
      cases e
      exact frameB_sound ok oz hX (callS_ok (noSums_ok T0)) 40 _ _ _ _ _ (mod_S X _ z (zok_of hs) _)
    · cases e
  · cases e
def spin1 : Sums := addS 196 modT noSums
theorem spin1_ok : SumOK T0 spin1 := addS_ok (noSums_ok T0) (modT_ok ok oz hX)
theorem reduceT_ok : ∀ args h v h', reduceT args h = some (v, h') → CallOK T0 185 args h v h' := by
  intro args h v h' e
  unfold reduceT at e
  split at e
  · split at e
    · rename_i x y hx hy
      obtain ⟨rfl, h1⟩ := dz_spec hx
      obtain ⟨rfl, h2⟩ := dz_spec hy
      cases e
      refine frameB_sound ok oz hX (callS_ok (spin1_ok ok oz hX)) 40 _ _ _ _ _ (reduce_S X _ ?_ x y (zok_of h1) (zok_of h2) _)
      intro z h hz
      simp only [spin1, callS_same, modT, dz_zd hz]
    · cases e
  · cases e
def spin2 : Sums := addS 185 reduceT spin1
theorem spin2_ok : SumOK T0 spin2 := addS_ok (spin1_ok ok oz hX) (reduceT_ok ok oz hX)
omit ok oz hX in
theorem spin2_red (x y : Int) (h : AH) (hx : zok x = true) (hy : zok y = true) : callS spin2 185 [.complex .f64 (zd x) (zd y)] h = some (.complex .f64 (zd (modZ x)) (zd (modZ y)), h) := by
  simp only [spin2, callS_same, reduceT, dz_zd hx, dz_zd hy]
theorem stepT_ok : ∀ args h v h', stepT args h = some (v, h') → CallOK T0 162 args h v h' := by
  intro args h v h' e
  unfold stepT at e
  split at e
  · split at e
    · rename_i x y hx hy
      split at e
      · rename_i x' y' c' g1 g2 g3
        obtain ⟨rfl, _⟩ := dz_spec hx
        obtain ⟨rfl, _⟩ := dz_spec hy
        obtain ⟨rfl, h1⟩ := natZ_some g1
        obtain ⟨rfl, h2⟩ := natZ_some g2
        obtain ⟨rfl, h3⟩ := natZ_some g3
        cases e
        exact frameB_sound ok oz hX (callS_ok (spin2_ok ok oz hX)) 40 _ _ _ _ _ (step_S X _ spin2_red x' y' c' h1 h2 h3 _)
      · cases e
    · cases e
  · cases e
theorem fromT_ok : ∀ args h v h', fromT args h = some (v, h') → CallOK T0 161 args h v h' := by
  intro args h v h' e
  unfold fromT at e
  split at e
  · split at e
    · rename_i s hs
      obtain ⟨rfl, h1⟩ := natZ_some hs
      cases e
      exact frameB_sound ok oz hX (callS_ok (spin2_ok ok oz hX)) 40 _ _ _ _ _ (from_S X _ spin2_red s h1 _)
    · cases e
  · cases e
theorem sumT_ok : ∀ args h v h', sumT args h = some (v, h') → CallOK T0 163 args h v h' := by
  intro args h v h' e
  unfold sumT at e
  split at e
  · split at e
    · rename_i x y hx hy
      split at e
      · rename_i x' y' g1 g2
        obtain ⟨rfl, _⟩ := dz_spec hx
        obtain ⟨rfl, _⟩ := dz_spec hy
        obtain ⟨rfl, h1⟩ := natZ_some g1
        obtain ⟨rfl, h2⟩ := natZ_some g2
        cases e
        exact frameB_sound ok oz hX (callS_ok (spin2_ok ok oz hX)) 40 _ _ _ _ _ (sum_S X _ x' y' h1 h2 _)
      · cases e
    · cases e
  · cases e
def spin3 : Sums := addS 162 stepT (addS 161 fromT (addS 163 sumT spin2))
theorem spin3_ok : SumOK T0 spin3 := addS_ok (addS_ok (addS_ok (spin2_ok ok oz hX) (sumT_ok ok oz hX)) (fromT_ok ok oz hX)) (stepT_ok ok oz hX)
omit ok oz hX in
theorem spin3_from (s : Nat) (h : AH) (hs : s < 4294967296) : callS spin3 161 [.int .u32 (s : Nat)] h = some (.complex .f64 (zd (modZ (s / 65536 : Nat))) (zd (modZ (s % 65536 : Nat))), h) := by
  simp only [spin3, callS_same, callS_skip, Nat.reduceBEq, fromT, natZ_mk hs]
omit ok oz hX in
theorem spin3_step (a b c : Nat) (h : AH) (ha : a < 65521) (hb : b < 65521) (hc : c < 256) : callS spin3 162 [.complex .f64 (zd (a : Nat)) (zd (b : Nat)), .int .u8 (c : Nat)] h = some (.complex .f64 (zd (modZ (2 * a - b + c))) (zd (modZ (a + 2 * b))), h) := by
  simp only [spin3, callS_same, stepT, dz_zd (zok_of (x := (a : Int)) (by omega)), dz_zd (zok_of (x := (b : Int)) (by omega)), natZ_mk ha, natZ_mk hb, natZ_mk hc]
omit ok oz hX in
theorem spin3_sum (a b : Nat) (h : AH) (ha : a < 65521) (hb : b < 65521) : callS spin3 163 [.complex .f64 (zd (a : Nat)) (zd (b : Nat))] h = some (.int .u32 (a * 65536 + b : Nat), h) := by
  simp only [spin3, callS_same, callS_skip, Nat.reduceBEq, sumT, dz_zd (zok_of (x := (a : Int)) (by omega)), dz_zd (zok_of (x := (b : Int)) (by omega)), natZ_mk ha, natZ_mk hb]
theorem moreT_ok : ∀ args h v h', moreT args h = some (v, h') → CallOK T0 126 args h v h' := by
  intro args h v h' e
  unfold moreT at e
  split at e
  · rename_i o len cap
    split at e
    · rename_i s hs
      obtain ⟨rfl, h1⟩ := natZ_some hs
      split at e
      · rename_i c n _ _ _ _ hb
        obtain ⟨e1, e2⟩ := ifB_some e
        rw [Bool.and_eq_true] at e1
        split at e2
        · rename_i bs hbs
          obtain ⟨hl, hr⟩ := readB_spec hbs
          subst hl
          rw [regF_eq] at e2
          have hg := more_S X (callS spin3) (cap := cap) spin3_from spin3_step spin3_sum hb bs (ble_le e1.1) (blt_lt e1.2) hr s h1
          cases e2
          exact frameB_sound ok oz hX (callS_ok (spin3_ok ok oz hX)) _ _ _ _ _ _ hg
        · cases e2
      · cases e
    · cases e
  · cases e
end
def spinS : Sums := addS 126 moreT noSums
theorem spinS_ok (ok : TabOK T0) (oz : TabZ T0) {X : Exts} (hX : ExtOK T0 X) : SumOK T0 spinS := addS_ok (noSums_ok T0) (moreT_ok ok oz hX)
end
end Go.Proofs.YtjiilfinllfmgaaGreat.Abs.Sp
namespace Go.Proofs.YtjiilfinllfmgaaGreat.Abs.Sp
open Go Go.Proofs
noncomputable section
def zeroNode : Value := .agg #[.int .i64 0, .int .i64 0, .int .i64 0, .int .i64 0, .int .i64 0, .int .i64 0, .int .i64 0, .int .i64 0, .int .i64 0, .int .i64 0, .slice none 0 0, .int .i64 0]
def zeroHalf : List Value := List.replicate 28 (.int .u8 0) ++ [.int .u8 161, .int .u8 145, .int .u8 248, .int .u8 178]
def encV (b : Nat) : Value := .tuple #[.slice (some ⟨b, 0, none⟩) 32 (XB + 32), .int .i64 0]
theorem encV_hv (r r' : Ren) (b : Nat) (bk : Bk) (v2 : Value) (h1 : r 23 = some bk) (h2 : r' b = some bk) (h : VR r (encV 23) v2) : VR r' (encV b) v2 := by
  cases h with
  | tuple a a' e g =>
    have hs : a'.size = 2 := by rw [← e]; rfl
    obtain ⟨x, y, rfl⟩ : ∃ x y, a' = #[x, y] := by
      obtain ⟨l⟩ := a'
      match l, hs with
      | [x, y], _ => exact ⟨x, y, rfl⟩
    have g0 := g 0 _ x rfl rfl
    have g1 := g 1 _ y rfl rfl
    cases g1
    refine .tuple _ _ rfl ?_
    intro i u u' e1 e2
    match i with
    | 0 =>
      cases e1; cases e2
      have g0' : VR r (.slice (some ⟨23, 0, none⟩) 32 (XB + 32)) x := g0
      generalize hcp : XB + 32 = cp at g0'
      cases g0' with
      | slEx b o l c bk' hb hc => omega
      | slIn b o l k o' c' bk' hb q1 q2 q3 q4 =>
        rw [h1] at hb; cases hb
        obtain rfl : k = 32 := by omega
        exact .slIn _ _ _ _ _ _ bk h2 q1 q2 q3 q4
    | 1 => cases e1; cases e2; exact .int _ _
    | n + 2 => simp at e1
theorem enc_run : memoB encV 23 32 5 0 0 zeroHalf (callN T0 X0 spinS 100000 100 38 [zeroNode] (startH Tryz.prog)) = true := by kernel_rfl
def encT : List Value → AH → Option (Value × AH)
  | [v], h => (match eqV v zeroNode with
    | true => some (encV h.next, h.new (.cells (PM.ofList zeroHalf) 32 5 0 0 .loose))
    | false => none)
  | _, _ => none
theorem encT_ok (ok : TabOK T0) (oz : TabZ T0) (hX : ExtOK T0 X0) : ∀ args h v h', encT args h = some (v, h') → CallOK T0 38 args h v h' := by
  intro args h v h' e
  unfold encT at e
  split at e
  · split at e
    · rename_i hq
      have := eqV_eq _ _ hq; subst this
      cases e
      have hc : RecOK T0 (callN T0 X0 spinS 100000 100) := by rw [callN_eq]; exact callB_sound ok oz hX (spinS_ok ok oz hX) _ _
      exact memo_run (P := Tryz.prog) hc rfl (by decide) enc_run encV_hv _
    · cases e
  · cases e
def encS : Sums := addS 38 encT spinS
theorem encS_ok (ok : TabOK T0) (oz : TabZ T0) (hX : ExtOK T0 X0) : SumOK T0 encS := addS_ok (spinS_ok ok oz hX) (encT_ok ok oz hX)
end
end Go.Proofs.YtjiilfinllfmgaaGreat.Abs.Sp
namespace Go.Proofs.YtjiilfinllfmgaaGreat.Abs
open Go Go.Proofs
theorem awake_run : endsT (callN T0 X0 Sp.encS 100000 100 5 [] (startH Tryz.prog)) = true := by kernel_rfl
end Go.Proofs.YtjiilfinllfmgaaGreat.Abs
