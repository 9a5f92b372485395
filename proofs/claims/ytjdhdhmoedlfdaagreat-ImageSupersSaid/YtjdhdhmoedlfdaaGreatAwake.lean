
/- The check sums of package spin, and the node that is nothing: what they answer, for every memory; the simplest facts hold. -/
import Derived.Test.YtjdhdhmoedlfdaaGreatNum
import Derived.Test.YtjdhdhmoedlfdaaGreatAbsZJ
import Derived.Test.YtjdhdhmoedlfdaaGreatAbsZH
import Derived.Test.YtjdhdhmoedlfdaaGreatAbsZI
import Derived.Test.YtjdhdhmoedlfdaaGreatGen
import Derived.Test.YtjdhdhmoedlfdaaGreatAbsZN
import Derived.Test.YtjdhdhmoedlfdaaGreatLaw
import Derived.WalkKit
import Derived.ProofKit
import Derived.OpenShut
import Derived.HandedShaped
namespace Go.Proofs.YtjdhdhmoedlfdaaGreat.Abs.Sp
open Go Go.Proofs
noncomputable section
theorem ft181 : T0.ft.get 219 = some Tryz.f219 := by kernel_rfl
theorem ft179 : T0.ft.get 205 = some Tryz.f205 := by kernel_rfl
theorem ft171 : T0.ft.get 176 = some Tryz.f176 := by kernel_rfl
theorem ft172 : T0.ft.get 177 = some Tryz.f177 := by kernel_rfl
theorem ft170 : T0.ft.get 175 = some Tryz.f175 := by kernel_rfl
theorem ft156 : T0.ft.get 137 = some Tryz.f137 := by kernel_rfl
theorem und100 : und T0 96 = some (.float .f64) := by kernel_rfl
theorem und3 : und T0 3 = some (.int .i64) := by kernel_rfl
theorem und5 : und T0 5 = some (.int .u8) := by kernel_rfl
theorem und173 : und T0 122 = some (.int .u32) := by kernel_rfl
theorem und22 : und T0 57 = some (.slice 5) := by kernel_rfl
theorem sz5 : szOf T0 5 = some 1 := by kernel_rfl
theorem agg5 : aggT T0 5 = some false := by kernel_rfl
def modZ (z : Int) : Int := z % 65521
theorem modZ_lt (z : Int) : 0 ≤ modZ z ∧ modZ z < 65521 := by unfold modZ; omega
theorem modZ_zok (z : Int) : zok (modZ z) = true := zok_of (by have := modZ_lt z; omega)
set_option maxRecDepth 10000
theorem mod_S (X : Exts) (call : Abs.Callee) (m : Int) (hx : zok m = true) (h : AH) :
   frameB T0 X call 40 219 [.float .f64 (zd m)] h = some (.float .f64 (zd (modZ m)), h) := by
  have hm : m.natAbs < 9007199254740992 := zok_small hx
  have hr : IntKind.i64.min ≤ m ∧ m ≤ IntKind.i64.max := ⟨by show (-9223372036854775808 : Int) ≤ _; omega, by show _ ≤ (9223372036854775807 : Int); omega⟩
  have hrem : ∀ a b, evBin T0 .rem 3 a b (.int .i64 m) (.int .i64 65521) h = some (.int .i64 (m.tmod 65521)) := fun a b => bin_tmod (by decide)
  have hz : zok (m % 65521) = true := modZ_zok m
  have ht : (0 ≤ m ∧ m.tmod 65521 = m % 65521) ∨ (m < 0 ∧ m.tmod 65521 = -((-m) % 65521)) := by
    by_cases h1 : 0 ≤ m
    · exact .inl ⟨h1, Int.tmod_eq_emod_of_nonneg h1⟩
    · refine .inr ⟨by omega, ?_⟩
      rw [← Int.tmod_eq_emod_of_nonneg (by omega), Int.neg_tmod, Int.neg_neg]
  rw [frameB_eq ft181 rfl rfl]
  by_cases h0 : m.tmod 65521 < 0
  · have he : m.tmod 65521 + 65521 = m % 65521 := by omega
    have hw : IntKind.i64.wrap (m % 65521) = m % 65521 := IntWalk.i64_in _ (by omega)
    simp only [Tryz.f219, symM, opFn, Nat.reduceLT, Nat.reduceBEq, conv_f2i und100 und3 hx hr, conv_i2f und3 und100 hz, hrem, bin_lss, decide_eq_true h0, bin_add, he, hw]
    exact retB_one ft181 rfl get_same
  · have he : m.tmod 65521 = m % 65521 := by omega
    rw [he] at h0 hrem
    simp only [Tryz.f219, symM, opFn, Nat.reduceLT, Nat.reduceBEq, conv_f2i und100 und3 hx hr, conv_i2f und3 und100 hz, hrem, bin_lss, decide_eq_false h0]
    exact retB_one ft181 rfl get_same
theorem reduce_S (X : Exts) (call : Abs.Callee) (hmod : ∀ z h, zok z = true → call 219 [.float .f64 (zd z)] h = some (.float .f64 (zd (modZ z)), h)) (x y : Int) (hx : zok x = true) (hy : zok y = true) (h : AH) :
   frameB T0 X call 40 205 [.complex .f64 (zd x) (zd y)] h = some (.complex .f64 (zd (modZ x)) (zd (modZ y)), h) := by
  rw [frameB_eq ft179 rfl rfl]
  simp only [Tryz.f205, symM, opFn, Nat.reduceLT, Nat.reduceBEq, evCall_fn ft181 rfl, hmod _ _ hx, hmod _ _ hy]
  exact retB_one ft179 rfl get_same
theorem step_S (X : Exts) (call : Abs.Callee) (hred : ∀ x y h, zok x = true → zok y = true → call 205 [.complex .f64 (zd x) (zd y)] h = some (.complex .f64 (zd (modZ x)) (zd (modZ y)), h))
    (a b c : Nat) (ha : a < 65521) (hb : b < 65521) (hcc : c < 256) (h : AH) :
   frameB T0 X call 40 176 [.complex .f64 (zd a) (zd b), .int .u8 c] h = some (.complex .f64 (zd (modZ (2 * a - b + c))) (zd (modZ (a + 2 * b))), h) := by
  rw [frameB_eq ft171 rfl rfl]
  have hmul : ∀ p q, evBin T0 .mul 212 p q (.complex .f64 (zd a) (zd b)) (.complex .f64 4611686018427387904 4607182418800017408) h = some (.complex .f64 (zd ((a : Int) * 2 - b * 1)) (zd ((a : Int) * 1 + b * 2))) := by
    intro p q
    rw [← zd_two, ← zd_one]
    exact cplx_mul (zok_of (by omega)) (zok_of (by omega)) (by decide) (by decide) (zok_of (by omega)) (zok_of (by omega)) (zok_of (by omega)) (zok_of (by omega)) rfl rfl rfl rfl (zok_of (by omega)) (zok_of (by omega))
  have hadd : ∀ p q, evBin T0 .add 212 p q (.complex .f64 (zd ((a : Int) * 2 - b * 1)) (zd ((a : Int) * 1 + b * 2))) (.complex .f64 (zd c) 0) h = some (.complex .f64 (zd (2 * a - b + c)) (zd (a + 2 * b))) := by
    intro p q
    rw [← zd_zero, cplx_add (zok_of (by omega)) (zok_of (by omega)) (zok_of (by omega)) (by decide) (zok_of (by omega)) (zok_of (by omega))]
    rw [show (a : Int) * 2 - b * 1 + c = 2 * a - b + c from by omega, show (a : Int) * 1 + b * 2 + 0 = a + 2 * b from by omega]
  simp only [Tryz.f176, symM, opFn, Nat.reduceLT, Nat.reduceBEq, evCall_fn ft179 rfl, hmul, hadd, conv_i2f und5 und100 (zok_of (x := (c : Int)) (by omega)), hred _ _ _ (zok_of (x := (2 * a - b + c : Int)) (by omega)) (zok_of (x := (a + 2 * b : Int)) (by omega))]
  exact retB_one ft171 rfl get_same
theorem from_S (X : Exts) (call : Abs.Callee) (hred : ∀ x y h, zok x = true → zok y = true → call 205 [.complex .f64 (zd x) (zd y)] h = some (.complex .f64 (zd (modZ x)) (zd (modZ y)), h))
    (s : Nat) (hs : s < 4294967296) (h : AH) :
   frameB T0 X call 40 175 [.int .u32 s] h = some (.complex .f64 (zd (modZ (s / 65536 : Nat))) (zd (modZ (s % 65536 : Nat))), h) := by
  rw [frameB_eq ft170 rfl rfl]
  have hq : ∀ p q, evBin T0 .quo 122 p q (.int .u32 s) (.int .u32 65536) h = some (.int .u32 (s / 65536 : Nat)) := fun p q => by
    rw [show (65536 : Int) = ((65536 : Nat) : Int) from rfl, bin_quo (by decide), IntWalk.u32_in _ (by omega)]
  have hr : ∀ p q, evBin T0 .rem 122 p q (.int .u32 s) (.int .u32 65536) h = some (.int .u32 (s % 65536 : Nat)) := fun p q => by
    rw [show (65536 : Int) = ((65536 : Nat) : Int) from rfl, bin_rem (by decide)]
  have z1 : zok ((s / 65536 : Nat) : Int) = true := zok_of (by omega)
  have z2 : zok ((s % 65536 : Nat) : Int) = true := zok_of (by omega)
  simp only [Tryz.f175, symM, opFn, Nat.reduceLT, Nat.reduceBEq, evCall_fn ft179 rfl, hq, hr, conv_i2f und173 und100 z1, conv_i2f und173 und100 z2, hred _ _ _ z1 z2]
  exact retB_one ft170 rfl get_same
theorem sum_S (X : Exts) (call : Abs.Callee) (a b : Nat) (ha : a < 65521) (hb : b < 65521) (h : AH) :
   frameB T0 X call 40 177 [.complex .f64 (zd a) (zd b)] h = some (.int .u32 (a * 65536 + b : Nat), h) := by
  rw [frameB_eq ft172 rfl rfl]
  have z1 : zok (a : Int) = true := zok_of (by omega)
  have z2 : zok (b : Int) = true := zok_of (by omega)
  have r1 : IntKind.u32.min ≤ (a : Int) ∧ (a : Int) ≤ IntKind.u32.max := ⟨by show (0 : Int) ≤ _; omega, by show _ ≤ (4294967295 : Int); omega⟩
  have r2 : IntKind.u32.min ≤ (b : Int) ∧ (b : Int) ≤ IntKind.u32.max := ⟨by show (0 : Int) ≤ _; omega, by show _ ≤ (4294967295 : Int); omega⟩
  have w1 : IntKind.u32.wrap ((a : Int) * 65536) = a * 65536 := IntWalk.u32_in _ (by omega)
  have w2 : IntKind.u32.wrap ((a : Int) * 65536 + b) = (a * 65536 + b : Nat) := by rw [IntWalk.u32_in _ (by omega)]; simp
  simp only [Tryz.f177, symM, opFn, Nat.reduceLT, Nat.reduceBEq, conv_f2i und100 und173 z1 r1, conv_f2i und100 und173 z2 r2, bin_mul, bin_add, w1, w2]
  exact retB_one ft172 rfl get_same
def regS : List Nat → Nat → Nat → Nat × Nat
  | [], a, b => (a, b)
  | x :: l, a, b => regS l ((2 * a + (65521 - b) + x) % 65521) ((a + 2 * b) % 65521)
theorem regS_lt : ∀ (l : List Nat) (a b : Nat), a < 65521 → b < 65521 → (regS l a b).1 < 65521 ∧ (regS l a b).2 < 65521 := by
  intro l
  induction l with
  | nil => intro a b ha hb; exact ⟨ha, hb⟩
  | cons x l ih => intro a b _ _; exact ih _ _ (Nat.mod_lt _ (by decide)) (Nat.mod_lt _ (by decide))
noncomputable def body156 : Code := part Tryz.f137 [1, 1, 0, 1, 0, 0]
theorem more_loop (X : Exts) (call : Abs.Callee)
    (hstep : ∀ a b c h, a < 65521 → b < 65521 → c < 256 → call 176 [.complex .f64 (zd (a : Nat)) (zd (b : Nat)), .int .u8 (c : Nat)] h = some (.complex .f64 (zd (modZ (2 * a - b + c))) (zd (modZ (a + 2 * b))), h))
    {h : AH} {c : PM Value} {n e lo hi : Nat} {kd : BKind} {bl o cap len : Nat} (hb : h.get bl = some (.cells c n e lo hi kd)) (hn : o + len ≤ n) (hlen : len < 9223372036854775807) :
    ∀ (bs : List Nat) (i : Nat) (tm : PM Value) (a b : Nat), i + bs.length = len → (∀ j x, bs[j]? = some x → x < 256 ∧ c.get (o + (i + j)) = some (.int .u8 (x : Nat))) → a < 65521 → b < 65521 →
      tm.get 10 = some (.slice (some ⟨bl, o, none⟩) len cap) → tm.get 11 = some (.int .i64 (len : Nat)) → tm.get 12 = some (.int .i64 (i : Nat)) → tm.get 5 = some (.complex .f64 (zd (a : Nat)) (zd (b : Nat))) →
      ∃ tm', codeB T0 X call (bs.length + 20) ⟨137, 22, none⟩ (.loop body156) tm h [] = .jump (.exit 0) tm' h [] ∧ tm'.get 5 = some (.complex .f64 (zd ((regS bs a b).1 : Nat)) (zd ((regS bs a b).2 : Nat))) := by
  intro bs
  induction bs with
  | nil =>
    intro i tm a b hi hbs ha hb2 h10 h11 h12 h5
    have hlt : decide ((i : Int) < (len : Int)) = false := by simp at hi ⊢; omega
    apply Exists.intro
    apply And.intro
    · rw [codeB_loop]
      simp only [body156, part, Tryz.f137, sub, symM, opFn, Nat.reduceLT, h11, h12, bin_lss, hlt]
      rfl
    · simp only [symM, Nat.reduceBEq, h5]; rfl
  | cons x bs ih =>
    intro i tm a b hi hbs ha hb2 h10 h11 h12 h5
    have hil : i < len := by simp at hi; omega
    have hlt : decide ((i : Int) < (len : Int)) = true := by simp; omega
    obtain ⟨hx, hcx⟩ := hbs 0 x rfl
    have hix : ∀ c', evIndexAddr T0 57 (.slice (some ⟨bl, o, none⟩) len c') (.int .i64 (i : Nat)) = some (.pointer (some ⟨bl, o + i * 1, none⟩)) := fun c' => idx_slice und22 sz5 hil
    have hld : evLoad T0 5 (.pointer (some ⟨bl, o + i * 1, none⟩)) h = some (.int .u8 (x : Nat)) := load_one agg5 hb (by omega) (by rw [show o + i * 1 = o + (i + 0) by omega]; exact hcx)
    have hw : IntKind.i64.wrap ((i : Int) + 1) = ((i + 1 : Nat) : Int) := by rw [IntWalk.i64_in _ (by omega)]; simp
    have e1 : modZ (2 * a - b + x) = (((2 * a + (65521 - b) + x) % 65521 : Nat) : Int) := by unfold modZ; omega
    have e2 : modZ (a + 2 * b) = (((a + 2 * b) % 65521 : Nat) : Int) := by unfold modZ; omega
    rw [show (x :: bs).length + 20 = (bs.length + 20) + 1 by simp, codeB_loop]
    simp only [body156, part, Tryz.f137, sub, symM, opFn, Nat.reduceLT, Nat.reduceBEq, h10, h11, h12, h5, bin_lss, hlt, hix, hld, evCall_fn ft171 rfl, hstep a b x _ ha hb2 hx, e1, e2, bin_add, hw]
    refine ih (i + 1) _ ((2 * a + (65521 - b) + x) % 65521) ((a + 2 * b) % 65521) (by simp at hi ⊢; omega) ?_ (Nat.mod_lt _ (by decide)) (Nat.mod_lt _ (by decide)) ?_ ?_ ?_ ?_
    · intro j y hj
      have := hbs (j + 1) y (by simpa using hj)
      rw [show i + 1 + j = i + (j + 1) by omega]; exact this
    all_goals simp only [symM, Nat.reduceBEq, h10, h11]
theorem more_S (X : Exts) (call : Abs.Callee)
    (hfrom : ∀ s h, s < 4294967296 → call 175 [.int .u32 (s : Nat)] h = some (.complex .f64 (zd (modZ (s / 65536 : Nat))) (zd (modZ (s % 65536 : Nat))), h))
    (hstep : ∀ a b c h, a < 65521 → b < 65521 → c < 256 → call 176 [.complex .f64 (zd (a : Nat)) (zd (b : Nat)), .int .u8 (c : Nat)] h = some (.complex .f64 (zd (modZ (2 * a - b + c))) (zd (modZ (a + 2 * b))), h))
    (hsum : ∀ a b h, a < 65521 → b < 65521 → call 177 [.complex .f64 (zd (a : Nat)) (zd (b : Nat))] h = some (.int .u32 (a * 65536 + b : Nat), h))
    {h : AH} {c : PM Value} {n e lo hi : Nat} {kd : BKind} {bl o cap : Nat} (hb : h.get bl = some (.cells c n e lo hi kd)) (bs : List Nat) (hn : o + bs.length ≤ n) (hlen : bs.length < 9223372036854775807)
    (hbs : ∀ (j x : Nat), bs[j]? = some x → x < 256 ∧ c.get (o + j) = some (.int .u8 (x : Nat))) (s : Nat) (hs : s < 4294967296) :
    frameB T0 X call (bs.length + 25) 137 [.int .u32 (s : Nat), .slice (some ⟨bl, o, none⟩) bs.length cap] h =
      some (.int .u32 ((regS bs (s / 65536 % 65521) (s % 65536 % 65521)).1 * 65536 + (regS bs (s / 65536 % 65521) (s % 65536 % 65521)).2 : Nat), h) := by
  rw [frameB_eq ft156 rfl rfl]
  have e1 : modZ (s / 65536 : Nat) = ((s / 65536 % 65521 : Nat) : Int) := by unfold modZ; omega
  have e2 : modZ (s % 65536 : Nat) = ((s % 65536 % 65521 : Nat) : Int) := by unfold modZ; omega
  have h1 : s / 65536 % 65521 < 65521 := Nat.mod_lt _ (by decide)
  have h2 : s % 65536 % 65521 < 65521 := Nat.mod_lt _ (by decide)
  have hl := regS_lt bs _ _ h1 h2
  have hL := fun tm => more_loop X call hstep (cap := cap) hb hn hlen bs 0 tm (s / 65536 % 65521) (s % 65536 % 65521) (by simp) (by simpa using hbs) h1 h2
  simp only [Tryz.f137, symM, opFn, Nat.reduceLT, Nat.reduceBEq, evCall_fn ft170 rfl, hfrom s h hs, len_slice und22, e1, e2]
  refine after_loop (hL _ ?_ ?_ ?_ ?_) ?_
  · simp only [symM, Nat.reduceBEq]
  · simp only [symM, Nat.reduceBEq]
  · simp only [symM]; rfl
  · simp only [symM, Nat.reduceBEq]
  · intro tm' g5
    simp only [symM, opFn, Nat.reduceLT, g5, evCall_fn ft172 rfl, hsum _ _ h hl.1 hl.2]
    exact retB_one ft156 rfl get_same
def regF : List Nat → Nat → Nat → Nat × Nat
  | [], a, b => (a, b)
  | x :: l, a, b => regF l (Nat.mod (Nat.add (Nat.add (Nat.mul 2 a) (Nat.sub 65521 b)) x) 65521) (Nat.mod (Nat.add a (Nat.mul 2 b)) 65521)
theorem regF_eq : ∀ (l : List Nat) (a b : Nat), regF l a b = regS l a b := by
  intro l
  induction l with
  | nil => intro a b; rfl
  | cons x l ih => intro a b; exact ih _ _
def modT : List Value → AH → Option (Value × AH)
  | [.float .f64 b], h => (match dz b with | some z => some (.float .f64 (zd (modZ z)), h) | none => none)
  | _, _ => none
def reduceT : List Value → AH → Option (Value × AH)
  | [.complex .f64 a b], h => (match dz a, dz b with | some x, some y => some (.complex .f64 (zd (modZ x)) (zd (modZ y)), h) | _, _ => none)
  | _, _ => none
def natZ (z : Int) (k : Nat) : Option Nat := match z with
  | .ofNat m => ifB (Nat.blt m k) (some m) none
  | _ => none
theorem natZ_some {z : Int} {k m : Nat} (h : natZ z k = some m) : z = (m : Int) ∧ m < k := by
  unfold natZ at h
  split at h
  · obtain ⟨e1, e2⟩ := ifB_some h; cases e2; exact ⟨rfl, blt_lt e1⟩
  · cases h
theorem natZ_mk {m k : Nat} (h : m < k) : natZ (m : Int) k = some m := by
  show ifB (Nat.blt m k) (some m) none = _
  rw [show Nat.blt m k = true by simpa [Nat.blt] using Nat.ble_eq_true_of_le h]; rfl
def stepT : List Value → AH → Option (Value × AH)
  | [.complex .f64 a b, .int .u8 c], h => (match dz a, dz b with
    | some x, some y => (match natZ x 65521, natZ y 65521, natZ c 256 with
      | some x, some y, some c => some (.complex .f64 (zd (modZ (2 * x - y + c))) (zd (modZ (x + 2 * y))), h)
      | _, _, _ => none)
    | _, _ => none)
  | _, _ => none
def fromT : List Value → AH → Option (Value × AH)
  | [.int .u32 s], h => (match natZ s 4294967296 with
    | some s => some (.complex .f64 (zd (modZ (s / 65536 : Nat))) (zd (modZ (s % 65536 : Nat))), h)
    | none => none)
  | _, _ => none
def sumT : List Value → AH → Option (Value × AH)
  | [.complex .f64 a b], h => (match dz a, dz b with
    | some x, some y => (match natZ x 65521, natZ y 65521 with
      | some x, some y => some (.int .u32 (x * 65536 + y : Nat), h)
      | _, _ => none)
    | _, _ => none)
  | _, _ => none
def moreT : List Value → AH → Option (Value × AH)
  | [.int .u32 s, .slice (some ⟨b, o, none⟩) len _], h => (match natZ s 4294967296 with
    | some s => (match h.get b with
      | some (.cells c n _ _ _ _) => ifB (Nat.ble (o + len) n && Nat.blt len 9223372036854775807) (match readB c len o with
        | some bs => (match regF bs (s / 65536 % 65521) (s % 65536 % 65521) with
          | (x, y) => some (.int .u32 (Int.ofNat (Nat.add (Nat.mul x 65536) y)), h))
        | none => none) none
      | _ => none)
    | none => none)
  | _, _ => none
section
variable (ok : TabOK T0) (oz : TabZ T0) {X : Exts} (hX : ExtOK T0 X)
include ok oz hX
theorem modT_ok : ∀ args h v h', modT args h = some (v, h') → CallOK T0 219 args h v h' := by
  intro args h v h' e
  unfold modT at e
  split at e
  · split at e
    · rename_i z hz
      obtain ⟨rfl, hs⟩ := dz_spec hz
      cases e
      exact frameB_sound ok oz hX (callS_ok (noSums_ok T0)) 40 _ _ _ _ _ (mod_S X _ z (zok_of hs) _)
    · cases e
  · cases e
def spin1 : Sums := addS 219 modT noSums
theorem spin1_ok : SumOK T0 spin1 := addS_ok (noSums_ok T0) (modT_ok ok oz hX)
theorem reduceT_ok : ∀ args h v h', reduceT args h = some (v, h') → CallOK T0 205 args h v h' := by
  intro args h v h' e
  unfold reduceT at e
  split at e
  · split at e
    · rename_i x y hx hy
      obtain ⟨rfl, h1⟩ := dz_spec hx
      obtain ⟨rfl, h2⟩ := dz_spec hy
      cases e
      refine frameB_sound ok oz hX (callS_ok (spin1_ok ok oz hX)) 40 _ _ _ _ _ (reduce_S X _ ?_ x y (zok_of h1) (zok_of h2) _)
      intro z h hz
      simp only [spin1, callS_same, modT, dz_zd hz]
    · cases e
  · cases e
def spin2 : Sums := addS 205 reduceT spin1
theorem spin2_ok : SumOK T0 spin2 := addS_ok (spin1_ok ok oz hX) (reduceT_ok ok oz hX)
omit ok oz hX in
theorem spin2_red (x y : Int) (h : AH) (hx : zok x = true) (hy : zok y = true) : callS spin2 205 [.complex .f64 (zd x) (zd y)] h = some (.complex .f64 (zd (modZ x)) (zd (modZ y)), h) := by
  simp only [spin2, callS_same, reduceT, dz_zd hx, dz_zd hy]
theorem stepT_ok : ∀ args h v h', stepT args h = some (v, h') → CallOK T0 176 args h v h' := by
  intro args h v h' e
  unfold stepT at e
  split at e
  · split at e
    · rename_i x y hx hy
      split at e
      · rename_i x' y' c' g1 g2 g3
        obtain ⟨rfl, _⟩ := dz_spec hx
        obtain ⟨rfl, _⟩ := dz_spec hy
        obtain ⟨rfl, h1⟩ := natZ_some g1
        obtain ⟨rfl, h2⟩ := natZ_some g2
        obtain ⟨rfl, h3⟩ := natZ_some g3
        cases e
        exact frameB_sound ok oz hX (callS_ok (spin2_ok ok oz hX)) 40 _ _ _ _ _ (step_S X _ spin2_red x' y' c' h1 h2 h3 _)
      · cases e
    · cases e
  · cases e
theorem fromT_ok : ∀ args h v h', fromT args h = some (v, h') → CallOK T0 175 args h v h' := by
  intro args h v h' e
  unfold fromT at e
  split at e
  · split at e
    · rename_i s hs
      obtain ⟨rfl, h1⟩ := natZ_some hs
      cases e
      exact frameB_sound ok oz hX (callS_ok (spin2_ok ok oz hX)) 40 _ _ _ _ _ (from_S X _ spin2_red s h1 _)
    · cases e
  · cases e
theorem sumT_ok : ∀ args h v h', sumT args h = some (v, h') → CallOK T0 177 args h v h' := by
  intro args h v h' e
  unfold sumT at e
  split at e
  · split at e
    · rename_i x y hx hy
      split at e
      · rename_i x' y' g1 g2
        obtain ⟨rfl, _⟩ := dz_spec hx
        obtain ⟨rfl, _⟩ := dz_spec hy
        obtain ⟨rfl, h1⟩ := natZ_some g1
        obtain ⟨rfl, h2⟩ := natZ_some g2
        cases e
        exact frameB_sound ok oz hX (callS_ok (spin2_ok ok oz hX)) 40 _ _ _ _ _ (sum_S X _ x' y' h1 h2 _)
      · cases e
    · cases e
  · cases e
def spin3 : Sums := addS 176 stepT (addS 175 fromT (addS 177 sumT spin2))
theorem spin3_ok : SumOK T0 spin3 := addS_ok (addS_ok (addS_ok (spin2_ok ok oz hX) (sumT_ok ok oz hX)) (fromT_ok ok oz hX)) (stepT_ok ok oz hX)
omit ok oz hX in
theorem spin3_from (s : Nat) (h : AH) (hs : s < 4294967296) : callS spin3 175 [.int .u32 (s : Nat)] h = some (.complex .f64 (zd (modZ (s / 65536 : Nat))) (zd (modZ (s % 65536 : Nat))), h) := by
  simp only [spin3, callS_same, callS_skip, Nat.reduceBEq, fromT, natZ_mk hs]
omit ok oz hX in
theorem spin3_step (a b c : Nat) (h : AH) (ha : a < 65521) (hb : b < 65521) (hc : c < 256) : callS spin3 176 [.complex .f64 (zd (a : Nat)) (zd (b : Nat)), .int .u8 (c : Nat)] h = some (.complex .f64 (zd (modZ (2 * a - b + c))) (zd (modZ (a + 2 * b))), h) := by
  simp only [spin3, callS_same, stepT, dz_zd (zok_of (x := (a : Int)) (by omega)), dz_zd (zok_of (x := (b : Int)) (by omega)), natZ_mk ha, natZ_mk hb, natZ_mk hc]
omit ok oz hX in
theorem spin3_sum (a b : Nat) (h : AH) (ha : a < 65521) (hb : b < 65521) : callS spin3 177 [.complex .f64 (zd (a : Nat)) (zd (b : Nat))] h = some (.int .u32 (a * 65536 + b : Nat), h) := by
  simp only [spin3, callS_same, callS_skip, Nat.reduceBEq, sumT, dz_zd (zok_of (x := (a : Int)) (by omega)), dz_zd (zok_of (x := (b : Int)) (by omega)), natZ_mk ha, natZ_mk hb]
theorem moreT_ok : ∀ args h v h', moreT args h = some (v, h') → CallOK T0 137 args h v h' := by
  intro args h v h' e
  unfold moreT at e
  split at e
  · rename_i o len cap
    split at e
    · rename_i s hs
      obtain ⟨rfl, h1⟩ := natZ_some hs
      split at e
      · rename_i c n _ _ _ _ hb
        obtain ⟨e1, e2⟩ := ifB_some e
        rw [Bool.and_eq_true] at e1
        split at e2
        · rename_i bs hbs
          obtain ⟨hl, hr⟩ := readB_spec hbs
          subst hl
          rw [regF_eq] at e2
          have hg := more_S X (callS spin3) (cap := cap) spin3_from spin3_step spin3_sum hb bs (ble_le e1.1) (blt_lt e1.2) hr s h1
          cases e2
          exact frameB_sound ok oz hX (callS_ok (spin3_ok ok oz hX)) _ _ _ _ _ _ hg
        · cases e2
      · cases e
    · cases e
  · cases e
end
def spinS : Sums := addS 137 moreT noSums
theorem spinS_ok (ok : TabOK T0) (oz : TabZ T0) {X : Exts} (hX : ExtOK T0 X) : SumOK T0 spinS := addS_ok (noSums_ok T0) (moreT_ok ok oz hX)
end
end Go.Proofs.YtjdhdhmoedlfdaaGreat.Abs.Sp
namespace Go.Proofs.YtjdhdhmoedlfdaaGreat.Abs.Sp
open Go Go.Proofs
noncomputable section
def zeroNode : Value := .agg #[.int .i64 0, .int .i64 0, .int .i64 0, .int .i64 0, .int .i64 0, .int .i64 0, .int .i64 0, .int .i64 0, .int .i64 0, .int .i64 0, .slice none 0 0, .int .i64 0]
def zeroHalf : List Value := List.replicate 28 (.int .u8 0) ++ [.int .u8 161, .int .u8 145, .int .u8 248, .int .u8 178]
def encV (b : Nat) : Value := .tuple #[.slice (some ⟨b, 0, none⟩) 32 (XB + 32), .int .i64 0]
theorem encV_hv (r r' : Ren) (b : Nat) (bk : Bk) (v2 : Value) (h1 : r 23 = some bk) (h2 : r' b = some bk) (h : VR r (encV 23) v2) : VR r' (encV b) v2 := by
  cases h with
  | tuple a a' e g =>
    have hs : a'.size = 2 := by rw [← e]; rfl
    obtain ⟨x, y, rfl⟩ : ∃ x y, a' = #[x, y] := by
      obtain ⟨l⟩ := a'
      match l, hs with
      | [x, y], _ => exact ⟨x, y, rfl⟩
    have g0 := g 0 _ x rfl rfl
    have g1 := g 1 _ y rfl rfl
    cases g1
    refine .tuple _ _ rfl ?_
    intro i u u' e1 e2
    match i with
    | 0 =>
      cases e1; cases e2
      have g0' : VR r (.slice (some ⟨23, 0, none⟩) 32 (XB + 32)) x := g0
      generalize hcp : XB + 32 = cp at g0'
      cases g0' with
      | slEx b o l c bk' hb hc => omega
      | slIn b o l k o' c' bk' hb q1 q2 q3 q4 =>
        rw [h1] at hb; cases hb
        obtain rfl : k = 32 := by omega
        exact .slIn _ _ _ _ _ _ bk h2 q1 q2 q3 q4
    | 1 => cases e1; cases e2; exact .int _ _
    | n + 2 => simp at e1
theorem enc_run : memoB encV 23 32 5 0 0 zeroHalf (callN T0 X0 spinS 100000 100 79 [zeroNode] (startH Tryz.prog)) = true := by kernel_rfl
def encT : List Value → AH → Option (Value × AH)
  | [v], h => (match eqV v zeroNode with
    | true => some (encV h.next, h.new (.cells (PM.ofList zeroHalf) 32 5 0 0 .loose))
    | false => none)
  | _, _ => none
theorem encT_ok (ok : TabOK T0) (oz : TabZ T0) (hX : ExtOK T0 X0) : ∀ args h v h', encT args h = some (v, h') → CallOK T0 79 args h v h' := by
  intro args h v h' e
  unfold encT at e
  split at e
  · split at e
    · rename_i hq
      have := eqV_eq _ _ hq; subst this
      cases e
      have hc : RecOK T0 (callN T0 X0 spinS 100000 100) := by rw [callN_eq]; exact callB_sound ok oz hX (spinS_ok ok oz hX) _ _
      exact memo_run (P := Tryz.prog) hc rfl (by decide) enc_run encV_hv _
    · cases e
  · cases e
def encS : Sums := addS 79 encT spinS
theorem encS_ok (ok : TabOK T0) (oz : TabZ T0) (hX : ExtOK T0 X0) : SumOK T0 encS := addS_ok (spinS_ok ok oz hX) (encT_ok ok oz hX)
end
end Go.Proofs.YtjdhdhmoedlfdaaGreat.Abs.Sp
namespace Go.Proofs.YtjdhdhmoedlfdaaGreat.Abs
open Go Go.Proofs
theorem awake_run : endsT (callN T0 X0 Sp.encS 100000 100 8 [] (startH Tryz.prog)) = true := by kernel_rfl
end Go.Proofs.YtjdhdhmoedlfdaaGreat.Abs
namespace Go.Proofs.YtjdhdhmoedlfdaaGreat.Abs
open Go Go.Proofs
noncomputable section
set_option maxRecDepth 10000
theorem EB.nil (h : AH) : EB h nilV [] := ⟨fun ty h' => len_slice und_bytes, fun q => by simp at q⟩
theorem EB.off (h : AH) (j : Nat) : EB h (.slice (some ⟨j, 0, none⟩) 0 0) [] := ⟨fun ty h' => len_slice und_bytes, fun q => by simp at q⟩
theorem inner_obj {W : World} {k : Nat} {cs : Array Value} {el : TypeId} {fz : Nat × Nat} (hk : W.heap[k]? = some (.cells cs el fz)) {x : Value} {bs : List Nat} (hx : BytesAt W x bs) (j : Nat) :
    ∃ (o : AObj) (bk : Bk) (a : Value), o.ro = true ∧ (∃ ob, W.heap[bk.blk]? = some ob ∧ ∀ r, OR Tryz.prog r bk o ob) ∧ (∀ r, r j = some bk → VR r a x) ∧ oneCell a = true ∧ ∀ h : AH, j < h.next → h.get j = some o → EB h a bs := by
  have dummy : ∀ r, OR Tryz.prog r ⟨k, 0, 0, 0⟩ (.cells (PM.ofList []) 0 el 0 1 .ro) (.cells cs el fz) := fun r =>
    ⟨cs, fz.1, fz.2, rfl, Nat.zero_le _, (fun q => by cases q), (fun q => by cases q), fun i hi => absurd hi (by omega), fun q => by omega, fun i hi => absurd hi (by omega)⟩
  rcases hx with ⟨rfl, rfl⟩ | ⟨rfl, a, rfl⟩ | ⟨b, o, cap, ds, el2, gz, rfl, h1, h2, h3, h4, h5⟩
  · exact ⟨_, ⟨k, 0, 0, 0⟩, nilV, rfl, ⟨_, hk, dummy⟩, fun r _ => .slNil, rfl, fun h _ _ => EB.nil h⟩
  · exact ⟨_, ⟨k, 0, 0, 0⟩, .slice (some ⟨j, 0, none⟩) 0 0, rfl, ⟨_, hk, dummy⟩, fun r _ => .slOff _ _ _, rfl, fun h _ _ => EB.off h j⟩
  · refine ⟨.cells (PM.ofList (bytesV bs)) bs.length el2 0 (bs.length + 1) .ro, ⟨b, o, 0, 0⟩, .slice (some ⟨j, 0, none⟩) bs.length cap, rfl, ⟨_, h3, fun r => ⟨ds, gz.1, gz.2, rfl, h4, (fun q => by cases q), (fun q => by cases q), ?_, fun q => by omega, fun i hi _ _ => ⟨Nat.zero_le _, by omega⟩⟩⟩, fun r hr => ?_, rfl, fun h hj hg => ?_⟩
    · intro i hi
      have hx := List.getElem?_eq_getElem hi
      refine ⟨.int .u8 ((bs[i] : Nat) : Int), .int .u8 ((bs[i] : Nat) : Int), ?_, h5 i _ hx, .int _ _⟩
      rw [PM.get_ofList]
      simp [bytesV, hx]
    · have := VR.slEx (r := r) j 0 bs.length cap ⟨b, o, 0, 0⟩ hr h1
      simpa using this
    · refine ⟨fun ty h' => len_slice und_bytes, fun _ => ?_⟩
      exact ⟨j, 0, cap, PM.ofList (bytesV bs), bs.length, 0, bs.length + 1, .ro, el2, cap, rfl, .inl ⟨h1, rfl⟩, h2, hj, hg, by omega, fun i y hi => by rw [Nat.zero_add, PM.get_ofList]; simp [bytesV, hi]⟩
theorem blocks_objs {W : World} {bss : List (List Nat)} {v : Value} (g : Nat)
    (hv : (v = .slice none 0 0 ∧ bss = []) ∨ ∃ b o' o cap cs el fz, v = .slice (some ⟨b, o', none⟩) bss.length cap ∧ (bss.length ≠ 0 → o' = o) ∧ bss.length ≤ cap ∧ W.heap[b]? = some (.cells cs el fz) ∧ o + bss.length ≤ cs.size ∧
      ∀ (i : Nat) (bs : List Nat), bss[i]? = some bs → ∃ x, cs[o + i]? = some x ∧ BytesAt W x bs) :
    ∃ (l : List AObj) (bks : List Bk) (a : Value), l.length = bks.length ∧ (∀ o ∈ l, o.ro = true) ∧
      (∀ r : Ren, (∀ i bk, bks[i]? = some bk → r (g + i) = some bk) → VR r a v ∧ ∀ (i : Nat) (o : AObj) (bk : Bk), l[i]? = some o → bks[i]? = some bk → ∃ ob, W.heap[bk.blk]? = some ob ∧ OR Tryz.prog r bk o ob) ∧
      (∀ h : AH, g + l.length ≤ h.next → (∀ i o, l[i]? = some o → h.get (g + i) = some o) → AB h a bss) := by
  rcases hv with ⟨rfl, rfl⟩ | ⟨b, o', o, cap, cs, el, fz, rfl, h1, h2, h3, h4, h5⟩
  · exact ⟨[], [], nilV, rfl, by simp, fun r _ => ⟨.slNil, fun i o bk hi _ => by simp at hi⟩, fun h _ _ => ⟨[], .inl ⟨rfl, rfl⟩, rfl, fun i w bs hi _ => by simp at hi⟩⟩
  · have each : ∀ i, i < bss.length → ∃ q : Value × AObj × Bk × Value, cs[o + i]? = some q.1 ∧ q.2.1.ro = true ∧ (∃ ob, W.heap[q.2.2.1.blk]? = some ob ∧ ∀ r, OR Tryz.prog r q.2.2.1 q.2.1 ob) ∧ (∀ r, r (g + (i + 1)) = some q.2.2.1 → VR r q.2.2.2 q.1) ∧ oneCell q.2.2.2 = true ∧ ∀ h : AH, g + (i + 1) < h.next → h.get (g + (i + 1)) = some q.2.1 → EB h q.2.2.2 (bss.getD i []) := by
      intro i hi
      have hx := List.getElem?_eq_getElem hi
      obtain ⟨x, q1, q2⟩ := h5 i _ hx
      obtain ⟨ob, bk, a, e1, e2, e3, e4, e5⟩ := inner_obj h3 q2 (g + (i + 1))
      exact ⟨(x, ob, bk, a), q1, e1, e2, e3, e4, by rw [List.getD_eq_getElem?_getD, hx]; exact e5⟩
    haveI : Inhabited (Value × AObj × Bk × Value) := ⟨(nilV, .cells (PM.ofList []) 0 0 0 0 .ro, ⟨0, 0, 0, 0⟩, nilV)⟩
    obtain ⟨Q, hQ⟩ := Deep.choose_lt (α := Value × AObj × Bk × Value) (n := bss.length) each
    have hr : ∀ i, i < bss.length → (List.range bss.length)[i]? = some i := fun i hi => List.getElem?_range hi
    generalize hn : bss.length = n at *
    refine ⟨.cells (PM.ofList ((List.range n).map fun i => (Q i).2.2.2)) n el 0 (n + 1) .ro :: (List.range n).map fun i => (Q i).2.1, ⟨b, o, o', 0⟩ :: (List.range n).map fun i => (Q i).2.2.1, .slice (some ⟨g, 0, none⟩) n (XB + n), by simp, ?_, ?_, ?_⟩
    · intro ob hob
      rcases List.mem_cons.1 hob with rfl | hob
      · rfl
      · rw [List.mem_map] at hob
        obtain ⟨i, hi, rfl⟩ := hob
        exact (hQ i (List.mem_range.1 hi)).2.1
    · intro r hb
      have hg := hb 0 _ rfl
      rw [Nat.add_zero] at hg
      have hbi : ∀ i, i < n → r (g + (i + 1)) = some (Q i).2.2.1 := fun i hi => hb (i + 1) _ (by rw [List.getElem?_cons_succ, List.getElem?_map, hr i hi]; rfl)
      refine ⟨.slIn g 0 n n o' cap ⟨b, o, o', 0⟩ hg (Nat.le_refl _) h2 (fun q => by rw [h1 q]; simp) (by simp), ?_⟩
      intro i ob bk hi hk
      cases i with
      | zero =>
        simp only [List.getElem?_cons_zero] at hi hk
        cases hi; cases hk
        refine ⟨_, h3, cs, fz.1, fz.2, rfl, h4, (fun q => by cases q), (fun q => by cases q), ?_, fun q => by omega, fun i hi _ _ => ⟨Nat.zero_le _, by omega⟩⟩
        intro i hi
        obtain ⟨e1, e2, e3, e4, e5, e6⟩ := hQ i hi
        exact ⟨(Q i).2.2.2, (Q i).1, by rw [PM.get_ofList, List.getElem?_map, hr i hi]; rfl, e1, e4 r (hbi i hi)⟩
      | succ i =>
        rw [List.getElem?_cons_succ, List.getElem?_map] at hi hk
        by_cases hil : i < n
        · rw [hr i hil] at hi hk
          cases hi; cases hk
          obtain ⟨e1, e2, ⟨ob, e3, e3'⟩, _⟩ := hQ i hil
          exact ⟨ob, e3, e3' r⟩
        · rw [List.getElem?_eq_none (by simp; omega)] at hi
          cases hi
    · intro h hh hl
      simp only [List.length_cons, List.length_map, List.length_range] at hh
      have hg := hl 0 _ rfl
      rw [Nat.add_zero] at hg
      refine ⟨(List.range n).map fun i => (Q i).2.2.2, .inr ⟨g, 0, XB + n, PM.ofList ((List.range n).map fun i => (Q i).2.2.2), n, 0, n + 1, .ro, el, by simp, by omega, hg, by simp, fun i x hx => by rw [Nat.zero_add, PM.get_ofList]; exact hx⟩, by simp [hn], ?_⟩
      intro i w bs hw hbs
      rw [List.getElem?_map] at hw
      have hil : i < n := by rw [← hn]; exact (List.getElem?_eq_some_iff.1 hbs).1
      rw [hr i hil] at hw
      cases hw
      obtain ⟨_, _, _, _, _, e6⟩ := hQ i hil
      have e7 := e6 h (by omega) (hl (i + 1) _ (by rw [List.getElem?_cons_succ, List.getElem?_map, hr i hil]; rfl))
      rw [List.getD_eq_getElem?_getD, hbs] at e7
      exact e7
end
end Go.Proofs.YtjdhdhmoedlfdaaGreat.Abs
namespace Go.Proofs.YtjdhdhmoedlfdaaGreat.Abs
open Go Go.Proofs
noncomputable section
set_option maxRecDepth 10000
abbrev BlocksAt (W : World) (v : Value) (bss : List (List Nat)) : Prop := (v = .slice none 0 0 ∧ bss = []) ∨ ∃ b o' o cap cs el fz, v = .slice (some ⟨b, o', none⟩) bss.length cap ∧ (bss.length ≠ 0 → o' = o) ∧ bss.length ≤ cap ∧ W.heap[b]? = some (.cells cs el fz) ∧ o + bss.length ≤ cs.size ∧
      ∀ (i : Nat) (bs : List Nat), bss[i]? = some bs → ∃ x, cs[o + i]? = some x ∧ BytesAt W x bs
theorem walk (ok : TabOK T0) (oz : TabZ T0) (hX : ExtOK T0 X0) (s : SI) (size : Int) (bss more : List (List Nat)) (hbb : ∀ bs ∈ bss, ∀ x ∈ bs, x < 256) (hmb : ∀ bs ∈ more, ∀ x ∈ bs, x < 256) (v vm : Value) {W : World} (hg : Tryz.prog.globals.size ≤ W.heap.size)
    (hv : BlocksAt W v bss) (hm : BlocksAt W vm more) (l1 : bss.length < XB) (l2 : more.length < XB) :
    Calls Tryz.prog 5 #[v, siV s, iv size, vm] W fun e w' => e = .returned (.bool true) ∧ Kept W w' := by
  have hS : SumOK T0 awS := addS_ok (noSums_ok T0) (trueT_ok (P := Tryz.prog) (by show RecOK T0 (callN T0 X0 Sp.encS 100000 100); rw [callN_eq]; exact callB_sound ok oz hX (Sp.encS_ok ok oz hX) _ _) awake_run)
  have hC : RecOK T0 (C (max bss.length more.length) 20) := callU_sound ok oz hX hS _ _
  obtain ⟨L1, k1, a, e1, e2, e3, e4⟩ := blocks_objs (W := W) Tryz.prog.globals.size hv
  obtain ⟨L2, k2, b, f1, f2, f3, f4⟩ := blocks_objs (W := W) (Tryz.prog.globals.size + L1.length) hm
  have g1 : ∀ i bk, k1[i]? = some bk → renK Tryz.prog (k1 ++ k2) (Tryz.prog.globals.size + i) = some bk := fun i bk hi => renK_at (by rw [List.getElem?_append_left (List.getElem?_eq_some_iff.1 hi).1]; exact hi)
  have g2 : ∀ i bk, k2[i]? = some bk → renK Tryz.prog (k1 ++ k2) (Tryz.prog.globals.size + L1.length + i) = some bk := fun i bk hi => by
    rw [Nat.add_assoc]
    exact renK_at (by rw [e1, List.getElem?_append_right (by omega), show k1.length + i - k1.length = i by omega]; exact hi)
  obtain ⟨va, oa⟩ := e3 _ g1
  obtain ⟨vb, ob⟩ := f3 _ g2
  have hA : AB (startB Tryz.prog (L1 ++ L2)) a bss := e4 _ (by rw [startB_next, List.length_append]; omega) fun i o hi => by
    rw [startB_get, List.getElem?_append_left (List.getElem?_eq_some_iff.1 hi).1]; exact hi
  have hB : AB (startB Tryz.prog (L1 ++ L2)) b more := f4 _ (by rw [startB_next, List.length_append]; omega) fun i o hi => by
    rw [Nat.add_assoc, startB_get, List.getElem?_append_right (by omega), show L1.length + i - L1.length = i by omega]; exact hi
  obtain ⟨h', e⟩ := law_T (M := max bss.length more.length) (by omega) a b s size bss more _ hA hB hbb hmb (by omega) (by omega)
  refine calls_startB (args := [a, siV s, iv size, b]) rfl (hC _ _ _ _ _ e) hg (by rw [List.length_append, List.length_append, e1, f1]) ?_ ?_ ?_
  · intro o ho
    rcases List.mem_append.1 ho with q | q
    · exact e2 o q
    · exact f2 o q
  · intro i o bk hi hk
    by_cases hb : i < L1.length
    · rw [List.getElem?_append_left hb] at hi
      rw [List.getElem?_append_left (by omega)] at hk
      exact oa i o bk hi hk
    · rw [List.getElem?_append_right (by omega)] at hi
      rw [List.getElem?_append_right (by omega), ← e1] at hk
      exact ob _ o bk hi hk
  · exact LR.cons va (LR.cons (VR.of_flat _ (siV s) rfl) (LR.cons (.int _ _) (LR.cons vb (LR.nil _))))
end
end Go.Proofs.YtjdhdhmoedlfdaaGreat.Abs
namespace Go.Proofs.YtjdhdhmoedlfdaaGreat.Abs
open Go Go.Proofs
noncomputable section
theorem cell_int {P : Program} {W : World} {base : Nat} {t : TypeId} {v : Value} (ht : P.underlying t = some (.int .i64)) (hv : Cell.okWide P W .any base t v) : ∃ n : Int, v = .int .i64 n := by
  unfold Cell.okWide at hv
  rw [ht] at hv
  cases v <;> simp only [Cell.ok, ht] at hv
  · exact ⟨_, by rw [hv.1]⟩
set_option maxRecDepth 100000 in
theorem arg_super {W : World} {base : Nat} {v : Value} (hv : Value.okWide Tryz.prog W .any base 36 v) : ∃ s : SI, v = siV s := by
  unfold Value.okWide at hv
  rw [Tryz.underlying36] at hv
  obtain ⟨cs, rfl, hsz, ts, hts, _, hrow⟩ := hv
  have ht : Tryz.prog.cellTypes Tryz.prog.depth 36 = some [3, 3, 3, 3, 3] := by kernel_rfl
  rw [ht] at hts
  cases hts
  have hsz : cs.size = 5 := hsz.trans (by kernel_rfl)
  have each : ∀ i, i < 5 → ∃ n : Int, cs[i]? = some (iv n) := by
    intro i hi
    have hx := Array.getElem?_eq_getElem (xs := cs) (i := i) (by omega)
    obtain ⟨u, h1, h2⟩ := hrow i _ hx
    have hu : u = 3 := by
      have : i = 0 ∨ i = 1 ∨ i = 2 ∨ i = 3 ∨ i = 4 := by omega
      rcases this with rfl | rfl | rfl | rfl | rfl <;> (cases h1; rfl)
    subst hu
    obtain ⟨n, hn⟩ := cell_int Tryz.underlying3 h2
    exact ⟨n, hx.trans (congrArg some hn)⟩
  obtain ⟨a, ha⟩ := each 0 (by omega)
  obtain ⟨b, hb⟩ := each 1 (by omega)
  obtain ⟨c, hc⟩ := each 2 (by omega)
  obtain ⟨d, hd⟩ := each 3 (by omega)
  obtain ⟨e, he⟩ := each 4 (by omega)
  refine ⟨⟨a, b, c, d, e⟩, ?_⟩
  show Value.agg cs = .agg #[iv a, iv b, iv c, iv d, iv e]
  congr 1
  apply Array.ext_getElem?
  intro i
  by_cases hi : i < 5
  · have : i = 0 ∨ i = 1 ∨ i = 2 ∨ i = 3 ∨ i = 4 := by omega
    rcases this with rfl | rfl | rfl | rfl | rfl
    · exact ha
    · exact hb
    · exact hc
    · exact hd
    · exact he
  · rw [Array.getElem?_eq_none (by omega), Array.getElem?_eq_none (by show 5 ≤ i; omega)]
end
end Go.Proofs.YtjdhdhmoedlfdaaGreat.Abs
