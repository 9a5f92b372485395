
/- Numbers as bytes. -/
import Derived.Test.YthpfgiabdpeiaaaBytes
namespace Go.Proofs.Ythpfgiabdpeiaaa.Abs
open Go Go.Proofs
noncomputable section
variable {call : Abs.Callee}
set_option maxRecDepth 10000
theorem ft25 : T0.ft.get 25 = some Try.f25 := by kernel_rfl
theorem ft35 : T0.ft.get 35 = some Try.f35 := by kernel_rfl
theorem ft22 : T0.ft.get 22 = some Try.f22 := by kernel_rfl
theorem und_u32' : und T0 53 = some (.int .u32) := by kernel_rfl
theorem wu8m (n : Nat) : IntKind.u8.wrap (n : Int) = ((n % 256 : Nat) : Int) := by rw [IntKind.wrap]; simp [IntKind.bits, IntKind.signed]
theorem wu64n {n : Nat} (h : n < 18446744073709551616) : IntKind.u64.wrap (n : Int) = (n : Int) := by rw [IntKind.wrap]; simp [IntKind.bits, IntKind.signed]; omega
theorem bs_u8 {x : Nat} {h : AH} : evBuildSlice T0 22 1 [(0, .int .u8 (x : Int))] h = some (.slice (some ⟨h.next, 0, none⟩) 1 1, h.new (.cells (PM.ofList [.int .u8 (x : Int)]) 1 5 0 0 .ex)) := bs_one und_bytes sz_u8 zero_u8 rfl rfl
theorem app_u8 {n : Nat} {h : AH} {v : Value} {l : List Nat} (ho : Own n h v (bytesV l) 5) (x : Nat) (hl : l.length < 1000) (hn : n ≤ h.next) (ty : TypeId) :
    ∃ v' h', evBuiltin T0 .append #[22, 22] ty [v, .slice (some ⟨h.next, 0, none⟩) 1 1] (h.new (.cells (PM.ofList [.int .u8 (x : Int)]) 1 5 0 0 .ex)) = some (.value v', h') ∧ Own h.next h' v' (bytesV (l ++ [x])) 5 ∧ Grow n h h' ∧ (∀ k, k < h.next → Off v k → h'.get k = h.get k) := by
  obtain ⟨v', h', e1, e2, e3, e4⟩ := append_one2 und_bytes tt_u8 ti_u8.1 ti_u8.2.1 ti_u8.2.2 ho (x := .int .u8 (x : Int)) rfl (by rw [bytesV_len]; omega) hn ty
  exact ⟨v', h', e1, by simpa [bytesV] using e2, e3, e4⟩
/-- So many bytes of a number, from one on. -/
def leF (n i k : Nat) : List Nat := (List.range' i k).map fun j => n / 256 ^ j % 256
def leN (n k : Nat) : List Nat := leF n 0 k
theorem leF_succ (n i k : Nat) : leF n i (k + 1) = n / 256 ^ i % 256 :: leF n (i + 1) k := rfl
theorem shr_pow (n i : Nat) : n >>> (8 * i) = n / 256 ^ i := by rw [Nat.shiftRight_eq_div_pow, Nat.pow_mul]
noncomputable def bodyPut : Code := part Try.f25 [1, 0, 1, 0, 0]
abbrev EPut : Env := ⟨25, 24, none⟩
theorem rpL (n size : Nat) (hn32 : n < 4294967296) (hs : size ≤ 4) : ∀ (k i n0 : Nat) (bs : List Nat) (v : Value) (h : AH) (tm : PM Value) (N : Nat), i + k = size → bs.length + k < 500 → n0 ≤ h.next → k + 30 ≤ N → Own n0 h v (bytesV bs) 5 →
    tm.get 0 = some v → tm.get 1 = some (iv n) → tm.get 2 = some (iv size) → tm.get 7 = some (iv i) →
    ∃ tm' h', codeB T0 X0 call N EPut (.loop bodyPut) tm h [] = .jump (.exit 0) tm' h' [] ∧ (∃ v', tm'.get 0 = some v' ∧ Own n0 h' v' (bytesV (bs ++ leF n i k)) 5 ∧ Grow n0 h h' ∧ (∀ k, k < h.next → Off v k → h'.get k = h.get k) ∧ (0 < k → Own h.next h' v' (bytesV (bs ++ leF n i k)) 5)) := by
  intro k
  induction k with
  | zero =>
    intro i n0 bs v h tm N hi hl hn hN ho g0 g1 g2 g7
    obtain ⟨N, rfl⟩ : ∃ a, N = a + 30 := ⟨N - 30, by omega⟩
    apply Exists.intro; apply Exists.intro; apply And.intro
    · rw [codeB_loop]
      simp only [bodyPut, part, Try.f25, sub, symM, opFn, Nat.reduceLT, Nat.reduceBEq, g2, g7, bin_lss, decide_eq_false (show ¬ (i : Int) < (size : Int) by omega)]
      rfl
    · exact ⟨v, by simp only [symM, Nat.reduceBEq, g0], by simpa [leF] using ho, Grow.refl _ _, fun _ _ _ => rfl, fun q => absurd q (by omega)⟩
  | succ k ih =>
    intro i n0 bs v h tm N hi hl hn hN ho g0 g1 g2 g7
    obtain ⟨N, rfl⟩ : ∃ a, N = a + 30 := ⟨N - 30, by omega⟩
    obtain ⟨v1, h1, e1, e2', e3, e4⟩ := app_u8 ho (n / 256 ^ i % 256) (by omega) hn 22
    obtain ⟨tm2, h2, q1, v2, q2, q3, q4, q5, q6⟩ := ih (i + 1) h.next (bs ++ [n / 256 ^ i % 256]) v1 h1
      ((((((((((((((((tm.set 8 (iv i)).set 9 (iv size)).set 10 (.bool true)).set 13 v).set 14 (iv n)).set 15 (uv n)).set 16 (iv i)).set 17 (uv i)).set 18 (uv (8 * i : Nat))).set 19 (uv (n / 256 ^ i : Nat))).set 20 (.int .u8 (n / 256 ^ i % 256 : Nat))).set 21 (.slice (some ⟨h.next, 0, none⟩) 1 1)).set 22 v1).set 0 v1).set 11 (iv i)).set 12 (iv ((i + 1 : Nat) : Int)) |>.set 7 (iv ((i + 1 : Nat) : Int))) (N + 29) (by omega) (by simp; omega) e3.next (by omega) e2'
      (by simp only [symM, Nat.reduceBEq]) (by simp only [symM, Nat.reduceBEq, g1]) (by simp only [symM, Nat.reduceBEq, g2]) get_same
    have q3' : Own h.next h2 v2 (bytesV (bs ++ leF n i (k + 1))) 5 := by rw [leF_succ]; simpa using q3
    refine ⟨tm2, h2, ?_, v2, q2, q3'.less hn, e3.trans (q4.less hn) (Nat.le_refl _), fun j hj ho => (q5 j (Nat.lt_of_lt_of_le hj e3.next) (e2'.off hj)).trans (e4 j hj ho), fun _ => q3'⟩
    rw [show N + 30 = (N + 29) + 1 from rfl, codeB_loop, ← q1]
    have m8 : IntKind.u64.wrap (8 * (i : Int)) = ((8 * i : Nat) : Int) := by rw [show (8 * (i : Int)) = ((8 * i : Nat) : Int) by omega]; exact wu64n (by omega)
    have s8 : ∀ p q h, evBin T0 .shr 47 p q (uv n) (uv (8 * i : Nat)) h = some (uv (n / 256 ^ i : Nat)) := fun p q h => by
      rw [bin_shr (show 8 * i < IntKind.u64.bits by show 8 * i < 64; omega), shr_pow]
    simp only [bodyPut, part, Try.f25, sub, symM, opFn, Nat.reduceLT, Nat.reduceBEq, symM, g0, g1, g2, g7, bin_lss, decide_eq_true (show (i : Int) < (size : Int) by omega), conv_i2i und_int und_uint, conv_i2i und_uint und_u8, wu64n (show n < 18446744073709551616 by omega), wu64n (show i < 18446744073709551616 by omega), bin_mul, m8, s8, wu8m, bs_u8, e1, bin_add, wadd1 (show i ≤ 400000 by omega)]
theorem rPut_S (n size : Nat) (hn32 : n < 4294967296) (hs : size ≤ 4) (n0 : Nat) (bs : List Nat) (v : Value) (h : AH) (hl : bs.length < 400) (hn : n0 ≤ h.next) (ho : Own n0 h v (bytesV bs) 5) :
    ∃ v' h', frameB T0 X0 call 3000 25 [v, iv n, iv size] h = some (v', h') ∧ Own n0 h' v' (bytesV (bs ++ leN n size)) 5 ∧ Grow n0 h h' ∧ (∀ k, k < h.next → Off v k → h'.get k = h.get k) ∧ (0 < size → Own h.next h' v' (bytesV (bs ++ leN n size)) 5) := by
  rw [frameB_eq ft25 rfl rfl]
  simp only [Try.f25, symM, opFn, Nat.reduceLT, symL]
  generalize hX : codeB T0 X0 call _ EPut (.loop _) _ _ _ = X
  obtain ⟨t1, h1, e1, v1, e2, e3, e4⟩ := use_exit hX (rpL n size hn32 hs size 0 n0 bs v h _ _ (by omega) (by omega) hn (by omega) ho (by simp only [symM, Nat.reduceBEq]) (by simp only [symM, Nat.reduceBEq]) (by simp only [symM, Nat.reduceBEq]) (by simp only [symM]; rfl))
  clear hX
  subst e1
  refine ⟨v1, h1, ?_, e3, e4⟩
  simp only [symM, opFn, Nat.reduceLT, symL, e2]
  exact retB_one ft25 rfl get_same
theorem make_bytes {h : AH} {k : Nat} (hk : k ≤ 1000) : ∃ h', evMakeSlice T0 22 (iv k) (iv k) h = some (.slice (some ⟨h.next, 0, none⟩) k k, h') ∧ Own h.next h' (.slice (some ⟨h.next, 0, none⟩) k k) (bytesV (List.replicate k 0)) 5 ∧ Grow h.next h h' := by
  have hlen : (bytesV (List.replicate k 0)).length = k := by simp [bytesV]
  refine ⟨newCells h 5 (fillPM (.int .u8 0) (k * (infoOf 5).size)) (k * (infoOf 5).size), ?_, ?_, Grow.new _ _⟩
  · have hb : (Nat.ble k k && (Nat.ble ((infoOf 5).bytes * k) 17592186044416 && Nat.ble k 17592186044416)) = true := by
      have h2 : (infoOf 5).bytes * k ≤ 64 * 1000 := Nat.mul_le_mul ti_u8.2.2 hk
      rw [Nat.ble_eq_true_of_le (Nat.le_refl _), Nat.ble_eq_true_of_le (by omega), Nat.ble_eq_true_of_le (by omega)]
      rfl
    unfold evMakeSlice
    simp only [und_bytes, tt_u8, ti_u8.1]
    rw [show natOf (iv k) = some k from rfl]
    simp only
    rw [hb, ifB_true]
  · rw [ti_u8.2.1, Nat.mul_one]
    refine .inr ⟨h.next, fillPM (.int .u8 0) k, .ex, k, Nat.le_refl _, Nat.lt_succ_self _, by rw [hlen], ?_, ?_, .inl ⟨rfl, by rw [hlen]⟩⟩
    · unfold newCells
      rw [get_new_same, hlen]
    · intro i x hx
      have hi : i < k := by
        have := (List.getElem?_eq_some_iff.1 hx).1
        rwa [hlen] at this
      have hx2 : x = .int .u8 0 := by
        simp [bytesV, hi] at hx
        exact hx.symm
      rw [hx2, fillPM_get _ _ _ hi]
      show some ((#[Value.int .u8 0] : Array Value)[i % 1]!) = _
      rw [Nat.mod_one]
      rfl
noncomputable def bodyput : Code := part Try.f35 [1, 0, 0]
abbrev Eput : Env := ⟨35, 19, none⟩
theorem leF_snoc (n k : Nat) : leF n 0 (k + 1) = leF n 0 k ++ [n / 256 ^ k % 256] := by
  unfold leF
  rw [List.range'_concat]; simp
theorem putLp (n : Nat) (hn32 : n < 4294967296) (n0 : Nat) (v : Value) : ∀ (k i : Nat) (rest : List Nat) (h : AH) (tm : PM Value) (N : Nat), i + k = 4 → rest.length = k → n0 ≤ h.next → k + 30 ≤ N → Own n0 h v (bytesV (leF n 0 i ++ rest)) 5 →
    tm.get 0 = some v → tm.get 1 = some (wv n) → tm.get 6 = some (iv 4) → tm.get 7 = some (iv i) →
    ∃ tm' h', codeB T0 X0 call N Eput (.loop bodyput) tm h [] = .jump (.exit 0) tm' h' [] ∧ (Own n0 h' v (bytesV (leN n 4)) 5 ∧ Grow n0 h h') := by
  intro k
  induction k with
  | zero =>
    intro i rest h tm N hi hr hn hN ho g0 g1 g6 g7
    obtain ⟨N, rfl⟩ : ∃ a, N = a + 30 := ⟨N - 30, by omega⟩
    have hi4 : i = 4 := by omega
    subst hi4
    rw [List.length_eq_zero_iff.1 hr, List.append_nil] at ho
    apply Exists.intro; apply Exists.intro; apply And.intro
    · rw [codeB_loop]
      simp only [bodyput, part, Try.f35, sub, symM, opFn, Nat.reduceLT, g6, g7, bin_lss, decide_eq_false (show ¬ ((4 : Nat) : Int) < 4 by omega)]
      rfl
    · exact ⟨ho, Grow.refl _ _⟩
  | succ k ih =>
    intro i rest h tm N hi hr hn hN ho g0 g1 g6 g7
    obtain ⟨N, rfl⟩ : ∃ a, N = a + 30 := ⟨N - 30, by omega⟩
    obtain ⟨y, rest, rfl⟩ : ∃ y r, rest = y :: r := by cases rest with | nil => simp at hr | cons y r => exact ⟨y, r, rfl⟩
    have hli : (leF n 0 i).length = i := by simp [leF]
    have hget : (bytesV (leF n 0 i ++ y :: rest))[i]? = some (.int .u8 (y : Int)) := by
      simp only [bytesV, List.map_append, List.map_cons]
      rw [List.getElem?_append_right (by simp [hli])]
      simp [hli]
    obtain ⟨p, h1, e1, e2, e3, e4, e5⟩ := ho.store und_bytes sz_u8 (x := .int .u8 ((n / 256 ^ i % 256 : Nat) : Int)) rfl hget
    have hset : (bytesV (leF n 0 i ++ y :: rest)).set i (.int .u8 ((n / 256 ^ i % 256 : Nat) : Int)) = bytesV (leF n 0 (i + 1) ++ rest) := by
      rw [leF_snoc]
      simp only [bytesV, List.map_append, List.map_cons, List.append_assoc, List.cons_append, List.nil_append]
      rw [List.set_append_right _ _ (by simp [hli])]
      simp [hli]
    rw [hset] at e3
    obtain ⟨tm2, h2, q1, q3, q4⟩ := ih (i + 1) rest h1
      (((((((((((tm.set 8 (.bool true)).set 9 (iv i)).set 4 (iv i)).set 10 v).set 11 (iv i)).set 12 (wv n)).set 13 (iv i)).set 14 (iv (8 * i : Nat))).set 15 (wv (n / 256 ^ i : Nat))).set 16 (.int .u8 (n / 256 ^ i % 256 : Nat))).set 17 p |>.set 18 (iv ((i + 1 : Nat) : Int)) |>.set 7 (iv ((i + 1 : Nat) : Int))) (N + 29) (by omega) (by simpa using hr) (Nat.le_trans hn e4.next) (by omega) e3
      (by simp only [symM, Nat.reduceBEq, g0]) (by simp only [symM, Nat.reduceBEq, g1]) (by simp only [symM, Nat.reduceBEq, g6]) get_same
    refine ⟨tm2, h2, ?_, q3, e4.trans q4 (Nat.le_refl _)⟩
    rw [show N + 30 = (N + 29) + 1 from rfl, codeB_loop, ← q1]
    have m8 : IntKind.i64.wrap (8 * (i : Int)) = ((8 * i : Nat) : Int) := by rw [wz (by omega)]; omega
    have s8 : ∀ p q h, evBin T0 .shr 53 p q (wv n) (iv (8 * i : Nat)) h = some (wv (n / 256 ^ i : Nat)) := fun p q h => by
      rw [bin_shr (show 8 * i < IntKind.u32.bits by show 8 * i < 32; omega), shr_pow]
    simp only [bodyput, part, Try.f35, sub, symM, opFn, Nat.reduceLT, Nat.reduceBEq, symM, g0, g1, g6, g7, bin_lss, decide_eq_true (show (i : Int) < 4 by omega), conv_i2i und_u32' und_u8, bin_mul, m8, s8, wu8m, e1, e2, bin_add, wadd1 (show i ≤ 400000 by omega)]
theorem put_S (n : Nat) (hn32 : n < 4294967296) (n0 : Nat) (rest : List Nat) (hr : rest.length = 4) (v : Value) (h : AH) (hn : n0 ≤ h.next) (ho : Own n0 h v (bytesV rest) 5) :
    ∃ h', frameB T0 X0 call 3000 35 [v, wv n] h = some (.tuple #[], h') ∧ Own n0 h' v (bytesV (leN n 4)) 5 ∧ Grow n0 h h' := by
  rw [frameB_eq ft35 rfl rfl]
  have hlen : ∀ ty h', evBuiltin T0 .len #[22] ty [v] h' = some (.value (iv 4), h') := fun ty h' => by rw [ho.row.len und_bytes, bytesV_len, hr]; rfl
  simp only [Try.f35, symM, opFn, Nat.reduceLT, symL, hlen]
  generalize hX : codeB T0 X0 call _ Eput (.loop _) _ _ _ = X
  obtain ⟨t1, h1, e1, e3, e4⟩ := use_exit hX (putLp n hn32 n0 v 4 0 rest h _ _ (by omega) hr hn (by omega) (by simpa [leF] using ho) (by simp only [symM, Nat.reduceBEq]) (by simp only [symM, Nat.reduceBEq]) (by simp only [symM, Nat.reduceBEq]) (by simp only [symM]; rfl))
  clear hX
  subst e1
  refine ⟨h1, ?_, e3, e4⟩
  simp only [symM, symL]
  exact retB_zero ft35 rfl
theorem Put32_S (hp : ∀ (n n0 : Nat) (rest : List Nat) (v : Value) (h : AH), n < 4294967296 → rest.length = 4 → n0 ≤ h.next → Own n0 h v (bytesV rest) 5 → ∃ h', call 35 [v, wv n] h = some (.tuple #[], h') ∧ Own n0 h' v (bytesV (leN n 4)) 5 ∧ Grow n0 h h')
    (n : Nat) (hn32 : n < 4294967296) (h : AH) : ∃ v' h', frameB T0 X0 call 3000 22 [wv n] h = some (v', h') ∧ Own h.next h' v' (bytesV (leN n 4)) 5 ∧ Grow h.next h h' := by
  obtain ⟨h1, e1, e2, e3⟩ := make_bytes (h := h) (k := 4) (by omega)
  obtain ⟨h2, q1, q2, q3⟩ := hp n h.next _ _ h1 hn32 (by simp) e3.next e2
  have e1 : evMakeSlice T0 22 (iv 4) (iv 4) h = _ := e1
  refine ⟨_, h2, ?_, q2, e3.trans q3 (Nat.le_refl _)⟩
  rw [frameB_eq ft22 rfl rfl]
  simp only [Try.f22, symM, opFn, Nat.reduceLT, Nat.reduceBEq, symM, e1, evCall_fn ft35 rfl, q1]
  exact retB_one ft22 rfl get_same
end
end Go.Proofs.Ythpfgiabdpeiaaa.Abs
namespace Go.Proofs.Ythpfgiabdpeiaaa.Abs
open Go Go.Proofs
noncomputable section
variable {call : Abs.Callee}
set_option maxRecDepth 10000
def goBSX (T : Tab) (t : TypeId) (n : Nat) (h : AH) : Option (List (Nat × Value)) → Res
  | some vs => rp (evBuildSlice T t n vs h)
  | none => none
theorem bsx_gen {T : Tab} {tm : PM Value} {t : TypeId} {n : Nat} {ps : List (Nat × Operand)} {h : AH} : evBuildSliceX T tm t n ps h = goBSX T t n h (evParts T tm ps) := rfl
theorem goBSX_some {T : Tab} {t : TypeId} {n : Nat} {vs : List (Nat × Value)} {h : AH} : goBSX T t n h (some vs) = rp (evBuildSlice T t n vs h) := rfl
theorem goA_alloc {T : Tab} {ops : Array Oper} {tm : PM Value} {h h' : AH} {al : List Nat} {d : Nat} {t : TypeId} {ty : TypeId} {pos : String} {after : Array Edge} {g : Option (Nat × Bool)} {w : Value} (he : evAlloc T t h = some (w, h')) :
    goA T ops al tm h (some ⟨some d, .alloc t, ty, pos, after, g⟩) = runAl T ops al (tm.set d w) h' := by
  unfold goA
  simp only [allocOf]
  unfold evAlloc at he
  cases hz : zeroOf T t with
  | none => rw [hz] at he; cases he
  | some z =>
    rw [hz] at he
    cases he
    rfl
theorem goA_bsn {T : Tab} {ops : Array Oper} {tm : PM Value} {h h' : AH} {al : List Nat} {d n : Nat} {t : TypeId} {ps : List (Nat × Operand)} {vs : List (Nat × Value)} {ty : TypeId} {pos : String} {after : Array Edge} {g : Option (Nat × Bool)} {w : Value} (hp : evParts T tm ps = some vs) (he : evBuildSlice T t n vs h = some (w, h')) :
    goA T ops al tm h (some ⟨some d, .buildSlice t n ps.toArray, ty, pos, after, g⟩) = runAl T ops al (tm.set d w) h' := by
  unfold goA
  simp only [allocOf, hp]
  unfold evBuildSlice at he
  cases h1 : und T t with
  | none => rw [h1] at he; cases he
  | some ds =>
    rw [h1] at he
    cases ds <;> try (cases he; done)
    rename_i e
    simp only at he ⊢
    cases h2 : szOf T e with
    | none => rw [h2] at he; cases he
    | some s =>
      rw [h2] at he
      simp only at he ⊢
      cases h3 : zeroOf T e with
      | none => rw [h3] at he; cases he
      | some z =>
        rw [h3] at he
        simp only at he ⊢
        cases hc : (Nat.ble (n * s) 16777216 && Nat.blt n XB) with
        | false => rw [hc] at he; cases he
        | true =>
          rw [hc, ifB_true] at he
          rw [ifB_true]
          cases h4 : fillA (fun i => some (i * s, s)) (zeros z (n * s)) vs with
          | none => rw [h4] at he; cases he
          | some l => rw [h4] at he; cases he; rfl
abbrev bv (x : Nat) : Value := .int .u8 (x : Int)
theorem bs_u82 {a b : Nat} {h : AH} : evBuildSlice T0 22 2 [(0, bv a), (1, bv b)] h = some (.slice (some ⟨h.next, 0, none⟩) 2 2, h.new (.cells (PM.ofList [bv a, bv b]) 2 5 0 0 .ex)) := by
  unfold evBuildSlice
  simp only [und_bytes, sz_u8, zero_u8]
  rfl
theorem bs_u84 {a b c d : Nat} {h : AH} : evBuildSlice T0 22 4 [(0, bv a), (1, bv b), (2, bv c), (3, bv d)] h = some (.slice (some ⟨h.next, 0, none⟩) 4 4, h.new (.cells (PM.ofList [bv a, bv b, bv c, bv d]) 4 5 0 0 .ex)) := by
  unfold evBuildSlice
  simp only [und_bytes, sz_u8, zero_u8]
  rfl
theorem bs_u86 {a b c d e f : Nat} {h : AH} : evBuildSlice T0 22 6 [(0, bv a), (1, bv b), (2, bv c), (3, bv d), (4, bv e), (5, bv f)] h = some (.slice (some ⟨h.next, 0, none⟩) 6 6, h.new (.cells (PM.ofList [bv a, bv b, bv c, bv d, bv e, bv f]) 6 5 0 0 .ex)) := by
  unfold evBuildSlice
  simp only [und_bytes, sz_u8, zero_u8]
  rfl
theorem bs_int1 {a : Int} {h : AH} : evBuildSlice T0 39 1 [(0, iv a)] h = some (.slice (some ⟨h.next, 0, none⟩) 1 1, h.new (.cells (PM.ofList [iv a]) 1 3 0 0 .ex)) := bs_one und_ints sz_int zero_int rfl rfl
theorem bs_int2 {a b : Int} {h : AH} : evBuildSlice T0 39 2 [(0, iv a), (1, iv b)] h = some (.slice (some ⟨h.next, 0, none⟩) 2 2, h.new (.cells (PM.ofList [iv a, iv b]) 2 3 0 0 .ex)) := by
  unfold evBuildSlice
  simp only [und_ints, sz_int, zero_int]
  rfl
theorem bs_int6 {a b c d e f : Int} {h : AH} : evBuildSlice T0 39 6 [(0, iv a), (1, iv b), (2, iv c), (3, iv d), (4, iv e), (5, iv f)] h = some (.slice (some ⟨h.next, 0, none⟩) 6 6, h.new (.cells (PM.ofList [iv a, iv b, iv c, iv d, iv e, iv f]) 6 3 0 0 .ex)) := by
  unfold evBuildSlice
  simp only [und_ints, sz_int, zero_int]
  rfl
theorem Own.built {n : Nat} {h : AH} {e : Nat} (l : List Value) (hn : n ≤ h.next) : Own n (h.new (.cells (PM.ofList l) l.length e 0 0 .ex)) (.slice (some ⟨h.next, 0, none⟩) l.length l.length) l e :=
  .inr ⟨h.next, PM.ofList l, .ex, l.length, hn, Nat.lt_succ_self _, rfl, get_new_same _ _, fun i x hi => by rw [PM.get_ofList]; exact hi, .inl ⟨rfl, rfl⟩⟩
theorem bytesV_one (l : List Nat) : (bytesV l).all oneCell = true := by
  rw [List.all_eq_true]
  intro x hx
  simp only [bytesV, List.mem_map] at hx
  obtain ⟨y, _, rfl⟩ := hx
  rfl
/-- Bytes put behind bytes of our own. -/
theorem app_own {n m : Nat} {h : AH} {v x : Value} {l r : List Nat} (ho : Own n h v (bytesV l) 5) (hx : Own m h x (bytesV r) 5) (hl : l.length + r.length < 1000) (hn : n ≤ h.next) (ty : TypeId) :
    ∃ v' h', evBuiltin T0 .append #[22, 22] ty [v, x] h = some (.value v', h') ∧ Own n h' v' (bytesV (l ++ r)) 5 ∧ Grow n h h' ∧ (∀ k, k < h.next → Off v k → h'.get k = h.get k) ∧ (0 < r.length → Own h.next h' v' (bytesV (l ++ r)) 5) := by
  have hx2 := hx.c
  rw [← ti_u8.2.1] at hx2
  obtain ⟨v', h', e1, e2, e3, e4, e5⟩ := append_gen und_bytes tt_u8 ti_u8.1 ti_u8.2.1 ti_u8.2.2 ho.c (appended_own und_bytes hx2) (Nat.mul_one _).symm (bytesV_one r) (by rw [bytesV_len, bytesV_len]; omega) hn ty
  exact ⟨v', h', e1, by have := e2.own; simpa [bytesV] using this, e3, e4, fun q => by have := (e5 (by rw [bytesV_len]; exact q)).own; simpa [bytesV] using this⟩
/-- Zeros put behind bytes of our own. -/
theorem app_zeros {n : Nat} {h : AH} {v : Value} {l : List Nat} (ho : Own n h v (bytesV l) 5) (m : Nat) (hl : l.length + m < 1000) (hn : n ≤ h.next) (ty : TypeId) :
    ∃ v' h', evBuiltin T0 .append #[22, 3] ty [v, iv m] h = some (.value v', h') ∧ Own n h' v' (bytesV (l ++ List.replicate m 0)) 5 ∧ Grow n h h' ∧ (∀ k, k < h.next → Off v k → h'.get k = h.get k) := by
  have hz : zeros (.int .u8 0) (m * (infoOf 5).size) = bytesV (List.replicate m 0) := by
    rw [ti_u8.2.1, Nat.mul_one]
    apply List.ext_getElem
    · simp [zeros, bytesV]
    · intro i h1 h2
      simp only [zeros, bytesV, List.getElem_map, List.getElem_replicate]
      show (#[Value.int .u8 0] : Array Value)[_ % 1]! = _
      rw [Nat.mod_one]
      rfl
  have happ := appended_zeros (T := T0) (i := infoOf 5) (z := .int .u8 0) (h := h) (m := m) und_int (by omega) (Nat.le_trans (Nat.mul_le_mul (show m ≤ 1000 by omega) ti_u8.2.2) (by omega))
  rw [hz] at happ
  obtain ⟨v', h', e1, e2, e3, e4, e5⟩ := append_gen und_bytes tt_u8 ti_u8.1 ti_u8.2.1 ti_u8.2.2 ho.c happ (by simp [bytesV]) (bytesV_one _) (by rw [bytesV_len]; omega) hn ty
  exact ⟨v', h', e1, by have := e2.own; simpa [bytesV] using this, e3, e4⟩
theorem ft20 : T0.ft.get 20 = some Try.f20 := by kernel_rfl
theorem ft26 : T0.ft.get 26 = some Try.f26 := by kernel_rfl
/-- An extent that has been read from four bytes. -/
def okX (x : XV) : Prop := x.a < 256 ∧ x.x < 65536 ∧ x.y < 256
theorem okX.e {x : XV} (h : okX x) : okE x := by unfold okX at h; unfold okE; omega
theorem extAt_okX {bs : List Nat} (hbs : ∀ x ∈ bs, x < 256) {i : Nat} : okX (extAt bs i) := ⟨byteAt_lt hbs, numAt_lt hbs, byteAt_lt hbs⟩
/-- An extent's four bytes. -/
def encX (x : XV) : List Nat := leN x.a 1 ++ leN x.x 2 ++ leN x.y 1
theorem leN1 (n : Nat) : leN n 1 = [n % 256] := by show [n / 256 ^ 0 % 256] = _; rw [Nat.pow_zero, Nat.div_one]
theorem leN2 (n : Nat) : leN n 2 = [n % 256, n / 256 % 256] := by show [n / 256 ^ 0 % 256, n / 256 ^ 1 % 256] = _; rw [Nat.pow_zero, Nat.div_one, Nat.pow_one]
theorem shr256 (n : Nat) : n >>> 8 = n / 256 := by rw [Nat.shiftRight_eq_div_pow]
theorem s_shr8 {p q : Operand} {h : AH} {n : Nat} : evBin T0 .shr 3 p q (iv n) (.int .u64 8) h = some (iv (n / 256 : Nat)) := by
  rw [show (.int .u64 8 : Value) = .int .u64 ((8 : Nat) : Int) from rfl, bin_shr (by decide), shr256]
theorem u8_range {x : Nat} (h : x < 256) : IntKind.u8.min ≤ (x : Int) ∧ (x : Int) ≤ IntKind.u8.max := by
  have e1 : IntKind.u8.min = 0 := by decide
  have e2 : IntKind.u8.max = 255 := by decide
  omega
theorem PutExt_S (x : XV) (hx : okX x) (h : AH) : ∃ v' h', frameB T0 X0 call 3000 20 [extV x] h = some (v', h') ∧ Own h.next h' v' (bytesV (encX x)) 5 ∧ Grow h.next h h' := by
  generalize hh1 : h.new (.cells (PM.ofList [iv x.a, cx x.x x.y]) [iv x.a, cx x.x x.y].length 36 0 0 .ex) = h1
  have g1 : Grow h.next h h1 := by rw [← hh1]; exact Grow.new _ _
  have hb1 : BoxL h1 h.next 36 [iv x.a, cx x.x x.y] := by rw [← hh1]; exact BoxL.new _ _ _
  obtain ⟨z1, z2⟩ := okE_z hx.e
  obtain ⟨q1, q2, q3⟩ := BoxE.load hb1
  obtain ⟨k1, k2, k3⟩ := hx
  have hy : x.y % 256 = x.y := Nat.mod_eq_of_lt k3
  have hbuilt := Own.built (n := h1.next) (h := h1) (e := 5) [bv (x.a % 256), bv (x.x % 256), bv (x.x / 256 % 256), bv x.y] (Nat.le_refl _)
  refine ⟨.slice (some ⟨h1.next, 0, none⟩) 4 4, h1.new (.cells (PM.ofList [bv (x.a % 256), bv (x.x % 256), bv (x.x / 256 % 256), bv x.y]) 4 5 0 0 .ex), ?_, ?_, g1.trans ((Grow.new _ _).less g1.next) (Nat.le_refl _)⟩
  · rw [frameB_eq ft20 rfl rfl]
    simp only [Try.f20, symM, opFn, Nat.reduceLT, Nat.reduceBEq, symM, box_agg, hh1, field_E1, field_E0, Nat.zero_add, q2, q3, conv_f2i und_f64 und_int z1 (i64_range (show x.x ≤ 1048576 by omega)), conv_f2i und_f64 und_u8 z2 (u8_range k3), conv_i2i und_int und_u8, wu8m, s_shr8, bsx_gen, goBSX_some, bs_u84]
    exact retB_one ft20 rfl get_same
  · have := hbuilt.less g1.next
    rw [show bytesV (encX x) = [bv (x.a % 256), bv (x.x % 256), bv (x.x / 256 % 256), bv x.y] from by simp only [encX, leN1, leN2, hy]; rfl]
    exact this
theorem rPutExt_S (hP : ∀ (n size n0 : Nat) (bs : List Nat) (v : Value) (h : AH), n < 4294967296 → size ≤ 4 → bs.length < 400 → n0 ≤ h.next → Own n0 h v (bytesV bs) 5 → ∃ v' h', call 25 [v, iv n, iv size] h = some (v', h') ∧ Own n0 h' v' (bytesV (bs ++ leN n size)) 5 ∧ Grow n0 h h' ∧ (∀ k, k < h.next → Off v k → h'.get k = h.get k) ∧ (0 < size → Own h.next h' v' (bytesV (bs ++ leN n size)) 5))
    (hR : ∀ (x y : Nat) (h : AH), x ≤ 1048576 → y ≤ 1048576 → ∃ h', call 39 [cx x y] h = some (.tuple #[iv x, iv y, .bool (runOK x y)], h') ∧ Grow h.next h h')
    (x : XV) (hx : okX x) (n0 : Nat) (bs : List Nat) (v : Value) (h : AH) (hl : bs.length < 300) (hn : n0 ≤ h.next) (ho : Own n0 h v (bytesV bs) 5) :
    ∃ v' h', frameB T0 X0 call 3000 26 [v, extV x] h = some (v', h') ∧ Own n0 h' v' (bytesV (bs ++ encX x)) 5 ∧ Grow n0 h h' := by
  generalize hh1 : h.new (.cells (PM.ofList [iv x.a, cx x.x x.y]) [iv x.a, cx x.x x.y].length 36 0 0 .ex) = h1
  have g1 : Grow h.next h h1 := by rw [← hh1]; exact Grow.new _ _
  have hb1 : BoxL h1 h.next 36 [iv x.a, cx x.x x.y] := by rw [← hh1]; exact BoxL.new _ _ _
  have hnx : h.next < h1.next := by rw [← hh1]; exact Nat.lt_succ_self _
  obtain ⟨q1, q2, q3⟩ := BoxE.load hb1
  obtain ⟨k1, k2, k3⟩ := hx
  obtain ⟨h2, e2, g2⟩ := hR x.x x.y h1 (by omega) (by omega)
  have hb2 := hb1.grow g2 hnx
  obtain ⟨r1, r2, r3⟩ := BoxE.load hb2
  have o2 := (ho.grow g1).grow g2
  have n2 : n0 ≤ h2.next := Nat.le_trans hn (Nat.le_trans g1.next g2.next)
  obtain ⟨v3, h3, e3, o3, g3, _⟩ := hP x.a 1 n0 bs v h2 (by omega) (by omega) (by omega) n2 o2
  obtain ⟨v4, h4, e4, o4, g4, _⟩ := hP x.x 2 n0 _ v3 h3 (by omega) (by omega) (by simp [leN1]; omega) (Nat.le_trans n2 g3.next) o3
  obtain ⟨v5, h5, e5, o5, g5, _⟩ := hP x.y 1 n0 _ v4 h4 (by omega) (by omega) (by simp [leN1, leN2]; omega) (Nat.le_trans n2 (Nat.le_trans g3.next g4.next)) o4
  have e3 : call 25 [v, iv x.a, iv 1] h2 = _ := e3
  have e4 : call 25 [v3, iv x.x, iv 2] h3 = _ := e4
  have e5 : call 25 [v4, iv x.y, iv 1] h4 = _ := e5
  refine ⟨v5, h5, ?_, by simpa [encX] using o5, ((((g1.less hn).trans (g2.less (Nat.le_trans hn g1.next)) (Nat.le_refl _)).trans g3 (Nat.le_refl _)).trans g4 (Nat.le_refl _)).trans g5 (Nat.le_refl _)⟩
  rw [frameB_eq ft26 rfl rfl]
  simp only [Try.f26, symM, opFn, Nat.reduceLT, Nat.reduceBEq, symM, box_agg, hh1, field_E1, field_E0, Nat.zero_add, q3, evCall_fn ft39 rfl, e2, r2, evCall_fn ft25 rfl, e3, e4, e5]
  exact retB_one ft26 rfl get_same
end
end Go.Proofs.Ythpfgiabdpeiaaa.Abs
