/- ChooseFirst: what the law answers, for every memory. -/
import Derived.Test.YtcpihpjphdlmfaaRef
import Derived.Test.YtcpihpjphdlmfaaAbsZN
namespace Go.Proofs.Ytcpihpjphdlmfaa.Abs
open Go Go.Proofs
noncomputable section
theorem ft3 : T0.ft.get 3 = some Try.f3 := by kernel_rfl
theorem ft11 : T0.ft.get 11 = some Try.f11 := by kernel_rfl
def awS : Sums := addS 11 trueT noSums
abbrev C (d : Nat) : Abs.Callee := callB T0 X0 awS 3000 d
theorem C_f {f : Nat} (hf : Nat.beq f 11 = false) (d : Nat) (args : List Value) (h : AH) : C (d + 1) f args h = frameB T0 X0 (C d) 3000 f args h := by
  have hn : awS f = none := by unfold awS addS; rw [hf]; rfl
  show (match awS f with
    | some g => (match g args h with
      | some r => some r
      | none => frameB T0 X0 (C d) 3000 f args h)
    | none => frameB T0 X0 (C d) 3000 f args h) = _
  rw [hn]
theorem C_aw (d : Nat) (hd : 1 ≤ d) (h : AH) : C d 11 [] h = some (.bool true, h) := by
  obtain ⟨e, rfl⟩ : ∃ e, d = e + 1 := ⟨d - 1, by omega⟩
  rfl
theorem at1 {d k : Nat} (h : k + 1 ≤ d) : ∃ e, d = e + 1 ∧ k ≤ e := ⟨d - 1, by omega, by omega⟩
set_option maxRecDepth 10000
theorem s_Abs (d : Nat) (hd : 1 ≤ d) (x : Nat) (h : AH) (hx : zok x = true) : C d 75 [fl x] h = some (fl x, h) := by
  obtain ⟨e, rfl, _⟩ := at1 hd
  rw [C_f rfl]; exact Abs_S x hx h
theorem s_Trunc (d : Nat) (hd : 1 ≤ d) (x : Int) (h : AH) (hx : zok x = true) : C d 76 [fl x] h = some (fl x, h) := by
  obtain ⟨e, rfl, _⟩ := at1 hd
  rw [C_f rfl]; exact Trunc_S x hx h
theorem s_whole (d : Nat) (hd : 2 ≤ d) (x : Nat) (h : AH) (hx : x ≤ 1048576) : C d 74 [fl x] h = some (.bool true, h) := by
  obtain ⟨e, rfl, he⟩ := at1 hd
  rw [C_f rfl]; exact whole_S (s_Abs e he) (s_Trunc e he) x hx h
theorem s_Whole (d : Nat) (hd : 3 ≤ d) (x y : Nat) (h : AH) (hx : x ≤ 1048576) (hy : y ≤ 1048576) : C d 71 [cx x y] h = some (.bool true, h) := by
  obtain ⟨e, rfl, he⟩ := at1 hd
  rw [C_f rfl]; exact Whole_S (s_whole e he) x y hx hy h
theorem s_Sound (d : Nat) (hd : 4 ≤ d) (x y : Nat) (h : AH) (hx : x ≤ 1048576) (hy : y ≤ 1048576) : C d 63 [cx x y] h = some (.bool (runOK x y), h) := by
  obtain ⟨e, rfl, he⟩ := at1 hd
  rw [C_f rfl]; exact Sound_S (s_Whole e he) x y hx hy h
theorem s_parts (d : Nat) (hd : 1 ≤ d) (x y : Nat) (h : AH) (hx : x ≤ 1048576) (hy : y ≤ 1048576) : C d 64 [cx x y] h = some (.tuple #[iv x, iv y], h) := by
  obtain ⟨e, rfl, he⟩ := at1 hd
  rw [C_f rfl]; exact parts_S x y hx hy h
theorem s_Parts (d : Nat) (hd : 5 ≤ d) (x y : Nat) (h : AH) (hx : x ≤ 1048576) (hy : y ≤ 1048576) : C d 50 [cx x y] h = some (partsV x y, h) := by
  obtain ⟨e, rfl, he⟩ := at1 hd
  rw [C_f rfl]; exact Parts_S (s_Sound e he) (s_parts e (by omega)) x y hx hy h
theorem s_make1 (d : Nat) (hd : 1 ≤ d) (x y : Int) (h : AH) (hx : zok x = true) (hy : zok y = true) : C d 51 [iv x, iv y] h = some (make1V x y, h) := by
  obtain ⟨e, rfl, he⟩ := at1 hd
  rw [C_f rfl]; exact make1_S x y hx hy h
theorem s_Of (d : Nat) (hd : 2 ≤ d) (x y : Nat) (h : AH) (hy : 1 ≤ y) (hxy : x + y ≤ 480) : C d 49 [iv x, iv y] h = some (.tuple #[cx x y, iv 0], h) := by
  obtain ⟨e, rfl, he⟩ := at1 hd
  rw [C_f rfl]; exact Of_S (s_make1 e he) x y hy hxy h
theorem s_Cut (d : Nat) (hd : 6 ≤ d) (x y n : Nat) (h : AH) (hr : runOK x y = true) (hn : n ≤ y) : C d 41 [cx x y, iv n] h = some (.tuple #[make1V x n, make1V (x + n : Nat) (y - n : Nat), iv 0], h) := by
  obtain ⟨e, rfl, he⟩ := at1 hd
  rw [C_f rfl]; exact Cut_S (s_Parts e he) (s_make1 e (by omega)) x y n hr hn h
theorem s_begin (d : Nat) (hd : 7 ≤ d) (x y n : Nat) (h : AH) (hr : runOK x y = true) (hn : n ≤ y) (h1 : 1 ≤ n) : C d 24 [cx x y, iv n] h = some (cx x n, h) := by
  obtain ⟨e, rfl, he⟩ := at1 hd
  rw [C_f rfl]; exact begin_S (s_Cut e he) x y n hr hn h1 h
theorem s_up (d : Nat) (hd : 1 ≤ d) (bs : List Nat) (hbs : ∀ x ∈ bs, x < 256) (m : Value) (k n : Nat) (h : AH) (hm : Row k h m (bytesV bs) 5) (hn : n / 8 < bs.length) (hn2 : n < 9000) : C d 48 [m, iv n] h = some (.bool (bitB bs n), h) := by
  obtain ⟨e, rfl, he⟩ := at1 hd
  rw [C_f rfl]; exact up_S bs hbs m k n h hm hn hn2
theorem s_Down (d : Nat) (hd : 3 ≤ d) (bs : List Nat) (hbs : ∀ x ∈ bs, x < 256) (m : Value) (h : AH) (a b : Int) (hm : Row h.next h m (bytesV bs) 5) :
    ∃ v h', C d 40 [m, iv a, iv b] h = some (.tuple #[v, iv (downE bs.length a b)], h') ∧ Own h.next h' v (runsV (downG bs a b)) 23 ∧ Grow h.next h h' := by
  obtain ⟨e, rfl, he⟩ := at1 hd
  rw [C_f rfl]
  exact Down_S bs m h a b hm (fun n h' hn h60 hr => s_up e (by omega) bs hbs m h.next n h' hr (by omega) (by omega)) (s_Of e he)
theorem s_gaps (d : Nat) (hd : 4 ≤ d) (bs : List Nat) (hbs : ∀ x ∈ bs, x < 256) (m : Value) (h : AH) (n a b : Int) (hm : Row h.next h m (bytesV bs) 5) :
    ∃ v h', C d 21 [m, iv n, iv a, iv b] h = some (.tuple #[v, iv (gapE bs.length n a b)], h') ∧ Own h.next h' v (runsV (gapG bs n a b)) 23 ∧ Grow h.next h h' := by
  obtain ⟨e, rfl, he⟩ := at1 hd
  rw [C_f rfl]; exact gaps_S bs m h n a b (s_Down e he bs hbs m h a b hm)
theorem s_First1 (d : Nat) (hd : 1 ≤ d) (x y n : Nat) (p : Value) (h : AH) (hx : x ≤ 1048576) (hy : y ≤ 1048576) (hb : Box h p (iv n)) : C d 23 [cx x y, p] h = some (.bool (decide (n ≤ y)), h) := by
  obtain ⟨e, rfl, he⟩ := at1 hd
  rw [C_f rfl]; exact First1_S x y n hx hy p h hb
theorem s_First (d : Nat) (hd : 8 ≤ d) (bs : List Nat) (hbs : ∀ x ∈ bs, x < 256) (m : Value) (h : AH) (n a b : Int) (hm : Row h.next h m (bytesV bs) 5) :
    ∃ h', C d 9 [m, iv n, iv a, iv b] h = some (firstR bs n a b, h') ∧ Grow h.next h h' := by
  obtain ⟨e, rfl, he⟩ := at1 hd
  rw [C_f rfl]
  refine First_S bs m h n a b hm (fun h2 hm2 => s_gaps e (by omega) bs hbs m h2 n a b hm2) ?_ (s_begin e he)
  intro s l n0 h n q hr hl hruns hbox
  obtain ⟨e2, rfl, he2⟩ := at1 (k := 1) (show 2 ≤ e by omega)
  rw [C_f rfl]
  refine Index_S s (runsV l) n0 h 23 [q] _ _ ft23 rfl (geP n) hr (by simp [runsV]; omega) (fun x hx => ?_)
  simp only [runsV, List.mem_map] at hx
  obtain ⟨p, hp, rfl⟩ := hx
  have hp2 : 1 ≤ p.2 ∧ p.1 + p.2 ≤ 480 := by simpa [runOK] using hruns p hp
  rw [s_First1 e2 he2 p.1 p.2 n q h (by omega) (by omega) hbox, geP_cx n p.1 p.2 (by omega)]
/- The reference. -/
theorem s_rpart (d : Nat) (hd : 1 ≤ d) (x : Nat) (h : AH) (hx : x ≤ 1048576) : C d 47 [fl x] h = some (.tuple #[iv x, .bool true], h) := by
  obtain ⟨e, rfl, he⟩ := at1 hd
  rw [C_f rfl]; exact rpart_S x hx h
theorem s_rOf (d : Nat) (hd : 2 ≤ d) (x y : Nat) (h : AH) (hx : x ≤ 1048576) (hy : y ≤ 1048576) : ∃ h', C d 38 [cx x y] h = some (.tuple #[zv x y, .bool true], h') ∧ Grow h.next h h' := by
  obtain ⟨e, rfl, he⟩ := at1 hd
  rw [C_f rfl]; exact rOf_S (s_rpart e he) x y hx hy h
theorem s_rParts (d : Nat) (hd : 3 ≤ d) (x y : Nat) (h : AH) (hx : x ≤ 1048576) (hy : y ≤ 1048576) : ∃ h', C d 18 [cx x y] h = some (.tuple #[iv x, iv y, .bool (runOK x y)], h') ∧ Grow h.next h h' := by
  obtain ⟨e, rfl, he⟩ := at1 hd
  rw [C_f rfl]; exact rParts_S x y h (s_rOf e he x y h hx hy) hx hy
theorem s_rRun (d : Nat) (hd : 1 ≤ d) (x y : Int) (h : AH) (hx : zok x = true) (hy : zok y = true) : C d 42 [iv x, iv y] h = some (make1V x y, h) := by
  obtain ⟨e, rfl, he⟩ := at1 hd
  rw [C_f rfl]; exact rRun_S x y hx hy h
theorem s_rsize (d : Nat) (hd : 4 ≤ d) (x y : Nat) (h : AH) (hx : x ≤ 1048576) (hy : y ≤ 1048576) : ∃ h', C d 26 [cx x y] h = some (iv y, h') ∧ Grow h.next h h' := by
  obtain ⟨e, rfl, he⟩ := at1 hd
  rw [C_f rfl]; exact rsize_S x y h (s_rParts e he x y h hx hy)
theorem s_rbegin (d : Nat) (hd : 4 ≤ d) (x y n : Nat) (h : AH) (hx : x ≤ 1048576) (hy : y ≤ 1048576) (hn : n ≤ 1048576) (h1 : 1 ≤ n) : ∃ h', C d 27 [cx x y, iv n] h = some (cx x n, h') ∧ Grow h.next h h' := by
  obtain ⟨e, rfl, he⟩ := at1 hd
  rw [C_f rfl]; exact rbegin_S x y n h (s_rParts e he x y h hx hy) (s_rRun e (by omega)) hx hn h1
theorem s_rpower (d : Nat) (hd : 1 ≤ d) (n : Nat) (h : AH) (hn : n < 8) : C d 37 [iv n] h = some (.int .u8 ((2 ^ n : Nat) : Int), h) := by
  obtain ⟨e, rfl, he⟩ := at1 hd
  rw [C_f rfl]; exact rpower_S n hn h
theorem s_rUp (d : Nat) (hd : 2 ≤ d) (bs : List Nat) (hbs : ∀ x ∈ bs, x < 256) (h60 : bs.length = 60) (m : Value) (h : AH) (hm : Row h.next h m (bytesV bs) 5) :
    ∃ v h', C d 17 [m] h = some (v, h') ∧ Own h.next h' v (boolsV (bitB bs) 0 480) 4 ∧ Grow h.next h h' := by
  obtain ⟨e, rfl, he⟩ := at1 hd
  rw [C_f rfl]; exact Up_S bs hbs h60 m h hm (s_rpower e he)
theorem s_rRuns (d : Nat) (hd : 2 ≤ d) (f : Nat → Bool) (s : Value) (h : AH) (a b : Nat) (hab : a ≤ b) (hb : b ≤ 480) (hs : Row h.next h s (boolsV f 0 480) 4) :
    ∃ v h', C d 39 [s, iv a, iv b] h = some (v, h') ∧ Own h.next h' v (runsV (gapsG f (b - a) a a)) 23 ∧ Grow h.next h h' := by
  obtain ⟨e, rfl, he⟩ := at1 hd
  rw [C_f rfl]; exact Runs_S f s h a b hab hb hs (s_rRun e he)
theorem s_rDown (d : Nat) (hd : 3 ≤ d) (bs : List Nat) (hbs : ∀ x ∈ bs, x < 256) (m : Value) (h : AH) (a b : Int) (hm : Row h.next h m (bytesV bs) 5) :
    ∃ v h', C d 20 [m, iv a, iv b] h = some (.tuple #[v, iv (downE bs.length a b)], h') ∧ Own h.next h' v (runsV (downG bs a b)) 23 ∧ Grow h.next h h' := by
  obtain ⟨e, rfl, he⟩ := at1 hd
  rw [C_f rfl]; exact rDown_S bs m h a b hm (fun h60 => s_rUp e he bs hbs h60 m h hm) (s_rRuns e he)
theorem s_rGaps (d : Nat) (hd : 4 ≤ d) (bs : List Nat) (hbs : ∀ x ∈ bs, x < 256) (m : Value) (h : AH) (n a b : Int) (hm : Row h.next h m (bytesV bs) 5) :
    ∃ v h', C d 25 [m, iv n, iv a, iv b] h = some (.tuple #[v, iv (gapE bs.length n a b)], h') ∧ Own h.next h' v (runsV (downG bs a b)) 23 ∧ Grow h.next h h' := by
  obtain ⟨e, rfl, he⟩ := at1 hd
  rw [C_f rfl]; exact rGaps_S bs m h n a b (s_rDown e he bs hbs m h a b hm)
theorem s_rFirst (d : Nat) (hd : 5 ≤ d) (bs : List Nat) (hbs : ∀ x ∈ bs, x < 256) (m : Value) (h : AH) (n a b : Int) (hm : Row h.next h m (bytesV bs) 5) :
    ∃ h', C d 10 [m, iv n, iv a, iv b] h = some (firstR bs n a b, h') ∧ Grow h.next h h' := by
  obtain ⟨e, rfl, he⟩ := at1 hd
  rw [C_f rfl]; exact rFirst_S bs m h n a b (s_rGaps e he bs hbs m h n a b hm) (s_rsize e he) (s_rbegin e he)

theorem Row.more {n k : Nat} {h : AH} {v : Value} {l : List Value} {e : TypeId} (hr : Row n h v l e) (hn : n ≤ k) : Row k h v l e := by
  rcases hr with h1 | ⟨b, o, cap, c, m, lo, hi, kd, el, h1, h2, h3⟩
  · exact .inl h1
  · exact .inr ⟨b, o, cap, c, m, lo, hi, kd, el, h1, Nat.lt_of_lt_of_le h2 hn, h3⟩
/-- What First answers is a number of whole parts, and an error. -/
theorem firstR_form (bs : List Nat) (n a b : Int) : ∃ (x y : Nat) (e : Int), x ≤ 1048576 ∧ y ≤ 1048576 ∧ firstR bs n a b = .tuple #[cx x y, iv e] := by
  have h0 : ∀ e : Int, (.tuple #[.complex .f64 0 0, iv e] : Value) = .tuple #[cx ((0 : Nat) : Int) ((0 : Nat) : Int), iv e] := fun e => by rw [show ((0 : Nat) : Int) = 0 from rfl, show cx 0 0 = .complex .f64 0 0 from by unfold cx; rw [zd_zero]]
  unfold firstR
  by_cases hE : gapE bs.length n a b = 0
  · rw [if_pos hE]
    unfold firstV
    cases hf : (gapG bs n a b).find? (fun p => decide (n.toNat ≤ p.2)) with
    | none => exact ⟨0, 0, 6, by omega, by omega, h0 6⟩
    | some p =>
      have hr := gapG_runs bs n a b p (List.mem_of_find?_eq_some hf)
      have hp2 : 1 ≤ p.2 ∧ p.1 + p.2 ≤ 480 := by simpa [runOK] using hr
      have hn := List.find?_some hf
      simp at hn
      exact ⟨p.1, n.toNat, 0, by omega, by omega, rfl⟩
  · rw [if_neg hE]; exact ⟨0, 0, _, by omega, by omega, h0 _⟩
theorem law_S (bs : List Nat) (hbs : ∀ x ∈ bs, x < 256) (m : Value) (h : AH) (n a b : Int) (hm : Row h.next h m (bytesV bs) 5) : ∃ h', C 20 3 [m, iv n, iv a, iv b] h = some (.bool true, h') := by
  rw [C_f rfl, frameB_eq ft3 rfl rfl]
  obtain ⟨h1, e1, g1⟩ := s_First 19 (by omega) bs hbs m h n a b hm
  obtain ⟨h2, e2, g2⟩ := s_rFirst 19 (by omega) bs hbs m h1 n a b ((hm.grow g1 (Nat.le_refl _)).more g1.next)
  obtain ⟨x, y, e, hx, hy, hF⟩ := firstR_form bs n a b
  rw [hF] at e1 e2
  refine ⟨h2, ?_⟩
  simp only [Try.f3, symM, opFn, Nat.reduceLT, Nat.reduceBEq, evCall_fn ft9 rfl, e1, evCall_fn ft10 rfl, e2, evCall_fn ft11 rfl, C_aw 19 (by omega), c_eql (zok_k (x := (x : Int)) (by omega)) (zok_k (x := (y : Int)) (by omega)) (zok_k (x := (x : Int)) (by omega)) (zok_k (x := (y : Int)) (by omega)), decide_true, Bool.and_self, bin_eql, beq_self_eq_true]
  exact retB_one ft3 rfl get_same
end
end Go.Proofs.Ytcpihpjphdlmfaa.Abs
