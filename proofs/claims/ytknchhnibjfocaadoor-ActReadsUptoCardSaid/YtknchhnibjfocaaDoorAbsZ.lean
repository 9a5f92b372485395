/- An abstract machine: which operations come before which; drawn orders. -/
import Derived.Test.YtknchhnibjfocaaDoorAbsY
namespace Go.Proofs.YtknchhnibjfocaaDoor.Abs
open Go
noncomputable section

def edgesMask (acc : List Nat) : List Edge → Nat → Nat
  | [], s => s
  | e :: es, s => edgesMask acc es (ifB (Region.binds .any e && Nat.blt e.on acc.length) (Nat.lor s (Nat.lor (2 ^ e.on) (acc.getD e.on 0))) s)
def masks : List Oper → List Nat → List Nat
  | [], acc => acc
  | o :: os, acc => masks os (acc ++ [edgesMask acc o.after.toList 0])
def ancB (ms : List Nat) (x j : Nat) : Bool := Nat.testBit (ms.getD j 0) x

theorem edgesMask_spec {acc : List Nat} {x : Nat} : ∀ (es : List Edge) (s : Nat), (edgesMask acc es s).testBit x = true → s.testBit x = true ∨ ∃ e ∈ es, Region.binds .any e = true ∧ e.on < acc.length ∧ (x = e.on ∨ (acc.getD e.on 0).testBit x = true) := by
  intro es
  induction es with
  | nil => intro s h; exact .inl h
  | cons e es ih =>
    intro s h
    simp only [edgesMask] at h
    rcases ih _ h with h2 | ⟨e2, h3, h4⟩
    · cases hc : (Region.binds .any e && Nat.blt e.on acc.length) with
      | false => rw [hc] at h2; exact .inl h2
      | true =>
        rw [hc, ifB_true] at h2
        rw [Bool.and_eq_true] at hc
        have h5 : (s ||| (2 ^ e.on ||| acc.getD e.on 0)).testBit x = true := h2
        rw [Nat.testBit_or, Nat.testBit_or, Bool.or_eq_true, Bool.or_eq_true, Nat.testBit_two_pow] at h5
        rcases h5 with h5 | h5 | h5
        · exact .inl h5
        · exact .inr ⟨e, by simp, hc.1, blt_lt hc.2, .inl (by simpa using (of_decide_eq_true h5).symm)⟩
        · exact .inr ⟨e, by simp, hc.1, blt_lt hc.2, .inr h5⟩
    · exact .inr ⟨e2, by simp [h3], h4⟩

theorem masks_take : ∀ (os : List Oper) (acc : List Nat), (masks os acc).take acc.length = acc ∧ (masks os acc).length = acc.length + os.length := by
  intro os
  induction os with
  | nil => intro acc; simp [masks]
  | cons o os ih =>
    intro acc
    obtain ⟨h1, h2⟩ := ih (acc ++ [edgesMask acc o.after.toList 0])
    simp only [List.length_append, List.length_cons, List.length_nil] at h1 h2
    refine ⟨?_, by simp only [masks, h2, List.length_cons]; omega⟩
    have := congrArg (List.take acc.length) h1
    rw [List.take_take, Nat.min_eq_left (by omega), List.take_left' rfl] at this
    exact this
theorem masks_get : ∀ (os : List Oper) (acc : List Nat) (j : Nat) (o : Oper), os[j]? = some o → (masks os acc).getD (acc.length + j) 0 = edgesMask ((masks os acc).take (acc.length + j)) o.after.toList 0 := by
  intro os
  induction os with
  | nil => intro acc j o h; simp at h
  | cons o' os ih =>
    intro acc j o h
    cases j with
    | zero =>
      simp at h
      subst h
      obtain ⟨h1, h2⟩ := masks_take os (acc ++ [edgesMask acc o'.after.toList 0])
      have ht := (masks_take (o' :: os) acc).1
      simp only [Nat.add_zero, ht]
      have : (masks os (acc ++ [edgesMask acc o'.after.toList 0]))[acc.length]? = some (edgesMask acc o'.after.toList 0) := by
        have := congrArg (·[acc.length]?) h1
        simp only [List.getElem?_take, List.length_append, List.length_cons, List.length_nil] at this
        rw [if_pos (by omega)] at this
        rw [this]; simp
      simp only [masks, List.getD_eq_getElem?_getD, this, Option.getD_some]
    | succ j =>
      have := ih (acc ++ [edgesMask acc o'.after.toList 0]) j o (by simpa using h)
      simp only [List.length_append, List.length_cons, List.length_nil] at this
      have he : acc.length + 1 + j = acc.length + (j + 1) := by omega
      rw [he] at this
      exact this

section
variable {ops : Array Oper}
theorem anc_spec {x j : Nat} (h : ancB (masks ops.toList []) x j = true) : ∃ o, ops[j]? = some o ∧ ∃ e ∈ o.after, Region.binds .any e = true ∧ e.on < j ∧ (x = e.on ∨ ancB (masks ops.toList []) x e.on = true) := by
  unfold ancB at h
  cases ho : ops[j]? with
  | none =>
    have hl := (masks_take ops.toList []).2
    have : (masks ops.toList []).getD j 0 = 0 := by
      rw [List.getD_eq_getElem?_getD, List.getElem?_eq_none (by rw [hl]; simp only [List.length_nil, Array.length_toList]; have := Array.getElem?_eq_none_iff.1 ho; omega)]
      rfl
    rw [this] at h; simp at h
  | some o =>
    refine ⟨o, rfl, ?_⟩
    have hm := masks_get ops.toList [] j o (by simpa using ho)
    simp only [List.length_nil, Nat.zero_add] at hm
    rw [hm] at h
    rcases edgesMask_spec _ _ h with h2 | ⟨e, h3, h4, h5, h6⟩
    · simp at h2
    · have hlt : e.on < j := by rw [List.length_take] at h5; omega
      refine ⟨e, by simpa using h3, h4, hlt, h6.imp id fun h7 => ?_⟩
      unfold ancB
      rw [List.getD_eq_getElem?_getD, List.getElem?_take, if_pos hlt, ← List.getD_eq_getElem?_getD] at h7
      exact h7
theorem anc_lt : ∀ (j x : Nat), ancB (masks ops.toList []) x j = true → x < j := by
  intro j
  induction j using Nat.strongRecOn with
  | _ j ih =>
    intro x h
    obtain ⟨o, ho, e, he, hb, hlt, h2⟩ := anc_spec h
    rcases h2 with rfl | h2
    · exact hlt
    · have := ih e.on hlt x h2; omega
theorem anc_done {D : Nat → Prop} (hD : ∀ i o, D i → ops[i]? = some o → ∀ e ∈ o.after, Region.binds .any e = true → D e.on) :
    ∀ (j : Nat) (o : Oper), ops[j]? = some o → (∀ e ∈ o.after, Region.binds .any e = true → D e.on) → ∀ x, ancB (masks ops.toList []) x j = true → D x := by
  intro j
  induction j using Nat.strongRecOn with
  | _ j ih =>
    intro o ho hj x h
    obtain ⟨o', ho', e, he, hb, hlt, h2⟩ := anc_spec h
    rw [ho] at ho'; cases ho'
    have hDe := hj e he hb
    rcases h2 with rfl | h2
    · exact hDe
    · obtain ⟨o2, ho2, _⟩ := anc_spec h2
      exact ih e.on hlt o2 ho2 (hD e.on o2 hDe ho2) x h2

/- Any order that is drawn keeps to the edges. -/
theorem countP_lt {p q : Nat → Bool} {i : Nat} (hpq : ∀ x, q x = true → p x = true) (hp : p i = true) (hq : q i = false) : ∀ (l : List Nat), i ∈ l → l.countP q < l.countP p := by
  have le : ∀ l : List Nat, l.countP q ≤ l.countP p := fun l => List.countP_mono_left fun x _ h => hpq x h
  intro l
  induction l with
  | nil => intro h; cases h
  | cons x l ih =>
    intro h
    rw [List.countP_cons, List.countP_cons]
    by_cases hx : x = i
    · subst hx; have := le l; simp [hp, hq]; omega
    · have h2 : i ∈ l := by cases h with
        | head => exact absurd rfl hx
        | tail _ h => exact h
      have := ih h2
      have h3 : (if q x = true then 1 else 0) ≤ (if p x = true then 1 else 0) := by
        by_cases hqx : q x = true
        · simp [hqx, hpq x hqx]
        · simp [hqx]
      omega

theorem linearise_Lin (hedge : ∀ i o, ops[i]? = some o → ∀ e ∈ o.after, Region.binds .any e = true → e.on < i) : ∀ (fuel t : Nat) (listed : Array Bool), listed.size = ops.size →
    (∀ i o, listed.getD i false = true → ops[i]? = some o → ∀ e ∈ o.after, Region.binds .any e = true → listed.getD e.on false = true) → (List.range ops.size).countP (fun i => !listed.getD i false) ≤ fuel →
    Lin ops.size (fun x j => ancB (masks ops.toList []) x j = true) (fun i => listed.getD i false = true) (Region.linearise.go .any ops fuel t listed []) := by
  have all_done : ∀ (listed : Array Bool), listed.size = ops.size → Region.ready .any ops listed = [] → ∀ i, i < ops.size → listed.getD i false = true := by
    intro listed hsz hr i
    induction i using Nat.strongRecOn with
    | _ i ih =>
      intro hi
      cases hl : listed.getD i false with
      | true => rfl
      | false =>
        exfalso
        have : i ∈ Region.ready .any ops listed := by
          rw [mem_ready]
          refine ⟨?_, ops[i], Array.getElem?_eq_getElem hi, fun e he hb => ?_⟩
          · rw [Array.getD_eq_getD_getElem?, Array.getElem?_eq_getElem (by omega)] at hl ⊢
            simpa using hl
          · have := hedge i _ (Array.getElem?_eq_getElem hi) e he hb
            exact ih e.on this (by omega)
        rw [hr] at this; cases this
  intro fuel
  induction fuel with
  | zero =>
    intro t listed hsz hcl hc
    refine .nil _ fun i hi => ?_
    have h0 : (List.range ops.size).countP (fun i => !listed.getD i false) = 0 := by omega
    rw [List.countP_eq_zero] at h0
    simpa using h0 i (by simpa using hi)
  | succ fuel ih =>
    intro t listed hsz hcl hc
    simp only [Region.linearise.go]
    change Lin _ _ _ (match (Region.ready .any ops listed)[t % (Region.ready .any ops listed).length]? with
      | some i => Region.linearise.go .any ops fuel (t / (Region.ready .any ops listed).length) (listed.setIfInBounds i true) [i]
      | none => [].reverse)
    cases hi : (Region.ready .any ops listed)[t % (Region.ready .any ops listed).length]? with
    | none =>
      have hnil : Region.ready .any ops listed = [] := by
        cases hr : Region.ready .any ops listed with
        | nil => rfl
        | cons x xs =>
          rw [hr] at hi
          have hlt : t % (x :: xs).length < (x :: xs).length := Nat.mod_lt _ (by simp)
          simp at hi
          simp at hlt
          omega
      exact .nil _ (all_done listed hsz hnil)
    | some i =>
      have hm := List.mem_of_getElem? hi
      rw [mem_ready] at hm
      obtain ⟨h1, o, ho, h2⟩ := hm
      have hlt : i < ops.size := (Array.getElem?_eq_some_iff.1 ho).1
      have hif : listed.getD i false = false := by
        rw [Array.getD_eq_getD_getElem?, Array.getElem?_eq_getElem (by omega)] at h1 ⊢
        simpa using h1
      simp only []
      rw [linearise_go_acc, List.reverse_singleton, List.singleton_append]
      have hset : ∀ j, (listed.setIfInBounds i true).getD j false = true ↔ (listed.getD j false = true ∨ j = i) := by
        intro j
        by_cases hj : j = i
        · subst hj; simp [hsz, hlt]
        · simp [Array.getElem?_setIfInBounds_ne (Ne.symm hj), hj]
      refine .cons _ i _ hlt (by simp only [hif]; exact Bool.false_ne_true) (fun x hx => anc_done (D := fun i => listed.getD i false = true) hcl i o ho h2 x hx) ?_
      have := ih (t / (Region.ready .any ops listed).length) (listed.setIfInBounds i true) (by simpa using hsz) (by
        intro j oj hj hoj e he hb
        rw [hset] at hj ⊢
        rcases hj with hj | rfl
        · exact .inl (hcl j oj hj hoj e he hb)
        · rw [ho] at hoj; cases hoj; exact .inl (h2 e he hb)) (by
        have := countP_lt (p := fun i => !listed.getD i false) (q := fun j => !(listed.setIfInBounds i true).getD j false) (i := i) (fun x hx => by
          have h3 : ¬ ((listed.setIfInBounds i true).getD x false = true) := by simpa using hx
          rw [hset, not_or] at h3
          simpa using h3.1) (by simp only [hif]; rfl) (by have := (hset i).2 (.inr rfl); simp only [this]; rfl) (List.range ops.size) (by simpa using hlt)
        omega)
      have heq : (fun j => (listed.setIfInBounds i true).getD j false = true) = (fun j => listed.getD j false = true ∨ j = i) := funext fun j => propext (hset j)
      rw [heq] at this
      exact this
end
end
end Go.Proofs.YtknchhnibjfocaaDoor.Abs
