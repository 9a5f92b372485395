/- An abstract machine: maps on numbers, the abstract heap. -/
import Derived.Calls
import GoSem.Dispatch
namespace Go.Proofs.Ytfmiahhgkifbaaa.Abs
open Go
noncomputable section

def ifB {α : Type} (c : Bool) (t e : α) : α := Bool.rec (motive := fun _ => α) e t c
theorem ifB_true {α : Type} (t e : α) : ifB true t e = t := rfl
theorem ifB_false {α : Type} (t e : α) : ifB false t e = e := rfl

/-- A map on numbers: the key 0 at the root, an odd key to the left, an even one to the right. -/
inductive PM (α : Type) where
  | leaf
  | node (l : PM α) (x : Option α) (r : PM α)

namespace PM
variable {α : Type}
def get (t : PM α) : Nat → Option α :=
  PM.rec (motive := fun _ => Nat → Option α) (fun _ => none)
    (fun _ x _ gl gr n => Nat.rec (motive := fun _ => Option α) x (fun m _ => Bool.rec (motive := fun _ => Option α) (gr (m / 2)) (gl (m / 2)) (Nat.beq (m % 2) 0)) n) t
/-- The node, its left part looked at. -/
def nodeL (l : PM α) (x : Option α) (r : PM α) : PM α :=
  match l with
  | .leaf => .node .leaf x r
  | .node a b c => .node (.node a b c) x r
def nodeR (l : PM α) (x : Option α) (r : PM α) : PM α :=
  match r with
  | .leaf => .node l x .leaf
  | .node a b c => .node l x (.node a b c)
def path (v : Option α) : Nat → Nat → PM α
  | 0, _ => .leaf
  | d + 1, n => match n with
    | 0 => .node .leaf v .leaf
    | m + 1 => ifB (Nat.beq (m % 2) 0) (nodeL (path v d (m / 2)) none .leaf) (nodeR .leaf none (path v d (m / 2)))
def put (v : Option α) (t : PM α) : Nat → PM α :=
  PM.rec (motive := fun _ => Nat → PM α) (fun n => path v (n + 1) n)
    (fun l x r pl pr n => Nat.rec (motive := fun _ => PM α) (.node l v r)
      (fun m _ => Bool.rec (motive := fun _ => PM α) (nodeR l x (pr (m / 2))) (nodeL (pl (m / 2)) x r) (Nat.beq (m % 2) 0)) n) t
def set (t : PM α) (n : Nat) (v : α) : PM α := put (some v) t n
def del (t : PM α) (n : Nat) : PM α := put none t n

theorem get_leaf (n : Nat) : (leaf : PM α).get n = none := rfl
theorem get_zero (l : PM α) (x r) : (node l x r).get 0 = x := rfl
theorem get_succ (l : PM α) (x r) (m : Nat) : (node l x r).get (m + 1) = if m % 2 = 0 then l.get (m / 2) else r.get (m / 2) := by
  show (Bool.rec (motive := fun _ => Option α) (r.get (m / 2)) (l.get (m / 2)) (Nat.beq (m % 2) 0)) = _
  by_cases h : m % 2 = 0
  · simp [h]
  · have : Nat.beq (m % 2) 0 = false := by cases e : Nat.beq (m % 2) 0 with | false => rfl | true => exact absurd (Nat.eq_of_beq_eq_true e) h
    rw [this, if_neg h]
theorem nodeL_eq (l : PM α) (x r) : nodeL l x r = node l x r := by cases l <;> rfl
theorem nodeR_eq (l : PM α) (x r) : nodeR l x r = node l x r := by cases r <;> rfl
theorem put_leaf (v : Option α) (n : Nat) : put v leaf n = path v (n + 1) n := rfl
theorem put_zero (v : Option α) (l x r) : put v (node l x r) 0 = node l v r := rfl
theorem put_succ (v : Option α) (l x r) (m : Nat) : put v (node l x r) (m + 1) = if m % 2 = 0 then node (put v l (m / 2)) x r else node l x (put v r (m / 2)) := by
  show (Bool.rec (motive := fun _ => PM α) (nodeR l x (put v r (m / 2))) (nodeL (put v l (m / 2)) x r) (Nat.beq (m % 2) 0)) = _
  by_cases h : m % 2 = 0
  · simp [h, nodeL_eq]
  · have : Nat.beq (m % 2) 0 = false := by cases e : Nat.beq (m % 2) 0 with | false => rfl | true => exact absurd (Nat.eq_of_beq_eq_true e) h
    rw [this, if_neg h, nodeR_eq]
theorem get_path (v : Option α) : ∀ (d n k : Nat), n < d → (path v d n).get k = if k = n then v else none := by
  intro d
  induction d with
  | zero => intro n k h; omega
  | succ d ih =>
    intro n k h
    cases n with
    | zero => cases k with
      | zero => rfl
      | succ k => rw [path, get_succ]; simp [get_leaf]
    | succ m =>
      simp only [path, nodeL_eq, nodeR_eq]
      by_cases hm : m % 2 = 0
      · have : Nat.beq (m % 2) 0 = true := by simp [hm]
        rw [this, ifB_true]
        cases k with
        | zero => simp [get_zero]
        | succ k =>
          rw [get_succ, ih _ _ (by omega)]
          simp only [get_leaf]
          by_cases hk : k % 2 = 0
          · simp only [hk, if_true]; congr 1; simp; omega
          · rw [if_neg hk, if_neg (by omega)]
      · have : Nat.beq (m % 2) 0 = false := by cases e : Nat.beq (m % 2) 0 with | false => rfl | true => exact absurd (Nat.eq_of_beq_eq_true e) hm
        rw [this, ifB_false]
        cases k with
        | zero => simp [get_zero]
        | succ k =>
          rw [get_succ, ih _ _ (by omega)]
          simp only [get_leaf]
          by_cases hk : k % 2 = 0
          · rw [if_pos hk, if_neg (by omega)]
          · rw [if_neg hk]; congr 1; simp; omega
theorem get_put (v : Option α) (t : PM α) : ∀ (n k : Nat), (put v t n).get k = if k = n then v else t.get k := by
  induction t with
  | leaf => intro n k; rw [put_leaf, get_path _ _ _ _ (by omega)]; simp [get_leaf]
  | node l x r ihl ihr =>
    intro n k
    cases n with
    | zero => rw [put_zero]; cases k with
      | zero => simp [get_zero]
      | succ k => simp [get_succ]
    | succ m =>
      rw [put_succ]
      by_cases hm : m % 2 = 0
      · rw [if_pos hm]
        cases k with
        | zero => simp [get_zero]
        | succ k =>
          rw [get_succ, get_succ, ihl]
          by_cases hk : k % 2 = 0
          · simp only [hk, if_true]
            by_cases e : k = m
            · subst e; simp
            · rw [if_neg (by omega), if_neg (by omega)]
          · rw [if_neg hk, if_neg hk, if_neg (by omega)]
      · rw [if_neg hm]
        cases k with
        | zero => simp [get_zero]
        | succ k =>
          rw [get_succ, get_succ, ihr]
          by_cases hk : k % 2 = 0
          · rw [if_pos hk, if_pos hk, if_neg (by omega)]
          · rw [if_neg hk, if_neg hk]
            by_cases e : k = m
            · subst e; simp
            · rw [if_neg (by omega), if_neg (by omega)]
theorem get_set (t : PM α) (n k : Nat) (v : α) : (t.set n v).get k = if k = n then some v else t.get k := get_put _ _ _ _
theorem get_del (t : PM α) (n k : Nat) : (t.del n).get k = if k = n then none else t.get k := get_put _ _ _ _

/-- All keys below 2^d - 1 hold v. -/
def full (v : α) : Nat → PM α
  | 0 => .leaf
  | d + 1 => .node (full v d) (some v) (full v d)
theorem get_full (v : α) : ∀ (d n : Nat), n + 1 < 2 ^ d → (full v d).get n = some v := by
  intro d
  induction d with
  | zero => intro n h; simp at h
  | succ d ih =>
    intro n h
    cases n with
    | zero => rfl
    | succ m =>
      rw [full, get_succ]
      have : m / 2 + 1 < 2 ^ d := by rw [Nat.pow_succ] at h; omega
      split <;> exact ih _ this

def addL : List α → Nat → PM α → PM α
  | [], _, t => t
  | x :: r, i, t => addL r (i + 1) (t.set i x)
def ofList (l : List α) : PM α := addL l 0 .leaf
theorem get_addL (l : List α) : ∀ (i : Nat) (t : PM α) (k : Nat), (addL l i t).get k = if i ≤ k ∧ k < i + l.length then l[k - i]? else t.get k := by
  induction l with
  | nil => intro i t k; rw [addL, if_neg (by simp only [List.length_nil]; omega)]
  | cons x r ih =>
    intro i t k
    rw [addL, ih, get_set, List.length_cons]
    by_cases h : k = i
    · subst h; rw [if_neg (by omega), if_pos rfl, if_pos (by omega)]; simp
    · by_cases h2 : i ≤ k ∧ k < i + (r.length + 1)
      · rw [if_pos (by omega), if_pos h2]
        obtain ⟨j, rfl⟩ : ∃ j, k = i + 1 + j := ⟨k - i - 1, by omega⟩
        rw [show i + 1 + j - (i + 1) = j from by omega, show i + 1 + j - i = j + 1 from by omega]; simp
      · rw [if_neg (by omega), if_neg h2, if_neg h]
theorem get_ofList (l : List α) (k : Nat) : (ofList l).get k = l[k]? := by
  rw [ofList, get_addL]
  by_cases h : k < l.length
  · rw [if_pos (by omega)]; simp
  · rw [if_neg (by omega), get_leaf, List.getElem?_eq_none (by omega)]
end PM
end
end Go.Proofs.Ytfmiahhgkifbaaa.Abs
