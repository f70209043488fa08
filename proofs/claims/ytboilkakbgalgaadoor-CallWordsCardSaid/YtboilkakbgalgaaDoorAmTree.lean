/-
The trees of the abstract machine: what is laid is read again, all else stays.
-/
import Derived.Test.YtboilkakbgalgaaDoorAmEval
namespace Go.Am
open Go

namespace PT
variable {α : Type}
@[simp] theorem get_nil (n : Nat) : (nil : PT α).get n = none := by unfold get; rfl
theorem get_node (l : PT α) (v : Option α) (r : PT α) (n : Nat) :
    (node l v r).get n = if n = 0 then v else if (n - 1) % 2 = 0 then l.get ((n - 1) / 2) else r.get ((n - 1) / 2) := by
  conv => lhs; unfold get
  cases n with
  | zero => simp
  | succ n =>
    simp only [Nat.add_one_ne_zero, if_false, Nat.add_sub_cancel]
    rcases Nat.mod_two_eq_zero_or_one n with h | h <;> simp [h]
theorem set_node (x : α) (l : PT α) (v : Option α) (r : PT α) (n : Nat) :
    (node l v r).set x n = if n = 0 then node l (some x) r else if (n - 1) % 2 = 0 then node (l.set x ((n - 1) / 2)) v r else node l v (r.set x ((n - 1) / 2)) := by
  conv => lhs; unfold set
  cases n with
  | zero => simp
  | succ n =>
    simp only [Nat.add_one_ne_zero, if_false, Nat.add_sub_cancel]
    rcases Nat.mod_two_eq_zero_or_one n with h | h <;> simp [h]
theorem erase_node (l : PT α) (v : Option α) (r : PT α) (n : Nat) :
    (node l v r).erase n = if n = 0 then node l none r else if (n - 1) % 2 = 0 then node (l.erase ((n - 1) / 2)) v r else node l v (r.erase ((n - 1) / 2)) := by
  conv => lhs; unfold erase
  cases n with
  | zero => simp
  | succ n =>
    simp only [Nat.add_one_ne_zero, if_false, Nat.add_sub_cancel]
    rcases Nat.mod_two_eq_zero_or_one n with h | h <;> simp [h]
theorem single_succ (x : α) (f n : Nat) :
    single x (f + 1) n = if n = 0 then node nil (some x) nil else if (n - 1) % 2 = 0 then node (single x f ((n - 1) / 2)) none nil else node nil none (single x f ((n - 1) / 2)) := by
  conv => lhs; unfold single
  cases n with
  | zero => simp
  | succ n =>
    simp only [Nat.add_one_ne_zero, if_false, Nat.add_sub_cancel]
    rcases Nat.mod_two_eq_zero_or_one n with h | h <;> simp [h]
theorem get_single (x : α) : ∀ (f n k : Nat), n ≤ f → (single x f n).get k = if k = n then some x else none := by
  intro f
  induction f with
  | zero =>
    intro n k h
    have : n = 0 := by omega
    subst this
    unfold single
    rw [get_node]
    by_cases hk : k = 0 <;> simp [hk]
  | succ f ih =>
    intro n k h
    rw [single_succ]
    by_cases hn : n = 0
    · subst hn; rw [if_pos rfl, get_node]; by_cases hk : k = 0 <;> simp [hk]
    · rw [if_neg hn]
      by_cases he : (n - 1) % 2 = 0
      · rw [if_pos he, get_node]
        by_cases hk : k = 0
        · rw [if_pos hk, if_neg (by omega)]
        · rw [if_neg hk]
          by_cases hk2 : (k - 1) % 2 = 0
          · rw [if_pos hk2, ih _ _ (by omega)]
            by_cases hkn : k = n
            · subst hkn; simp
            · rw [if_neg hkn, if_neg (by omega)]
          · rw [if_neg hk2, get_nil, if_neg (by omega)]
      · rw [if_neg he, get_node]
        by_cases hk : k = 0
        · rw [if_pos hk, if_neg (by omega)]
        · rw [if_neg hk]
          by_cases hk2 : (k - 1) % 2 = 0
          · rw [if_pos hk2, get_nil, if_neg (by omega)]
          · rw [if_neg hk2, ih _ _ (by omega)]
            by_cases hkn : k = n
            · subst hkn; simp
            · rw [if_neg hkn, if_neg (by omega)]
theorem get_set (x : α) : ∀ (t : PT α) (n k : Nat), (t.set x n).get k = if k = n then some x else t.get k
  | nil, n, k => by
    have : (nil : PT α).set x n = single x n n := by unfold set; rfl
    rw [this, get_single x n n k (Nat.le_refl n), get_nil]
  | node l v r, n, k => by
    have il := get_set x l
    have ir := get_set x r
    rw [set_node]
    by_cases hn : n = 0
    · subst hn; rw [if_pos rfl, get_node, get_node]; by_cases hk : k = 0 <;> simp [hk]
    · rw [if_neg hn]
      by_cases he : (n - 1) % 2 = 0
      · rw [if_pos he, get_node, get_node]
        by_cases hk : k = 0
        · rw [if_pos hk, if_pos hk, if_neg (by omega)]
        · rw [if_neg hk, if_neg hk]
          by_cases hk2 : (k - 1) % 2 = 0
          · rw [if_pos hk2, if_pos hk2, il]
            by_cases hkn : k = n
            · subst hkn; simp
            · rw [if_neg hkn, if_neg (by omega)]
          · rw [if_neg hk2, if_neg hk2, if_neg (by omega)]
      · rw [if_neg he, get_node, get_node]
        by_cases hk : k = 0
        · rw [if_pos hk, if_pos hk, if_neg (by omega)]
        · rw [if_neg hk, if_neg hk]
          by_cases hk2 : (k - 1) % 2 = 0
          · rw [if_pos hk2, if_pos hk2, if_neg (by omega)]
          · rw [if_neg hk2, if_neg hk2, ir]
            by_cases hkn : k = n
            · subst hkn; simp
            · rw [if_neg hkn, if_neg (by omega)]
theorem get_erase : ∀ (t : PT α) (n k : Nat), (t.erase n).get k = if k = n then none else t.get k
  | nil, n, k => by unfold erase; simp
  | node l v r, n, k => by
    have il := get_erase l
    have ir := get_erase r
    rw [erase_node]
    by_cases hn : n = 0
    · subst hn; rw [if_pos rfl, get_node, get_node]; by_cases hk : k = 0 <;> simp [hk]
    · rw [if_neg hn]
      by_cases he : (n - 1) % 2 = 0
      · rw [if_pos he, get_node, get_node]
        by_cases hk : k = 0
        · rw [if_pos hk, if_pos hk, if_neg (by omega)]
        · rw [if_neg hk, if_neg hk]
          by_cases hk2 : (k - 1) % 2 = 0
          · rw [if_pos hk2, if_pos hk2, il]
            by_cases hkn : k = n
            · subst hkn; simp
            · rw [if_neg hkn, if_neg (by omega)]
          · rw [if_neg hk2, if_neg hk2, if_neg (by omega)]
      · rw [if_neg he, get_node, get_node]
        by_cases hk : k = 0
        · rw [if_pos hk, if_pos hk, if_neg (by omega)]
        · rw [if_neg hk, if_neg hk]
          by_cases hk2 : (k - 1) % 2 = 0
          · rw [if_pos hk2, if_pos hk2, if_neg (by omega)]
          · rw [if_neg hk2, if_neg hk2, ir]
            by_cases hkn : k = n
            · subst hkn; simp
            · rw [if_neg hkn, if_neg (by omega)]
@[simp] theorem get_set_same (x : α) (t : PT α) (n : Nat) : (t.set x n).get n = some x := by rw [get_set, if_pos rfl]
theorem get_set_ne (x : α) (t : PT α) (n k : Nat) (h : k ≠ n) : (t.set x n).get k = t.get k := by rw [get_set, if_neg h]

/-- Does a test hold of all that lies in a tree? (pos: a subtree's place in the whole) -/
def allB (p : Nat → α → Bool) : (Nat → Nat) → PT α → Bool
  | _, nil => true
  | f, node l v r => (match v with
    | some x => p (f 0) x
    | none => true) && allB p (fun n => f (2 * n + 1)) l && allB p (fun n => f (2 * n + 2)) r
theorem allB_get (p : Nat → α → Bool) : ∀ (t : PT α) (f : Nat → Nat) (n : Nat) (x : α), allB p f t = true → t.get n = some x → p (f n) x = true
  | nil, _, n, x, _, h => by simp at h
  | node l v r, f, n, x, ha, h => by
    unfold allB at ha
    simp only [Bool.and_eq_true] at ha
    obtain ⟨⟨hv, hl⟩, hr⟩ := ha
    rw [get_node] at h
    by_cases hn : n = 0
    · subst hn
      rw [if_pos rfl] at h
      subst h
      exact hv
    · rw [if_neg hn] at h
      by_cases he : (n - 1) % 2 = 0
      · rw [if_pos he] at h
        have := allB_get p l _ _ _ hl h
        rwa [show 2 * ((n - 1) / 2) + 1 = n by omega] at this
      · rw [if_neg he] at h
        have := allB_get p r _ _ _ hr h
        rwa [show 2 * ((n - 1) / 2) + 2 = n by omega] at this
end PT

namespace Mem
theorem get_set (m : Mem) (i j : Nat) (b : Blk) : (m.set i b).get j = if j = i then some b else m.get j := PT.get_set _ _ _ _
theorem get_kill (m : Mem) (i j : Nat) : (m.kill i).get j = if j = i then none else m.get j := PT.get_erase _ _ _
theorem get_add (m : Mem) (b : Blk) (j : Nat) : (m.add b).get j = if j = m.next then some b else m.get j := PT.get_set _ _ _ _
@[simp] theorem next_set (m : Mem) (i : Nat) (b : Blk) : (m.set i b).next = m.next := rfl
@[simp] theorem next_kill (m : Mem) (i : Nat) : (m.kill i).next = m.next := rfl
@[simp] theorem next_add (m : Mem) (b : Blk) : (m.add b).next = m.next + 1 := rfl
@[simp] theorem lo_set (m : Mem) (i : Nat) (b : Blk) : (m.set i b).lo = m.lo := rfl
@[simp] theorem lo_kill (m : Mem) (i : Nat) : (m.kill i).lo = m.lo := rfl
@[simp] theorem lo_add (m : Mem) (b : Blk) : (m.add b).lo = m.lo := rfl
theorem cells_some {m : Mem} {i : Nat} {l : List AV} (h : m.cells i = some l) : m.get i = some (.cells l) := by
  unfold cells at h; split at h <;> simp_all
theorem maps_some {m : Mem} {i : Nat} {l : List (Int × AV)} (h : m.maps i = some l) : m.get i = some (.map l) := by
  unfold maps at h; split at h <;> simp_all
end Mem

end Go.Am
