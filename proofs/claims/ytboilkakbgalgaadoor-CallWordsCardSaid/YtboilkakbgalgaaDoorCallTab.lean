/-
What the table of calls holds, and what the functions on it answer.
-/
import Derived.Test.YtboilkakbgalgaaDoorAmPure
import Derived.Test.YtboilkakbgalgaaDoorAmFun
namespace Go.AmT
open Go Go.Am
set_option maxRecDepth 100000

/-- Each call: its name, how many arguments, its kind. -/
def RW : List (List UInt8 × Int × Int) := [
([], 0, 0),
  ([97, 99, 116, 95, 116, 115, 107], 1, 1),
  ([105, 97, 99, 116, 95, 116, 115, 107], 1, 3),
  ([99, 97, 110, 95, 97, 99, 116], 1, 1),
  ([101, 120, 116, 95, 116, 115, 107], 0, 4),
  ([116, 101, 114, 95, 116, 115, 107], 1, 1),
  ([99, 104, 103, 95, 112, 114, 105], 2, 1),
  ([103, 101, 116, 95, 112, 114, 105], 1, 1),
  ([114, 111, 116, 95, 114, 100, 113], 1, 1),
  ([105, 114, 111, 116, 95, 114, 100, 113], 1, 3),
  ([103, 101, 116, 95, 116, 105, 100], 0, 1),
  ([105, 103, 101, 116, 95, 116, 105, 100], 0, 3),
  ([115, 108, 112, 95, 116, 115, 107], 0, 2),
  ([116, 115, 108, 112, 95, 116, 115, 107], 1, 2),
  ([119, 117, 112, 95, 116, 115, 107], 1, 1),
  ([105, 119, 117, 112, 95, 116, 115, 107], 1, 3),
  ([99, 97, 110, 95, 119, 117, 112], 1, 1),
  ([114, 101, 108, 95, 119, 97, 105], 1, 1),
  ([105, 114, 101, 108, 95, 119, 97, 105], 1, 3),
  ([115, 117, 115, 95, 116, 115, 107], 1, 1),
  ([114, 115, 109, 95, 116, 115, 107], 1, 1),
  ([102, 114, 115, 109, 95, 116, 115, 107], 1, 1),
  ([100, 108, 121, 95, 116, 115, 107], 1, 2),
  ([115, 105, 103, 95, 115, 101, 109], 1, 1),
  ([105, 115, 105, 103, 95, 115, 101, 109], 1, 3),
  ([119, 97, 105, 95, 115, 101, 109], 1, 2),
  ([112, 111, 108, 95, 115, 101, 109], 1, 1),
  ([116, 119, 97, 105, 95, 115, 101, 109], 2, 2),
  ([115, 101, 116, 95, 102, 108, 103], 2, 1),
  ([105, 115, 101, 116, 95, 102, 108, 103], 2, 3),
  ([99, 108, 114, 95, 102, 108, 103], 2, 1),
  ([119, 97, 105, 95, 102, 108, 103], 3, 2),
  ([112, 111, 108, 95, 102, 108, 103], 3, 1),
  ([116, 119, 97, 105, 95, 102, 108, 103], 4, 2),
  ([115, 110, 100, 95, 100, 116, 113], 2, 2),
  ([112, 115, 110, 100, 95, 100, 116, 113], 2, 1),
  ([105, 112, 115, 110, 100, 95, 100, 116, 113], 2, 3),
  ([116, 115, 110, 100, 95, 100, 116, 113], 3, 2),
  ([102, 115, 110, 100, 95, 100, 116, 113], 2, 1),
  ([105, 102, 115, 110, 100, 95, 100, 116, 113], 2, 3),
  ([114, 99, 118, 95, 100, 116, 113], 1, 2),
  ([112, 114, 99, 118, 95, 100, 116, 113], 1, 1),
  ([116, 114, 99, 118, 95, 100, 116, 113], 2, 2),
  ([108, 111, 99, 95, 109, 116, 120], 1, 2),
  ([112, 108, 111, 99, 95, 109, 116, 120], 1, 1),
  ([116, 108, 111, 99, 95, 109, 116, 120], 2, 2),
  ([117, 110, 108, 95, 109, 116, 120], 1, 1),
  ([103, 101, 116, 95, 109, 112, 102], 1, 2),
  ([112, 103, 101, 116, 95, 109, 112, 102], 1, 1),
  ([116, 103, 101, 116, 95, 109, 112, 102], 2, 2),
  ([114, 101, 108, 95, 109, 112, 102], 2, 1),
  ([115, 101, 116, 95, 116, 105, 109], 1, 1),
  ([103, 101, 116, 95, 116, 105, 109], 0, 1),
  ([115, 116, 97, 95, 99, 121, 99], 1, 1),
  ([115, 116, 112, 95, 99, 121, 99], 1, 1),
  ([115, 116, 97, 95, 97, 108, 109], 2, 1),
  ([115, 116, 112, 95, 97, 108, 109], 1, 1),
  ([108, 111, 99, 95, 99, 112, 117], 0, 4),
  ([117, 110, 108, 95, 99, 112, 117], 0, 4),
  ([100, 105, 115, 95, 100, 115, 112], 0, 1),
  ([101, 110, 97, 95, 100, 115, 112], 0, 1),
  ([115, 110, 115, 95, 99, 116, 120], 0, 0),
  ([115, 110, 115, 95, 108, 111, 99], 0, 0),
  ([115, 110, 115, 95, 100, 115, 112], 0, 0),
  ([115, 110, 115, 95, 100, 112, 110], 0, 0)]
def cellsOf (r : List UInt8 × Int × Int) : List AV := [.str r.1, I r.2.1, I r.2.2]
def T19 : List AV := RW.flatMap cellsOf
theorem T19_len : T19.length = 195 := by kernel_rfl
theorem T19_one : T19.all AV.one = true := by kernel_rfl
theorem B19_eq (k : Nat) : B19 k = new T19 fun i0 => ret (.slice (some ⟨i0, 0, 3, 65, 65, true⟩)) := by kernel_rfl
theorem flat3 : ∀ (rows : List (List UInt8 × Int × Int)) (n : Nat) (r : List UInt8 × Int × Int), rows[n]? = some r → ((rows.flatMap cellsOf).drop (n * 3)).take 3 = cellsOf r
  | [], n, r, h => by simp at h
  | x :: rows, 0, r, h => by simp at h; subst h; simp [cellsOf]
  | x :: rows, n + 1, r, h => by
    simp at h
    have := flat3 rows n r h
    rw [List.flatMap_cons, show (n + 1) * 3 = (cellsOf x).length + n * 3 by simp [cellsOf]; omega]
    rw [List.drop_append, List.drop_eq_nil_of_le (by omega), List.nil_append, Nat.add_sub_cancel_left]
    exact this
/-- A call's row, by any number. -/
def rw_ (x : Int) : List UInt8 × Int × Int :=
  match decide (x < 1), decide (x < 65) with
  | false, true => (RW[x.toNat]?).getD ([], 0, 0)
  | _, _ => ([], 0, 0)
theorem F19_pr (k : Nat) (m : Mem) : F19 k [] m = some (.slice (some ⟨m.next, 0, 3, 65, 65, true⟩), m.add (.cells T19)) := by
  show B19 k m = _
  rw [B19_eq]
  unfold new
  rw [T19_one]
  rfl
theorem RW_len : RW.length = 65 := by kernel_rfl
theorem RW_get {x : Int} (h1 : 1 ≤ x) (h2 : x < 65) : RW[x.toNat]? = some (rw_ x) := by
  unfold rw_
  have e1 : decide (x < 1) = false := by simp; omega
  have e2 : decide (x < 65) = true := by simp; omega
  rw [e1, e2]
  simp only []
  rw [List.getElem?_eq_getElem (by rw [RW_len]; omega)]
  rfl
theorem rw_out {x : Int} (h : ¬ (1 ≤ x ∧ x < 65)) : rw_ x = ([], 0, 0) := by
  unfold rw_
  by_cases h1 : x < 1
  · simp [h1]
  · have h2 : ¬ x < 65 := by omega
    simp [h1, h2]
theorem F26_pr (k : Nat) (x : Int) : Pr (F26 k) [I x] (.agg (cellsOf (rw_ x))) := Am.Ends.pr fun m hm => by
  show Am.Ends m (B26 (F19 k) k x) _ m
  unfold B26
  refine .new rfl ?_
  have c0 : ∀ q : Blk, ((m.add (.cells [.str [], I 0, I 0])).add q).cells m.next = some [.str [], I 0, I 0] := fun q => by
    rw [Mem.cells_add, if_neg (by simp), Mem.cells_add, if_pos rfl]
  have hx : Ext m ((m.add (.cells [.str [], I 0, I 0])).add (.cells T19)) := (Ext.add _ _).trans (Ext.add _ _)
  have fin : ∀ l : List AV, l.length = 3 → l.all AV.one = true → Am.Ends m (stN 3 m.next 0 l (ldN 3 m.next 0 fun l3 => ret (.agg l3))) (.agg l) ((m.add (.cells [.str [], I 0, I 0])).add (.cells T19)) := fun l hl h1 => by
    refine .stN (c0 _) hm hl (by simp) h1 ?_
    refine .ldN (l := l) (by rw [Mem.cells_set, if_pos rfl, splice_all (by simp [hl])]) (by omega) ?_
    have : (l.drop 0).take 3 = l := by simp [← hl]
    rw [this]
    exact .ret (hx.set (Nat.le_refl _) _)
  refine .callEq (F19_pr k _) ?_
  unfold dSl
  simp only [slen]
  by_cases h1 : x < 1
  · refine .bcT (by simpa using h1) ?_
    have : rw_ x = ([], 0, 0) := rw_out (by omega)
    rw [this]
    exact fin [.str [], I 0, I 0] rfl rfl
  · refine .bcF (by simpa using h1) ?_
    by_cases h2 : x ≥ 65
    · refine .bcT (by simpa using h2) ?_
      have : rw_ x = ([], 0, 0) := rw_out (by omega)
      rw [this]
      exact fin [.str [], I 0, I 0] rfl rfl
    · refine .bcF (by simp; omega) ?_
      unfold ixS
      refine .bcT (by simp; omega) ?_
      refine .ldN (l := T19) (Mem.cells_add_same _ _) (by rw [T19_len]; simp; omega) ?_
      have := flat3 RW x.toNat _ (RW_get (by omega) (by omega))
      simp only [Nat.zero_add]
      unfold T19
      rw [this]
      exact fin _ rfl rfl
end Go.AmT
