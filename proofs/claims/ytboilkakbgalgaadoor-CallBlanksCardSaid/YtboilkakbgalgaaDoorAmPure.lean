/-
Plain laws of the abstract machine: what a function leaves as it was; steps of a reading.
-/
import Derived.Test.YtboilkakbgalgaaDoorAmLeaf
namespace Go.Am
open Go

/-- Nothing that was there has turned. -/
structure Ext (m m' : Mem) : Prop where
  lo : m'.lo = m.lo
  next : m.next ≤ m'.next
  keep : ∀ i, i < m.next → m'.get i = m.get i
theorem Ext.refl (m : Mem) : Ext m m := ⟨rfl, Nat.le_refl _, fun _ _ => rfl⟩
theorem Ext.trans {a b c : Mem} (h : Ext a b) (k : Ext b c) : Ext a c := ⟨k.lo.trans h.lo, Nat.le_trans h.next k.next, fun i hi => (k.keep i (Nat.lt_of_lt_of_le hi h.next)).trans (h.keep i hi)⟩
theorem Ext.cells {m m' : Mem} (h : Ext m m') {i : Nat} (hi : i < m.next) : m'.cells i = m.cells i := by unfold Mem.cells; rw [h.keep i hi]
theorem Ext.wf {m m' : Mem} (h : Ext m m') (hw : m.lo ≤ m.next) : m'.lo ≤ m'.next := by rw [h.lo]; exact Nat.le_trans hw h.next
theorem Ext.add (m : Mem) (b : Blk) : Ext m (m.add b) := ⟨rfl, Nat.le_succ _, fun i hi => by rw [Mem.get_add, if_neg (Nat.ne_of_lt hi)]⟩
theorem Ext.set {m m' : Mem} (h : Ext m m') {i : Nat} (hi : m.next ≤ i) (b : Blk) : Ext m (m'.set i b) := ⟨h.lo, h.next, fun j hj => by rw [Mem.get_set, if_neg (by omega)]; exact h.keep j hj⟩
theorem Ext.kill {m m' : Mem} (h : Ext m m') {i : Nat} (hi : m.next ≤ i) : Ext m (m'.kill i) := ⟨h.lo, h.next, fun j hj => by rw [Mem.get_kill, if_neg (by omega)]; exact h.keep j hj⟩
theorem Mem.cells_add (m : Mem) (b : Blk) (j : Nat) : (m.add b).cells j = if j = m.next then (match b with
    | .cells l => some l
    | _ => none) else m.cells j := by
  unfold Mem.cells
  rw [Mem.get_add]
  by_cases h : j = m.next
  · rw [if_pos h, if_pos h]; cases b <;> rfl
  · rw [if_neg h, if_neg h]
theorem Mem.cells_set (m : Mem) (i j : Nat) (b : Blk) : (m.set i b).cells j = if j = i then (match b with
    | .cells l => some l
    | _ => none) else m.cells j := by
  unfold Mem.cells
  rw [Mem.get_set]
  by_cases h : j = i
  · rw [if_pos h, if_pos h]; cases b <;> rfl
  · rw [if_neg h, if_neg h]

/-- A reading ends with a value; what was there at the beginning is as it was. -/
def Ends (m0 : Mem) (c : C) (v : AV) (m : Mem) : Prop := ∃ m', c m = some (v, m') ∧ Ext m0 m'
/-- A function answers a value, wherever it is called. -/
def Pr (F : AFn) (args : List AV) (v : AV) : Prop := ∀ m, m.lo ≤ m.next → ∃ m', F args m = some (v, m') ∧ Ext m m'

section
variable {m0 m : Mem} {v : AV}
theorem Ends.ret (h : Ext m0 m) : Ends m0 (ret v) v m := ⟨m, rfl, h⟩
theorem Ends.call {F : AFn} {args : List AV} {u : AV} {K : AV → C} (hF : Pr F args u) (hw : m.lo ≤ m.next) (h : ∀ m1, Ext m m1 → Ends m0 (K u) v m1) : Ends m0 (call F args K) v m := by
  obtain ⟨m1, h1, h2⟩ := hF m hw
  obtain ⟨m', h3, h4⟩ := h m1 h2
  exact ⟨m', by unfold Am.call; rw [h1]; exact h3, h4⟩
theorem Ends.callEq {F : AFn} {args : List AV} {u : AV} {m1 : Mem} {K : AV → C} (hF : F args m = some (u, m1)) (h : Ends m0 (K u) v m1) : Ends m0 (Am.call F args K) v m := by
  obtain ⟨m', h3, h4⟩ := h
  exact ⟨m', by unfold Am.call; rw [hF]; exact h3, h4⟩
theorem Ends.new {l : List AV} {K : Nat → C} (h1 : l.all AV.one = true) (h : Ends m0 (K m.next) v (m.add (.cells l))) : Ends m0 (new l K) v m := by
  obtain ⟨m', h3, h4⟩ := h
  exact ⟨m', by unfold Am.new; rw [h1]; exact h3, h4⟩
theorem Ends.ld {i o : Nat} {l : List AV} {x : AV} {K : AV → C} (hl : m.cells i = some l) (ho : l[o]? = some x) (h : Ends m0 (K x) v m) : Ends m0 (ld i o K) v m := by
  obtain ⟨m', h3, h4⟩ := h
  exact ⟨m', by unfold Am.ld; rw [hl]; simp only []; rw [ho]; exact h3, h4⟩
theorem Ends.ldN {n i o : Nat} {l : List AV} {K : List AV → C} (hl : m.cells i = some l) (ho : o + n ≤ l.length) (h : Ends m0 (K ((l.drop o).take n)) v m) : Ends m0 (ldN n i o K) v m := by
  obtain ⟨m', h3, h4⟩ := h
  exact ⟨m', by unfold Am.ldN; rw [hl]; simp only [ho, decide_true]; exact h3, h4⟩
theorem Ends.stN {n i o : Nat} {l new : List AV} {K : C} (hl : m.cells i = some l) (hi : m.lo ≤ i) (hn : new.length = n) (ho : o + n ≤ l.length) (h1 : new.all AV.one = true)
    (h : Ends m0 K v (m.set i (.cells (splice l o new)))) : Ends m0 (stN n i o new K) v m := by
  obtain ⟨m', h3, h4⟩ := h
  refine ⟨m', ?_, h4⟩
  unfold Am.stN
  rw [hl]
  simp only []
  rw [h1]
  simp only [hi, hn, ho, and_self, decide_true, Bool.and_self]
  exact h3
theorem Ends.st {i o : Nat} {l : List AV} {x : AV} {K : C} (hl : m.cells i = some l) (hi : m.lo ≤ i) (ho : o < l.length) (h1 : x.one = true)
    (h : Ends m0 K v (m.set i (.cells (l.set o x)))) : Ends m0 (st i o x K) v m := by
  obtain ⟨m', h3, h4⟩ := h
  refine ⟨m', ?_, h4⟩
  unfold Am.st
  rw [hl]
  simp only []
  rw [h1]
  simp only [hi, ho, and_self, decide_true, Bool.and_self]
  exact h3
theorem Ends.pr {F : AFn} {args : List AV} (h : ∀ m, m.lo ≤ m.next → Ends m (F args) v m) : Pr F args v := fun m hm => h m hm
theorem Ends.is {c d : C} (h : Ends m0 d v m) (e : c = d) : Ends m0 c v m := e ▸ h
theorem splice_all {l new : List AV} (h : l.length = new.length) : splice l 0 new = new := by
  unfold splice; simp [← h]
end
theorem Ends.bcT {m0 m : Mem} {v : AV} {b : Bool} {x y : C} (hb : b = true) (h : Ends m0 x v m) : Ends m0 (bc b x y) v m := by subst hb; exact h
theorem Ends.bcF {m0 m : Mem} {v : AV} {b : Bool} {x y : C} (hb : b = false) (h : Ends m0 y v m) : Ends m0 (bc b x y) v m := by subst hb; exact h
theorem Ends.bcI {m0 m : Mem} {v : AV} {b : Bool} {x y : C} (h1 : b = true → Ends m0 x v m) (h2 : b = false → Ends m0 y v m) : Ends m0 (bc b x y) v m := by
  cases b
  · exact h2 rfl
  · exact h1 rfl
theorem Mem.cells_add_same (m : Mem) (l : List AV) : (m.add (.cells l)).cells m.next = some l := by rw [Mem.cells_add, if_pos rfl]
theorem Mem.cells_add_ne {m : Mem} {b : Blk} {j : Nat} (h : j ≠ m.next) : (m.add b).cells j = m.cells j := by rw [Mem.cells_add, if_neg h]
theorem Mem.cells_set_same (m : Mem) (i : Nat) (l : List AV) : (m.set i (.cells l)).cells i = some l := by rw [Mem.cells_set, if_pos rfl]
theorem Mem.cells_set_ne {m : Mem} {i j : Nat} {b : Blk} (h : j ≠ i) : (m.set i b).cells j = m.cells j := by rw [Mem.cells_set, if_neg h]
theorem wrap_in (n : Int) (h0 : -9223372036854775808 ≤ n) (h1 : n ≤ 9223372036854775807) : IntKind.wrap .i64 n = n := by
  have h := IntKind.wrap_i64 n
  rw [h]
  omega
end Go.Am
