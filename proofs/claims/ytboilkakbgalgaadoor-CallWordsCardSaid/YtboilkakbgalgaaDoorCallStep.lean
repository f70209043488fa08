/-
More steps of a reading: a letter, a cut, a slice that grows, a slice that is read.
-/
import Derived.Test.YtboilkakbgalgaaDoorAmPure
namespace Go.Am
open Go
set_option linter.unusedVariables false

section
variable {m0 m : Mem} {v : AV}
theorem ixStr_eq {s : List UInt8} {x : Int} (K : Int → C) (i : Nat) (hx : x = i) (hi : i < s.length) : ixStr s x K = K (s[i].toNat : Int) := by
  subst hx
  have e : s[((i : Int)).toNat]? = some s[i] := by simp [hi]
  unfold ixStr
  have e0 : decide (0 ≤ (i : Int)) = true := by simp
  rw [e0, e]
theorem cutStr_eq {s : List UInt8} {x y : Int} (K : List UInt8 → C) (a b : Nat) (hx : x = a) (hy : y = b) (hab : a ≤ b) (hb : b ≤ s.length) : cutStr s (some x) (some y) K = K ((s.take b).drop a) := by
  subst hx; subst hy
  have e : cutBounds s.length s.length (some (a : Int)) (some (b : Int)) none = some (a, b, s.length) := by
    unfold cutBounds
    simp [hb, hab]
  unfold cutStr
  rw [e]
theorem Ends_ixStr {s : List UInt8} {x : Int} {K : Int → C} (i : Nat) (hx : x = i) (hi : i < s.length) (h : Ends m0 (K (s[i].toNat : Int)) v m) : Ends m0 (ixStr s x K) v m := by
  subst hx
  have e : s[((i : Int)).toNat]? = some s[i] := by simp [hi]
  unfold ixStr
  have e0 : decide (0 ≤ (i : Int)) = true := by simp
  rw [e0, e]
  exact h
theorem Ends_cutStr {s : List UInt8} {x y : Int} {K : List UInt8 → C} (a b : Nat) (hx : x = a) (hy : y = b) (hab : a ≤ b) (hb : b ≤ s.length) (h : Ends m0 (K ((s.take b).drop a)) v m) : Ends m0 (cutStr s (some x) (some y) K) v m := by
  subst hx; subst hy
  have e : cutBounds s.length s.length (some (a : Int)) (some (b : Int)) none = some (a, b, s.length) := by
    unfold cutBounds
    simp [hb, hab]
  unfold cutStr
  rw [e]
  exact h
theorem Ends_cutFrom {s : List UInt8} {x : Int} {K : List UInt8 → C} (a : Nat) (hx : x = a) (hb : a ≤ s.length) (h : Ends m0 (K (s.drop a)) v m) : Ends m0 (cutStr s (some x) none K) v m := by
  subst hx
  have e : cutBounds s.length s.length (some (a : Int)) none none = some (a, s.length, s.length) := by
    unfold cutBounds
    simp [hb]
  unfold cutStr
  rw [e]
  simp only [List.take_length]
  exact h
theorem Ends_cutTo {s : List UInt8} {y : Int} {K : List UInt8 → C} (b : Nat) (hy : y = b) (hb : b ≤ s.length) (h : Ends m0 (K (s.take b)) v m) : Ends m0 (cutStr s none (some y) K) v m := by
  subst hy
  have e : cutBounds s.length s.length none (some (b : Int)) none = some (0, b, s.length) := by
    unfold cutBounds
    simp [hb]
  unfold cutStr
  rw [e]
  exact h

theorem Ends_dSl {q : Option SV} {K : Option SV → C} (h : Ends m0 (K q) v m) : Ends m0 (dSl K (.slice q)) v m := h
theorem Ends_dS {q : List UInt8} {K : List UInt8 → C} (h : Ends m0 (K q) v m) : Ends m0 (dS K (.str q)) v m := h
theorem Ends_dI {k : IntKind} {n : Int} {K : Int → C} (h : Ends m0 (K n) v m) : Ends m0 (dI k K (.int k n)) v m := by
  unfold dI
  exact .bcT (decide_eq_true rfl) h
/-- A slice that began as nil and grew by one and one. -/
def Row1 (mb m : Mem) (q : Option SV) (xs : List AV) : Prop :=
  q = none ∧ xs = [] ∨ ∃ i, q = some ⟨i, 0, 1, xs.length, xs.length, false⟩ ∧ m.cells i = some xs ∧ mb.next ≤ i ∧ i < m.next
theorem Row1.nil (mb m : Mem) : Row1 mb m none [] := .inl ⟨rfl, rfl⟩
theorem Row1.ext {mb m m' : Mem} {q : Option SV} {xs : List AV} (h : Row1 mb m q xs) (e : Ext m m') : Row1 mb m' q xs := by
  rcases h with h | ⟨i, h1, h2, h3, h4⟩
  · exact .inl h
  · exact .inr ⟨i, h1, by rw [e.cells h4]; exact h2, h3, Nat.lt_of_lt_of_le h4 e.next⟩
theorem Row1.row {mb m : Mem} {q : Option SV} {xs : List AV} (h : Row1 mb m q xs) : m.row q 1 xs.length = some xs := by
  rcases h with ⟨rfl, rfl⟩ | ⟨i, rfl, h2, h3, h4⟩
  · rfl
  · unfold Mem.row
    simp [h2]
theorem Row1.slen {mb m : Mem} {q : Option SV} {xs : List AV} (h : Row1 mb m q xs) : Am.slen q = xs.length := by
  rcases h with ⟨rfl, rfl⟩ | ⟨i, rfl, h2, h3, h4⟩ <;> rfl
theorem push_eq {mb : Mem} {x : AV} {bytes : Nat} {q : Option SV} {xs : List AV} (K : Option SV → C) (hq : Row1 mb m q xs) (he : Ext mb m) (hw : mb.lo ≤ mb.next) (h1 : x.one = true) (hl : xs.length < 1000000) (hb0 : 0 < bytes) (hb1 : bytes ≤ 65536) :
    ∃ q' m', Row1 mb m' q' (xs ++ [x]) ∧ Ext mb m' ∧ (new [x] fun i => app 1 bytes q (some ⟨i, 0, 1, 1, 1, true⟩) K) m = K q' m' := by
  have e0 : (new [x] fun i => app 1 bytes q (some ⟨i, 0, 1, 1, 1, true⟩) K) m = app 1 bytes q (some ⟨m.next, 0, 1, 1, 1, true⟩) K (m.add (.cells [x])) := by
    unfold Am.new
    have : [x].all AV.one = true := by simp [h1]
    rw [this]
  rw [e0]
  have e1 := he.trans (Ext.add m (.cells [x]))
  have hrow : (m.add (.cells [x])).row (some ⟨m.next, 0, 1, 1, 1, true⟩) 1 (Am.slen (some (⟨m.next, 0, 1, 1, 1, true⟩ : SV))).toNat = some [x] := by
    unfold Mem.row
    simp [Mem.cells_add_same, Am.slen]
  have happ : app 1 bytes q (some ⟨m.next, 0, 1, 1, 1, true⟩) K (m.add (.cells [x])) = appL 1 bytes q 1 [x] K (m.add (.cells [x])) := by
    unfold app
    rw [hrow]
    rfl
  rw [happ]
  rcases hq with ⟨rfl, rfl⟩ | ⟨i, rfl, h2, h3, h4⟩
  · have e : appL 1 bytes none 1 [x] K (m.add (.cells [x])) = K (some ⟨m.next + 1, 0, 1, 1, 1, false⟩) ((m.add (.cells [x])).add (.cells [x])) := by
      unfold appL
      have : (decide ([x].length = (0 + 1) * 1 ∧ 0 + 1 ≤ most ∧ bytes ≤ 65536 ∧ 0 < bytes) && [x].all AV.one) = true := by
        simp [h1, hb0, hb1, most]
      simp only [this]
      rfl
    refine ⟨_, _, (.inr ⟨m.next + 1, rfl, ?_, ?_, ?_⟩), (e1.trans (Ext.add _ _)), e⟩
    · exact Mem.cells_add_same _ _
    · exact Nat.le_succ_of_le he.next
    · exact Nat.lt_succ_self _
  · have hc : (m.add (.cells [x])).cells i = some xs := by rw [Mem.cells_add_ne (Nat.ne_of_lt h4)]; exact h2
    have hlo : (m.add (.cells [x])).lo ≤ i := by
      have : (m.add (.cells [x])).lo = mb.lo := e1.lo
      omega
    have e : appL 1 bytes (some ⟨i, 0, 1, xs.length, xs.length, false⟩) 1 [x] K (m.add (.cells [x])) = K (some ⟨m.next + 1, 0, 1, xs.length + 1, xs.length + 1, false⟩) (((m.add (.cells [x])).kill i).add (.cells (xs ++ [x]))) := by
      unfold appL
      simp only [hc]
      have a1 : (decide (True ∧ [x].length = (0 + 1) * 1 ∧ xs.length + (0 + 1) ≤ most ∧ bytes ≤ 65536 ∧ 0 < bytes ∧ 0 + xs.length * 1 ≤ xs.length) && [x].all AV.one) = true := by
        simp [h1, hb0, hb1, most]; omega
      have a2 : decide (xs.length + (0 + 1) ≤ xs.length) = false := by simp
      simp only [a1, a2, hlo, decide_true]
      have a3 : (xs.drop 0).take (xs.length * 1) ++ [x] = xs ++ [x] := by simp
      rw [a3]
      rfl
    have e2 : Ext mb ((m.add (.cells [x])).kill i) := e1.kill h3
    refine ⟨_, _, (.inr ⟨m.next + 1, by simp, ?_, ?_, ?_⟩), (e2.trans (Ext.add _ _)), e⟩
    · exact Mem.cells_add_same _ _
    · exact Nat.le_succ_of_le he.next
    · exact Nat.lt_succ_self _

theorem Ends_push {mb : Mem} {x : AV} {bytes : Nat} {q : Option SV} {xs : List AV} {K : Option SV → C} (hq : Row1 mb m q xs) (he : Ext mb m) (hw : mb.lo ≤ mb.next) (h1 : x.one = true) (hl : xs.length < 1000000) (hb0 : 0 < bytes) (hb1 : bytes ≤ 65536)
    (h : ∀ q' m', Row1 mb m' q' (xs ++ [x]) → Ext mb m' → Ends m0 (K q') v m') : Ends m0 (new [x] fun i => app 1 bytes q (some ⟨i, 0, 1, 1, 1, true⟩) K) v m := by
  obtain ⟨q', m', h2, h3, h4⟩ := push_eq (bytes := bytes) K hq he hw h1 hl hb0 hb1
  obtain ⟨m2, h5, h6⟩ := h q' m' h2 h3
  exact ⟨m2, h4.trans h5, h6⟩

/-- A slice of single cells, as it is read. -/
def Sv (m : Mem) (q : Option SV) (xs : List AV) : Prop :=
  ∃ i o c e l, q = some ⟨i, o, 1, xs.length, c, e⟩ ∧ xs.length ≤ c ∧ m.cells i = some l ∧ (l.drop o).take xs.length = xs ∧ i < m.next
theorem Sv.ext {m m' : Mem} {q : Option SV} {xs : List AV} (h : Sv m q xs) (e : Ext m m') : Sv m' q xs := by
  obtain ⟨i, o, c, b, l, h1, hc, h2, h3, h4⟩ := h
  exact ⟨i, o, c, b, l, h1, hc, by rw [e.cells h4]; exact h2, h3, Nat.lt_of_lt_of_le h4 e.next⟩
theorem Sv.len {m : Mem} {q : Option SV} {xs : List AV} (h : Sv m q xs) : Am.slen q = xs.length := by
  obtain ⟨i, o, c, b, l, rfl, _⟩ := h
  rfl
theorem Ends_ixld {q : Option SV} {xs : List AV} {x : Int} {K : AV → C} (hq : Sv m q xs) (n : Nat) (hx : x = n) (hn : n < xs.length) (h : Ends m0 (K xs[n]) v m) : Ends m0 (ixS 1 q x fun i o => ld i o K) v m := by
  subst hx
  obtain ⟨i, o, c, b, l, rfl, hc, h2, h3, h4⟩ := hq
  unfold ixS
  refine .bcT (by simp; omega) (.ld h2 (x := xs[n]) ?_ h)
  have : ((l.drop o).take xs.length)[n]? = some xs[n] := by rw [h3]; simp [hn]
  rw [List.getElem?_take, if_pos hn, List.getElem?_drop] at this
  simpa using this
theorem Ends_cut1 {q : Option SV} {x : AV} {xs : List AV} {K : Option SV → C} (hq : Sv m q (x :: xs)) (h : ∀ q', Sv m q' xs → Ends m0 (K q') v m) : Ends m0 (cut 1 q (some 1) none none K) v m := by
  obtain ⟨i, o, c, b, l, rfl, hc, h2, h3, h4⟩ := hq
  simp only [List.length_cons] at hc
  have e : cutBounds (x :: xs).length c (some 1) none none = some (1, xs.length + 1, c) := by
    unfold cutBounds
    simp
    omega
  unfold cut
  refine .bcT (by simp) ?_
  rw [e]
  refine h _ ⟨i, o + 1, c - 1, b, l, by simp, by omega, h2, ?_, h4⟩
  have h5 : ((l.drop o).take (xs.length + 1)).drop 1 = xs := by
    have := h3
    simp only [List.length_cons] at this
    rw [this]; rfl
  rw [← h5, List.drop_take, List.drop_drop]
  simp
theorem Row1.sv {mb m : Mem} {q : Option SV} {xs : List AV} (h : Row1 mb m q xs) (hne : xs ≠ []) : Sv m q xs := by
  rcases h with ⟨rfl, rfl⟩ | ⟨i, rfl, h2, h3, h4⟩
  · exact absurd rfl hne
  · exact ⟨i, 0, _, _, xs, rfl, Nat.le_refl _, h2, by simp, h4⟩
theorem Ext.add2 {m0 m : Mem} (h : Ext m0 m) (b : Blk) : Ext m0 (m.add b) := h.trans (Ext.add _ _)
end
end Go.Am
