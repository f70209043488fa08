/-
Both parsers answer alike.
-/
import Derived.Test.YtboilkakbgalgaaDoorCallKnown
namespace Go.AmT
open Go Go.Am
set_option maxRecDepth 100000
set_option linter.unusedVariables false

theorem argsR_len (f : Int) (ws : List (List UInt8)) : (argsR f ws).2.1.length = 4 := by
  unfold argsR
  cases numsP ws with
  | none => rfl
  | some vs => exact pad4_len vs
theorem wordsR_len (f : Int) (ws : List (List UInt8)) : (wordsR f ws).2.1.length = 4 := by
  unfold wordsR
  split
  · rfl
  · split
    · rfl
    · exact argsR_len f ws
theorem parseR_len (s : List UInt8) : (parseR s).2.1.length = 4 := by
  unfold parseR
  split
  · rfl
  · exact wordsR_len _ _
theorem Ends_eq4 {m0 m : Mem} {v : AV} {vs : List Int} {K : Bool → C} (hl : vs.length = 4) (h : Am.Ends m0 (K true) v m) : Am.Ends m0 (eqAgg [false, false, false, false] (vs.map I) (vs.map I) K) v m := by
  match vs, hl with
  | [a, b, c, d], _ =>
    have : eqCells [false, false, false, false] ([a, b, c, d].map I) ([a, b, c, d].map I) = some true := by simp [eqCells]
    unfold eqAgg
    rw [this]
    exact h

/-- The two answers are held side by side. -/
theorem same_end {m0 : Mem} {v : AV} (hm0 : m0.lo ≤ m0.next) (k : Nat) (hk : 1000 ≤ k) (s : List UInt8) (hs : s.length ≤ 400) (m : Mem) (hx : Ext m0 m) (fin : Int → Int → Nat → Nat → C)
    (h : ∀ i0 i1 m', Ext m m' → m'.cells i0 = some (I (parseR s).1 :: (parseR s).2.1.map I) → m'.cells i1 = some ((parseR s).2.1.map I) → Am.Ends m0 (bc ((parseR s).2.2 == (parseR s).2.2) (fin (parseR s).2.2 (parseR s).1 i0 i1) (ret (.bool false))) v m') :
    Am.Ends m0 (call (F9 k) [.str s] (d2 fun y0 y1 => (dA 5 fun l0 => (dI .i64 fun x0 => new [I 0, I 0, I 0, I 0, I 0] fun i0 => stN 5 i0 0 l0 (call (F10 k) [.str s] (d3 fun y2 y3 y4 => (dI .i64 fun x1 => (dA 4 fun l1 => (dI .i64 fun x2 => new [I 0, I 0, I 0, I 0] fun i1 => stN 4 i1 0 l1 (bc (x0 == x2) (fin x0 x1 i0 i1) (ret (.bool false)))) y4) y3) y2))) y1) y0)) v m := by
  have hl := parseR_len s
  refine .call (F9_pr k hk s hs) (hx.wf hm0) fun m1 e1 => ?_
  refine Ends_d2A (by simp [hl]) (Ends_box rfl rfl (by simp [hl]) (by simp [AV.one]) ((hx.trans e1).wf hm0) fun m2 e2 c2 n2 => ?_)
  refine .call (F10_pr k hk s hs) (((hx.trans e1).trans e2).wf hm0) fun m3 e3 => ?_
  refine Ends_d3A (by simp [hl]) (Ends_box rfl rfl (by simp [hl]) (by simp [AV.one]) ((((hx.trans e1).trans e2).trans e3).wf hm0) fun m4 e4 c4 n4 => ?_)
  exact h _ _ m4 (((e1.trans e2).trans e3).trans e4) (by rw [(e3.trans e4).cells n2]; exact c2) c4

theorem texts_end (k : Nat) (hk : 1000 ≤ k) (s : List UInt8) (m : Mem) (hm : m.lo ≤ m.next) : Am.Ends m (F3 k [.str s]) (.bool true) m := by
  show Am.Ends m (B3 (F8 k) (F9 k) (F10 k) k s) _ m
  unfold B3
  refine .call (F8_pr k hk) hm fun m1 e1 => Ends_dB (.bcF rfl ?_)
  refine .bcI (fun h => .ret e1) fun h => ?_
  have hs : s.length ≤ 400 := by
    have : ¬ (s.length : Int) > 200 := by simpa using h
    omega
  have hl := parseR_len s
  refine same_end hm k hk s hs m1 e1 (fun x0 x1 i0 i1 => (ld i0 (0 + 0) (dI .i64 fun x3 => bc (x3 == x1) (ldN 4 i0 (0 + 1) fun l2 => ldN 4 i1 0 fun l3 => eqAgg [false, false, false, false] l2 l3 fun b1 => ret (.bool b1)) (ret (.bool false))))) fun i0 i1 m' e c0 c1 => ?_
  refine .bcT (by simp) (.ld c0 rfl (Ends_dI (.bcT (by simp) (.ldN c0 (by simp [hl]) (.ldN c1 (by simp [hl]) ?_)))))
  have t0 : ((I (parseR s).1 :: (parseR s).2.1.map I).drop (0 + 1)).take 4 = (parseR s).2.1.map I := by
    show ((parseR s).2.1.map I).take 4 = _
    exact List.take_of_length_le (by simp [hl])
  have t1 : (((parseR s).2.1.map I).drop 0).take 4 = (parseR s).2.1.map I := by
    rw [List.drop_zero]
    exact List.take_of_length_le (by simp [hl])
  rw [t0, t1]
  exact Ends_eq4 hl (.ret (e1.trans e))
theorem pureCallTexts (s : List UInt8) : ∃ k m', F3 k [.str s] m00 = some (.bool true, m') := by
  obtain ⟨m', h, _⟩ := texts_end 1000 (Nat.le_refl _) s m00 (Nat.le_refl _)
  exact ⟨1000, m', h⟩
end Go.AmT
