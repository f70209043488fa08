/-
Names are one each; what begins with i is an interrupt's.
-/
import Derived.Test.YtboilkakbgalgaaDoorCallTab
import Derived.Test.YtboilkakbgalgaaDoorAmRow
namespace Go.AmT
set_option linter.unusedVariables false
open Go Go.Am
set_option maxRecDepth 100000

theorem F12_pr (k : Nat) (x : Int) : Pr (F12 k) [I x] (.bool (!((rw_ x).1 == []))) := Ends.pr fun m hm => .call (F26_pr k x) hm fun m1 e1 => .ret e1
theorem F13_pr (k : Nat) (x : Int) : Pr (F13 k) [I x] (I (rw_ x).2.1) := Ends.pr fun m hm => .call (F26_pr k x) hm fun m1 e1 => .ret e1
theorem F14_pr (k : Nat) (x : Int) : Pr (F14 k) [I x] (.str (rw_ x).1) := Ends.pr fun m hm => .call (F26_pr k x) hm fun m1 e1 => .ret e1
theorem F15_pr (k : Nat) (x a b c d : Int) : Pr (F15 k) [.agg [I x, I a, I b, I c, I d]] (I (rw_ x).2.2) := Ends.pr fun m hm => by
  show Am.Ends m (B15 (F26 k) k [I x, I a, I b, I c, I d]) _ m
  unfold B15 lenIs
  refine .bcT rfl (.new rfl (.ld (Mem.cells_add_same _ _) rfl ?_))
  exact .call (F26_pr k x) ((Ext.add _ _).wf hm) fun m1 e1 => .ret ((Ext.add _ _).trans e1)

theorem all65 (p : Int → Bool) (h : ((List.range 64).all fun n => p ((n : Int) + 1)) = true) (x : Int) (h1 : 1 ≤ x) (h2 : x < 65) : p x = true := by
  have := List.all_eq_true.1 h (x - 1).toNat (by simp; omega)
  rwa [show (((x - 1).toNat : Nat) : Int) + 1 = x by omega] at this
theorem name_ne {x : Int} (h1 : 1 ≤ x) (h2 : x < 65) : ((rw_ x).1 == []) = false := by
  have := all65 (fun x => !((rw_ x).1 == [])) (by kernel_rfl) x h1 h2
  simpa using this
theorem known_iff (x : Int) : (!((rw_ x).1 == [])) = decide (1 ≤ x ∧ x < 65) := by
  by_cases h : 1 ≤ x ∧ x < 65
  · rw [name_ne h.1 h.2]; simp [h]
  · rw [rw_out h]; simp [h]
theorem name_once {x y : Int} (h1 : 1 ≤ x) (h2 : x < 65) (h3 : 1 ≤ y) (h4 : y < 65) (hne : y ≠ x) : ((rw_ y).1 == (rw_ x).1) = false := by
  have := all65 (fun x => (List.range 64).all fun n => ((n : Int) + 1 == x) || !((rw_ ((n : Int) + 1)).1 == (rw_ x).1)) (by kernel_rfl) x h1 h2
  have := List.all_eq_true.1 this (y - 1).toNat (by simp; omega)
  rw [show (((y - 1).toNat : Nat) : Int) + 1 = y by omega] at this
  simpa [hne] using this
theorem name_kind {x : Int} (h1 : 1 ≤ x) (h2 : x < 65) : (((rw_ x).2.2 == 3) == ((rw_ x).1.head? == some 105)) = true :=
  all65 (fun x => ((rw_ x).2.2 == 3) == ((rw_ x).1.head? == some 105)) (by kernel_rfl) x h1 h2

def fstB (r : Option (AV × Mem)) : Bool :=
  match r with
  | some (.bool true, m) => decide (m.lo ≤ m.next)
  | _ => false
theorem known00 : fstB (F8 100 [] ⟨0, 0, 0, .nil⟩) = true := by kernel_rfl
theorem known_some : ∃ m1, F8 100 [] ⟨0, 0, 0, .nil⟩ = some (.bool true, m1) ∧ m1.lo ≤ m1.next := by
  have h := known00
  unfold fstB at h
  split at h
  · rename_i m he
    exact ⟨m, he, by simpa using h⟩
  · cases h

theorem names_end (x : Int) (m : Mem) (hm : m.lo ≤ m.next) (b0 : Bool) (hb : b0 = true) : Am.Ends m (bc (!b0) (ret (.bool false)) (call (F12 100) [I x] (dB fun b1 => bc (!b1) (call (F14 100) [I x] (dS fun s0 => bc ((s0 : List UInt8) == []) (call (F13 100) [I x] (dI .i64 fun x1 => ret (.bool (x1 == 0)))) (ret (.bool false)))) (call (F14 100) [I x] (dS fun s1 => jn (u0 (bc (!((s1 : List UInt8) == [])) (ixStr s1 0 fun x2 => call (F15 100) [.agg [I x, I 0, I 0, I 0, I 0]] (dI .i64 fun x3 => ret (.bool ((x3 == 3) == (x2 == 105))))) (ret (.bool false)))) fun j0 => lp 100 [I 1] fun w0 f0 => (un fun y0 z0 => (dI .i64 fun x4 => (u0 (bc (decide (x4 ≤ 64)) (jn (u0 (f0 [I (IntKind.wrap .i64 (x4 + 1))])) fun j1 => bc (x4 != x) (call (F14 100) [I x4] (dS fun s2 => bc ((s2 : List UInt8) == s1) (ret (.bool false)) (j1 []))) (j1 [])) (j0 []))) z0) y0) w0))))) (.bool true) m := by
  subst hb
  refine .bcF rfl (.call (F12_pr _ x) hm fun m1 e1 => ?_)
  show Am.Ends m (bc (!(!((rw_ x).1 == []))) _ _) _ m1
  by_cases h : 1 ≤ x ∧ x < 65
  · refine .bcF (by rw [known_iff]; simp [h]) (.call (F14_pr _ x) (e1.wf hm) fun m2 e2 => ?_)
    have e12 := e1.trans e2
    show Am.Ends m (jn _ _) _ m2
    -- the rounds
    have loop : ∀ (d : Nat) (i : Int) (k : Nat) (m3 : Mem), 1 ≤ i → i ≤ 65 → 65 - i = d → d < k → Ext m m3 → Am.Ends m (lp k [I i] fun w0 f0 => (un fun y0 z0 => (dI .i64 fun x4 => (u0 (bc (decide (x4 ≤ 64)) (jn (u0 (f0 [I (IntKind.wrap .i64 (x4 + 1))])) fun j1 => bc (x4 != x) (call (F14 100) [I x4] (dS fun s2 => bc ((s2 : List UInt8) == (rw_ x).1) (ret (.bool false)) (j1 []))) (j1 [])) ((u0 (bc (!(((rw_ x).1 : List UInt8) == [])) (ixStr (rw_ x).1 0 fun x2 => call (F15 100) [.agg [I x, I 0, I 0, I 0, I 0]] (dI .i64 fun x3 => ret (.bool ((x3 == 3) == (x2 == 105))))) (ret (.bool false)))) []))) z0) y0) w0) (.bool true) m3 := by
      intro d
      induction d with
      | zero =>
        intro i k m3 h1 h2 hd hk e3
        obtain ⟨k, rfl⟩ : ∃ n, k = n + 1 := ⟨k - 1, by omega⟩
        show Am.Ends m (bc (decide (i ≤ 64)) _ _) _ m3
        refine .bcF (by simp; omega) (.bcT (by rw [name_ne h.1 h.2]; rfl) ?_)
        have hk := name_kind h.1 h.2
        have hn := name_ne h.1 h.2
        cases hs : (rw_ x).1 with
        | nil => rw [hs] at hn; cases hn
        | cons b r =>
          rw [hs] at hk
          show Am.Ends m (call (F15 100) _ _) _ m3
          refine .call (F15_pr _ x 0 0 0 0) (e3.wf hm) fun m4 e4 => ?_
          have hb : ((rw_ x).2.2 == 3) = (((b.toNat : Int)) == 105) := by
            have : ((rw_ x).2.2 == 3) = (b == 105) := by simpa using hk
            rw [this]
            have h5 : (b = 105) ↔ ((b.toNat : Int) = 105) := by
              constructor
              · rintro rfl; rfl
              · intro h; apply UInt8.toNat_inj.1; show b.toNat = 105; omega
            by_cases hbb : b = 105
            · rw [hbb]; rfl
            · have : ¬ ((b.toNat : Int) = 105) := fun h => hbb (h5.2 h)
              rw [beq_eq_false_iff_ne.2 hbb, beq_eq_false_iff_ne.2 this]
          have : (AV.bool true) = .bool (((rw_ x).2.2 == 3) == (((b.toNat : Int)) == 105)) := by rw [hb]; simp
          rw [this]
          exact .ret (e3.trans e4)
      | succ d ih =>
        intro i k m3 h1 h2 hd hk e3
        obtain ⟨k, rfl⟩ : ∃ n, k = n + 1 := ⟨k - 1, by omega⟩
        show Am.Ends m (bc (decide (i ≤ 64)) (jn (u0 (lp k [I (IntKind.wrap .i64 (i + 1))] _)) _) _) _ m3
        refine .bcT (by simp; omega) ?_
        have hgo : ∀ m4, Ext m m4 → Am.Ends m (lp k [I (IntKind.wrap .i64 (i + 1))] fun w0 f0 => (un fun y0 z0 => (dI .i64 fun x4 => (u0 (bc (decide (x4 ≤ 64)) (jn (u0 (f0 [I (IntKind.wrap .i64 (x4 + 1))])) fun j1 => bc (x4 != x) (call (F14 100) [I x4] (dS fun s2 => bc ((s2 : List UInt8) == (rw_ x).1) (ret (.bool false)) (j1 []))) (j1 [])) ((u0 (bc (!(((rw_ x).1 : List UInt8) == [])) (ixStr (rw_ x).1 0 fun x2 => call (F15 100) [.agg [I x, I 0, I 0, I 0, I 0]] (dI .i64 fun x3 => ret (.bool ((x3 == 3) == (x2 == 105))))) (ret (.bool false)))) []))) z0) y0) w0) (.bool true) m4 := fun m4 e4 => by
          rw [wrap_in (i + 1) (by omega) (by omega)]
          exact ih (i + 1) k m4 (by omega) (by omega) (by omega) (by omega) e4
        show Am.Ends m (bc (i != x) _ _) _ m3
        by_cases hix : i = x
        · have hb : (i != x) = false := by simp [hix]
          exact .bcF hb (hgo m3 e3)
        · have hb : (i != x) = true := by simp [hix]
          refine .bcT hb (.call (F14_pr _ i) (e3.wf hm) fun m4 e4 => ?_)
          show Am.Ends m (bc ((rw_ i).1 == (rw_ x).1) _ _) _ m4
          exact .bcF (name_once h.1 h.2 h1 (by omega) hix) (hgo m4 (e3.trans e4))
    exact loop 64 1 100 m2 (by omega) (by omega) (by omega) (by omega) e12
  · refine .bcT (by rw [known_iff]; simp [h]) (.call (F14_pr _ x) (e1.wf hm) fun m2 e2 => ?_)
    rw [rw_out h]
    show Am.Ends m (bc (([] : List UInt8) == []) (call (F13 100) [I x] (dI .i64 fun x1 => ret (.bool (x1 == 0)))) (ret (.bool false))) _ m2
    refine .bcT rfl (.call (F13_pr _ x) ((e1.trans e2).wf hm) fun m3 e3 => ?_)
    rw [rw_out h]
    exact .ret ((e1.trans e2).trans e3)

theorem pureCallNames (x : Int) (hx : (Lit.int .i64 x).wf = true) : ∃ k m', F5 k [.int .i64 x] m00 = some (.bool true, m') := by
  obtain ⟨m1, h1, h2⟩ := known_some
  obtain ⟨m', h3, _⟩ := names_end x m1 h2 true rfl
  refine ⟨100, m', ?_⟩
  show B5 (F8 100) (F12 100) (F14 100) (F13 100) (F15 100) 100 x m00 = _
  unfold B5 call
  have h1 : F8 100 [] m00 = some (.bool true, m1) := h1
  rw [h1]
  exact h3
end Go.AmT
