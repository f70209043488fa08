/-
The calls are known, wherever it is asked.
-/
import Derived.Test.YtboilkakbgalgaaDoorCallText
namespace Go.AmT
open Go Go.Am
set_option maxRecDepth 100000
set_option linter.unusedVariables false

section
variable {m0 m : Mem} {v : AV}
theorem Ends_box {n : Nat} {z l : List AV} {K : Nat → C} (hz : z.all AV.one = true) (hzl : z.length = n) (hl : l.length = n) (h1 : l.all AV.one = true) (hlo : m.lo ≤ m.next)
    (h : ∀ m1, Ext m m1 → m1.cells m.next = some l → m.next < m1.next → Am.Ends m0 (K m.next) v m1) : Am.Ends m0 (new z fun i => stN n i 0 l (K i)) v m := by
  refine .new hz (.stN (l := z) (Mem.cells_add_same _ _) hlo hl (by omega) h1 ?_)
  rw [splice_all (by omega)]
  exact h _ ((Ext.add _ _).set (Nat.le_refl _) _) (Mem.cells_set_same _ _ _) (Nat.lt_succ_self _)
theorem Ends_d2A {n : Nat} {l : List AV} {x : Int} {K : List AV → Int → C} (hl : l.length = n) (h : Am.Ends m0 (K l x) v m) : Am.Ends m0 (d2 (fun y0 y1 => dA n (fun l0 => dI .i64 (fun x0 => K l0 x0) y1) y0) (.tup [.agg l, I x])) v m := by
  show Am.Ends m0 (bc (decide (l.length = n)) (K l x) fail) v m
  exact .bcT (decide_eq_true hl) h
theorem Ends_d3A {n : Nat} {l : List AV} {x y : Int} {K : Int → List AV → Int → C} (hl : l.length = n) (h : Am.Ends m0 (K x l y) v m) : Am.Ends m0 (d3 (fun y2 y3 y4 => dI .i64 (fun x1 => dA n (fun l1 => dI .i64 (fun x2 => K x1 l1 x2) y4) y3) y2) (.tup [I x, .agg l, I y])) v m := by
  show Am.Ends m0 (bc (decide (l.length = n)) (K x l y) fail) v m
  exact .bcT (decide_eq_true hl) h
theorem Ends_dA {n : Nat} {l : List AV} {K : List AV → C} (hl : l.length = n) (h : Am.Ends m0 (K l) v m) : Am.Ends m0 (dA n K (.agg l)) v m := by
  show Am.Ends m0 (bc (decide (l.length = n)) (K l) fail) v m
  exact .bcT (decide_eq_true hl) h
theorem Ends_dB {b : Bool} {K : Bool → C} (h : Am.Ends m0 (K b) v m) : Am.Ends m0 (dB K (.bool b)) v m := h
end

theorem p1 : parseR [116, 119, 97, 105, 95, 115, 101, 109, 32, 49, 32, 45, 49] = (27, [1, -1, 0, 0], 0) := by kernel_rfl
theorem p2 : parseR [110, 111, 95, 115, 117, 99, 104, 32, 49] = (0, [0, 0, 0, 0], -10) := by kernel_rfl
theorem p3 : parseR [119, 97, 105, 95, 115, 101, 109] = (0, [0, 0, 0, 0], -17) := by kernel_rfl
theorem p4 : textR 27 [1, -1, 0, 0] = [116, 119, 97, 105, 95, 115, 101, 109, 32, 49, 32, 45, 49] := by kernel_rfl
theorem p5 : rw_ 27 = ([116, 119, 97, 105, 95, 115, 101, 109], 2, 2) := by kernel_rfl
theorem F8_pr (k : Nat) (hk : 1000 ≤ k) : Pr (F8 k) [] (.bool true) := Am.Ends.pr fun m hm => by
  show Am.Ends m (B8 (F9 k) (F17 k) (F11 k) (F14 k) (F13 k) (F15 k) (F12 k) k) _ m
  unfold B8
  refine .call (F9_pr k hk _ (by decide)) hm fun m1 e1 => ?_
  rw [p1]
  refine Ends_d2A rfl (Ends_box rfl rfl rfl rfl (e1.wf hm) fun m2 e2 c2 n2 => ?_)
  have x2 := e1.trans e2
  refine .call (F9_pr k hk _ (by decide)) (x2.wf hm) fun m3 e3 => ?_
  rw [p2]
  refine Ends_d2A rfl (Ends_box rfl rfl rfl rfl ((x2.trans e3).wf hm) fun m4 e4 c4 n4 => ?_)
  have x4 := (x2.trans e3).trans e4
  refine .call (F9_pr k hk _ (by decide)) (x4.wf hm) fun m5 e5 => ?_
  rw [p3]
  refine Ends_d2A rfl (Ends_box rfl rfl rfl rfl ((x4.trans e5).wf hm) fun m6 e6 c6 n6 => ?_)
  have x6 := (x4.trans e5).trans e6
  refine .new rfl ?_
  have e7 : Ext m6 (m6.add (.cells [I 1, I (-1)])) := Ext.add _ _
  have c7 : (m6.add (.cells [I 1, I (-1)])).cells m6.next = some [I 1, I (-1)] := Mem.cells_add_same _ _
  have n7 : m6.next < (m6.add (.cells [I 1, I (-1)])).next := Nat.lt_succ_self _
  generalize (m6.add (.cells [I 1, I (-1)])) = m7 at e7 c7 n7 ⊢
  have x7 := x6.trans e7
  obtain ⟨m8, h8, e8⟩ := F17_ends k 27 (some ⟨m6.next, 0, 1, 2, 2, true⟩) [1, -1] m7 (x7.wf hm) rfl (by decide) fun m' e => by
    unfold Mem.row
    simp only [e.cells n7, c7]
    rfl
  refine .callEq h8 ?_
  have x8 := x7.trans e8
  refine Ends_dA rfl (Ends_box rfl rfl rfl rfl (x8.wf hm) fun m9 e9 c9 n9 => ?_)
  have x9 := x8.trans e9
  have c0 : m9.cells m1.next = some [I 27, I 1, I (-1), I 0, I 0] := by
    have : Ext m2 m9 := ((((e3.trans e4).trans (e5.trans e6)).trans e7).trans e8).trans e9
    rw [this.cells n2]; exact c2
  refine .bcT rfl (.ld c0 rfl (Ends_dI (.bcT rfl ?_)))
  show Am.Ends m (ld m1.next (0 + 1 + 1 * 1) _) _ m9
  refine .ld (x := I (-1)) c0 rfl (Ends_dI (.bcT rfl (.bcT rfl (.bcT rfl (.ld c9 rfl (Ends_dI (.bcT rfl ?_)))))))
  show Am.Ends m (ld m8.next (0 + 1 + 0 * 1) _) _ m9
  refine .ld (x := I 1) c9 rfl (Ends_dI (.bcT rfl (.ldN c0 (by decide) ?_)))
  refine .call (F11_pr k (by omega) 27 [1, -1, 0, 0] (by constructor <;> decide) (by intro a ha; simp at ha; rcases ha with rfl | rfl | rfl <;> (constructor <;> decide)) rfl) (x9.wf hm) fun m10 e10 => Ends_dS ?_
  rw [p4]
  refine .bcT rfl (.call (F14_pr k 27) ((x9.trans e10).wf hm) fun m11 e11 => Ends_dS ?_)
  rw [p5]
  refine .bcT rfl (.call (F13_pr k 27) (((x9.trans e10).trans e11).wf hm) fun m12 e12 => ?_)
  rw [p5]
  have x12 := ((x9.trans e10).trans e11).trans e12
  have c12 : m12.cells m1.next = some [I 27, I 1, I (-1), I 0, I 0] := by
    have : m1.next < m9.next := Nat.lt_of_lt_of_le n2 (((((e3.trans e4).trans (e5.trans e6)).trans e7).trans e8).trans e9).next
    rw [((e10.trans e11).trans e12).cells this]; exact c0
  refine Ends_dI (.bcT rfl (.ldN c12 (by decide) ?_))
  refine .call (F15_pr k 27 1 (-1) 0 0) (x12.wf hm) fun m13 e13 => ?_
  rw [p5]
  refine Ends_dI (.bcT rfl (.call (F12_pr k 64) ((x12.trans e13).wf hm) fun m14 e14 => ?_))
  rw [known_iff]
  refine Ends_dB (.bcT rfl (.call (F12_pr k 65) (((x12.trans e13).trans e14).wf hm) fun m15 e15 => ?_))
  rw [known_iff]
  exact .ret (((x12.trans e13).trans e14).trans e15)

theorem eqInts : ∀ (l : List Int), eqCells (l.map fun _ => false) (l.map I) (l.map I) = some true
  | [] => rfl
  | a :: r => by
    have ih := eqInts r
    simp only [List.map_cons, eqCells]
    first
      | simp [ih]
      | skip
end Go.AmT
