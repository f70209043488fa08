/-
What is spelt reads back.
-/
import Derived.Test.YtboilkakbgalgaaDoorCallTexts
namespace Go.AmT
open Go Go.Am
set_option maxRecDepth 100000
set_option linter.unusedVariables false

theorem in64_wf {x : Int} (h : (Lit.int .i64 x).wf = true) : In64 x := by
  have h1 : (decide (IntKind.min .i64 ≤ x) && decide (x ≤ IntKind.max .i64)) = true := h
  simp at h1
  have e1 : IntKind.min .i64 = -9223372036854775808 := by decide
  have e2 : IntKind.max .i64 = 9223372036854775807 := by decide
  rw [e1] at h1
  exact h1
theorem pad_get {args : List Int} (hl : args.length = 4) (a i : Nat) (hi : i < 4) : (pad4 (args.take a))[i]? = some (if i < a then args[i] else 0) := by
  match args, hl with
  | [p, q, r, s], _ =>
    match i, hi with
    | 0, _ => match a with
      | 0 => rfl
      | n + 1 => simp [pad4]
    | 1, _ => match a with
      | 0 => rfl
      | 1 => rfl
      | n + 2 => simp [pad4]
    | 2, _ => match a with
      | 0 => rfl
      | 1 => rfl
      | 2 => rfl
      | n + 3 => simp [pad4]
    | 3, _ => match a with
      | 0 => rfl
      | 1 => rfl
      | 2 => rfl
      | 3 => rfl
      | n + 4 => simp [pad4]

theorem back_loop {m0 : Mem} (hm0 : m0.lo ≤ m0.next) (k0 : Nat) (x : Int) (args : List Int) (i0 i2 : Nat) (hl : args.length = 4) (h0a : 0 ≤ (rw_ x).2.1) :
    ∀ (d i k : Nat) (m : Mem), i + d = 4 → d < k → Ext m0 m → m.cells i0 = some (args.map I) → m.cells i2 = some (I x :: (pad4 (args.take (rw_ x).2.1.toNat)).map I) → i0 < m.next → i2 < m.next →
      Am.Ends m0 (lp k [I i] fun w0 f0 => (un fun y2 z0 => (dI .i64 fun x3 => (u0 (bc (decide (x3 < 4)) (jn (u0 (f0 [I (IntKind.wrap .i64 (x3 + 1))])) fun j1 => call (F13 k0) [I x] (dI .i64 fun x4 => bc (decide (x3 < x4)) (ixA 4 1 i2 (0 + 1) x3 fun i3 o0 => ld i3 o0 (dI .i64 fun x5 => ixA 4 1 i0 0 x3 fun i4 o1 => ld i4 o1 (dI .i64 fun x6 => bc (x5 != x6) (ret (.bool false)) (call (F13 k0) [I x] (dI .i64 fun x7 => bc (decide (x3 ≥ x7)) (ixA 4 1 i2 (0 + 1) x3 fun i5 o2 => ld i5 o2 (dI .i64 fun x8 => bc (x8 != 0) (ret (.bool false)) (j1 []))) (j1 [])))))) (call (F13 k0) [I x] (dI .i64 fun x9 => bc (decide (x3 ≥ x9)) (ixA 4 1 i2 (0 + 1) x3 fun i6 o3 => ld i6 o3 (dI .i64 fun x10 => bc (x10 != 0) (ret (.bool false)) (j1 []))) (j1 []))))) (ret (.bool true)))) z0) y2) w0) (.bool true) m
  | 0, i, k, m, hi, hk, hx, c0, c2, n0, n2 => by
    obtain ⟨k, rfl⟩ : ∃ j, k = j + 1 := ⟨k - 1, by omega⟩
    obtain rfl : i = 4 := by omega
    exact .ret hx
  | d + 1, i, k, m, hi, hk, hx, c0, c2, n0, n2 => by
    obtain ⟨k, rfl⟩ : ∃ j, k = j + 1 := ⟨k - 1, by omega⟩
    have h4 : i < 4 := by omega
    show Am.Ends m0 (bc (decide ((i : Int) < 4)) (call (F13 k0) [I x] _) _) _ m
    refine .bcT (by simp; omega) (.call (F13_pr k0 x) (hx.wf hm0) fun m1 e1 => Ends_dI ?_)
    have ew : IntKind.wrap .i64 ((i : Int) + 1) = ((i + 1 : Nat) : Int) := wrap_in _ (by omega) (by omega)
    have hg := pad_get hl (rw_ x).2.1.toNat i h4
    have hg2 : (I x :: (pad4 (args.take (rw_ x).2.1.toNat)).map I)[0 + 1 + i * 1]? = some (I (if i < (rw_ x).2.1.toNat then args[i] else 0)) := by
      rw [show 0 + 1 + i * 1 = i + 1 by omega, List.getElem?_cons_succ, List.getElem?_map, hg]; rfl
    have hg0 : (args.map I)[0 + i * 1]? = some (I args[i]) := by
      rw [show 0 + i * 1 = i by omega, List.getElem?_map, List.getElem?_eq_getElem (by omega)]; rfl
    have go : ∀ m', Ext m m' → Am.Ends m0 (lp k [I (IntKind.wrap .i64 ((i : Int) + 1))] fun w0 f0 => (un fun y2 z0 => (dI .i64 fun x3 => (u0 (bc (decide (x3 < 4)) (jn (u0 (f0 [I (IntKind.wrap .i64 (x3 + 1))])) fun j1 => call (F13 k0) [I x] (dI .i64 fun x4 => bc (decide (x3 < x4)) (ixA 4 1 i2 (0 + 1) x3 fun i3 o0 => ld i3 o0 (dI .i64 fun x5 => ixA 4 1 i0 0 x3 fun i4 o1 => ld i4 o1 (dI .i64 fun x6 => bc (x5 != x6) (ret (.bool false)) (call (F13 k0) [I x] (dI .i64 fun x7 => bc (decide (x3 ≥ x7)) (ixA 4 1 i2 (0 + 1) x3 fun i5 o2 => ld i5 o2 (dI .i64 fun x8 => bc (x8 != 0) (ret (.bool false)) (j1 []))) (j1 [])))))) (call (F13 k0) [I x] (dI .i64 fun x9 => bc (decide (x3 ≥ x9)) (ixA 4 1 i2 (0 + 1) x3 fun i6 o3 => ld i6 o3 (dI .i64 fun x10 => bc (x10 != 0) (ret (.bool false)) (j1 []))) (j1 []))))) (ret (.bool true)))) z0) y2) w0) (.bool true) m' := fun m' e => by
      rw [ew]
      exact back_loop hm0 k0 x args i0 i2 hl h0a d (i + 1) k m' (by omega) (by omega) (hx.trans e) (by rw [e.cells n0]; exact c0) (by rw [e.cells n2]; exact c2) (Nat.lt_of_lt_of_le n0 e.next) (Nat.lt_of_lt_of_le n2 e.next)
    have ixd : decide (0 ≤ (i : Int) ∧ (i : Int) < ((4 : Nat) : Int)) = true := decide_eq_true ⟨by omega, by omega⟩
    refine .bcI (fun h => ?_) fun h => ?_
    · have h : (i : Int) < (rw_ x).2.1 := of_decide_eq_true h
      have ht : i < (rw_ x).2.1.toNat := by omega
      rw [if_pos ht] at hg2
      refine .bcT ixd (.ld (x := I args[i]) (by rw [e1.cells n2]; exact c2) hg2 (Ends_dI (.bcT ixd (.ld (x := I args[i]) (by rw [e1.cells n0]; exact c0) hg0 (Ends_dI (.bcF (by simp) (.call (F13_pr k0 x) ((hx.trans e1).wf hm0) fun m2 e2 => Ends_dI ?_)))))))
      exact .bcF (by simp; omega) (go m2 (e1.trans e2))
    · have h : ¬ (i : Int) < (rw_ x).2.1 := of_decide_eq_false h
      have ht : ¬ i < (rw_ x).2.1.toNat := by omega
      rw [if_neg ht] at hg2
      refine .call (F13_pr k0 x) ((hx.trans e1).wf hm0) fun m2 e2 => Ends_dI ?_
      refine .bcT (by simp; omega) (.bcT ixd (.ld (x := I 0) (by rw [(e1.trans e2).cells n2]; exact c2) hg2 (Ends_dI (.bcF rfl (go m2 (e1.trans e2))))))

theorem back_end (k : Nat) (hk : 1000 ≤ k) (x : Int) (args : List Int) (hx : In64 x) (hl : args.length = 4) (ha : ∀ a ∈ args, In64 a) (m : Mem) (hm : m.lo ≤ m.next) : Am.Ends m (F4 k [I x, .agg (args.map I)]) (.bool true) m := by
  show Am.Ends m (B4 (F8 k) (F11 k) (F9 k) (F12 k) (F13 k) k x (args.map I)) _ m
  unfold B4 lenIs
  have hl' : (args.map I).length = 4 := by simp [hl]
  refine .bcT (decide_eq_true hl') (.new (by simp [AV.one]) ?_)
  rw [List.append_nil]
  have e1 : Ext m (m.add (.cells (args.map I))) := Ext.add _ _
  have c1 : (m.add (.cells (args.map I))).cells m.next = some (args.map I) := Mem.cells_add_same _ _
  have n1 : m.next < (m.add (.cells (args.map I))).next := Nat.lt_succ_self _
  generalize (m.add (.cells (args.map I))) = m1 at e1 c1 n1 ⊢
  refine .call (F8_pr k hk) (e1.wf hm) fun m2 e2 => Ends_dB (.bcF rfl ?_)
  have x2 := e1.trans e2
  have c2 : m2.cells m.next = some (args.map I) := by rw [e2.cells n1]; exact c1
  refine .ldN c2 (by omega) ?_
  have t0 : (((args.map I)).drop 0).take 4 = args.map I := by rw [List.drop_zero, List.take_of_length_le (by omega)]
  rw [t0]
  refine .bcT (decide_eq_true hl') ?_
  rw [List.append_nil]
  have h5 : (I x :: args.map I).length = 5 := by simp [hl]
  refine Ends_box rfl rfl h5 (by simp [AV.one]) (x2.wf hm) fun m3 e3 c3 n3 => ?_
  have x3 := x2.trans e3
  refine .ldN c3 (by omega) ?_
  have t1 : (((I x :: args.map I)).drop 0).take 5 = I x :: args.map I := by rw [List.drop_zero, List.take_of_length_le (by omega)]
  rw [t1]
  refine .call (F11_pr k (by omega) x args hx ha hl) (x3.wf hm) fun m4 e4 => Ends_dS ?_
  have x4 := x3.trans e4
  have htl := textR_len hx ha (by omega)
  refine .call (F9_pr k hk _ (by omega)) (x4.wf hm) fun m5 e5 => ?_
  have x5 := x4.trans e5
  have hpl := parseR_len (textR x args)
  refine Ends_d2A (by simp [hpl]) (Ends_box rfl rfl (by simp [hpl]) (by simp [AV.one]) (x5.wf hm) fun m6 e6 c6 n6 => ?_)
  have x6 := x5.trans e6
  refine .call (F12_pr k x) (x6.wf hm) fun m7 e7 => Ends_dB ?_
  have x7 := x6.trans e7
  have c7 : m7.cells m.next = some (args.map I) := by
    rw [((((((e2.trans e3).trans e4).trans e5).trans e6).trans e7)).cells n1]; exact c1
  have n7 : m.next < m7.next := Nat.lt_of_lt_of_le n1 ((((((e2.trans e3).trans e4).trans e5).trans e6).trans e7)).next
  refine .bcI (fun h => ?_) fun h => ?_
  · have h : ((rw_ x).1 == []) = true := by simpa using h
    rw [parse_unknown h]
    exact .ret x7
  · have h : ((rw_ x).1 == []) = false := by simpa using h
    have hn := name_in h
    obtain ⟨a1, a2⟩ := arity_in hn.1 hn.2
    rw [parse_known h ha hl] at c6 ⊢
    refine .bcF rfl (.ld (x := I x) (by rw [e7.cells n6]; exact c6) rfl (Ends_dI (.bcF (by simp) ?_)))
    exact back_loop hm k x args m.next m5.next hl a1 4 0 k m7 rfl (by omega) x7 c7 (by rw [e7.cells n6]; exact c6) n7 (Nat.lt_of_lt_of_le n6 e7.next)
theorem pureCallBack (x : Int) (hx : (Lit.int .i64 x).wf = true) (xs : List Int) (hlen : xs.length = 4) (hwf : ∀ y ∈ xs, (Lit.int .i64 y).wf = true) : ∃ k m', F4 k [.int .i64 x, .agg (xs.map fun y => .int .i64 y)] m00 = some (.bool true, m') := by
  obtain ⟨m', h, _⟩ := back_end 1000 (Nat.le_refl _) x xs (in64_wf hx) hlen (fun a ha => in64_wf (hwf a ha)) m00 (Nat.le_refl _)
  exact ⟨1000, m', h⟩
end Go.AmT
