/-
A blank more, and the text is refused.
-/
import Derived.Test.YtboilkakbgalgaaDoorCallBack
namespace Go.AmT
open Go Go.Am
set_option maxRecDepth 100000
set_option linter.unusedVariables false

theorem splitOn_count (c : UInt8) : ∀ l : List UInt8, (splitOn c l).length = l.count c + 1
  | [] => rfl
  | b :: l => by
    have ih := splitOn_count c l
    by_cases hb : b = c
    · subst hb
      rw [splitOn_sp, List.length_cons, ih, List.count_cons_self]
    · rw [splitOn_no hb, List.count_cons_of_ne hb, ← ih]
      cases hs : splitOn c l with
      | nil => exact absurd hs (splitOn_ne c l)
      | cons y r => rfl
theorem name_tail {x : Int} (h1 : 1 ≤ x) (h2 : x < 65) {i : Nat} (hi : i ≤ (rw_ x).1.length) : numP ((rw_ x).1.drop i) = none := by
  have h := all65 (fun x => (List.range ((rw_ x).1.length + 1)).all fun i => (numP ((rw_ x).1.drop i)).isNone) (by kernel_rfl) x h1 h2
  have := List.all_eq_true.1 h i (by simp; omega)
  simpa using this
theorem wordsR_bad {f : Int} {w : List UInt8} {ws : List (List UInt8)} (h : numP w = none) : (wordsR f (w :: ws)).2.2 ≠ 0 := by
  unfold wordsR
  split
  · decide
  · split
    · decide
    · unfold argsR numsP
      rw [h]
      show (-17 : Int) ≠ 0
      decide
theorem wordsR_len_bad {f : Int} {ws : List (List UInt8)} (h : (ws.length : Int) ≠ (rw_ f).2.1) : (wordsR f ws).2.2 ≠ 0 := by
  unfold wordsR
  split
  · decide
  · have : ((ws.length : Int) != (rw_ f).2.1) = true := by simp [h]
    rw [this]
    show (-17 : Int) ≠ 0
    decide
theorem Ends_zdiv {m0 m : Mem} {v : AV} {y : Int} {K : C} (hy : y ≠ 0) (h : Am.Ends m0 K v m) : Am.Ends m0 (zdiv y K) v m := by
  unfold zdiv
  exact .bcF (by simp [hy]) h
theorem blank_bad {x : Int} {args : List Int} (h : ((rw_ x).1 == []) = false) (hl : args.length = 4) {i : Nat} (hi : i ≤ (textR x args).length) : (parseR ((textR x args).take i ++ [32] ++ (textR x args).drop i)).2.2 ≠ 0 := by
  have hn := name_in h
  obtain ⟨a1, a2⟩ := arity_in hn.1 hn.2
  have hno := name_no hn.1 hn.2
  have ht : textR x args = (rw_ x).1 ++ spd (args.take (rw_ x).2.1.toNat) := by
    unfold textR; rw [h]
  have hva : (args.take (rw_ x).2.1.toNat).length = (rw_ x).2.1.toNat := by rw [List.length_take]; omega
  rw [ht] at hi ⊢
  generalize args.take (rw_ x).2.1.toNat = vs at hva hi ⊢
  by_cases hin : i ≤ (rw_ x).1.length
  · have e1 : ((rw_ x).1 ++ spd vs).take i = (rw_ x).1.take i := by rw [List.take_append_of_le_length hin]
    have e2 : ((rw_ x).1 ++ spd vs).drop i = (rw_ x).1.drop i ++ spd vs := by rw [List.drop_append_of_le_length hin]
    have hs : splitOn 32 (((rw_ x).1 ++ spd vs).take i ++ [32] ++ ((rw_ x).1 ++ spd vs).drop i) = (rw_ x).1.take i :: (rw_ x).1.drop i :: vs.map dec := by
      rw [e1, e2, List.append_assoc, List.singleton_append, splitOn_append, splitOn_one fun hh => hno (List.mem_of_mem_take hh), split_spd _ _ fun hh => hno (List.mem_of_mem_drop hh)]
      rfl
    unfold parseR
    rw [hs]
    exact wordsR_bad (name_tail hn.1 hn.2 hin)
  · have hin : (rw_ x).1.length < i := by omega
    cases vs with
    | nil => simp [spd] at hi; omega
    | cons a r =>
      have e1 : ((rw_ x).1 ++ spd (a :: r)).take i = (rw_ x).1 ++ 32 :: (dec a ++ spd r).take (i - (rw_ x).1.length - 1) := by
        rw [List.take_append, List.take_of_length_le (by omega)]
        congr 1
        obtain ⟨n, hn'⟩ : ∃ n, i - (rw_ x).1.length = n + 1 := ⟨i - (rw_ x).1.length - 1, by omega⟩
        rw [hn']
        simp [spd]
      generalize hrest : (dec a ++ spd r).take (i - (rw_ x).1.length - 1) ++ [32] ++ ((rw_ x).1 ++ spd (a :: r)).drop i = rest
      have es : ((rw_ x).1 ++ spd (a :: r)).take i ++ [32] ++ ((rw_ x).1 ++ spd (a :: r)).drop i = (rw_ x).1 ++ 32 :: rest := by
        rw [e1, ← hrest]; simp
      have hs : splitOn 32 (((rw_ x).1 ++ spd (a :: r)).take i ++ [32] ++ ((rw_ x).1 ++ spd (a :: r)).drop i) = (rw_ x).1 :: splitOn 32 rest := by
        rw [es, splitOn_append, splitOn_one hno]; rfl
      have hcnt : (splitOn 32 (((rw_ x).1 ++ spd (a :: r)).take i ++ [32] ++ ((rw_ x).1 ++ spd (a :: r)).drop i)).length = (rw_ x).2.1.toNat + 2 := by
        have h1 := splitOn_count 32 ((rw_ x).1 ++ spd (a :: r))
        rw [split_spd _ _ hno] at h1
        rw [splitOn_count]
        have h3 : (((rw_ x).1 ++ spd (a :: r)).take i ++ [32] ++ ((rw_ x).1 ++ spd (a :: r)).drop i).count 32 = ((rw_ x).1 ++ spd (a :: r)).count 32 + 1 := by
          rw [List.count_append, List.count_append]
          have h4 : (((rw_ x).1 ++ spd (a :: r)).take i ++ ((rw_ x).1 ++ spd (a :: r)).drop i).count 32 = ((rw_ x).1 ++ spd (a :: r)).count 32 := by rw [List.take_append_drop]
          rw [List.count_append] at h4
          have h5 : ([32] : List UInt8).count 32 = 1 := by decide
          omega
        simp only [List.length_cons, List.length_map] at h1 hva
        omega
      unfold parseR
      rw [hs] at hcnt ⊢
      show (wordsR (fnN 65 (rw_ x).1) (splitOn 32 rest)).2.2 ≠ 0
      rw [fnN_of hn.1 hn.2 65 (Nat.le_refl _) hn.2]
      refine wordsR_len_bad ?_
      simp only [List.length_cons] at hcnt
      omega

theorem blanks_end (k : Nat) (hk : 1000 ≤ k) (x : Int) (args : List Int) (n : Int) (hx : In64 x) (hnn : In64 n) (hl : args.length = 4) (ha : ∀ a ∈ args, In64 a) (m : Mem) (hm : m.lo ≤ m.next) : Am.Ends m (F6 k [I x, .agg (args.map I), I n]) (.bool true) m := by
  show Am.Ends m (B6 (F8 k) (F12 k) (F11 k) (F9 k) (F10 k) k x (args.map I) n) _ m
  unfold B6 lenIs
  have hl' : (args.map I).length = 4 := by simp [hl]
  refine .bcT (decide_eq_true hl') (.new (by simp [AV.one]) ?_)
  rw [List.append_nil]
  have e1 : Ext m (m.add (.cells (args.map I))) := Ext.add _ _
  have c1 : (m.add (.cells (args.map I))).cells m.next = some (args.map I) := Mem.cells_add_same _ _
  have n1 : m.next < (m.add (.cells (args.map I))).next := Nat.lt_succ_self _
  generalize (m.add (.cells (args.map I))) = m1 at e1 c1 n1 ⊢
  refine .call (F8_pr k hk) (e1.wf hm) fun m2 e2 => Ends_dB (.bcF rfl ?_)
  have x2 := e1.trans e2
  refine .call (F12_pr k x) (x2.wf hm) fun m3 e3 => Ends_dB ?_
  have x3 := x2.trans e3
  refine .bcI (fun _ => .ret x3) fun h => .bcI (fun _ => .ret x3) fun h0 => ?_
  have h : ((rw_ x).1 == []) = false := by simpa using h
  have h0 : 0 ≤ n := by simpa using h0
  refine .ldN (l := args.map I) (by rw [(e2.trans e3).cells n1]; exact c1) (by omega) ?_
  have t0 : (((args.map I)).drop 0).take 4 = args.map I := by rw [List.drop_zero, List.take_of_length_le (by omega)]
  rw [t0]
  refine .bcT (decide_eq_true hl') ?_
  rw [List.append_nil]
  refine .call (F11_pr k (by omega) x args hx ha hl) (x3.wf hm) fun m4 e4 => Ends_dS ?_
  have x4 := x3.trans e4
  have htl := textR_len hx ha (by omega)
  generalize htx : textR x args = t at htl ⊢
  have ew : IntKind.wrap .i64 (((t : List UInt8).length : Int) + 1) = ((t.length + 1 : Nat) : Int) := wrap_in _ (by omega) (by omega)
  rw [ew]
  obtain ⟨u, hu⟩ : ∃ u : Nat, n = u := ⟨n.toNat, by omega⟩
  have et : Int.tmod n ((t.length + 1 : Nat) : Int) = ((u % (t.length + 1) : Nat) : Int) := by rw [hu]; rfl
  rw [et]
  have hi : u % (t.length + 1) ≤ t.length := Nat.le_of_lt_succ (Nat.mod_lt _ (Nat.succ_pos _))
  generalize u % (t.length + 1) = i at hi ⊢
  refine Ends_zdiv (by omega) (Ends_cutTo i rfl hi (Ends_cat (by simp; omega) (Ends_cutFrom i rfl hi (Ends_cat (by simp; omega) ?_))))
  have hbad := blank_bad (i := i) h hl (by rw [htx]; exact hi)
  rw [htx] at hbad
  have hsl : (t.take i ++ [32] ++ t.drop i).length ≤ 400 := by simp; omega
  generalize t.take i ++ [32] ++ t.drop i = s at hbad hsl ⊢
  have hpl := parseR_len s
  refine same_end hm k hk s hsl m4 x4 (fun x2 x3 i1 i2 => (bc (x2 != 0) (ld i1 (0 + 0) (dI .i64 fun x5 => bc (x5 == x3) (ldN 4 i1 (0 + 1) fun l4 => ldN 4 i2 0 fun l5 => eqAgg [false, false, false, false] l4 l5 fun b2 => ret (.bool b2)) (ret (.bool false)))) (ret (.bool false)))) fun i0 i1 m' e c0 c1 => ?_
  refine .bcT (by simp) (.bcT (by simp [hbad]) (.ld c0 rfl (Ends_dI (.bcT (by simp) (.ldN c0 (by simp [hpl]) (.ldN c1 (by simp [hpl]) ?_))))))
  have t0 : ((I (parseR s).1 :: (parseR s).2.1.map I).drop (0 + 1)).take 4 = (parseR s).2.1.map I := by
    show ((parseR s).2.1.map I).take 4 = _
    exact List.take_of_length_le (by simp [hpl])
  have t1 : (((parseR s).2.1.map I).drop 0).take 4 = (parseR s).2.1.map I := by
    rw [List.drop_zero]
    exact List.take_of_length_le (by simp [hpl])
  rw [t0, t1]
  exact Ends_eq4 hpl (.ret (x4.trans e))
theorem pureCallBlanks (x : Int) (hx : (Lit.int .i64 x).wf = true) (xs : List Int) (hlen : xs.length = 4) (hwf : ∀ y ∈ xs, (Lit.int .i64 y).wf = true) (n : Int) (hn : (Lit.int .i64 n).wf = true) : ∃ k m', F6 k [.int .i64 x, .agg (xs.map fun y => .int .i64 y), .int .i64 n] m00 = some (.bool true, m') := by
  obtain ⟨m', h, _⟩ := blanks_end 1000 (Nat.le_refl _) x xs n (in64_wf hx) (in64_wf hn) hlen (fun a ha => in64_wf (hwf a ha)) m00 (Nat.le_refl _)
  exact ⟨1000, m', h⟩
end Go.AmT
