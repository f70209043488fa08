/-
A call spelt with one word for each argument.
-/
import Derived.Test.YtboilkakbgalgaaDoorCallBack
namespace Go.AmT
open Go Go.Am
set_option maxRecDepth 100000
set_option linter.unusedVariables false

/-- A word behind a blank, so many times. -/
def rep (s : List UInt8) : Nat → List UInt8
  | 0 => []
  | n + 1 => 32 :: s ++ rep s n
theorem rep_len (s : List UInt8) : ∀ n, (rep s n).length = n * (s.length + 1)
  | 0 => by simp [rep]
  | n + 1 => by
    have ih := rep_len s n
    simp only [rep, List.length_append, List.length_cons, ih, Nat.succ_mul]
    omega
theorem rep_snoc (s : List UInt8) : ∀ n, rep s n ++ 32 :: s = rep s (n + 1)
  | 0 => by simp [rep]
  | n + 1 => by
    have ih := rep_snoc s n
    have : rep s (n + 1) ++ 32 :: s = 32 :: s ++ (rep s n ++ 32 :: s) := by simp [rep]
    rw [this, ih]; rfl
theorem split_rep (s : List UInt8) : ∀ (n : Nat) (w : List UInt8), splitOn 32 (w ++ rep s n) = splitOn 32 w ++ (List.replicate n (splitOn 32 s)).flatten
  | 0, w => by simp [rep]
  | n + 1, w => by
    have : w ++ rep s (n + 1) = w ++ 32 :: (s ++ rep s n) := by simp [rep]
    rw [this, splitOn_append, split_rep s n s, List.replicate_succ, List.flatten_cons]
theorem splitOn_two {c : UInt8} : ∀ {l : List UInt8}, c ∈ l → 2 ≤ (splitOn c l).length
  | b :: l, h => by
    by_cases hb : b = c
    · subst hb
      rw [splitOn_sp]
      have : (splitOn b l).length ≠ 0 := fun h => splitOn_ne b l (List.eq_nil_of_length_eq_zero h)
      simp; omega
    · rw [splitOn_no hb]
      have := splitOn_two (l := l) (c := c) (by simpa [Ne.symm hb] using h)
      cases hs : splitOn c l with
      | nil => exact absurd hs (splitOn_ne c l)
      | cons y r => rw [hs] at this; simpa [attach] using this
theorem numP_blank {s : List UInt8} (h : (32 : UInt8) ∈ s) : numP s = none := by
  cases hp : numP s with
  | none => rfl
  | some v =>
    have := (numP_iff.1 hp).1
    rw [← this] at h
    exact absurd h dec_no
theorem numsP_rep {s : List UInt8} {v : Int} (h : numP s = some v) : ∀ n, numsP (List.replicate n s) = some (List.replicate n v)
  | 0 => rfl
  | n + 1 => by
    rw [List.replicate_succ, List.replicate_succ]
    unfold numsP
    rw [h, numsP_rep h n]
theorem numsP_rep_none {s : List UInt8} (h : numP s = none) {n : Nat} (hn : n ≠ 0) : numsP (List.replicate n s) = none := by
  cases n with
  | zero => exact absurd rfl hn
  | succ n =>
    rw [List.replicate_succ]
    unfold numsP
    rw [h]
theorem flat_one (s : List UInt8) : ∀ n, (List.replicate n [s]).flatten = List.replicate n s
  | 0 => rfl
  | n + 1 => by rw [List.replicate_succ, List.flatten_cons, flat_one s n]; rfl
theorem flat_len (l : List (List UInt8)) : ∀ n, (List.replicate n l).flatten.length = n * l.length
  | 0 => by simp
  | n + 1 => by rw [List.replicate_succ, List.flatten_cons, List.length_append, flat_len l n, Nat.succ_mul]; omega

/-- What the text with the word comes to. -/
theorem parse_rep {x : Int} (h1 : 1 ≤ x) (h2 : x < 65) (h0 : (rw_ x).2.1 ≠ 0) (s : List UInt8) : parseR ((rw_ x).1 ++ rep s (rw_ x).2.1.toNat) = match numP s with
    | some v => (x, pad4 (List.replicate (rw_ x).2.1.toNat v), 0)
    | none => (0, [0, 0, 0, 0], -17) := by
  obtain ⟨a1, a2⟩ := arity_in h1 h2
  have hsp : splitOn 32 ((rw_ x).1 ++ rep s (rw_ x).2.1.toNat) = (rw_ x).1 :: (List.replicate (rw_ x).2.1.toNat (splitOn 32 s)).flatten := by
    rw [split_rep, splitOn_one (name_no h1 h2)]; rfl
  unfold parseR
  rw [hsp]
  show wordsR (fnN 65 (rw_ x).1) _ = _
  rw [fnN_of h1 h2 65 (Nat.le_refl _) h2]
  unfold wordsR
  have e1 : (x == 0) = false := beq_eq_false_iff_ne.2 (by omega)
  rw [e1, flat_len]
  by_cases hb : (32 : UInt8) ∈ s
  · have h3 := splitOn_two hb
    have e2 : ((((rw_ x).2.1.toNat * (splitOn 32 s).length : Nat) : Int) != (rw_ x).2.1) = true := by
      have h4 : (rw_ x).2.1.toNat * 2 ≤ (rw_ x).2.1.toNat * (splitOn 32 s).length := Nat.mul_le_mul_left _ h3
      generalize (rw_ x).2.1.toNat * (splitOn 32 s).length = y at h4
      have : ¬ ((y : Int) = (rw_ x).2.1) := by omega
      simp [this]
    rw [e2, numP_blank hb]
  · rw [splitOn_one hb]
    have e2 : ((((rw_ x).2.1.toNat * [s].length : Nat) : Int) != (rw_ x).2.1) = false := by
      have : (((rw_ x).2.1.toNat * [s].length : Nat) : Int) = (rw_ x).2.1 := by simp; omega
      rw [this]; simp
    rw [e2, flat_one]
    show argsR x _ = _
    unfold argsR
    cases hp : numP s with
    | some v => rw [numsP_rep hp]
    | none => rw [numsP_rep_none hp (by omega)]

theorem rep_loop {m0 : Mem} {v : AV} (hm0 : m0.lo ≤ m0.next) (k0 : Nat) (x : Int) (s : List UInt8) (nm : List UInt8) (hs : s.length ≤ 40) (hnm : nm.length ≤ 20) (a1 : 0 ≤ (rw_ x).2.1) (a2 : (rw_ x).2.1 ≤ 4) (fin : List UInt8 → C) :
    ∀ (d i k : Nat) (m : Mem), (i : Int) + d = (rw_ x).2.1 → d < k → Ext m0 m → (∀ m', Ext m m' → Am.Ends m0 (fin (nm ++ rep s (rw_ x).2.1.toNat)) v m') →
      Am.Ends m0 (lp k [.str (nm ++ rep s i), I i] fun w0 f0 => (un fun y5 z1 => (dS fun s3 => (un fun y6 z2 => (dI .i64 fun x7 => (u0 (call (F13 k0) [I x] (dI .i64 fun x8 => bc (decide (x7 < x8)) (cat s3 [32] fun s4 => cat s4 s fun s5 => f0 [.str s5, I (IntKind.wrap .i64 (x7 + 1))]) (fin s3)))) z2) y6) z1) y5) w0) v m
  | 0, i, k, m, hi, hk, hx, hfin => by
    obtain ⟨k, rfl⟩ : ∃ j, k = j + 1 := ⟨k - 1, by omega⟩
    show Am.Ends m0 (call (F13 k0) [I x] _) _ m
    refine .call (F13_pr k0 x) (hx.wf hm0) fun m1 e1 => Ends_dI (.bcF (by simp; omega) ?_)
    have : i = (rw_ x).2.1.toNat := by omega
    rw [this]
    exact hfin m1 e1
  | d + 1, i, k, m, hi, hk, hx, hfin => by
    obtain ⟨k, rfl⟩ : ∃ j, k = j + 1 := ⟨k - 1, by omega⟩
    show Am.Ends m0 (call (F13 k0) [I x] _) _ m
    have hr := rep_len s i
    have hr2 : i * (s.length + 1) ≤ 4 * 41 := Nat.mul_le_mul (by omega) (by omega)
    refine .call (F13_pr k0 x) (hx.wf hm0) fun m1 e1 => Ends_dI (.bcT (by simp; omega) (Ends_cat (by simp; omega) (Ends_cat (by simp; omega) ?_)))
    have ew : IntKind.wrap .i64 ((i : Int) + 1) = ((i + 1 : Nat) : Int) := wrap_in _ (by omega) (by omega)
    have es : nm ++ rep s i ++ [32] ++ s = nm ++ rep s (i + 1) := by rw [← rep_snoc]; simp
    rw [ew, es]
    exact rep_loop hm0 k0 x s nm hs hnm a1 a2 fin d (i + 1) k m1 (by omega) (by omega) (hx.trans e1) fun m' e => hfin m' (e1.trans e)

theorem words_end (k : Nat) (hk : 1000 ≤ k) (x : Int) (s : List UInt8) (m : Mem) (hm : m.lo ≤ m.next) : Am.Ends m (F7 k [I x, .str s]) (.bool true) m := by
  show Am.Ends m (B7 (F8 k) (F12 k) (F13 k) (F14 k) (F9 k) (F16 k) k x s) _ m
  unfold B7
  refine .call (F8_pr k hk) hm fun m1 e1 => Ends_dB (.bcF rfl ?_)
  refine .call (F12_pr k x) (e1.wf hm) fun m2 e2 => Ends_dB ?_
  have x2 := e1.trans e2
  refine .bcI (fun _ => .ret x2) fun h => ?_
  have h : ((rw_ x).1 == []) = false := by simpa using h
  have hn := name_in h
  obtain ⟨a1, a2⟩ := arity_in hn.1 hn.2
  refine .call (F13_pr k x) (x2.wf hm) fun m3 e3 => Ends_dI ?_
  have x3 := x2.trans e3
  refine .bcI (fun _ => .ret x3) fun h0 => .bcI (fun _ => .ret x3) fun h40 => ?_
  have h0 : (rw_ x).2.1 ≠ 0 := by simpa using h0
  have h40 : s.length ≤ 40 := by
    have : ¬ (s.length : Int) > 40 := by simpa using h40
    omega
  refine .call (F14_pr k x) (x3.wf hm) fun m4 e4 => Ends_dS ?_
  have x4 := x3.trans e4
  have hnl := name_len hn.1 hn.2
  have e0 : (rw_ x).1 = (rw_ x).1 ++ rep s 0 := by simp [rep]
  show Am.Ends m (jn _ fun j0 => lp k [.str (rw_ x).1, I 0] _) _ m4
  rw [show (AV.str (rw_ x).1) = .str ((rw_ x).1 ++ rep s 0) from congrArg AV.str e0]
  refine rep_loop hm k x s (rw_ x).1 h40 hnl a1 a2 (fun s2 => (call (F9 k) [.str s2] (d2 fun y1 y2 => (dA 5 fun l0 => (dI .i64 fun x2 => new [I 0, I 0, I 0, I 0, I 0] fun i0 => stN 5 i0 0 l0 (call (F16 k) [.str s] (d2 fun y3 y4 => (dI .i64 fun x3 => (dB fun b2 => bc (!b2) (bc (x2 != 0) (ld i0 (0 + 0) (dI .i64 fun x4 => ret (.bool (x4 == 0)))) (ret (.bool false))) (bc (x2 == 0) (ld i0 (0 + 0) (dI .i64 fun x5 => bc (x5 == x) (ixA 4 1 i0 (0 + 1) 0 fun i1 o0 => ld i1 o0 (dI .i64 fun x6 => ret (.bool (x6 == x3)))) (ret (.bool false)))) (ret (.bool false)))) y4) y3))) y2) y1))) (rw_ x).2.1.toNat 0 k m4 (by omega) (by omega) x4 fun m5 e5 => ?_
  have x5 := x4.trans e5
  have hlen : ((rw_ x).1 ++ rep s (rw_ x).2.1.toNat).length ≤ 400 := by
    have hr := rep_len s (rw_ x).2.1.toNat
    have hr2 : (rw_ x).2.1.toNat * (s.length + 1) ≤ 4 * 41 := Nat.mul_le_mul (by omega) (by omega)
    rw [List.length_append]; omega
  have hpl := parseR_len ((rw_ x).1 ++ rep s (rw_ x).2.1.toNat)
  refine .call (F9_pr k hk _ hlen) (x5.wf hm) fun m6 e6 => ?_
  have x6 := x5.trans e6
  refine Ends_d2A (by simp [hpl]) (Ends_box rfl rfl (by simp [hpl]) (by simp [AV.one]) (x6.wf hm) fun m7 e7 c7 n7 => ?_)
  have x7 := x6.trans e7
  rw [parse_rep hn.1 hn.2 h0 s] at c7 ⊢
  refine .call (F16_pr k (by omega) s) (x7.wf hm) fun m8 e8 => ?_
  have x8 := x7.trans e8
  unfold numR
  cases hp : numP s with
  | none =>
    rw [hp] at c7
    show Am.Ends m (ld m6.next (0 + 0) _) _ m8
    exact .ld (x := I 0) (by rw [e8.cells n7]; exact c7) rfl (Ends_dI (.ret x8))
  | some v =>
    rw [hp] at c7
    show Am.Ends m (ld m6.next (0 + 0) _) _ m8
    refine .ld (x := I x) (by rw [e8.cells n7]; exact c7) rfl (Ends_dI (.bcT (by simp) ?_))
    show Am.Ends m (ld m6.next (0 + 1 + 0 * 1) _) _ m8
    have hv : (I x :: (pad4 (List.replicate (rw_ x).2.1.toNat v)).map I)[0 + 1 + 0 * 1]? = some (I v) := by
      obtain ⟨n, hn'⟩ : ∃ n, (rw_ x).2.1.toNat = n + 1 := ⟨(rw_ x).2.1.toNat - 1, by omega⟩
      rw [hn', List.replicate_succ]
      simp [pad4]
    refine .ld (x := I v) (by rw [e8.cells n7]; exact c7) hv (Ends_dI ?_)
    have : (AV.bool (v == v)) = .bool true := by simp
    rw [this]
    exact .ret x8
theorem pureCallWords (x : Int) (hx : (Lit.int .i64 x).wf = true) (s : List UInt8) : ∃ k m', F7 k [.int .i64 x, .str s] m00 = some (.bool true, m') := by
  obtain ⟨m', h, _⟩ := words_end 1000 (Nat.le_refl _) x s m00 (Nat.le_refl _)
  exact ⟨1000, m', h⟩
end Go.AmT
