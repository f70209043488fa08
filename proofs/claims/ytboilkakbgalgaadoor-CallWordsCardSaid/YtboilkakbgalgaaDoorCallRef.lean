/-
The document's words and numbers.
-/
import Derived.Test.YtboilkakbgalgaaDoorCallTab
import Derived.Test.YtboilkakbgalgaaDoorCallNum
import Derived.Test.YtboilkakbgalgaaDoorCallStep
namespace Go.AmT
open Go Go.Am
set_option maxRecDepth 100000
set_option linter.unusedVariables false

def numR (s : List UInt8) : AV :=
  match numP s with
  | some v => .tup [I v, .bool true]
  | none => .tup [I 0, .bool false]
theorem numR_none {s : List UInt8} (h : ∀ v, In64 v → dec v ≠ s) : numR s = .tup [I 0, .bool false] := by
  unfold numR
  cases hp : numP s with
  | none => rfl
  | some v => exact absurd (numP_iff.1 hp).1 (h v (numP_iff.1 hp).2)
theorem numR_some {s : List UInt8} {v : Int} (h : dec v = s) (hv : In64 v) : numR s = .tup [I v, .bool true] := by
  unfold numR
  rw [numP_iff.2 ⟨h, hv⟩]
theorem decL_len19 {u : Nat} (h : u ≤ 9223372036854775808) : (decL 20 u).length ≤ 19 := decL_len 20 u 18 (Nat.lt_of_le_of_lt h (by decide))
theorem natAbs_le {v : Int} (h : In64 v) : v.natAbs ≤ 9223372036854775808 := by
  have := h.1
  have := h.2
  omega
theorem val_dec (u : Nat) (h : u ≤ 9223372036854775808) : val 0 (decL 20 u) = u := decL_val 20 u (Nat.lt_of_le_of_lt h (by decide))
/-- Digits' value stays small. -/
theorem val_small {l : List UInt8} (h : Dig l) (hl : l.length ≤ 19) : val 0 l < 10000000000000000000 := by
  have := val_lt l 0 h
  have h2 : (10 : Nat) ^ l.length ≤ 10 ^ 19 := Nat.pow_le_pow_right (by decide) hl
  have h3 : (10 : Nat) ^ 19 = 10000000000000000000 := by decide
  omega

theorem num_loop {m0 : Mem} (s1 : List UInt8) (fin : Int → C) (r : AV) (hl : s1.length ≤ 19) :
    ∀ (d : Nat) (done rest : List UInt8) (k : Nat) (m : Mem), s1 = done ++ rest → rest.length = d → d < k → Dig done →
      (∀ m', Dig s1 → m' = m → Am.Ends m0 (fin (val 0 s1 : Nat)) r m') → (¬ Dig s1 → Am.Ends m0 (ret (.tup [I 0, .bool false])) r m) →
      Am.Ends m0 (lp k [.int .u64 (val 0 done : Nat), I done.length] fun w0 f0 => (un fun y3 z3 => (dI .u64 fun x3 => (un fun y4 z4 => (dI .i64 fun x4 => (u0 (bc (decide (x4 < ((s1 : List UInt8).length : Int))) (ixStr s1 x4 fun x5 => bc (decide (x5 < 48)) (ret (.tup [I 0, .bool false])) (ixStr s1 x4 fun x6 => bc (decide (x6 > 57)) (ret (.tup [I 0, .bool false])) (ixStr s1 x4 fun x7 => f0 [.int .u64 (IntKind.wrap .u64 ((IntKind.wrap .u64 (x3 * 10)) + (IntKind.wrap .u64 (IntKind.wrap .u8 (x7 - 48))))), I (IntKind.wrap .i64 (x4 + 1))]))) (fin x3))) z4) y4) z3) y3) w0) r m
  | 0, done, [], k, m, hs, hd, hk, hdig, hfin, hbad => by
    obtain ⟨k, rfl⟩ : ∃ n, k = n + 1 := ⟨k - 1, by omega⟩
    simp only [List.append_nil] at hs
    subst hs
    show Am.Ends m0 (bc (decide ((s1.length : Int) < (s1.length : Int))) _ _) _ m
    exact .bcF (by simp) (hfin m hdig rfl)
  | d + 1, done, c :: rest, k, m, hs, hd, hk, hdig, hfin, hbad => by
    obtain ⟨k, rfl⟩ : ∃ n, k = n + 1 := ⟨k - 1, by omega⟩
    have hlt : done.length < s1.length := by rw [hs]; simp
    have hc : s1[done.length] = c := by simp [hs]
    show Am.Ends m0 (bc (decide ((done.length : Int) < (s1.length : Int))) _ _) _ m
    refine .bcT (by simp; omega) (Ends_ixStr done.length rfl hlt ?_)
    rw [hc]
    have nd : (c.toNat < 48 ∨ 57 < c.toNat) → ¬ Dig s1 := fun h hD => by
      have := hD c (by rw [hs]; simp)
      omega
    refine .bcI (fun h => ?_) fun h => Ends_ixStr done.length rfl hlt ?_
    · have h : (c.toNat : Int) < 48 := by simpa using h
      exact hbad (nd (.inl (by omega)))
    · have h : ¬ (c.toNat : Int) < 48 := by simpa using h
      rw [hc]
      refine .bcI (fun h2 => ?_) fun h2 => Ends_ixStr done.length rfl hlt ?_
      · have h2 : (c.toNat : Int) > 57 := by simpa using h2
        exact hbad (nd (.inr (by omega)))
      · have h2 : ¬ (c.toNat : Int) > 57 := by simpa using h2
        rw [hc]
        have hdig' : Dig (done ++ [c]) := fun x hx => by
          rcases List.mem_append.1 hx with hx | hx
          · exact hdig x hx
          · have : x = c := by simpa using hx
            subst this
            exact ⟨by omega, by omega⟩
        have hlen : (done ++ [c]).length ≤ 19 := by
          have : s1.length = (done ++ [c]).length + rest.length := by rw [hs]; simp; omega
          omega
        have hv' : val 0 (done ++ [c]) = val 0 done * 10 + (c.toNat - 48) := by rw [val_append]; rfl
        have hb := val_small hdig' hlen
        rw [hv'] at hb
        have e1 : IntKind.wrap .u64 ((IntKind.wrap .u64 (((val 0 done : Nat) : Int) * 10)) + (IntKind.wrap .u64 (IntKind.wrap .u8 ((c.toNat : Int) - 48)))) = ((val 0 (done ++ [c]) : Nat) : Int) := by
          rw [hv', wrap_u8 _ (by omega) (by omega), wrap_u64 ((c.toNat : Int) - 48) (by omega) (by omega), wrap_u64 (((val 0 done : Nat) : Int) * 10) (by omega) (by omega), wrap_u64 _ (by omega) (by omega)]
          omega
        have e2 : IntKind.wrap .i64 ((done.length : Int) + 1) = (((done ++ [c]).length : Nat) : Int) := by
          rw [wrap_in _ (by omega) (by omega)]
          simp
        rw [e1, e2]
        have hd : rest.length = d := by simpa using hd
        exact num_loop s1 fin r hl d (done ++ [c]) rest k m (by rw [hs]; simp) hd (by omega) hdig' hfin hbad

theorem F25_pr (k : Nat) (hk : 40 ≤ k) (s : List UInt8) : Pr (F25 k) [.str s] (numR s) := Am.Ends.pr fun m hm => by
  show Am.Ends m (B25 (F33 k) k s) _ m
  unfold B25
  -- what both ways do
  have body : ∀ (s1 : List UInt8) (b : Bool), (∀ v, In64 v → dec v = s → s1 = decL 20 v.natAbs ∧ (b = true ↔ v < 0)) →
      Am.Ends m (bc (((s1 : List UInt8).length : Int) == 0) (ret (.tup [I 0, .bool false])) (bc (decide (((s1 : List UInt8).length : Int) > 19)) (ret (.tup [I 0, .bool false])) (jn (un fun y1 z1 => (dI .u64 fun x1 => (u0 (jn (un fun y2 z2 => (dI .i64 fun x2 => (u0 (bc (decide (x1 > 9223372036854775808)) (ret (.tup [I 0, .bool false])) (call (F33 k) [I x2] (dS fun s2 => bc (!((s2 : List UInt8) == s)) (ret (.tup [I 0, .bool false])) (ret (.tup [I x2, .bool true])))))) z2) y2) fun j0 => bc b (j0 [I (IntKind.wrap .i64 (IntKind.wrap .u64 (0 - x1)))]) (j0 [I (IntKind.wrap .i64 x1)]))) z1) y1) fun j1 => lp k [.int .u64 0, I 0] fun w0 f0 => (un fun y3 z3 => (dI .u64 fun x3 => (un fun y4 z4 => (dI .i64 fun x4 => (u0 (bc (decide (x4 < ((s1 : List UInt8).length : Int))) (ixStr s1 x4 fun x5 => bc (decide (x5 < 48)) (ret (.tup [I 0, .bool false])) (ixStr s1 x4 fun x6 => bc (decide (x6 > 57)) (ret (.tup [I 0, .bool false])) (ixStr s1 x4 fun x7 => f0 [.int .u64 (IntKind.wrap .u64 ((IntKind.wrap .u64 (x3 * 10)) + (IntKind.wrap .u64 (IntKind.wrap .u8 (x7 - 48))))), I (IntKind.wrap .i64 (x4 + 1))]))) (j1 [.int .u64 x3]))) z4) y4) z3) y3) w0))) (numR s) m := fun s1 b hs => by
    have fail (h : ∀ v, In64 v → dec v = s → False) : Am.Ends m (ret (.tup [I 0, .bool false])) (numR s) m := by
      rw [numR_none fun v hv he => h v hv he]
      exact .ret (Ext.refl m)
    refine .bcI (fun h => ?_) fun h => .bcI (fun h19 => ?_) fun h19 => ?_
    · have h : s1.length = 0 := by have : (s1.length : Int) = 0 := by simpa using h
                                   omega
      refine fail fun v hv he => ?_
      have := (hs v hv he).1
      rw [this] at h
      exact decL_ne _ _ (List.eq_nil_of_length_eq_zero h)
    · have h19 : (s1.length : Int) > 19 := by simpa using h19
      refine fail fun v hv he => ?_
      have h2 := (hs v hv he).1
      have := decL_len19 (natAbs_le hv)
      rw [← h2] at this
      omega
    · have h19 : ¬ (s1.length : Int) > 19 := by simpa using h19
      have h19 : s1.length ≤ 19 := by omega
      refine num_loop s1 (fun x1 => (bc b (bc (decide (x1 > 9223372036854775808)) (ret (.tup [I 0, .bool false])) (call (F33 k) [I (IntKind.wrap .i64 (IntKind.wrap .u64 (0 - x1)))] (dS fun s2 => bc (!((s2 : List UInt8) == s)) (ret (.tup [I 0, .bool false])) (ret (.tup [I (IntKind.wrap .i64 (IntKind.wrap .u64 (0 - x1))), .bool true]))))) (bc (decide (x1 > 9223372036854775808)) (ret (.tup [I 0, .bool false])) (call (F33 k) [I (IntKind.wrap .i64 x1)] (dS fun s2 => bc (!((s2 : List UInt8) == s)) (ret (.tup [I 0, .bool false])) (ret (.tup [I (IntKind.wrap .i64 x1), .bool true]))))))) (numR s) h19 s1.length [] s1 k m rfl rfl (by omega) (fun _ h => by simp at h) (fun m' hD hm' => ?_) (fun hD => ?_)
      · subst hm'
        have hsmall := val_small hD h19
        have fin : ∀ x2 : Int, In64 x2 → (∀ v, In64 v → dec v = s → x2 = v ∨ val 0 s1 > 9223372036854775808) → Am.Ends m' (bc (decide (((val 0 s1 : Nat) : Int) > 9223372036854775808)) (ret (.tup [I 0, .bool false])) (call (F33 k) [I x2] (dS fun s2 => bc (!((s2 : List UInt8) == s)) (ret (.tup [I 0, .bool false])) (ret (.tup [I x2, .bool true]))))) (numR s) m' := fun x2 hx2 hv2 => by
          refine .bcI (fun h => ?_) fun h => .call (F33_pr k (by omega) x2 hx2) hm fun m1 e1 => ?_
          · have h : ((val 0 s1 : Nat) : Int) > 9223372036854775808 := by simpa using h
            refine fail fun v hv he => ?_
            have h2 := (hs v hv he).1
            rw [h2, val_dec _ (natAbs_le hv)] at h
            have := natAbs_le hv
            omega
          · have h : ¬ ((val 0 s1 : Nat) : Int) > 9223372036854775808 := by simpa using h
            show Am.Ends m' (bc (!((dec x2 : List UInt8) == s)) _ _) _ m1
            by_cases he : dec x2 = s
            · refine .bcF (by simp [he]) ?_
              rw [numR_some he hx2]
              exact .ret e1
            · refine .bcT (by simp [he]) ?_
              rw [numR_none fun v hv hve => ?_]
              · exact .ret e1
              · rcases hv2 v hv hve with rfl | h3
                · exact he hve
                · omega
        have big : ∀ v, In64 v → dec v = s → val 0 s1 = v.natAbs := fun v hv he => by
          rw [(hs v hv he).1, val_dec _ (natAbs_le hv)]
        refine .bcI (fun hb => fin _ ?_ fun v hv he => ?_) fun hb => fin _ ?_ fun v hv he => ?_
        · rw [wrap_i64']; constructor <;> omega
        · have h1 := big v hv he
          have h2 := (hs v hv he).2.1 hb
          have := hv.1
          rw [wrap_u64', wrap_i64']
          omega
        · rw [wrap_i64']; constructor <;> omega
        · have h1 := big v hv he
          have h2 : ¬ v < 0 := fun h => by have := (hs v hv he).2.2 h; rw [hb] at this; cases this
          have := hv.2
          rw [wrap_i64']
          omega
      · refine fail fun v hv he => hD ?_
        rw [(hs v hv he).1]
        exact decL_dig _ _
  cases hs0 : s with
  | nil =>
    rw [hs0] at body
    refine .bcF rfl ?_
    refine body [] false fun v hv he => ?_
    by_cases h0 : v < 0
    · rw [dec_neg h0] at he; cases he
    · rw [dec_pos (by omega)] at he; exact absurd he (decL_ne _ _)
  | cons c r =>
    rw [hs0] at body
    have hsgn : ∀ v, In64 v → dec v = c :: r → ((c.toNat : Int) == 45) = decide (v < 0) ∧ (v < 0 → r = decL 20 v.natAbs) ∧ (¬ v < 0 → c :: r = decL 20 v.natAbs) := fun v hv he => by
      by_cases h0 : v < 0
      · rw [dec_neg h0] at he
        cases he
        exact ⟨by simp [h0], fun _ => rfl, fun h => absurd h0 h⟩
      · rw [dec_pos (by omega)] at he
        have hd := decL_dig 20 v.toNat c (by rw [he]; simp)
        refine ⟨?_, fun h => absurd h h0, fun _ => ?_⟩
        · simp only [h0, decide_false]
          exact beq_eq_false_iff_ne.2 (by omega)
        · rw [← he]; congr 1; omega
    refine .bcT (by simp) (Ends_ixStr 0 rfl (by simp) ?_)
    show Am.Ends m (bc ((c.toNat : Int) == 45) _ _) _ m
    refine .bcI (fun h => Ends_cutFrom 1 rfl (by simp) ?_) fun h => ?_
    · refine body r ((c.toNat : Int) == 45) fun v hv he => ?_
      obtain ⟨h1, h2, h3⟩ := hsgn v hv he
      rw [h] at h1
      have h0 : v < 0 := of_decide_eq_true h1.symm
      exact ⟨h2 h0, by rw [h]; simp [h0]⟩
    · refine body (c :: r) ((c.toNat : Int) == 45) fun v hv he => ?_
      obtain ⟨h1, h2, h3⟩ := hsgn v hv he
      rw [h] at h1
      have h0 : ¬ v < 0 := of_decide_eq_false h1.symm
      exact ⟨h3 h0, by rw [h]; simp [h0]⟩
theorem F16_pr (k : Nat) (hk : 40 ≤ k) (s : List UInt8) : Pr (F16 k) [.str s] (numR s) := Am.Ends.pr fun m hm => .call (F25_pr k hk s) hm fun m1 e1 => by
  unfold numR
  cases numP s with
  | none => exact .ret e1
  | some v => exact .ret e1
end Go.AmT
