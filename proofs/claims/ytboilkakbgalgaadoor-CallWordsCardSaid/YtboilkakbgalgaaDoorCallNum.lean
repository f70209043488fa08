/-
Numbers in words, to and fro: what the program's parser and the document's take, and what they spell.
-/
import Derived.Test.YtboilkakbgalgaaDoorAmPure
import Derived.Test.YtboilkakbgalgaaDoorAmFun
import Derived.Lib.ParseIntB
namespace Go.AmT
open Go Go.Am
set_option maxRecDepth 100000
set_option linter.unusedVariables false

/-- What digits spell behind what was spelt before. -/
def val (acc : Nat) : List UInt8 → Nat
  | [] => acc
  | c :: r => val (acc * 10 + (c.toNat - 48)) r
def Dig (l : List UInt8) : Prop := ∀ c ∈ l, 48 ≤ c.toNat ∧ c.toNat ≤ 57
theorem val_ge : ∀ (l : List UInt8) (acc : Nat), acc ≤ val acc l
  | [], acc => Nat.le_refl _
  | c :: r, acc => Nat.le_trans (show acc ≤ acc * 10 + (c.toNat - 48) by omega) (val_ge r _)
theorem val_append : ∀ (l r : List UInt8) (acc : Nat), val acc (l ++ r) = val (val acc l) r
  | [], r, acc => rfl
  | c :: l, r, acc => val_append l r _
theorem val_lt : ∀ (l : List UInt8) (acc : Nat), Dig l → val acc l < (acc + 1) * 10 ^ l.length
  | [], acc, _ => by show acc < (acc + 1) * 1; omega
  | c :: r, acc, h => by
    have h1 := val_lt r (acc * 10 + (c.toNat - 48)) fun x hx => h x (by simp [hx])
    have hc := h c (by simp)
    rw [List.length_cons, Nat.pow_succ]
    generalize 10 ^ r.length = p at h1
    have h2 : (acc * 10 + (c.toNat - 48) + 1) * p ≤ ((acc + 1) * 10) * p := Nat.mul_le_mul_right _ (by omega)
    have h3 : ((acc + 1) * 10) * p = (acc + 1) * (p * 10) := by rw [Nat.mul_assoc, Nat.mul_comm 10 p]
    show val (acc * 10 + (c.toNat - 48)) r < _
    omega
theorem ofNat_digit (d : Nat) (h : d < 10) : (UInt8.ofNat (48 + d)).toNat = 48 + d := by
  rw [UInt8.toNat_ofNat']; omega
theorem decL_dig : ∀ (f u : Nat), Dig (decL f u)
  | 0, u => fun c hc => by
    simp only [decL, List.mem_singleton] at hc
    subst hc
    rw [ofNat_digit _ (by omega)]; omega
  | f + 1, u => fun c hc => by
    unfold decL at hc
    by_cases hu : u < 10
    · simp only [hu, decide_true, List.mem_singleton] at hc
      subst hc
      rw [ofNat_digit _ hu]; omega
    · simp only [hu, decide_false, List.mem_append, List.mem_singleton] at hc
      rcases hc with hc | rfl
      · exact decL_dig f _ c hc
      · rw [ofNat_digit _ (by omega)]; omega
theorem decL_val : ∀ (f u : Nat), u < 10 ^ (f + 1) → val 0 (decL f u) = u
  | 0, u, h => by
    have h : u < 10 := Nat.lt_of_lt_of_eq h (Nat.pow_one 10)
    have e : u % 10 = u := Nat.mod_eq_of_lt h
    show val 0 [UInt8.ofNat (48 + u % 10)] = u
    rw [e]
    show 0 * 10 + ((UInt8.ofNat (48 + u)).toNat - 48) = u
    rw [ofNat_digit _ h]
    omega
  | f + 1, u, h => by
    unfold decL
    by_cases hu : u < 10
    · have ed : decide (u < 10) = true := decide_eq_true hu
      rw [ed]
      show 0 * 10 + ((UInt8.ofNat (48 + u)).toNat - 48) = u
      rw [ofNat_digit _ hu]
      clear h
      omega
    · have ed : decide (u < 10) = false := decide_eq_false hu
      rw [ed]
      show val 0 (decL f (u / 10) ++ [UInt8.ofNat (48 + u % 10)]) = u
      have h10 : u / 10 < 10 ^ (f + 1) := by rw [Nat.div_lt_iff_lt_mul (by decide)]; rw [Nat.pow_succ] at h; exact h
      rw [val_append, decL_val f (u / 10) h10]
      show u / 10 * 10 + ((UInt8.ofNat (48 + u % 10)).toNat - 48) = u
      rw [ofNat_digit _ (Nat.mod_lt _ (by decide))]
      clear h h10
      omega
theorem decL_ne : ∀ (f u : Nat), decL f u ≠ []
  | 0, u => by simp [decL]
  | f + 1, u => by
    unfold decL
    split <;> simp
theorem decL_len : ∀ (f u n : Nat), u < 10 ^ (n + 1) → (decL f u).length ≤ n + 1
  | 0, u, n, h => by simp [decL]
  | f + 1, u, n, h => by
    unfold decL
    by_cases hu : u < 10
    · simp [hu]
    · simp only [hu, decide_false, List.length_append, List.length_cons, List.length_nil]
      cases n with
      | zero => simp at h; omega
      | succ n =>
        have := decL_len f (u / 10) n (by rw [Nat.div_lt_iff_lt_mul (by omega)]; rw [Nat.pow_succ] at h; exact h)
        omega
theorem parse_dig : ∀ (l : List UInt8) (M acc : Nat), Dig l → M ≤ 18446744073709551615 → val acc l ≤ M → Lib.parseUintM M acc l = .ok (val acc l)
  | [], M, acc, _, _, _ => rfl
  | c :: r, M, acc, h, hM, hv => by
    have hc := h c (by simp)
    have hge := val_ge r (acc * 10 + (c.toNat - 48))
    unfold Lib.parseUintM
    have hv : val (acc * 10 + (c.toNat - 48)) r ≤ M := hv
    rw [if_pos hc, if_neg (by omega), if_neg (by omega)]
    exact parse_dig r M _ (fun x hx => h x (by simp [hx])) hM hv

def In64 (v : Int) : Prop := -9223372036854775808 ≤ v ∧ v ≤ 9223372036854775807
theorem dec_pos {v : Int} (h : 0 ≤ v) : dec v = decL 20 v.toNat := by
  unfold dec
  have : decide (v < 0) = false := by simp; omega
  rw [this]
theorem dec_neg {v : Int} (h : v < 0) : dec v = 45 :: decL 20 v.natAbs := by
  unfold dec
  have : decide (v < 0) = true := by simp; omega
  rw [this]
theorem parse_dec {v : Int} (h : In64 v) : Lib.parseIntB 64 (dec v) = .ok v := by
  have e64 : (2 : Nat) ^ 64 - 1 = 18446744073709551615 := by decide
  have e63 : (2 : Nat) ^ (64 - 1) = 9223372036854775808 := by decide
  have small : ∀ u : Nat, u ≤ 9223372036854775808 → Lib.parseUintM (2 ^ 64 - 1) 0 (decL 20 u) = .ok u := fun u hu => by
    have hv := decL_val 20 u (Nat.lt_of_le_of_lt hu (by decide))
    have := parse_dig (decL 20 u) (2 ^ 64 - 1) 0 (decL_dig _ _) (by rw [e64]; decide) (by rw [hv, e64]; omega)
    rw [this, hv]
  by_cases h0 : 0 ≤ v
  · rw [dec_pos h0]
    have hd := decL_dig 20 v.toNat
    have hu := small v.toNat (by have := h.2; omega)
    cases hl : decL 20 v.toNat with
    | nil => exact absurd hl (decL_ne _ _)
    | cons c r =>
      rw [hl] at hd hu
      have hc := hd c (by simp)
      unfold Lib.parseIntB
      simp only []
      rw [if_neg (by omega)]
      unfold Lib.parseUintB
      rw [if_neg (by simp), hu]
      simp only [e63]
      rw [if_neg (by have := h.2; omega), if_neg (by omega), if_neg (by omega)]
      rw [Int.toNat_of_nonneg h0]
  · rw [dec_neg (by omega)]
    have hu := small v.natAbs (by have := h.1; omega)
    unfold Lib.parseIntB
    simp only []
    rw [if_pos (.inr rfl)]
    unfold Lib.parseUintB
    rw [if_neg (decL_ne _ _), hu]
    simp only [e63]
    rw [if_neg (by simp), if_neg (by have := h.1; omega), if_pos (show UInt8.toNat 45 = 45 from rfl)]
    congr 1
    omega
theorem parse_in {l : List UInt8} {v : Int} (h : Lib.parseIntB 64 l = .ok v) : In64 v := by
  have e63 : (2 : Nat) ^ (64 - 1) = 9223372036854775808 := by decide
  unfold Lib.parseIntB at h
  split at h
  · cases h
  · simp only [e63] at h
    split at h
    · cases h
    · cases h
    · split at h
      · cases h
      · split at h
        · cases h
        · cases h
          unfold In64
          split <;> omega

/-- A word as a number: what the number's own words are. -/
def numP (w : List UInt8) : Option Int :=
  match Lib.parseIntB 64 w with
  | .ok v => match dec v == w with
    | true => some v
    | false => none
  | _ => none
theorem numP_iff {w : List UInt8} {v : Int} : numP w = some v ↔ dec v = w ∧ In64 v := by
  unfold numP
  constructor
  · intro h
    split at h
    · rename_i u hu
      split at h
      · rename_i hd
        cases h
        exact ⟨by simpa using hd, parse_in hu⟩
      · cases h
    · cases h
  · rintro ⟨rfl, h⟩
    rw [parse_dec h]
    simp

theorem wrap_u64 (n : Int) (h0 : 0 ≤ n) (h1 : n < 18446744073709551616) : IntKind.wrap .u64 n = n := by
  have h : IntKind.wrap .u64 n = n % 18446744073709551616 := IntKind.wrap_u64 n
  rw [h]; omega
theorem wrap_u8 (n : Int) (h0 : 0 ≤ n) (h1 : n < 256) : IntKind.wrap .u8 n = n := by
  have h : IntKind.wrap .u8 n = n % 256 := by simp [IntKind.wrap, IntKind.bits, IntKind.signed]
  rw [h]; omega
theorem wrap_i64' (n : Int) : IntKind.wrap .i64 n = (n + 9223372036854775808) % 18446744073709551616 - 9223372036854775808 := IntKind.wrap_i64 n
theorem wrap_u64' (n : Int) : IntKind.wrap .u64 n = n % 18446744073709551616 := IntKind.wrap_u64 n

/-- One byte as a text. -/
theorem Ends_byte {m0 m : Mem} {v : AV} {b : Int} {K : List UInt8 → C} (h : Am.Ends m0 (K [UInt8.ofNat b.toNat]) v (m.add (.cells [.int .u8 b]))) : Am.Ends m0 (new [.int .u8 b] fun i0 => strOf (some ⟨i0, 0, 1, 1, 1, true⟩) K) v m := by
  refine .new rfl ?_
  obtain ⟨m', h1, h2⟩ := h
  refine ⟨m', ?_, h2⟩
  unfold strOf Mem.row
  simp only [Mem.cells_add_same, slen, List.length_cons, List.length_nil]
  exact h1
theorem Ends_cat {m0 m : Mem} {v : AV} {a b : List UInt8} {K : List UInt8 → C} (hl : a.length + b.length ≤ 4611686018427387904) (h : Am.Ends m0 (K (a ++ b)) v m) : Am.Ends m0 (Am.cat a b K) v m := by
  unfold Am.cat
  exact .bcT (by simp; exact hl) h

theorem decL_last : ∀ (f u : Nat), u < 10 ^ (f + 1) → ∃ l, decL f u = l ++ [UInt8.ofNat (48 + u % 10)] ∧ (u < 10 → l = []) ∧ (¬ u < 10 → ∀ g, u / 10 < 10 ^ (g + 1) → l = decL g (u / 10))
  | 0, u, h => by
    have h : u < 10 := by simpa using h
    exact ⟨[], rfl, fun _ => rfl, fun hn => absurd h hn⟩
  | f + 1, u, h => by
    by_cases hu : u < 10
    · refine ⟨[], ?_, fun _ => rfl, fun hn => absurd hu hn⟩
      unfold decL
      simp only [hu, decide_true, List.nil_append, Nat.mod_eq_of_lt hu]
    · refine ⟨decL f (u / 10), ?_, fun hn => absurd hn hu, fun _ g hg => ?_⟩
      · have : decL (f + 1) u = decL f (u / 10) ++ [UInt8.ofNat (48 + u % 10)] := by
          rw [decL]; simp only [hu, decide_false]
        exact this
      · rw [decL_eq f _ (by rw [Nat.div_lt_iff_lt_mul (by omega)]; rw [Nat.pow_succ] at h; exact h), decL_eq g _ hg]

theorem F33_pr (k : Nat) (hk : 30 ≤ k) (n : Int) (hn : In64 n) : Pr (F33 k) [I n] (.str (dec n)) := Am.Ends.pr fun m hm => by
  show Am.Ends m (B33 k n) _ m
  unfold B33
  have e64 : (10 : Nat) ^ 21 = 1000000000000000000000 := by decide
  -- the rounds
  have loop : ∀ (d u : Nat) (s : List UInt8) (k' : Nat) (m1 : Mem) (fin : List UInt8 → C) (r : AV), u < 10 ^ (d + 1) → u < 18446744073709551616 → d < k' → s.length ≤ 1000 - 10 * d → d ≤ 20 → Ext m m1 →
      (∀ m2 l, decL 20 u = l ++ [UInt8.ofNat (48 + u % 10)] → Ext m m2 → Am.Ends m (fin (l ++ s)) r m2) →
      Am.Ends m (lp k' [.int .u64 u, .str s] fun w0 f0 => (un fun y2 z2 => (dI .u64 fun x2 => (un fun y3 z3 => (dS fun s3 => (u0 (bc (decide (x2 ≥ 10)) (new [.int .u8 (IntKind.wrap .u8 (IntKind.wrap .u64 (48 + (Int.tmod (IntKind.wrap .u64 (Int.tdiv x2 10)) 10))))] fun i1 => strOf (some ⟨i1, 0, 1, 1, 1, true⟩) fun s4 => Am.cat s4 s3 fun s5 => f0 [.int .u64 (IntKind.wrap .u64 (Int.tdiv x2 10)), .str s5]) (fin s3))) z3) y3) z2) y2) w0) r m1 := by
    intro d
    induction d with
    | zero =>
      intro u s k' m1 fin r hu hu64 hd hs hd20 e1 hfin
      obtain ⟨k', rfl⟩ : ∃ n, k' = n + 1 := ⟨k' - 1, by omega⟩
      have hu : u < 10 := by simpa using hu
      show Am.Ends m (bc (decide ((u : Int) ≥ 10)) _ _) _ m1
      refine .bcF (by simp; omega) ?_
      obtain ⟨l, h1, h2, _⟩ := decL_last 20 u (Nat.lt_of_lt_of_le hu (by decide))
      have := hfin m1 l h1 e1
      rwa [h2 hu] at this
    | succ d ih =>
      intro u s k' m1 fin r hu hu64 hd hs hd20 e1 hfin
      obtain ⟨k', rfl⟩ : ∃ n, k' = n + 1 := ⟨k' - 1, by omega⟩
      have hu20 : u < 10 ^ 21 := by omega
      obtain ⟨l, h1, h2, h3⟩ := decL_last 20 u hu20
      show Am.Ends m (bc (decide ((u : Int) ≥ 10)) _ _) _ m1
      by_cases hlt : u < 10
      · refine .bcF (by simp; omega) ?_
        have := hfin m1 l h1 e1
        rwa [h2 hlt] at this
      · refine .bcT (by simp; omega) ?_
        have e10 : IntKind.wrap .u64 (Int.tdiv (u : Int) 10) = ((u / 10 : Nat) : Int) := by
          have h0 : Int.tdiv (u : Int) 10 = ((u / 10 : Nat) : Int) := rfl
          rw [h0, wrap_u64 _ (by omega) (by omega)]
        have eb : IntKind.wrap .u8 (IntKind.wrap .u64 (48 + Int.tmod ((u / 10 : Nat) : Int) 10)) = ((48 + u / 10 % 10 : Nat) : Int) := by
          have h0 : Int.tmod ((u / 10 : Nat) : Int) 10 = ((u / 10 % 10 : Nat) : Int) := rfl
          rw [h0, wrap_u64 _ (by omega) (by omega), wrap_u8 _ (by omega) (by omega)]
          omega
        rw [e10, eb]
        refine Ends_byte ?_
        have hb : UInt8.ofNat (((48 + u / 10 % 10 : Nat) : Int)).toNat = UInt8.ofNat (48 + u / 10 % 10) := rfl
        rw [hb]
        refine Ends_cat (by simp; omega) ?_
        refine ih (u / 10) _ k' _ fin r (by rw [Nat.div_lt_iff_lt_mul (by omega)]; rw [Nat.pow_succ] at hu; exact hu) (by omega) (by omega) (by simp; omega) (by omega) (e1.trans (Ext.add _ _)) fun m2 l' hl' e2 => ?_
        have hl : l = decL 20 (u / 10) := h3 hlt 20 (by omega)
        have := hfin m2 l h1 e2
        rwa [hl, hl', List.append_assoc] at this
  have key : ∀ u : Nat, u = n.natAbs → Am.Ends m (new [.int .u8 (IntKind.wrap .u8 (IntKind.wrap .u64 (48 + (Int.tmod (u : Int) 10))))] fun i0 => strOf (some ⟨i0, 0, 1, 1, 1, true⟩) fun s0 => jn (un fun y1 z1 => (dS fun s1 => (u0 (bc (decide (n < 0)) (Am.cat [45] s1 fun s2 => ret (.str s2)) (ret (.str s1)))) z1) y1) fun j0 => lp k [.int .u64 u, .str s0] fun w0 f0 => (un fun y2 z2 => (dI .u64 fun x2 => (un fun y3 z3 => (dS fun s3 => (u0 (bc (decide (x2 ≥ 10)) (new [.int .u8 (IntKind.wrap .u8 (IntKind.wrap .u64 (48 + (Int.tmod (IntKind.wrap .u64 (Int.tdiv x2 10)) 10))))] fun i1 => strOf (some ⟨i1, 0, 1, 1, 1, true⟩) fun s4 => Am.cat s4 s3 fun s5 => f0 [.int .u64 (IntKind.wrap .u64 (Int.tdiv x2 10)), .str s5]) (j0 [.str s3]))) z3) y3) z2) y2) w0) (.str (dec n)) m := fun u hu => by
    have hu' : u ≤ 9223372036854775808 := by rw [hu]; have := hn.1; have := hn.2; omega
    have eb : IntKind.wrap .u8 (IntKind.wrap .u64 (48 + Int.tmod (u : Int) 10)) = ((48 + u % 10 : Nat) : Int) := by
      have h0 : Int.tmod (u : Int) 10 = ((u % 10 : Nat) : Int) := rfl
      rw [h0, wrap_u64 _ (by omega) (by omega), wrap_u8 _ (by omega) (by omega)]
      omega
    rw [eb]
    refine Ends_byte ?_
    have hb : UInt8.ofNat (((48 + u % 10 : Nat) : Int)).toNat = UInt8.ofNat (48 + u % 10) := rfl
    rw [hb]
    refine loop 20 u [UInt8.ofNat (48 + u % 10)] k _ (fun s1 => bc (decide (n < 0)) (Am.cat [45] s1 fun s2 => ret (.str s2)) (ret (.str s1))) _ (by omega) (by omega) (by omega) (by simp) (by omega) (Ext.add _ _) fun m2 l hl e2 => ?_
    rw [← hl]
    by_cases h0 : n < 0
    · refine .bcT (by simpa using h0) (Ends_cat ?_ ?_)
      · have := decL_len 20 u 20 (by omega)
        simp; omega
      · have : dec n = [45] ++ decL 20 u := by rw [dec_neg h0, hu]; rfl
        rw [this]
        exact .ret e2
    · refine .bcF (by simpa using h0) ?_
      have : dec n = decL 20 u := by
        rw [dec_pos (by omega), hu]
        congr 1
        omega
      rw [this]
      exact .ret e2
  show Am.Ends m (bc (decide (n < 0)) _ _) _ m
  by_cases h0 : n < 0
  · refine .bcT (by simpa using h0) ?_
    have e : IntKind.wrap .u64 (0 - IntKind.wrap .u64 n) = ((n.natAbs : Nat) : Int) := by
      rw [wrap_u64', wrap_u64']
      have := hn.1
      omega
    rw [e]
    exact key n.natAbs rfl
  · refine .bcF (by simpa using h0) ?_
    have e : IntKind.wrap .u64 n = ((n.natAbs : Nat) : Int) := by
      rw [wrap_u64']
      have := hn.2
      omega
    rw [e]
    exact key n.natAbs rfl
end Go.AmT
